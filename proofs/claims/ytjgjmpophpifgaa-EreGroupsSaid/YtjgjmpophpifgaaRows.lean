/-
  No cell of these rows narrows 'for every input' (looked for: loops, veiled, ifaces, maps, wideKeys, modest, calm, conditions, laid).
  DERIVED. THE GIVEN ROWS OF THIS SEAT. 7 by the template 'for every input the law returns true; each argument reads behind the call as it read before'; 0 by the template 'total and deterministic' (their statements: YtjgjmpophpifgaaTotals.lean).
  GIVEN WITH THE SEED: the statements are not yours to turn. If you find one false, say at which input.
  Laid BY PROGRAM, IN A SANDBOX (cutbox-rows.mjs): the forced cells as the released guide's own fill.sh prints them over the translation 39524d4213b2b9d9… (all of the seat's roots in one cut). By AI agents, Wed Nov 11 2026. No macro, syntax, notation, axiom, sorry.
-/
import Derived.Test.YtjgjmpophpifgaaChecked
import GoSem.Claim
import GoSem.ClaimJoined
import GoSem.ClaimMapViews
import Derived.JoinedTies
import Derived.KernelRfl
namespace Go.Proofs.Ytjgjmpophpifgaa
/- THE CELL 'sum', in the pinned program and in every row, IS THE sha256 OF THE DUMP (.gsa) THAT YtjgjmpophpifgaaProg.lean LOADS. Nothing in Lean hashes anything: it is a label: what it is worth is what the hold of that sum in a sandbox is worth. -/
noncomputable def Try.pinned : Pinned := { name := "ytjgjmpophpifgaa", sum := "39524d4213b2b9d9b715931c95e08e40d769f77a9f9bc01db6d875f14313272f", checked := Try.checked }
namespace Rows
def none {H : Type} : Left H := { results := [], args := [] }

/-- 'tedderlaw05.LexTokens': WHATEVER THE INPUT: true; the input reads as it did. -/
def lexTokensSpec : ChangeSpec := { name := "lexTokens", fn := fun _ => fun
  | [d] => { results := [.lit (.bool true)], args := [d] }
  | _ => none }
def lexTokensRow : OpenClaim := { program := "ytjgjmpophpifgaa", sum := "39524d4213b2b9d9b715931c95e08e40d769f77a9f9bc01db6d875f14313272f", func := "tedder/tedderlaw05.LexTokens", spec := "lexTokens", inPlace := ["internal/abi.NoEscape", "internal/bytealg.IndexByteString", "internal/bytealg.IndexString"], unfollowed := true, recurses := true, named := ["internal/bytealg.MaxLen"], apart := false }
def LexTokensSaid : Prop := lexTokensRow.holds Try.pinned (OpenSpec.ofChange lexTokensSpec)

/-- ITS FALSE NEIGHBOUR: 'it returns false'. Refute it at one input. -/
def lexTokensWrong : ChangeSpec := { name := "lexTokens", fn := fun _ => fun
  | [d] => { results := [.lit (.bool false)], args := [d] }
  | _ => none }
def LexTokensWrongFalsely : Prop := lexTokensRow.holds Try.pinned (OpenSpec.ofChange lexTokensWrong)

/-- 'tedderlaw05.LexQuotes': WHATEVER THE INPUT: true; the input reads as it did. -/
def lexQuotesSpec : ChangeSpec := { name := "lexQuotes", fn := fun _ => fun
  | [d] => { results := [.lit (.bool true)], args := [d] }
  | _ => none }
def lexQuotesRow : OpenClaim := { program := "ytjgjmpophpifgaa", sum := "39524d4213b2b9d9b715931c95e08e40d769f77a9f9bc01db6d875f14313272f", func := "tedder/tedderlaw05.LexQuotes", spec := "lexQuotes", inPlace := ["internal/abi.NoEscape", "internal/bytealg.IndexByteString", "internal/bytealg.IndexString"], unfollowed := true, recurses := true, named := ["internal/bytealg.MaxLen"], apart := false }
def LexQuotesSaid : Prop := lexQuotesRow.holds Try.pinned (OpenSpec.ofChange lexQuotesSpec)

/-- ITS FALSE NEIGHBOUR: 'it returns false'. Refute it at one input. -/
def lexQuotesWrong : ChangeSpec := { name := "lexQuotes", fn := fun _ => fun
  | [d] => { results := [.lit (.bool false)], args := [d] }
  | _ => none }
def LexQuotesWrongFalsely : Prop := lexQuotesRow.holds Try.pinned (OpenSpec.ofChange lexQuotesWrong)

/-- 'tedderlaw05.LexJoins': WHATEVER THE INPUT: true; the input reads as it did. -/
def lexJoinsSpec : ChangeSpec := { name := "lexJoins", fn := fun _ => fun
  | [d1, d2] => { results := [.lit (.bool true)], args := [d1, d2] }
  | _ => none }
def lexJoinsRow : OpenClaim := { program := "ytjgjmpophpifgaa", sum := "39524d4213b2b9d9b715931c95e08e40d769f77a9f9bc01db6d875f14313272f", func := "tedder/tedderlaw05.LexJoins", spec := "lexJoins", inPlace := ["internal/abi.NoEscape", "internal/bytealg.IndexByteString", "internal/bytealg.IndexString"], unfollowed := true, recurses := true, named := ["internal/bytealg.MaxLen"], apart := false }
def LexJoinsSaid : Prop := lexJoinsRow.holds Try.pinned (OpenSpec.ofChange lexJoinsSpec)

/-- ITS FALSE NEIGHBOUR: 'it returns false'. Refute it at one input. -/
def lexJoinsWrong : ChangeSpec := { name := "lexJoins", fn := fun _ => fun
  | [d1, d2] => { results := [.lit (.bool false)], args := [d1, d2] }
  | _ => none }
def LexJoinsWrongFalsely : Prop := lexJoinsRow.holds Try.pinned (OpenSpec.ofChange lexJoinsWrong)

/-- 'tedderlaw05.LexBlanks': WHATEVER THE INPUT: true; the input reads as it did. -/
def lexBlanksSpec : ChangeSpec := { name := "lexBlanks", fn := fun _ => fun
  | [d1, d2] => { results := [.lit (.bool true)], args := [d1, d2] }
  | _ => none }
def lexBlanksRow : OpenClaim := { program := "ytjgjmpophpifgaa", sum := "39524d4213b2b9d9b715931c95e08e40d769f77a9f9bc01db6d875f14313272f", func := "tedder/tedderlaw05.LexBlanks", spec := "lexBlanks", inPlace := ["internal/abi.NoEscape", "internal/bytealg.IndexByteString", "internal/bytealg.IndexString"], unfollowed := true, recurses := true, named := ["internal/bytealg.MaxLen"], apart := false }
def LexBlanksSaid : Prop := lexBlanksRow.holds Try.pinned (OpenSpec.ofChange lexBlanksSpec)

/-- ITS FALSE NEIGHBOUR: 'it returns false'. Refute it at one input. -/
def lexBlanksWrong : ChangeSpec := { name := "lexBlanks", fn := fun _ => fun
  | [d1, d2] => { results := [.lit (.bool false)], args := [d1, d2] }
  | _ => none }
def LexBlanksWrongFalsely : Prop := lexBlanksRow.holds Try.pinned (OpenSpec.ofChange lexBlanksWrong)

/-- 'tedderlaw03.EreQuotes': WHATEVER THE INPUT: true; the input reads as it did. -/
def ereQuotesSpec : ChangeSpec := { name := "ereQuotes", fn := fun _ => fun
  | [d] => { results := [.lit (.bool true)], args := [d] }
  | _ => none }
def ereQuotesRow : OpenClaim := { program := "ytjgjmpophpifgaa", sum := "39524d4213b2b9d9b715931c95e08e40d769f77a9f9bc01db6d875f14313272f", func := "tedder/tedderlaw03.EreQuotes", spec := "ereQuotes", inPlace := ["internal/bytealg.IndexByteString", "internal/bytealg.IndexString"], unfollowed := true, recurses := true, named := ["internal/bytealg.MaxLen"], apart := false }
def EreQuotesSaid : Prop := ereQuotesRow.holds Try.pinned (OpenSpec.ofChange ereQuotesSpec)

/-- ITS FALSE NEIGHBOUR: 'it returns false'. Refute it at one input. -/
def ereQuotesWrong : ChangeSpec := { name := "ereQuotes", fn := fun _ => fun
  | [d] => { results := [.lit (.bool false)], args := [d] }
  | _ => none }
def EreQuotesWrongFalsely : Prop := ereQuotesRow.holds Try.pinned (OpenSpec.ofChange ereQuotesWrong)

/-- 'tedderlaw03.EreGroups': WHATEVER THE INPUT: true; the input reads as it did. -/
def ereGroupsSpec : ChangeSpec := { name := "ereGroups", fn := fun _ => fun
  | [d1, d2] => { results := [.lit (.bool true)], args := [d1, d2] }
  | _ => none }
def ereGroupsRow : OpenClaim := { program := "ytjgjmpophpifgaa", sum := "39524d4213b2b9d9b715931c95e08e40d769f77a9f9bc01db6d875f14313272f", func := "tedder/tedderlaw03.EreGroups", spec := "ereGroups", inPlace := ["internal/bytealg.IndexByteString", "internal/bytealg.IndexString"], unfollowed := true, recurses := true, named := ["internal/bytealg.MaxLen"], apart := false }
def EreGroupsSaid : Prop := ereGroupsRow.holds Try.pinned (OpenSpec.ofChange ereGroupsSpec)

/-- ITS FALSE NEIGHBOUR: 'it returns false'. Refute it at one input. -/
def ereGroupsWrong : ChangeSpec := { name := "ereGroups", fn := fun _ => fun
  | [d1, d2] => { results := [.lit (.bool false)], args := [d1, d2] }
  | _ => none }
def EreGroupsWrongFalsely : Prop := ereGroupsRow.holds Try.pinned (OpenSpec.ofChange ereGroupsWrong)

/-- 'tedderlaw03.EreSets': WHATEVER THE INPUT: true; the input reads as it did. -/
def ereSetsSpec : ChangeSpec := { name := "ereSets", fn := fun _ => fun
  | [d] => { results := [.lit (.bool true)], args := [d] }
  | _ => none }
def ereSetsRow : OpenClaim := { program := "ytjgjmpophpifgaa", sum := "39524d4213b2b9d9b715931c95e08e40d769f77a9f9bc01db6d875f14313272f", func := "tedder/tedderlaw03.EreSets", spec := "ereSets", inPlace := ["internal/bytealg.IndexByteString", "internal/bytealg.IndexString"], unfollowed := true, recurses := true, named := ["internal/bytealg.MaxLen"], apart := false }
def EreSetsSaid : Prop := ereSetsRow.holds Try.pinned (OpenSpec.ofChange ereSetsSpec)

/-- ITS FALSE NEIGHBOUR: 'it returns false'. Refute it at one input. -/
def ereSetsWrong : ChangeSpec := { name := "ereSets", fn := fun _ => fun
  | [d] => { results := [.lit (.bool false)], args := [d] }
  | _ => none }
def EreSetsWrongFalsely : Prop := ereSetsRow.holds Try.pinned (OpenSpec.ofChange ereSetsWrong)

/- THE SECOND FORM. 'bulk': how many values and letters a reading holds, each counted each time it is reached (what is shared counts as often as it is met; a slice's spare places count too). A statement '..UptoSaid' is the law's where the arguments, and the package variables that the reading takes, are together of bulk at most 1048576: NARROWER than '..Said'. Prove '..Said' where nothing that the law and all that it calls make is longer than what came in: it says more and counts as full. Else prove '..UptoSaid'. A law counts once. -/
mutual
def uptoBulk {H : Type} : DataW H → Nat
  | .lit (.string bytes) => bytes.length + 1
  | .lit _ => 1
  | .nil => 1
  | .ptr d => uptoBulk d + 1
  | .slice elems spare => uptoBulkAll elems + uptoBulkAll spare + 1
  | .agg parts => uptoBulkAll parts + 1
  | .iface _ d => uptoBulk d + 1
  | .map entries => uptoBulkEntries entries + 1
  | .held _ => 1
def uptoBulkAll {H : Type} : List (DataW H) → Nat
  | [] => 0
  | d :: r => uptoBulk d + uptoBulkAll r
def uptoBulkEntries {H : Type} : List (Lit × DataW H) → Nat
  | [] => 0
  | x :: r => uptoBulkEntry x + uptoBulkEntries r
def uptoBulkEntry {H : Type} : Lit × DataW H → Nat
  | (.string bytes, d) => bytes.length + uptoBulk d + 1
  | (_, d) => uptoBulk d + 1
 end
def uptoSmall : (H : Type) → List (DataW H) → Bool := fun _ ds => decide (uptoBulkAll ds ≤ 1048576)
def OpenSpec.upto (s : _root_.Go.ChangeSpec) : _root_.Go.OpenSpec := { _root_.Go.OpenSpec.ofChange s with cond := some uptoSmall }

/-- 'tedderlaw05.LexTokens', WHERE WHAT IT READS IS OF BULK AT MOST 1048576: true; the input reads as it did. -/
def lexTokensUptoRow : OpenClaim := { program := "ytjgjmpophpifgaa", sum := "39524d4213b2b9d9b715931c95e08e40d769f77a9f9bc01db6d875f14313272f", func := "tedder/tedderlaw05.LexTokens", spec := "lexTokens", inPlace := ["internal/abi.NoEscape", "internal/bytealg.IndexByteString", "internal/bytealg.IndexString"], unfollowed := true, recurses := true, named := ["internal/bytealg.MaxLen"], apart := false, narrowed := true }
def LexTokensUptoSaid : Prop := lexTokensUptoRow.holds Try.pinned (OpenSpec.upto lexTokensSpec)

/-- 'tedderlaw05.LexQuotes', WHERE WHAT IT READS IS OF BULK AT MOST 1048576: true; the input reads as it did. -/
def lexQuotesUptoRow : OpenClaim := { program := "ytjgjmpophpifgaa", sum := "39524d4213b2b9d9b715931c95e08e40d769f77a9f9bc01db6d875f14313272f", func := "tedder/tedderlaw05.LexQuotes", spec := "lexQuotes", inPlace := ["internal/abi.NoEscape", "internal/bytealg.IndexByteString", "internal/bytealg.IndexString"], unfollowed := true, recurses := true, named := ["internal/bytealg.MaxLen"], apart := false, narrowed := true }
def LexQuotesUptoSaid : Prop := lexQuotesUptoRow.holds Try.pinned (OpenSpec.upto lexQuotesSpec)

/-- 'tedderlaw05.LexJoins', WHERE WHAT IT READS IS OF BULK AT MOST 1048576: true; the input reads as it did. -/
def lexJoinsUptoRow : OpenClaim := { program := "ytjgjmpophpifgaa", sum := "39524d4213b2b9d9b715931c95e08e40d769f77a9f9bc01db6d875f14313272f", func := "tedder/tedderlaw05.LexJoins", spec := "lexJoins", inPlace := ["internal/abi.NoEscape", "internal/bytealg.IndexByteString", "internal/bytealg.IndexString"], unfollowed := true, recurses := true, named := ["internal/bytealg.MaxLen"], apart := false, narrowed := true }
def LexJoinsUptoSaid : Prop := lexJoinsUptoRow.holds Try.pinned (OpenSpec.upto lexJoinsSpec)

/-- 'tedderlaw05.LexBlanks', WHERE WHAT IT READS IS OF BULK AT MOST 1048576: true; the input reads as it did. -/
def lexBlanksUptoRow : OpenClaim := { program := "ytjgjmpophpifgaa", sum := "39524d4213b2b9d9b715931c95e08e40d769f77a9f9bc01db6d875f14313272f", func := "tedder/tedderlaw05.LexBlanks", spec := "lexBlanks", inPlace := ["internal/abi.NoEscape", "internal/bytealg.IndexByteString", "internal/bytealg.IndexString"], unfollowed := true, recurses := true, named := ["internal/bytealg.MaxLen"], apart := false, narrowed := true }
def LexBlanksUptoSaid : Prop := lexBlanksUptoRow.holds Try.pinned (OpenSpec.upto lexBlanksSpec)

/-- 'tedderlaw03.EreQuotes', WHERE WHAT IT READS IS OF BULK AT MOST 1048576: true; the input reads as it did. -/
def ereQuotesUptoRow : OpenClaim := { program := "ytjgjmpophpifgaa", sum := "39524d4213b2b9d9b715931c95e08e40d769f77a9f9bc01db6d875f14313272f", func := "tedder/tedderlaw03.EreQuotes", spec := "ereQuotes", inPlace := ["internal/bytealg.IndexByteString", "internal/bytealg.IndexString"], unfollowed := true, recurses := true, named := ["internal/bytealg.MaxLen"], apart := false, narrowed := true }
def EreQuotesUptoSaid : Prop := ereQuotesUptoRow.holds Try.pinned (OpenSpec.upto ereQuotesSpec)

/-- 'tedderlaw03.EreGroups', WHERE WHAT IT READS IS OF BULK AT MOST 1048576: true; the input reads as it did. -/
def ereGroupsUptoRow : OpenClaim := { program := "ytjgjmpophpifgaa", sum := "39524d4213b2b9d9b715931c95e08e40d769f77a9f9bc01db6d875f14313272f", func := "tedder/tedderlaw03.EreGroups", spec := "ereGroups", inPlace := ["internal/bytealg.IndexByteString", "internal/bytealg.IndexString"], unfollowed := true, recurses := true, named := ["internal/bytealg.MaxLen"], apart := false, narrowed := true }
def EreGroupsUptoSaid : Prop := ereGroupsUptoRow.holds Try.pinned (OpenSpec.upto ereGroupsSpec)

/-- 'tedderlaw03.EreSets', WHERE WHAT IT READS IS OF BULK AT MOST 1048576: true; the input reads as it did. -/
def ereSetsUptoRow : OpenClaim := { program := "ytjgjmpophpifgaa", sum := "39524d4213b2b9d9b715931c95e08e40d769f77a9f9bc01db6d875f14313272f", func := "tedder/tedderlaw03.EreSets", spec := "ereSets", inPlace := ["internal/bytealg.IndexByteString", "internal/bytealg.IndexString"], unfollowed := true, recurses := true, named := ["internal/bytealg.MaxLen"], apart := false, narrowed := true }
def EreSetsUptoSaid : Prop := ereSetsUptoRow.holds Try.pinned (OpenSpec.upto ereSetsSpec)

end Rows
end Go.Proofs.Ytjgjmpophpifgaa
