/-
  NARROWER THAN 'FOR EVERY INPUT', by the rows' own cells (each row's printed sentence says how): NamesFound: laid · NamesApart: laid · NamesTurn: laid · EffectClass: laid.
  DERIVED. THE GIVEN ROWS OF THIS SEAT. 4 by the template 'for every input the law returns true; each argument reads behind the call as it read before'; 0 by the template 'total and deterministic' (their statements: YtjgjmpophpifgaaGreatDoorTotals.lean).
  GIVEN WITH THE SEED: the statements are not yours to turn. If you find one false, say at which input.
  Laid BY PROGRAM, IN A SANDBOX (cutbox-rows.mjs): the forced cells as the released guide's own fill.sh prints them over the translation 2981c402a9b5f675… (all of the seat's roots in one cut). By AI agents, Wed Nov 11 2026. No macro, syntax, notation, axiom, sorry.
-/
import Derived.Test.YtjgjmpophpifgaaGreatDoorChecked
import GoSem.Claim
import GoSem.ClaimJoined
import GoSem.ClaimMapViews
import Derived.JoinedTies
import Derived.KernelRfl
namespace Go.Proofs.YtjgjmpophpifgaaGreatDoor
/- THE CELL 'sum', in the pinned program and in every row, IS THE sha256 OF THE DUMP (.gsa) THAT YtjgjmpophpifgaaGreatDoorProg.lean LOADS. Nothing in Lean hashes anything: it is a label: what it is worth is what the hold of that sum in a sandbox is worth. -/
noncomputable def Tryz.pinned : Pinned := { name := "ytjgjmpophpifgaagreatdoor", sum := "2981c402a9b5f675e5c1c9b9953c600a4caa36d629e256e1f66f831504a194b8", checked := Tryz.checked }
namespace Rows
def none {H : Type} : Left H := { results := [], args := [] }

/- WHAT THE LISTED PACKAGE-LEVEL VARIABLES READ AS WHEN THE CALL BEGINS. Each datum BY PROGRAM (the guide's laid-datum.mjs) off the statement by which the dump's own 'gosem.cut.vars' lays the variable. In a bare row this is a premise. The card (YtjgjmpophpifgaaGreatDoorCards.lean) ties it to the program's text. -/
def laid_tedder_syntax_end {H : Type} : DataW H := .agg [.lit (.string []), .lit (.string [])]

/-- 'tedderlaw07.NamesFound': WHATEVER THE INPUT: true; the input reads as it did. -/
def namesFoundSpec : ChangeSpec := { name := "namesFound", fn := fun _ => fun
  | [d] => { results := [.lit (.bool true)], args := [d] }
  | _ => none }
def namesFoundRow : OpenClaim := { program := "ytjgjmpophpifgaagreatdoor", sum := "2981c402a9b5f675e5c1c9b9953c600a4caa36d629e256e1f66f831504a194b8", func := "tedder/tedderlaw07.NamesFound", spec := "namesFound", inPlace := ["internal/abi.NoEscape", "internal/bytealg.IndexByteString", "internal/bytealg.IndexString"], unfollowed := true, recurses := true, named := ["internal/bytealg.MaxLen", "tedder/syntax.end"], apart := false, laid := [("tedder/syntax.end", laid_tedder_syntax_end)] }
def NamesFoundSaid : Prop := namesFoundRow.holds Tryz.pinned (OpenSpec.ofChange namesFoundSpec)

/-- ITS FALSE NEIGHBOUR: 'it returns false'. Refute it at one input. -/
def namesFoundWrong : ChangeSpec := { name := "namesFound", fn := fun _ => fun
  | [d] => { results := [.lit (.bool false)], args := [d] }
  | _ => none }
def NamesFoundWrongFalsely : Prop := namesFoundRow.holds Tryz.pinned (OpenSpec.ofChange namesFoundWrong)

/-- 'tedderlaw07.NamesApart': WHATEVER THE INPUT: true; the input reads as it did. -/
def namesApartSpec : ChangeSpec := { name := "namesApart", fn := fun _ => fun
  | [d] => { results := [.lit (.bool true)], args := [d] }
  | _ => none }
def namesApartRow : OpenClaim := { program := "ytjgjmpophpifgaagreatdoor", sum := "2981c402a9b5f675e5c1c9b9953c600a4caa36d629e256e1f66f831504a194b8", func := "tedder/tedderlaw07.NamesApart", spec := "namesApart", inPlace := ["internal/abi.NoEscape", "internal/bytealg.IndexByteString", "internal/bytealg.IndexString"], unfollowed := true, recurses := true, named := ["internal/bytealg.MaxLen", "tedder/syntax.end"], apart := false, laid := [("tedder/syntax.end", laid_tedder_syntax_end)] }
def NamesApartSaid : Prop := namesApartRow.holds Tryz.pinned (OpenSpec.ofChange namesApartSpec)

/-- ITS FALSE NEIGHBOUR: 'it returns false'. Refute it at one input. -/
def namesApartWrong : ChangeSpec := { name := "namesApart", fn := fun _ => fun
  | [d] => { results := [.lit (.bool false)], args := [d] }
  | _ => none }
def NamesApartWrongFalsely : Prop := namesApartRow.holds Tryz.pinned (OpenSpec.ofChange namesApartWrong)

/-- 'tedderlaw07.NamesTurn': WHATEVER THE INPUT: true; the input reads as it did. -/
def namesTurnSpec : ChangeSpec := { name := "namesTurn", fn := fun _ => fun
  | [d1, d2] => { results := [.lit (.bool true)], args := [d1, d2] }
  | _ => none }
def namesTurnRow : OpenClaim := { program := "ytjgjmpophpifgaagreatdoor", sum := "2981c402a9b5f675e5c1c9b9953c600a4caa36d629e256e1f66f831504a194b8", func := "tedder/tedderlaw07.NamesTurn", spec := "namesTurn", inPlace := ["internal/abi.NoEscape", "internal/bytealg.IndexByteString", "internal/bytealg.IndexString"], unfollowed := true, recurses := true, named := ["internal/bytealg.MaxLen", "tedder/syntax.end"], apart := false, laid := [("tedder/syntax.end", laid_tedder_syntax_end)] }
def NamesTurnSaid : Prop := namesTurnRow.holds Tryz.pinned (OpenSpec.ofChange namesTurnSpec)

/-- ITS FALSE NEIGHBOUR: 'it returns false'. Refute it at one input. -/
def namesTurnWrong : ChangeSpec := { name := "namesTurn", fn := fun _ => fun
  | [d1, d2] => { results := [.lit (.bool false)], args := [d1, d2] }
  | _ => none }
def NamesTurnWrongFalsely : Prop := namesTurnRow.holds Tryz.pinned (OpenSpec.ofChange namesTurnWrong)

/-- 'tedderlaw17.EffectClass': WHATEVER THE INPUT: true; the input reads as it did. -/
def effectClassSpec : ChangeSpec := { name := "effectClass", fn := fun _ => fun
  | [d] => { results := [.lit (.bool true)], args := [d] }
  | _ => none }
def effectClassRow : OpenClaim := { program := "ytjgjmpophpifgaagreatdoor", sum := "2981c402a9b5f675e5c1c9b9953c600a4caa36d629e256e1f66f831504a194b8", func := "tedder/tedderlaw17.EffectClass", spec := "effectClass", inPlace := ["internal/abi.NoEscape", "internal/bytealg.IndexByteString", "internal/bytealg.IndexString"], unfollowed := true, recurses := true, named := ["internal/bytealg.MaxLen", "tedder/syntax.end"], apart := false, laid := [("tedder/syntax.end", laid_tedder_syntax_end)] }
def EffectClassSaid : Prop := effectClassRow.holds Tryz.pinned (OpenSpec.ofChange effectClassSpec)

/-- ITS FALSE NEIGHBOUR: 'it returns false'. Refute it at one input. -/
def effectClassWrong : ChangeSpec := { name := "effectClass", fn := fun _ => fun
  | [d] => { results := [.lit (.bool false)], args := [d] }
  | _ => none }
def EffectClassWrongFalsely : Prop := effectClassRow.holds Tryz.pinned (OpenSpec.ofChange effectClassWrong)

/- THE SECOND FORM. 'bulk': how many values and letters a reading holds, each counted each time it is reached (what is shared counts as often as it is met; a slice's spare places count too). A statement '..UptoSaid' is the law's where the arguments, and the package variables that the reading takes, are together of bulk at most 1048576: NARROWER than '..Said'. Prove '..Said' where nothing that the law and all that it calls make is longer than what came in: it says more and counts as full. Else prove '..UptoSaid'. A law counts once. -/
mutual
def uptoBulk {H : Type} : DataW H → Nat
  | .lit (.string bytes) => bytes.length + 1
  | .lit _ => 1
  | .nil => 1
  | .ptr d => uptoBulk d + 1
  | .slice elems spare => uptoBulkAll elems + uptoBulkAll spare + 1
  | .agg parts => uptoBulkAll parts + 1
  | .iface _ d => uptoBulk d + 1
  | .map entries => uptoBulkEntries entries + 1
  | .held _ => 1
def uptoBulkAll {H : Type} : List (DataW H) → Nat
  | [] => 0
  | d :: r => uptoBulk d + uptoBulkAll r
def uptoBulkEntries {H : Type} : List (Lit × DataW H) → Nat
  | [] => 0
  | x :: r => uptoBulkEntry x + uptoBulkEntries r
def uptoBulkEntry {H : Type} : Lit × DataW H → Nat
  | (.string bytes, d) => bytes.length + uptoBulk d + 1
  | (_, d) => uptoBulk d + 1
 end
def uptoSmall : (H : Type) → List (DataW H) → Bool := fun _ ds => decide (uptoBulkAll ds ≤ 1048576)
def OpenSpec.upto (s : _root_.Go.ChangeSpec) : _root_.Go.OpenSpec := { _root_.Go.OpenSpec.ofChange s with cond := some uptoSmall }

/-- 'tedderlaw07.NamesFound', WHERE WHAT IT READS IS OF BULK AT MOST 1048576: true; the input reads as it did. -/
def namesFoundUptoRow : OpenClaim := { program := "ytjgjmpophpifgaagreatdoor", sum := "2981c402a9b5f675e5c1c9b9953c600a4caa36d629e256e1f66f831504a194b8", func := "tedder/tedderlaw07.NamesFound", spec := "namesFound", inPlace := ["internal/abi.NoEscape", "internal/bytealg.IndexByteString", "internal/bytealg.IndexString"], unfollowed := true, recurses := true, named := ["internal/bytealg.MaxLen", "tedder/syntax.end"], apart := false, laid := [("tedder/syntax.end", laid_tedder_syntax_end)], narrowed := true }
def NamesFoundUptoSaid : Prop := namesFoundUptoRow.holds Tryz.pinned (OpenSpec.upto namesFoundSpec)

/-- 'tedderlaw07.NamesApart', WHERE WHAT IT READS IS OF BULK AT MOST 1048576: true; the input reads as it did. -/
def namesApartUptoRow : OpenClaim := { program := "ytjgjmpophpifgaagreatdoor", sum := "2981c402a9b5f675e5c1c9b9953c600a4caa36d629e256e1f66f831504a194b8", func := "tedder/tedderlaw07.NamesApart", spec := "namesApart", inPlace := ["internal/abi.NoEscape", "internal/bytealg.IndexByteString", "internal/bytealg.IndexString"], unfollowed := true, recurses := true, named := ["internal/bytealg.MaxLen", "tedder/syntax.end"], apart := false, laid := [("tedder/syntax.end", laid_tedder_syntax_end)], narrowed := true }
def NamesApartUptoSaid : Prop := namesApartUptoRow.holds Tryz.pinned (OpenSpec.upto namesApartSpec)

/-- 'tedderlaw07.NamesTurn', WHERE WHAT IT READS IS OF BULK AT MOST 1048576: true; the input reads as it did. -/
def namesTurnUptoRow : OpenClaim := { program := "ytjgjmpophpifgaagreatdoor", sum := "2981c402a9b5f675e5c1c9b9953c600a4caa36d629e256e1f66f831504a194b8", func := "tedder/tedderlaw07.NamesTurn", spec := "namesTurn", inPlace := ["internal/abi.NoEscape", "internal/bytealg.IndexByteString", "internal/bytealg.IndexString"], unfollowed := true, recurses := true, named := ["internal/bytealg.MaxLen", "tedder/syntax.end"], apart := false, laid := [("tedder/syntax.end", laid_tedder_syntax_end)], narrowed := true }
def NamesTurnUptoSaid : Prop := namesTurnUptoRow.holds Tryz.pinned (OpenSpec.upto namesTurnSpec)

/-- 'tedderlaw17.EffectClass', WHERE WHAT IT READS IS OF BULK AT MOST 1048576: true; the input reads as it did. -/
def effectClassUptoRow : OpenClaim := { program := "ytjgjmpophpifgaagreatdoor", sum := "2981c402a9b5f675e5c1c9b9953c600a4caa36d629e256e1f66f831504a194b8", func := "tedder/tedderlaw17.EffectClass", spec := "effectClass", inPlace := ["internal/abi.NoEscape", "internal/bytealg.IndexByteString", "internal/bytealg.IndexString"], unfollowed := true, recurses := true, named := ["internal/bytealg.MaxLen", "tedder/syntax.end"], apart := false, laid := [("tedder/syntax.end", laid_tedder_syntax_end)], narrowed := true }
def EffectClassUptoSaid : Prop := effectClassUptoRow.holds Tryz.pinned (OpenSpec.upto effectClassSpec)

end Rows
end Go.Proofs.YtjgjmpophpifgaaGreatDoor
