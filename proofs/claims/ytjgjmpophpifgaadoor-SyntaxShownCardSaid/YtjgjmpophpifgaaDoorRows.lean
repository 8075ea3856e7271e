/-
  NARROWER THAN 'FOR EVERY INPUT', by the rows' own cells (each row's printed sentence says how): InputRecords: laid · InputBack: laid · InputOperands: laid · SyntaxShown: laid · SyntaxJoins: laid · SyntaxBraces: laid.
  DERIVED. THE GIVEN ROWS OF THIS SEAT. 6 by the template 'for every input the law returns true; each argument reads behind the call as it read before'; 0 by the template 'total and deterministic' (their statements: YtjgjmpophpifgaaDoorTotals.lean).
  GIVEN WITH THE SEED: the statements are not yours to turn. If you find one false, say at which input.
  Laid BY PROGRAM, IN A SANDBOX (cutbox-rows.mjs): the forced cells as the released guide's own fill.sh prints them over the translation 23e6fa33b04acb22… (all of the seat's roots in one cut). By AI agents, Wed Nov 11 2026. No macro, syntax, notation, axiom, sorry.
-/
import Derived.Test.YtjgjmpophpifgaaDoorChecked
import GoSem.PinnedTables
import GoSem.Claim
import GoSem.ClaimJoined
import GoSem.ClaimMapViews
import Derived.JoinedTies
import Derived.KernelRfl
namespace Go.Proofs.YtjgjmpophpifgaaDoor
/- THE CELL 'sum', in the pinned program and in every row, IS THE sha256 OF THE DUMP (.gsa) THAT YtjgjmpophpifgaaDoorProg.lean LOADS. Nothing in Lean hashes anything: it is a label: what it is worth is what the hold of that sum in a sandbox is worth. -/
noncomputable def Tryd.pinned : Pinned := { name := "ytjgjmpophpifgaadoor", sum := "23e6fa33b04acb22a29559511204a321183af1d2027231aed247b12b84365d58", checked := Tryd.checked }
namespace Rows
def none {H : Type} : Left H := { results := [], args := [] }

/- WHAT THE LISTED PACKAGE-LEVEL VARIABLES READ AS WHEN THE CALL BEGINS. Each datum BY PROGRAM (the guide's laid-datum.mjs) off the statement by which the dump's own 'gosem.cut.vars' lays the variable. In a bare row this is a premise. The card (YtjgjmpophpifgaaDoorCards.lean) ties it to the program's text. -/
def laid_unicode_utf8_acceptRanges {H : Type} : DataW H := .agg [.agg [.lit (.int .u8 128), .lit (.int .u8 191)], .agg [.lit (.int .u8 160), .lit (.int .u8 191)], .agg [.lit (.int .u8 128), .lit (.int .u8 159)], .agg [.lit (.int .u8 144), .lit (.int .u8 191)], .agg [.lit (.int .u8 128), .lit (.int .u8 143)], .agg [.lit (.int .u8 0), .lit (.int .u8 0)], .agg [.lit (.int .u8 0), .lit (.int .u8 0)], .agg [.lit (.int .u8 0), .lit (.int .u8 0)], .agg [.lit (.int .u8 0), .lit (.int .u8 0)], .agg [.lit (.int .u8 0), .lit (.int .u8 0)], .agg [.lit (.int .u8 0), .lit (.int .u8 0)], .agg [.lit (.int .u8 0), .lit (.int .u8 0)], .agg [.lit (.int .u8 0), .lit (.int .u8 0)], .agg [.lit (.int .u8 0), .lit (.int .u8 0)], .agg [.lit (.int .u8 0), .lit (.int .u8 0)], .agg [.lit (.int .u8 0), .lit (.int .u8 0)]]
/-- One of Go's own tables, pinned by name: the form's constant. -/
def laid_unicode_utf8_first : DataW Unit := Go.Pinned.utf8First
def laid_tedder_syntax_end {H : Type} : DataW H := .agg [.lit (.string []), .lit (.string [])]

/-- 'tedderlaw15.InputRecords': WHATEVER THE INPUT: true; the input reads as it did. -/
def inputRecordsSpec : ChangeSpec := { name := "inputRecords", fn := fun _ => fun
  | [d1, d2] => { results := [.lit (.bool true)], args := [d1, d2] }
  | _ => none }
def inputRecordsRow : OpenClaim := { program := "ytjgjmpophpifgaadoor", sum := "23e6fa33b04acb22a29559511204a321183af1d2027231aed247b12b84365d58", func := "tedder/tedderlaw15.InputRecords", spec := "inputRecords", inPlace := ["internal/bytealg.IndexByteString", "internal/bytealg.IndexString", "internal/abi.NoEscape"], unfollowed := true, recurses := true, named := ["unicode/utf8.first", "unicode/utf8.acceptRanges", "internal/bytealg.MaxLen"], apart := false, laid := [("unicode/utf8.acceptRanges", laid_unicode_utf8_acceptRanges), ("unicode/utf8.first", laid_unicode_utf8_first)] }
def InputRecordsSaid : Prop := inputRecordsRow.holds Tryd.pinned (OpenSpec.ofChange inputRecordsSpec)

/-- ITS FALSE NEIGHBOUR: 'it returns false'. Refute it at one input. -/
def inputRecordsWrong : ChangeSpec := { name := "inputRecords", fn := fun _ => fun
  | [d1, d2] => { results := [.lit (.bool false)], args := [d1, d2] }
  | _ => none }
def InputRecordsWrongFalsely : Prop := inputRecordsRow.holds Tryd.pinned (OpenSpec.ofChange inputRecordsWrong)

/-- 'tedderlaw15.InputBack': WHATEVER THE INPUT: true; the input reads as it did. -/
def inputBackSpec : ChangeSpec := { name := "inputBack", fn := fun _ => fun
  | [d1, d2] => { results := [.lit (.bool true)], args := [d1, d2] }
  | _ => none }
def inputBackRow : OpenClaim := { program := "ytjgjmpophpifgaadoor", sum := "23e6fa33b04acb22a29559511204a321183af1d2027231aed247b12b84365d58", func := "tedder/tedderlaw15.InputBack", spec := "inputBack", inPlace := ["internal/bytealg.IndexByteString", "internal/bytealg.IndexString", "internal/abi.NoEscape"], unfollowed := true, recurses := true, named := ["unicode/utf8.first", "unicode/utf8.acceptRanges", "internal/bytealg.MaxLen"], apart := false, laid := [("unicode/utf8.acceptRanges", laid_unicode_utf8_acceptRanges), ("unicode/utf8.first", laid_unicode_utf8_first)] }
def InputBackSaid : Prop := inputBackRow.holds Tryd.pinned (OpenSpec.ofChange inputBackSpec)

/-- ITS FALSE NEIGHBOUR: 'it returns false'. Refute it at one input. -/
def inputBackWrong : ChangeSpec := { name := "inputBack", fn := fun _ => fun
  | [d1, d2] => { results := [.lit (.bool false)], args := [d1, d2] }
  | _ => none }
def InputBackWrongFalsely : Prop := inputBackRow.holds Tryd.pinned (OpenSpec.ofChange inputBackWrong)

/-- 'tedderlaw15.InputOperands': WHATEVER THE INPUT: true; the input reads as it did. -/
def inputOperandsSpec : ChangeSpec := { name := "inputOperands", fn := fun _ => fun
  | [d] => { results := [.lit (.bool true)], args := [d] }
  | _ => none }
def inputOperandsRow : OpenClaim := { program := "ytjgjmpophpifgaadoor", sum := "23e6fa33b04acb22a29559511204a321183af1d2027231aed247b12b84365d58", func := "tedder/tedderlaw15.InputOperands", spec := "inputOperands", inPlace := ["internal/bytealg.IndexByteString", "internal/bytealg.IndexString", "internal/abi.NoEscape"], unfollowed := true, recurses := true, named := ["unicode/utf8.first", "unicode/utf8.acceptRanges", "internal/bytealg.MaxLen"], apart := false, laid := [("unicode/utf8.acceptRanges", laid_unicode_utf8_acceptRanges), ("unicode/utf8.first", laid_unicode_utf8_first)] }
def InputOperandsSaid : Prop := inputOperandsRow.holds Tryd.pinned (OpenSpec.ofChange inputOperandsSpec)

/-- ITS FALSE NEIGHBOUR: 'it returns false'. Refute it at one input. -/
def inputOperandsWrong : ChangeSpec := { name := "inputOperands", fn := fun _ => fun
  | [d] => { results := [.lit (.bool false)], args := [d] }
  | _ => none }
def InputOperandsWrongFalsely : Prop := inputOperandsRow.holds Tryd.pinned (OpenSpec.ofChange inputOperandsWrong)

/-- 'tedderlaw06.SyntaxShown': WHATEVER THE INPUT: true; the input reads as it did. -/
def syntaxShownSpec : ChangeSpec := { name := "syntaxShown", fn := fun _ => fun
  | [d] => { results := [.lit (.bool true)], args := [d] }
  | _ => none }
def syntaxShownRow : OpenClaim := { program := "ytjgjmpophpifgaadoor", sum := "23e6fa33b04acb22a29559511204a321183af1d2027231aed247b12b84365d58", func := "tedder/tedderlaw06.SyntaxShown", spec := "syntaxShown", inPlace := ["internal/abi.NoEscape", "internal/bytealg.IndexByteString", "internal/bytealg.IndexString"], unfollowed := true, recurses := true, named := ["internal/bytealg.MaxLen", "tedder/syntax.end"], apart := false, laid := [("tedder/syntax.end", laid_tedder_syntax_end)] }
def SyntaxShownSaid : Prop := syntaxShownRow.holds Tryd.pinned (OpenSpec.ofChange syntaxShownSpec)

/-- ITS FALSE NEIGHBOUR: 'it returns false'. Refute it at one input. -/
def syntaxShownWrong : ChangeSpec := { name := "syntaxShown", fn := fun _ => fun
  | [d] => { results := [.lit (.bool false)], args := [d] }
  | _ => none }
def SyntaxShownWrongFalsely : Prop := syntaxShownRow.holds Tryd.pinned (OpenSpec.ofChange syntaxShownWrong)

/-- 'tedderlaw06.SyntaxJoins': WHATEVER THE INPUT: true; the input reads as it did. -/
def syntaxJoinsSpec : ChangeSpec := { name := "syntaxJoins", fn := fun _ => fun
  | [d1, d2] => { results := [.lit (.bool true)], args := [d1, d2] }
  | _ => none }
def syntaxJoinsRow : OpenClaim := { program := "ytjgjmpophpifgaadoor", sum := "23e6fa33b04acb22a29559511204a321183af1d2027231aed247b12b84365d58", func := "tedder/tedderlaw06.SyntaxJoins", spec := "syntaxJoins", inPlace := ["internal/abi.NoEscape", "internal/bytealg.IndexByteString", "internal/bytealg.IndexString"], unfollowed := true, recurses := true, named := ["internal/bytealg.MaxLen", "tedder/syntax.end"], apart := false, laid := [("tedder/syntax.end", laid_tedder_syntax_end)] }
def SyntaxJoinsSaid : Prop := syntaxJoinsRow.holds Tryd.pinned (OpenSpec.ofChange syntaxJoinsSpec)

/-- ITS FALSE NEIGHBOUR: 'it returns false'. Refute it at one input. -/
def syntaxJoinsWrong : ChangeSpec := { name := "syntaxJoins", fn := fun _ => fun
  | [d1, d2] => { results := [.lit (.bool false)], args := [d1, d2] }
  | _ => none }
def SyntaxJoinsWrongFalsely : Prop := syntaxJoinsRow.holds Tryd.pinned (OpenSpec.ofChange syntaxJoinsWrong)

/-- 'tedderlaw06.SyntaxBraces': WHATEVER THE INPUT: true; the input reads as it did. -/
def syntaxBracesSpec : ChangeSpec := { name := "syntaxBraces", fn := fun _ => fun
  | [d] => { results := [.lit (.bool true)], args := [d] }
  | _ => none }
def syntaxBracesRow : OpenClaim := { program := "ytjgjmpophpifgaadoor", sum := "23e6fa33b04acb22a29559511204a321183af1d2027231aed247b12b84365d58", func := "tedder/tedderlaw06.SyntaxBraces", spec := "syntaxBraces", inPlace := ["internal/abi.NoEscape", "internal/bytealg.IndexByteString", "internal/bytealg.IndexString"], unfollowed := true, recurses := true, named := ["internal/bytealg.MaxLen", "tedder/syntax.end"], apart := false, laid := [("tedder/syntax.end", laid_tedder_syntax_end)] }
def SyntaxBracesSaid : Prop := syntaxBracesRow.holds Tryd.pinned (OpenSpec.ofChange syntaxBracesSpec)

/-- ITS FALSE NEIGHBOUR: 'it returns false'. Refute it at one input. -/
def syntaxBracesWrong : ChangeSpec := { name := "syntaxBraces", fn := fun _ => fun
  | [d] => { results := [.lit (.bool false)], args := [d] }
  | _ => none }
def SyntaxBracesWrongFalsely : Prop := syntaxBracesRow.holds Tryd.pinned (OpenSpec.ofChange syntaxBracesWrong)

/- THE SECOND FORM. 'bulk': how many values and letters a reading holds, each counted each time it is reached (what is shared counts as often as it is met; a slice's spare places count too). A statement '..UptoSaid' is the law's where the arguments, and the package variables that the reading takes, are together of bulk at most 1048576: NARROWER than '..Said'. Prove '..Said' where nothing that the law and all that it calls make is longer than what came in: it says more and counts as full. Else prove '..UptoSaid'. A law counts once. -/
mutual
def uptoBulk {H : Type} : DataW H → Nat
  | .lit (.string bytes) => bytes.length + 1
  | .lit _ => 1
  | .nil => 1
  | .ptr d => uptoBulk d + 1
  | .slice elems spare => uptoBulkAll elems + uptoBulkAll spare + 1
  | .agg parts => uptoBulkAll parts + 1
  | .iface _ d => uptoBulk d + 1
  | .map entries => uptoBulkEntries entries + 1
  | .held _ => 1
def uptoBulkAll {H : Type} : List (DataW H) → Nat
  | [] => 0
  | d :: r => uptoBulk d + uptoBulkAll r
def uptoBulkEntries {H : Type} : List (Lit × DataW H) → Nat
  | [] => 0
  | x :: r => uptoBulkEntry x + uptoBulkEntries r
def uptoBulkEntry {H : Type} : Lit × DataW H → Nat
  | (.string bytes, d) => bytes.length + uptoBulk d + 1
  | (_, d) => uptoBulk d + 1
 end
def uptoSmall : (H : Type) → List (DataW H) → Bool := fun _ ds => decide (uptoBulkAll ds ≤ 1048576)
def OpenSpec.upto (s : _root_.Go.ChangeSpec) : _root_.Go.OpenSpec := { _root_.Go.OpenSpec.ofChange s with cond := some uptoSmall }

/-- 'tedderlaw15.InputRecords', WHERE WHAT IT READS IS OF BULK AT MOST 1048576: true; the input reads as it did. -/
def inputRecordsUptoRow : OpenClaim := { program := "ytjgjmpophpifgaadoor", sum := "23e6fa33b04acb22a29559511204a321183af1d2027231aed247b12b84365d58", func := "tedder/tedderlaw15.InputRecords", spec := "inputRecords", inPlace := ["internal/bytealg.IndexByteString", "internal/bytealg.IndexString", "internal/abi.NoEscape"], unfollowed := true, recurses := true, named := ["unicode/utf8.first", "unicode/utf8.acceptRanges", "internal/bytealg.MaxLen"], apart := false, laid := [("unicode/utf8.acceptRanges", laid_unicode_utf8_acceptRanges), ("unicode/utf8.first", laid_unicode_utf8_first)], narrowed := true }
def InputRecordsUptoSaid : Prop := inputRecordsUptoRow.holds Tryd.pinned (OpenSpec.upto inputRecordsSpec)

/-- 'tedderlaw15.InputBack', WHERE WHAT IT READS IS OF BULK AT MOST 1048576: true; the input reads as it did. -/
def inputBackUptoRow : OpenClaim := { program := "ytjgjmpophpifgaadoor", sum := "23e6fa33b04acb22a29559511204a321183af1d2027231aed247b12b84365d58", func := "tedder/tedderlaw15.InputBack", spec := "inputBack", inPlace := ["internal/bytealg.IndexByteString", "internal/bytealg.IndexString", "internal/abi.NoEscape"], unfollowed := true, recurses := true, named := ["unicode/utf8.first", "unicode/utf8.acceptRanges", "internal/bytealg.MaxLen"], apart := false, laid := [("unicode/utf8.acceptRanges", laid_unicode_utf8_acceptRanges), ("unicode/utf8.first", laid_unicode_utf8_first)], narrowed := true }
def InputBackUptoSaid : Prop := inputBackUptoRow.holds Tryd.pinned (OpenSpec.upto inputBackSpec)

/-- 'tedderlaw15.InputOperands', WHERE WHAT IT READS IS OF BULK AT MOST 1048576: true; the input reads as it did. -/
def inputOperandsUptoRow : OpenClaim := { program := "ytjgjmpophpifgaadoor", sum := "23e6fa33b04acb22a29559511204a321183af1d2027231aed247b12b84365d58", func := "tedder/tedderlaw15.InputOperands", spec := "inputOperands", inPlace := ["internal/bytealg.IndexByteString", "internal/bytealg.IndexString", "internal/abi.NoEscape"], unfollowed := true, recurses := true, named := ["unicode/utf8.first", "unicode/utf8.acceptRanges", "internal/bytealg.MaxLen"], apart := false, laid := [("unicode/utf8.acceptRanges", laid_unicode_utf8_acceptRanges), ("unicode/utf8.first", laid_unicode_utf8_first)], narrowed := true }
def InputOperandsUptoSaid : Prop := inputOperandsUptoRow.holds Tryd.pinned (OpenSpec.upto inputOperandsSpec)

/-- 'tedderlaw06.SyntaxShown', WHERE WHAT IT READS IS OF BULK AT MOST 1048576: true; the input reads as it did. -/
def syntaxShownUptoRow : OpenClaim := { program := "ytjgjmpophpifgaadoor", sum := "23e6fa33b04acb22a29559511204a321183af1d2027231aed247b12b84365d58", func := "tedder/tedderlaw06.SyntaxShown", spec := "syntaxShown", inPlace := ["internal/abi.NoEscape", "internal/bytealg.IndexByteString", "internal/bytealg.IndexString"], unfollowed := true, recurses := true, named := ["internal/bytealg.MaxLen", "tedder/syntax.end"], apart := false, laid := [("tedder/syntax.end", laid_tedder_syntax_end)], narrowed := true }
def SyntaxShownUptoSaid : Prop := syntaxShownUptoRow.holds Tryd.pinned (OpenSpec.upto syntaxShownSpec)

/-- 'tedderlaw06.SyntaxJoins', WHERE WHAT IT READS IS OF BULK AT MOST 1048576: true; the input reads as it did. -/
def syntaxJoinsUptoRow : OpenClaim := { program := "ytjgjmpophpifgaadoor", sum := "23e6fa33b04acb22a29559511204a321183af1d2027231aed247b12b84365d58", func := "tedder/tedderlaw06.SyntaxJoins", spec := "syntaxJoins", inPlace := ["internal/abi.NoEscape", "internal/bytealg.IndexByteString", "internal/bytealg.IndexString"], unfollowed := true, recurses := true, named := ["internal/bytealg.MaxLen", "tedder/syntax.end"], apart := false, laid := [("tedder/syntax.end", laid_tedder_syntax_end)], narrowed := true }
def SyntaxJoinsUptoSaid : Prop := syntaxJoinsUptoRow.holds Tryd.pinned (OpenSpec.upto syntaxJoinsSpec)

/-- 'tedderlaw06.SyntaxBraces', WHERE WHAT IT READS IS OF BULK AT MOST 1048576: true; the input reads as it did. -/
def syntaxBracesUptoRow : OpenClaim := { program := "ytjgjmpophpifgaadoor", sum := "23e6fa33b04acb22a29559511204a321183af1d2027231aed247b12b84365d58", func := "tedder/tedderlaw06.SyntaxBraces", spec := "syntaxBraces", inPlace := ["internal/abi.NoEscape", "internal/bytealg.IndexByteString", "internal/bytealg.IndexString"], unfollowed := true, recurses := true, named := ["internal/bytealg.MaxLen", "tedder/syntax.end"], apart := false, laid := [("tedder/syntax.end", laid_tedder_syntax_end)], narrowed := true }
def SyntaxBracesUptoSaid : Prop := syntaxBracesUptoRow.holds Tryd.pinned (OpenSpec.upto syntaxBracesSpec)

end Rows
end Go.Proofs.YtjgjmpophpifgaaDoor
