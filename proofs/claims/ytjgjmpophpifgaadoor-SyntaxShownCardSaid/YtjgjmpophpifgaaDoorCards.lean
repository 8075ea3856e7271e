/-
  DERIVED. GIVEN WITH THE SEED: THE CARDS: each row of YtjgjmpophpifgaaDoorRows.lean that lists a variable, with what it lists TIED to the program's text (the seventh form; the later family's looks); each row that meets fmt, with fmt's text TOLD by the authors' own Lean function (tested against real Go, not proved from fmt's source: count such statements apart). THE CARD IS WHAT COUNTS. Prove the row's statement (the work); the ties are given (YtjgjmpophpifgaaDoorTie.lean); close each card by the builder's one call (the guide's Derived/Test/ToyasCard.lean, 'card_holds'). Laid BY PROGRAM, IN A SANDBOX (cutbox-door.mjs). By AI agents, Wed Nov 11 2026. No macro, syntax, notation, axiom, sorry.
-/
import Derived.Test.YtjgjmpophpifgaaDoorRows
import GoSem.ClaimSeven
namespace Go.Proofs.YtjgjmpophpifgaaDoor
namespace Rows

/-- THE TIED CARD OF 'tedderlaw15.InputRecords'. -/
def inputRecordsCard : Claim7 := { stood := { row := inputRecordsRow, standIns := [], harness := (true, "fb1103b0d374f364c594e29e0b9c3233e789bcc023eadf6f6e3a1d6e274a11f8"), looks := true }, kinds := [], alts := [], laidByText := true, laidKinds := [.data, .pinned], laidTests := true, laidLooks := .later }
def InputRecordsCardSaid : Prop := Claim7.holds Tryd.pinned (.plain (OpenSpec.ofChange inputRecordsSpec)) inputRecordsCard

/-- THE TIED CARD OF 'tedderlaw15.InputBack'. -/
def inputBackCard : Claim7 := { stood := { row := inputBackRow, standIns := [], harness := (true, "fb1103b0d374f364c594e29e0b9c3233e789bcc023eadf6f6e3a1d6e274a11f8"), looks := true }, kinds := [], alts := [], laidByText := true, laidKinds := [.data, .pinned], laidTests := true, laidLooks := .later }
def InputBackCardSaid : Prop := Claim7.holds Tryd.pinned (.plain (OpenSpec.ofChange inputBackSpec)) inputBackCard

/-- THE TIED CARD OF 'tedderlaw15.InputOperands'. -/
def inputOperandsCard : Claim7 := { stood := { row := inputOperandsRow, standIns := [], harness := (true, "fb1103b0d374f364c594e29e0b9c3233e789bcc023eadf6f6e3a1d6e274a11f8"), looks := true }, kinds := [], alts := [], laidByText := true, laidKinds := [.data, .pinned], laidTests := true, laidLooks := .later }
def InputOperandsCardSaid : Prop := Claim7.holds Tryd.pinned (.plain (OpenSpec.ofChange inputOperandsSpec)) inputOperandsCard

/-- THE TIED CARD OF 'tedderlaw06.SyntaxShown'. -/
def syntaxShownCard : Claim7 := { stood := { row := syntaxShownRow, standIns := [], harness := (true, "fb1103b0d374f364c594e29e0b9c3233e789bcc023eadf6f6e3a1d6e274a11f8"), looks := true }, kinds := [], alts := [], laidByText := true, laidKinds := [.data], laidTests := true, laidLooks := .later }
def SyntaxShownCardSaid : Prop := Claim7.holds Tryd.pinned (.plain (OpenSpec.ofChange syntaxShownSpec)) syntaxShownCard

/-- THE TIED CARD OF 'tedderlaw06.SyntaxJoins'. -/
def syntaxJoinsCard : Claim7 := { stood := { row := syntaxJoinsRow, standIns := [], harness := (true, "fb1103b0d374f364c594e29e0b9c3233e789bcc023eadf6f6e3a1d6e274a11f8"), looks := true }, kinds := [], alts := [], laidByText := true, laidKinds := [.data], laidTests := true, laidLooks := .later }
def SyntaxJoinsCardSaid : Prop := Claim7.holds Tryd.pinned (.plain (OpenSpec.ofChange syntaxJoinsSpec)) syntaxJoinsCard

/-- THE TIED CARD OF 'tedderlaw06.SyntaxBraces'. -/
def syntaxBracesCard : Claim7 := { stood := { row := syntaxBracesRow, standIns := [], harness := (true, "fb1103b0d374f364c594e29e0b9c3233e789bcc023eadf6f6e3a1d6e274a11f8"), looks := true }, kinds := [], alts := [], laidByText := true, laidKinds := [.data], laidTests := true, laidLooks := .later }
def SyntaxBracesCardSaid : Prop := Claim7.holds Tryd.pinned (.plain (OpenSpec.ofChange syntaxBracesSpec)) syntaxBracesCard

/-- THE SECOND FORM's CARD OF 'tedderlaw15.InputRecords'. -/
def inputRecordsUptoCard : Claim7 := { stood := { row := inputRecordsUptoRow, standIns := [], harness := (true, "fb1103b0d374f364c594e29e0b9c3233e789bcc023eadf6f6e3a1d6e274a11f8"), looks := true }, kinds := [], alts := [], laidByText := true, laidKinds := [.data, .pinned], laidTests := true, laidLooks := .later }
def InputRecordsUptoCardSaid : Prop := Claim7.holds Tryd.pinned (.plain (OpenSpec.upto inputRecordsSpec)) inputRecordsUptoCard

/-- THE SECOND FORM's CARD OF 'tedderlaw15.InputBack'. -/
def inputBackUptoCard : Claim7 := { stood := { row := inputBackUptoRow, standIns := [], harness := (true, "fb1103b0d374f364c594e29e0b9c3233e789bcc023eadf6f6e3a1d6e274a11f8"), looks := true }, kinds := [], alts := [], laidByText := true, laidKinds := [.data, .pinned], laidTests := true, laidLooks := .later }
def InputBackUptoCardSaid : Prop := Claim7.holds Tryd.pinned (.plain (OpenSpec.upto inputBackSpec)) inputBackUptoCard

/-- THE SECOND FORM's CARD OF 'tedderlaw15.InputOperands'. -/
def inputOperandsUptoCard : Claim7 := { stood := { row := inputOperandsUptoRow, standIns := [], harness := (true, "fb1103b0d374f364c594e29e0b9c3233e789bcc023eadf6f6e3a1d6e274a11f8"), looks := true }, kinds := [], alts := [], laidByText := true, laidKinds := [.data, .pinned], laidTests := true, laidLooks := .later }
def InputOperandsUptoCardSaid : Prop := Claim7.holds Tryd.pinned (.plain (OpenSpec.upto inputOperandsSpec)) inputOperandsUptoCard

/-- THE SECOND FORM's CARD OF 'tedderlaw06.SyntaxShown'. -/
def syntaxShownUptoCard : Claim7 := { stood := { row := syntaxShownUptoRow, standIns := [], harness := (true, "fb1103b0d374f364c594e29e0b9c3233e789bcc023eadf6f6e3a1d6e274a11f8"), looks := true }, kinds := [], alts := [], laidByText := true, laidKinds := [.data], laidTests := true, laidLooks := .later }
def SyntaxShownUptoCardSaid : Prop := Claim7.holds Tryd.pinned (.plain (OpenSpec.upto syntaxShownSpec)) syntaxShownUptoCard

/-- THE SECOND FORM's CARD OF 'tedderlaw06.SyntaxJoins'. -/
def syntaxJoinsUptoCard : Claim7 := { stood := { row := syntaxJoinsUptoRow, standIns := [], harness := (true, "fb1103b0d374f364c594e29e0b9c3233e789bcc023eadf6f6e3a1d6e274a11f8"), looks := true }, kinds := [], alts := [], laidByText := true, laidKinds := [.data], laidTests := true, laidLooks := .later }
def SyntaxJoinsUptoCardSaid : Prop := Claim7.holds Tryd.pinned (.plain (OpenSpec.upto syntaxJoinsSpec)) syntaxJoinsUptoCard

/-- THE SECOND FORM's CARD OF 'tedderlaw06.SyntaxBraces'. -/
def syntaxBracesUptoCard : Claim7 := { stood := { row := syntaxBracesUptoRow, standIns := [], harness := (true, "fb1103b0d374f364c594e29e0b9c3233e789bcc023eadf6f6e3a1d6e274a11f8"), looks := true }, kinds := [], alts := [], laidByText := true, laidKinds := [.data], laidTests := true, laidLooks := .later }
def SyntaxBracesUptoCardSaid : Prop := Claim7.holds Tryd.pinned (.plain (OpenSpec.upto syntaxBracesSpec)) syntaxBracesUptoCard
end Rows
end Go.Proofs.YtjgjmpophpifgaaDoor
