/-
  DERIVED. GIVEN WITH THE SEED: THE CARDS: each row of YtjgjmpophpifgaaGreatDoorRows.lean that lists a variable, with what it lists TIED to the program's text (the seventh form; the later family's looks); each row that meets fmt, with fmt's text TOLD by the authors' own Lean function (tested against real Go, not proved from fmt's source: count such statements apart). THE CARD IS WHAT COUNTS. Prove the row's statement (the work); the ties are given (YtjgjmpophpifgaaGreatDoorTie.lean); close each card by the builder's one call (the guide's Derived/Test/ToyasCard.lean, 'card_holds'). Laid BY PROGRAM, IN A SANDBOX (cutbox-door.mjs). By AI agents, Wed Nov 11 2026. No macro, syntax, notation, axiom, sorry.
-/
import Derived.Test.YtjgjmpophpifgaaGreatDoorRows
import GoSem.ClaimSeven
namespace Go.Proofs.YtjgjmpophpifgaaGreatDoor
namespace Rows

/-- THE TIED CARD OF 'tedderlaw07.NamesFound'. -/
def namesFoundCard : Claim7 := { stood := { row := namesFoundRow, standIns := [], harness := (true, "5f0276d5830fb97104814321af02c8a429f60b82aff3db3e58026a772c4b2b50"), looks := true }, kinds := [], alts := [], laidByText := true, laidKinds := [.data], laidTests := true, laidLooks := .later }
def NamesFoundCardSaid : Prop := Claim7.holds Tryz.pinned (.plain (OpenSpec.ofChange namesFoundSpec)) namesFoundCard

/-- THE TIED CARD OF 'tedderlaw07.NamesApart'. -/
def namesApartCard : Claim7 := { stood := { row := namesApartRow, standIns := [], harness := (true, "5f0276d5830fb97104814321af02c8a429f60b82aff3db3e58026a772c4b2b50"), looks := true }, kinds := [], alts := [], laidByText := true, laidKinds := [.data], laidTests := true, laidLooks := .later }
def NamesApartCardSaid : Prop := Claim7.holds Tryz.pinned (.plain (OpenSpec.ofChange namesApartSpec)) namesApartCard

/-- THE TIED CARD OF 'tedderlaw07.NamesTurn'. -/
def namesTurnCard : Claim7 := { stood := { row := namesTurnRow, standIns := [], harness := (true, "5f0276d5830fb97104814321af02c8a429f60b82aff3db3e58026a772c4b2b50"), looks := true }, kinds := [], alts := [], laidByText := true, laidKinds := [.data], laidTests := true, laidLooks := .later }
def NamesTurnCardSaid : Prop := Claim7.holds Tryz.pinned (.plain (OpenSpec.ofChange namesTurnSpec)) namesTurnCard

/-- THE TIED CARD OF 'tedderlaw17.EffectClass'. -/
def effectClassCard : Claim7 := { stood := { row := effectClassRow, standIns := [], harness := (true, "5f0276d5830fb97104814321af02c8a429f60b82aff3db3e58026a772c4b2b50"), looks := true }, kinds := [], alts := [], laidByText := true, laidKinds := [.data], laidTests := true, laidLooks := .later }
def EffectClassCardSaid : Prop := Claim7.holds Tryz.pinned (.plain (OpenSpec.ofChange effectClassSpec)) effectClassCard

/-- THE SECOND FORM's CARD OF 'tedderlaw07.NamesFound'. -/
def namesFoundUptoCard : Claim7 := { stood := { row := namesFoundUptoRow, standIns := [], harness := (true, "5f0276d5830fb97104814321af02c8a429f60b82aff3db3e58026a772c4b2b50"), looks := true }, kinds := [], alts := [], laidByText := true, laidKinds := [.data], laidTests := true, laidLooks := .later }
def NamesFoundUptoCardSaid : Prop := Claim7.holds Tryz.pinned (.plain (OpenSpec.upto namesFoundSpec)) namesFoundUptoCard

/-- THE SECOND FORM's CARD OF 'tedderlaw07.NamesApart'. -/
def namesApartUptoCard : Claim7 := { stood := { row := namesApartUptoRow, standIns := [], harness := (true, "5f0276d5830fb97104814321af02c8a429f60b82aff3db3e58026a772c4b2b50"), looks := true }, kinds := [], alts := [], laidByText := true, laidKinds := [.data], laidTests := true, laidLooks := .later }
def NamesApartUptoCardSaid : Prop := Claim7.holds Tryz.pinned (.plain (OpenSpec.upto namesApartSpec)) namesApartUptoCard

/-- THE SECOND FORM's CARD OF 'tedderlaw07.NamesTurn'. -/
def namesTurnUptoCard : Claim7 := { stood := { row := namesTurnUptoRow, standIns := [], harness := (true, "5f0276d5830fb97104814321af02c8a429f60b82aff3db3e58026a772c4b2b50"), looks := true }, kinds := [], alts := [], laidByText := true, laidKinds := [.data], laidTests := true, laidLooks := .later }
def NamesTurnUptoCardSaid : Prop := Claim7.holds Tryz.pinned (.plain (OpenSpec.upto namesTurnSpec)) namesTurnUptoCard

/-- THE SECOND FORM's CARD OF 'tedderlaw17.EffectClass'. -/
def effectClassUptoCard : Claim7 := { stood := { row := effectClassUptoRow, standIns := [], harness := (true, "5f0276d5830fb97104814321af02c8a429f60b82aff3db3e58026a772c4b2b50"), looks := true }, kinds := [], alts := [], laidByText := true, laidKinds := [.data], laidTests := true, laidLooks := .later }
def EffectClassUptoCardSaid : Prop := Claim7.holds Tryz.pinned (.plain (OpenSpec.upto effectClassSpec)) effectClassUptoCard
end Rows
end Go.Proofs.YtjgjmpophpifgaaGreatDoor
