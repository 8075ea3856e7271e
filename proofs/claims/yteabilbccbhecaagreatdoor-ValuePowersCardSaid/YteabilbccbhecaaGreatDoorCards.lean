/-
  DERIVED. GIVEN WITH THE SEED: THE CARDS: each row of YteabilbccbhecaaGreatDoorRows.lean that lists a variable, with what it lists TIED to the program's text (the seventh form; the later family's looks); each row that meets fmt, with fmt's text TOLD by the authors' own Lean function (tested against real Go, not proved from fmt's source: count such statements apart). THE CARD IS WHAT COUNTS. Prove the row's statement (the work); the ties are given (YteabilbccbhecaaGreatDoorTie.lean); close each card by the builder's one call (the guide's Derived/Test/ToyasCard.lean, 'card_holds'). Laid BY PROGRAM, IN A SANDBOX (cutbox-door.mjs). By AI agents, Wed Nov 11 2026. No macro, syntax, notation, axiom, sorry.
-/
import Derived.Test.YteabilbccbhecaaGreatDoorRows
import GoSem.ClaimSeven
namespace Go.Proofs.YteabilbccbhecaaGreatDoor
namespace Rows

/-- THE TIED CARD OF 'tedderlaw08.ValueRises'. -/
def valueRisesCard : Claim7 := { stood := { row := valueRisesRow, standIns := [], harness := (true, "4d35331520e0455a1f2b9a811be5bf9fc7c555ebe0cb177d00bed28ac6c74c81"), looks := true }, kinds := [], alts := [], laidByText := true, laidKinds := [.data, .data, .widerDeep, .widerDeep, .data, .data, .data, .data, .data, .data, .sentinel, .sentinel, .pinned, .pinned, .pinned, .pinned], laidTests := true, laidLooks := .later }
def ValueRisesCardSaid : Prop := Claim7.holds Tryz.pinned (.plain (OpenSpec.ofChange valueRisesSpec)) valueRisesCard

/-- THE TIED CARD OF 'tedderlaw08.ValuePowers'. -/
def valuePowersCard : Claim7 := { stood := { row := valuePowersRow, standIns := [], harness := (true, "4d35331520e0455a1f2b9a811be5bf9fc7c555ebe0cb177d00bed28ac6c74c81"), looks := true }, kinds := [], alts := [], laidByText := true, laidKinds := [.data, .data, .widerDeep, .widerDeep, .data, .data, .data, .data, .data, .data, .sentinel, .sentinel, .pinned, .pinned, .pinned, .pinned], laidTests := true, laidLooks := .later }
def ValuePowersCardSaid : Prop := Claim7.holds Tryz.pinned (.plain (OpenSpec.ofChange valuePowersSpec)) valuePowersCard

/-- THE TIED CARD OF 'tedderlaw08.ValuePlain'. -/
def valuePlainCard : Claim7 := { stood := { row := valuePlainRow, standIns := [], harness := (true, "4d35331520e0455a1f2b9a811be5bf9fc7c555ebe0cb177d00bed28ac6c74c81"), looks := true }, kinds := [], alts := [], laidByText := true, laidKinds := [.data, .data, .widerDeep, .widerDeep, .data, .data, .data, .data, .data, .data, .sentinel, .sentinel, .pinned, .pinned, .pinned, .pinned], laidTests := true, laidLooks := .later }
def ValuePlainCardSaid : Prop := Claim7.holds Tryz.pinned (.plain (OpenSpec.ofChange valuePlainSpec)) valuePlainCard

/-- THE TIED CARD OF 'tedderlaw08.ValueMixes'. -/
def valueMixesCard : Claim7 := { stood := { row := valueMixesRow, standIns := [], harness := (true, "4d35331520e0455a1f2b9a811be5bf9fc7c555ebe0cb177d00bed28ac6c74c81"), looks := true }, kinds := [], alts := [], laidByText := true, laidKinds := [.data, .data, .widerDeep, .widerDeep, .data, .data, .data, .data, .data, .data, .sentinel, .sentinel, .pinned, .pinned, .pinned, .pinned], laidTests := true, laidLooks := .later }
def ValueMixesCardSaid : Prop := Claim7.holds Tryz.pinned (.plain (OpenSpec.ofChange valueMixesSpec)) valueMixesCard

/-- THE SECOND FORM's CARD OF 'tedderlaw08.ValueRises'. -/
def valueRisesUptoCard : Claim7 := { stood := { row := valueRisesUptoRow, standIns := [], harness := (true, "4d35331520e0455a1f2b9a811be5bf9fc7c555ebe0cb177d00bed28ac6c74c81"), looks := true }, kinds := [], alts := [], laidByText := true, laidKinds := [.data, .data, .widerDeep, .widerDeep, .data, .data, .data, .data, .data, .data, .sentinel, .sentinel, .pinned, .pinned, .pinned, .pinned], laidTests := true, laidLooks := .later }
def ValueRisesUptoCardSaid : Prop := Claim7.holds Tryz.pinned (.plain (OpenSpec.upto valueRisesSpec)) valueRisesUptoCard

/-- THE SECOND FORM's CARD OF 'tedderlaw08.ValuePowers'. -/
def valuePowersUptoCard : Claim7 := { stood := { row := valuePowersUptoRow, standIns := [], harness := (true, "4d35331520e0455a1f2b9a811be5bf9fc7c555ebe0cb177d00bed28ac6c74c81"), looks := true }, kinds := [], alts := [], laidByText := true, laidKinds := [.data, .data, .widerDeep, .widerDeep, .data, .data, .data, .data, .data, .data, .sentinel, .sentinel, .pinned, .pinned, .pinned, .pinned], laidTests := true, laidLooks := .later }
def ValuePowersUptoCardSaid : Prop := Claim7.holds Tryz.pinned (.plain (OpenSpec.upto valuePowersSpec)) valuePowersUptoCard

/-- THE SECOND FORM's CARD OF 'tedderlaw08.ValuePlain'. -/
def valuePlainUptoCard : Claim7 := { stood := { row := valuePlainUptoRow, standIns := [], harness := (true, "4d35331520e0455a1f2b9a811be5bf9fc7c555ebe0cb177d00bed28ac6c74c81"), looks := true }, kinds := [], alts := [], laidByText := true, laidKinds := [.data, .data, .widerDeep, .widerDeep, .data, .data, .data, .data, .data, .data, .sentinel, .sentinel, .pinned, .pinned, .pinned, .pinned], laidTests := true, laidLooks := .later }
def ValuePlainUptoCardSaid : Prop := Claim7.holds Tryz.pinned (.plain (OpenSpec.upto valuePlainSpec)) valuePlainUptoCard

/-- THE SECOND FORM's CARD OF 'tedderlaw08.ValueMixes'. -/
def valueMixesUptoCard : Claim7 := { stood := { row := valueMixesUptoRow, standIns := [], harness := (true, "4d35331520e0455a1f2b9a811be5bf9fc7c555ebe0cb177d00bed28ac6c74c81"), looks := true }, kinds := [], alts := [], laidByText := true, laidKinds := [.data, .data, .widerDeep, .widerDeep, .data, .data, .data, .data, .data, .data, .sentinel, .sentinel, .pinned, .pinned, .pinned, .pinned], laidTests := true, laidLooks := .later }
def ValueMixesUptoCardSaid : Prop := Claim7.holds Tryz.pinned (.plain (OpenSpec.upto valueMixesSpec)) valueMixesUptoCard
end Rows
end Go.Proofs.YteabilbccbhecaaGreatDoor
