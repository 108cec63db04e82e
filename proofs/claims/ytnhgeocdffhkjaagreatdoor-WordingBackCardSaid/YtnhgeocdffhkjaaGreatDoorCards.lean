/-
  DERIVED. GIVEN WITH THE SEED: THE CARDS: each row of YtnhgeocdffhkjaaGreatDoorRows.lean that lists a variable, with what it lists TIED to the program's text (the seventh form; the later family's looks); each row that meets fmt, with fmt's text TOLD by the authors' own Lean function (tested against real Go, not proved from fmt's source: count such statements apart). THE CARD IS WHAT COUNTS. Prove the row's statement (the work); the ties are given (YtnhgeocdffhkjaaGreatDoorTie.lean); close each card by the builder's one call (the guide's Derived/Test/ToyasCard.lean, 'card_holds'). Laid BY PROGRAM, IN A SANDBOX (cutbox-door.mjs). By AI agents, Wed Nov 11 2026. No macro, syntax, notation, axiom, sorry.
-/
import Derived.Test.YtnhgeocdffhkjaaGreatDoorRows
import GoSem.ClaimSeven
namespace Go.Proofs.YtnhgeocdffhkjaaGreatDoor
namespace Rows

/-- THE TIED CARD OF 'treatylaw08.WordingFind'. -/
def wordingFindCard : Claim7 := { stood := { row := wordingFindRow, standIns := [], harness := (true, "8386d2d384a2bebb184cedfc4e984a36b3c85493576bd6f6c2c8b3cd7d40c725"), looks := true }, kinds := [], alts := [], laidByText := true, laidKinds := [.data, .data], laidTests := true, laidLooks := .later }
def WordingFindCardSaid : Prop := Claim7.holds Tryz.pinned (.plain (OpenSpec.ofChange wordingFindSpec)) wordingFindCard

/-- THE TIED CARD OF 'treatylaw08.WordingValid'. -/
def wordingValidCard : Claim7 := { stood := { row := wordingValidRow, standIns := [], harness := (true, "8386d2d384a2bebb184cedfc4e984a36b3c85493576bd6f6c2c8b3cd7d40c725"), looks := true }, kinds := [], alts := [], laidByText := true, laidKinds := [.data, .data], laidTests := true, laidLooks := .later }
def WordingValidCardSaid : Prop := Claim7.holds Tryz.pinned (.plain (OpenSpec.ofChange wordingValidSpec)) wordingValidCard

/-- THE TIED CARD OF 'treatylaw08.WordingFormat'. -/
def wordingFormatCard : Claim7 := { stood := { row := wordingFormatRow, standIns := [], harness := (true, "8386d2d384a2bebb184cedfc4e984a36b3c85493576bd6f6c2c8b3cd7d40c725"), looks := true }, kinds := [], alts := [], laidByText := true, laidKinds := [.data, .data, .data, .data, .data], laidTests := true, laidLooks := .later }
def WordingFormatCardSaid : Prop := Claim7.holds Tryz.pinned (.plain (OpenSpec.ofChange wordingFormatSpec)) wordingFormatCard

/-- THE TIED CARD OF 'treatylaw08.WordingBack'. -/
def wordingBackCard : Claim7 := { stood := { row := wordingBackRow, standIns := [], harness := (true, "8386d2d384a2bebb184cedfc4e984a36b3c85493576bd6f6c2c8b3cd7d40c725"), looks := true }, kinds := [], alts := [], laidByText := true, laidKinds := [.data, .data, .data, .data, .data], laidTests := true, laidLooks := .later }
def WordingBackCardSaid : Prop := Claim7.holds Tryz.pinned (.plain (OpenSpec.ofChange wordingBackSpec)) wordingBackCard

/-- THE SECOND FORM's CARD OF 'treatylaw08.WordingFind'. -/
def wordingFindUptoCard : Claim7 := { stood := { row := wordingFindUptoRow, standIns := [], harness := (true, "8386d2d384a2bebb184cedfc4e984a36b3c85493576bd6f6c2c8b3cd7d40c725"), looks := true }, kinds := [], alts := [], laidByText := true, laidKinds := [.data, .data], laidTests := true, laidLooks := .later }
def WordingFindUptoCardSaid : Prop := Claim7.holds Tryz.pinned (.plain (OpenSpec.upto wordingFindSpec)) wordingFindUptoCard

/-- THE SECOND FORM's CARD OF 'treatylaw08.WordingValid'. -/
def wordingValidUptoCard : Claim7 := { stood := { row := wordingValidUptoRow, standIns := [], harness := (true, "8386d2d384a2bebb184cedfc4e984a36b3c85493576bd6f6c2c8b3cd7d40c725"), looks := true }, kinds := [], alts := [], laidByText := true, laidKinds := [.data, .data], laidTests := true, laidLooks := .later }
def WordingValidUptoCardSaid : Prop := Claim7.holds Tryz.pinned (.plain (OpenSpec.upto wordingValidSpec)) wordingValidUptoCard

/-- THE SECOND FORM's CARD OF 'treatylaw08.WordingFormat'. -/
def wordingFormatUptoCard : Claim7 := { stood := { row := wordingFormatUptoRow, standIns := [], harness := (true, "8386d2d384a2bebb184cedfc4e984a36b3c85493576bd6f6c2c8b3cd7d40c725"), looks := true }, kinds := [], alts := [], laidByText := true, laidKinds := [.data, .data, .data, .data, .data], laidTests := true, laidLooks := .later }
def WordingFormatUptoCardSaid : Prop := Claim7.holds Tryz.pinned (.plain (OpenSpec.upto wordingFormatSpec)) wordingFormatUptoCard

/-- THE SECOND FORM's CARD OF 'treatylaw08.WordingBack'. -/
def wordingBackUptoCard : Claim7 := { stood := { row := wordingBackUptoRow, standIns := [], harness := (true, "8386d2d384a2bebb184cedfc4e984a36b3c85493576bd6f6c2c8b3cd7d40c725"), looks := true }, kinds := [], alts := [], laidByText := true, laidKinds := [.data, .data, .data, .data, .data], laidTests := true, laidLooks := .later }
def WordingBackUptoCardSaid : Prop := Claim7.holds Tryz.pinned (.plain (OpenSpec.upto wordingBackSpec)) wordingBackUptoCard
end Rows
end Go.Proofs.YtnhgeocdffhkjaaGreatDoor
