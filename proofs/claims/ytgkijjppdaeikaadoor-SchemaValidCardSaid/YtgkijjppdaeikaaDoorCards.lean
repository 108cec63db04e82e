/-
  DERIVED. GIVEN WITH THE SEED: THE CARDS: each row of YtgkijjppdaeikaaDoorRows.lean that lists a variable, with what it lists TIED to the program's text (the seventh form; the later family's looks); each row that meets fmt, with fmt's text TOLD by the authors' own Lean function (tested against real Go, not proved from fmt's source: count such statements apart). THE CARD IS WHAT COUNTS. Prove the row's statement (the work); the ties are given (YtgkijjppdaeikaaDoorTie.lean); close each card by the builder's one call (the guide's Derived/Test/ToyasCard.lean, 'card_holds'). Laid BY PROGRAM, IN A SANDBOX (cutbox-door.mjs). By AI agents, Wed Nov 11 2026. No macro, syntax, notation, axiom, sorry.
-/
import Derived.Test.YtgkijjppdaeikaaDoorRows
import GoSem.ClaimSeven
namespace Go.Proofs.YtgkijjppdaeikaaDoor
namespace Rows

/-- THE TIED CARD OF 'treatylaw06.SchemaValid'. -/
def schemaValidCard : Claim7 := { stood := { row := schemaValidRow, standIns := [], harness := (true, "de56e9493b0eb334904e23e028edefb4ce29ed376dd0a92b658f4b9eb11a7f19"), looks := true }, kinds := [], alts := [], laidByText := true, laidKinds := [.data, .data, .data], laidTests := true, laidLooks := .later }
def SchemaValidCardSaid : Prop := Claim7.holds Tryd.pinned (.plain (OpenSpec.ofChange schemaValidSpec)) schemaValidCard

/-- THE TIED CARD OF 'treatylaw06.SchemaFacts'. -/
def schemaFactsCard : Claim7 := { stood := { row := schemaFactsRow, standIns := [], harness := (true, "de56e9493b0eb334904e23e028edefb4ce29ed376dd0a92b658f4b9eb11a7f19"), looks := true }, kinds := [], alts := [], laidByText := true, laidKinds := [.data, .data, .data], laidTests := true, laidLooks := .later }
def SchemaFactsCardSaid : Prop := Claim7.holds Tryd.pinned (.plain (OpenSpec.ofChange schemaFactsSpec)) schemaFactsCard

/-- THE TIED CARD OF 'treatylaw06.SchemaFormat'. -/
def schemaFormatCard : Claim7 := { stood := { row := schemaFormatRow, standIns := [], harness := (true, "de56e9493b0eb334904e23e028edefb4ce29ed376dd0a92b658f4b9eb11a7f19"), looks := true }, kinds := [], alts := [], laidByText := true, laidKinds := [.data, .data, .data], laidTests := true, laidLooks := .later }
def SchemaFormatCardSaid : Prop := Claim7.holds Tryd.pinned (.plain (OpenSpec.ofChange schemaFormatSpec)) schemaFormatCard

/-- THE TIED CARD OF 'treatylaw06.SchemaBack'. -/
def schemaBackCard : Claim7 := { stood := { row := schemaBackRow, standIns := [], harness := (true, "de56e9493b0eb334904e23e028edefb4ce29ed376dd0a92b658f4b9eb11a7f19"), looks := true }, kinds := [], alts := [], laidByText := true, laidKinds := [.data, .data, .data, .sentinel, .sentinel], laidTests := true, laidLooks := .later }
def SchemaBackCardSaid : Prop := Claim7.holds Tryd.pinned (.plain (OpenSpec.ofChange schemaBackSpec)) schemaBackCard

/-- THE TIED CARD OF 'treatylaw06.SchemaParse'. -/
def schemaParseCard : Claim7 := { stood := { row := schemaParseRow, standIns := [], harness := (true, "de56e9493b0eb334904e23e028edefb4ce29ed376dd0a92b658f4b9eb11a7f19"), looks := true }, kinds := [], alts := [], laidByText := true, laidKinds := [.data, .data, .data, .sentinel, .sentinel], laidTests := true, laidLooks := .later }
def SchemaParseCardSaid : Prop := Claim7.holds Tryd.pinned (.plain (OpenSpec.ofChange schemaParseSpec)) schemaParseCard

/-- THE SECOND FORM's CARD OF 'treatylaw06.SchemaValid'. -/
def schemaValidUptoCard : Claim7 := { stood := { row := schemaValidUptoRow, standIns := [], harness := (true, "de56e9493b0eb334904e23e028edefb4ce29ed376dd0a92b658f4b9eb11a7f19"), looks := true }, kinds := [], alts := [], laidByText := true, laidKinds := [.data, .data, .data], laidTests := true, laidLooks := .later }
def SchemaValidUptoCardSaid : Prop := Claim7.holds Tryd.pinned (.plain (OpenSpec.upto schemaValidSpec)) schemaValidUptoCard

/-- THE SECOND FORM's CARD OF 'treatylaw06.SchemaFacts'. -/
def schemaFactsUptoCard : Claim7 := { stood := { row := schemaFactsUptoRow, standIns := [], harness := (true, "de56e9493b0eb334904e23e028edefb4ce29ed376dd0a92b658f4b9eb11a7f19"), looks := true }, kinds := [], alts := [], laidByText := true, laidKinds := [.data, .data, .data], laidTests := true, laidLooks := .later }
def SchemaFactsUptoCardSaid : Prop := Claim7.holds Tryd.pinned (.plain (OpenSpec.upto schemaFactsSpec)) schemaFactsUptoCard

/-- THE SECOND FORM's CARD OF 'treatylaw06.SchemaFormat'. -/
def schemaFormatUptoCard : Claim7 := { stood := { row := schemaFormatUptoRow, standIns := [], harness := (true, "de56e9493b0eb334904e23e028edefb4ce29ed376dd0a92b658f4b9eb11a7f19"), looks := true }, kinds := [], alts := [], laidByText := true, laidKinds := [.data, .data, .data], laidTests := true, laidLooks := .later }
def SchemaFormatUptoCardSaid : Prop := Claim7.holds Tryd.pinned (.plain (OpenSpec.upto schemaFormatSpec)) schemaFormatUptoCard

/-- THE SECOND FORM's CARD OF 'treatylaw06.SchemaBack'. -/
def schemaBackUptoCard : Claim7 := { stood := { row := schemaBackUptoRow, standIns := [], harness := (true, "de56e9493b0eb334904e23e028edefb4ce29ed376dd0a92b658f4b9eb11a7f19"), looks := true }, kinds := [], alts := [], laidByText := true, laidKinds := [.data, .data, .data, .sentinel, .sentinel], laidTests := true, laidLooks := .later }
def SchemaBackUptoCardSaid : Prop := Claim7.holds Tryd.pinned (.plain (OpenSpec.upto schemaBackSpec)) schemaBackUptoCard

/-- THE SECOND FORM's CARD OF 'treatylaw06.SchemaParse'. -/
def schemaParseUptoCard : Claim7 := { stood := { row := schemaParseUptoRow, standIns := [], harness := (true, "de56e9493b0eb334904e23e028edefb4ce29ed376dd0a92b658f4b9eb11a7f19"), looks := true }, kinds := [], alts := [], laidByText := true, laidKinds := [.data, .data, .data, .sentinel, .sentinel], laidTests := true, laidLooks := .later }
def SchemaParseUptoCardSaid : Prop := Claim7.holds Tryd.pinned (.plain (OpenSpec.upto schemaParseSpec)) schemaParseUptoCard
end Rows
end Go.Proofs.YtgkijjppdaeikaaDoor
