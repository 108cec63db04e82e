/-
  DERIVED. GIVEN WITH THE SEED: THE CARDS: each row of YtgfnhpadmifiiaaDoorRows.lean that lists a variable, with what it lists TIED to the program's text (the seventh form; the later family's looks); each row that meets fmt, with fmt's text TOLD by the authors' own Lean function (tested against real Go, not proved from fmt's source: count such statements apart). THE CARD IS WHAT COUNTS. Prove the row's statement (the work); the ties are given (YtgfnhpadmifiiaaDoorTie.lean); close each card by the builder's one call (the guide's Derived/Test/ToyasCard.lean, 'card_holds'). Laid BY PROGRAM, IN A SANDBOX (cutbox-door.mjs). By AI agents, Wed Nov 11 2026. No macro, syntax, notation, axiom, sorry.
-/
import Derived.Test.YtgfnhpadmifiiaaDoorRows
import GoSem.ClaimSeven
namespace Go.Proofs.YtgfnhpadmifiiaaDoor
namespace Rows

/-- THE TIED CARD OF 'treatylaw13.DiagramTest'. -/
def diagramTestCard : Claim7 := { stood := { row := diagramTestRow, standIns := [], harness := (true, "d8aa5ec5ba0d113cc2fd311f426b6a16b6961a30ff56c2fe5074ad33013962b2"), looks := false }, kinds := [], alts := [], laidByText := true, laidKinds := [.data, .data, .data], laidTests := true, laidLooks := .later }
def DiagramTestCardSaid : Prop := Claim7.holds Tryd.pinned (.plain (OpenSpec.ofChange diagramTestSpec)) diagramTestCard

/-- THE TIED CARD OF 'treatylaw13.DiagramLeast'. -/
def diagramLeastCard : Claim7 := { stood := { row := diagramLeastRow, standIns := [], harness := (true, "d8aa5ec5ba0d113cc2fd311f426b6a16b6961a30ff56c2fe5074ad33013962b2"), looks := false }, kinds := [], alts := [], laidByText := true, laidKinds := [.data, .data, .data], laidTests := true, laidLooks := .later }
def DiagramLeastCardSaid : Prop := Claim7.holds Tryd.pinned (.plain (OpenSpec.ofChange diagramLeastSpec)) diagramLeastCard

/-- THE TIED CARD OF 'treatylaw13.DiagramCount'. -/
def diagramCountCard : Claim7 := { stood := { row := diagramCountRow, standIns := [], harness := (true, "d8aa5ec5ba0d113cc2fd311f426b6a16b6961a30ff56c2fe5074ad33013962b2"), looks := false }, kinds := [], alts := [], laidByText := true, laidKinds := [.data, .data, .data], laidTests := true, laidLooks := .later }
def DiagramCountCardSaid : Prop := Claim7.holds Tryd.pinned (.plain (OpenSpec.ofChange diagramCountSpec)) diagramCountCard

/-- THE TIED CARD OF 'treatylaw13.DiagramInvalid'. -/
def diagramInvalidCard : Claim7 := { stood := { row := diagramInvalidRow, standIns := [], harness := (true, "d8aa5ec5ba0d113cc2fd311f426b6a16b6961a30ff56c2fe5074ad33013962b2"), looks := false }, kinds := [], alts := [], laidByText := true, laidKinds := [.data, .data, .data], laidTests := true, laidLooks := .later }
def DiagramInvalidCardSaid : Prop := Claim7.holds Tryd.pinned (.plain (OpenSpec.ofChange diagramInvalidSpec)) diagramInvalidCard

/-- THE TIED CARD OF 'treatylaw13.DiagramValid'. -/
def diagramValidCard : Claim7 := { stood := { row := diagramValidRow, standIns := [], harness := (true, "d8aa5ec5ba0d113cc2fd311f426b6a16b6961a30ff56c2fe5074ad33013962b2"), looks := false }, kinds := [], alts := [], laidByText := true, laidKinds := [.data, .data, .data], laidTests := true, laidLooks := .later }
def DiagramValidCardSaid : Prop := Claim7.holds Tryd.pinned (.plain (OpenSpec.ofChange diagramValidSpec)) diagramValidCard

/-- THE TIED CARD OF 'treatylaw13.DiagramCombine'. -/
def diagramCombineCard : Claim7 := { stood := { row := diagramCombineRow, standIns := [], harness := (true, "d8aa5ec5ba0d113cc2fd311f426b6a16b6961a30ff56c2fe5074ad33013962b2"), looks := false }, kinds := [], alts := [], laidByText := true, laidKinds := [.data, .data, .data], laidTests := true, laidLooks := .later }
def DiagramCombineCardSaid : Prop := Claim7.holds Tryd.pinned (.plain (OpenSpec.ofChange diagramCombineSpec)) diagramCombineCard

/-- THE TIED CARD OF 'treatylaw13.DiagramCanonical'. -/
def diagramCanonicalCard : Claim7 := { stood := { row := diagramCanonicalRow, standIns := [], harness := (true, "d8aa5ec5ba0d113cc2fd311f426b6a16b6961a30ff56c2fe5074ad33013962b2"), looks := false }, kinds := [], alts := [], laidByText := true, laidKinds := [.data, .data, .data], laidTests := true, laidLooks := .later }
def DiagramCanonicalCardSaid : Prop := Claim7.holds Tryd.pinned (.plain (OpenSpec.ofChange diagramCanonicalSpec)) diagramCanonicalCard

/-- THE TIED CARD OF 'treatylaw13.DiagramRun'. -/
def diagramRunCard : Claim7 := { stood := { row := diagramRunRow, standIns := [], harness := (true, "d8aa5ec5ba0d113cc2fd311f426b6a16b6961a30ff56c2fe5074ad33013962b2"), looks := false }, kinds := [], alts := [], laidByText := true, laidKinds := [.data, .data, .data], laidTests := true, laidLooks := .later }
def DiagramRunCardSaid : Prop := Claim7.holds Tryd.pinned (.plain (OpenSpec.ofChange diagramRunSpec)) diagramRunCard

/-- THE SECOND FORM's CARD OF 'treatylaw13.DiagramTest'. -/
def diagramTestUptoCard : Claim7 := { stood := { row := diagramTestUptoRow, standIns := [], harness := (true, "d8aa5ec5ba0d113cc2fd311f426b6a16b6961a30ff56c2fe5074ad33013962b2"), looks := false }, kinds := [], alts := [], laidByText := true, laidKinds := [.data, .data, .data], laidTests := true, laidLooks := .later }
def DiagramTestUptoCardSaid : Prop := Claim7.holds Tryd.pinned (.plain (OpenSpec.upto diagramTestSpec)) diagramTestUptoCard

/-- THE SECOND FORM's CARD OF 'treatylaw13.DiagramLeast'. -/
def diagramLeastUptoCard : Claim7 := { stood := { row := diagramLeastUptoRow, standIns := [], harness := (true, "d8aa5ec5ba0d113cc2fd311f426b6a16b6961a30ff56c2fe5074ad33013962b2"), looks := false }, kinds := [], alts := [], laidByText := true, laidKinds := [.data, .data, .data], laidTests := true, laidLooks := .later }
def DiagramLeastUptoCardSaid : Prop := Claim7.holds Tryd.pinned (.plain (OpenSpec.upto diagramLeastSpec)) diagramLeastUptoCard

/-- THE SECOND FORM's CARD OF 'treatylaw13.DiagramCount'. -/
def diagramCountUptoCard : Claim7 := { stood := { row := diagramCountUptoRow, standIns := [], harness := (true, "d8aa5ec5ba0d113cc2fd311f426b6a16b6961a30ff56c2fe5074ad33013962b2"), looks := false }, kinds := [], alts := [], laidByText := true, laidKinds := [.data, .data, .data], laidTests := true, laidLooks := .later }
def DiagramCountUptoCardSaid : Prop := Claim7.holds Tryd.pinned (.plain (OpenSpec.upto diagramCountSpec)) diagramCountUptoCard

/-- THE SECOND FORM's CARD OF 'treatylaw13.DiagramInvalid'. -/
def diagramInvalidUptoCard : Claim7 := { stood := { row := diagramInvalidUptoRow, standIns := [], harness := (true, "d8aa5ec5ba0d113cc2fd311f426b6a16b6961a30ff56c2fe5074ad33013962b2"), looks := false }, kinds := [], alts := [], laidByText := true, laidKinds := [.data, .data, .data], laidTests := true, laidLooks := .later }
def DiagramInvalidUptoCardSaid : Prop := Claim7.holds Tryd.pinned (.plain (OpenSpec.upto diagramInvalidSpec)) diagramInvalidUptoCard

/-- THE SECOND FORM's CARD OF 'treatylaw13.DiagramValid'. -/
def diagramValidUptoCard : Claim7 := { stood := { row := diagramValidUptoRow, standIns := [], harness := (true, "d8aa5ec5ba0d113cc2fd311f426b6a16b6961a30ff56c2fe5074ad33013962b2"), looks := false }, kinds := [], alts := [], laidByText := true, laidKinds := [.data, .data, .data], laidTests := true, laidLooks := .later }
def DiagramValidUptoCardSaid : Prop := Claim7.holds Tryd.pinned (.plain (OpenSpec.upto diagramValidSpec)) diagramValidUptoCard

/-- THE SECOND FORM's CARD OF 'treatylaw13.DiagramCombine'. -/
def diagramCombineUptoCard : Claim7 := { stood := { row := diagramCombineUptoRow, standIns := [], harness := (true, "d8aa5ec5ba0d113cc2fd311f426b6a16b6961a30ff56c2fe5074ad33013962b2"), looks := false }, kinds := [], alts := [], laidByText := true, laidKinds := [.data, .data, .data], laidTests := true, laidLooks := .later }
def DiagramCombineUptoCardSaid : Prop := Claim7.holds Tryd.pinned (.plain (OpenSpec.upto diagramCombineSpec)) diagramCombineUptoCard

/-- THE SECOND FORM's CARD OF 'treatylaw13.DiagramCanonical'. -/
def diagramCanonicalUptoCard : Claim7 := { stood := { row := diagramCanonicalUptoRow, standIns := [], harness := (true, "d8aa5ec5ba0d113cc2fd311f426b6a16b6961a30ff56c2fe5074ad33013962b2"), looks := false }, kinds := [], alts := [], laidByText := true, laidKinds := [.data, .data, .data], laidTests := true, laidLooks := .later }
def DiagramCanonicalUptoCardSaid : Prop := Claim7.holds Tryd.pinned (.plain (OpenSpec.upto diagramCanonicalSpec)) diagramCanonicalUptoCard

/-- THE SECOND FORM's CARD OF 'treatylaw13.DiagramRun'. -/
def diagramRunUptoCard : Claim7 := { stood := { row := diagramRunUptoRow, standIns := [], harness := (true, "d8aa5ec5ba0d113cc2fd311f426b6a16b6961a30ff56c2fe5074ad33013962b2"), looks := false }, kinds := [], alts := [], laidByText := true, laidKinds := [.data, .data, .data], laidTests := true, laidLooks := .later }
def DiagramRunUptoCardSaid : Prop := Claim7.holds Tryd.pinned (.plain (OpenSpec.upto diagramRunSpec)) diagramRunUptoCard
end Rows
end Go.Proofs.YtgfnhpadmifiiaaDoor
