/-
  DERIVED. GIVEN WITH THE SEED: THE CARDS: each row of YtnhgeocdffhkjaaDoorRows.lean that lists a variable, with what it lists TIED to the program's text (the seventh form; the later family's looks); each row that meets fmt, with fmt's text TOLD by the authors' own Lean function (tested against real Go, not proved from fmt's source: count such statements apart). THE CARD IS WHAT COUNTS. Prove the row's statement (the work); the ties are given (YtnhgeocdffhkjaaDoorTie.lean); close each card by the builder's one call (the guide's Derived/Test/ToyasCard.lean, 'card_holds'). Laid BY PROGRAM, IN A SANDBOX (cutbox-door.mjs). By AI agents, Wed Nov 11 2026. No macro, syntax, notation, axiom, sorry.
-/
import Derived.Test.YtnhgeocdffhkjaaDoorRows
import GoSem.ClaimSeven
namespace Go.Proofs.YtnhgeocdffhkjaaDoor
namespace Rows

/-- THE TIED CARD OF 'treatylaw08.WordingNested'. -/
def wordingNestedCard : Claim7 := { stood := { row := wordingNestedRow, standIns := [], harness := (true, "3c3da000d1df9524d65d90c834101a4004ae7f3e41fe330b0d592a26923e82b3"), looks := true }, kinds := [], alts := [], laidByText := true, laidKinds := [.data, .data], laidTests := true, laidLooks := .later }
def WordingNestedCardSaid : Prop := Claim7.holds Tryd.pinned (.plain (OpenSpec.ofChange wordingNestedSpec)) wordingNestedCard

/-- THE SECOND FORM's CARD OF 'treatylaw08.WordingNested'. -/
def wordingNestedUptoCard : Claim7 := { stood := { row := wordingNestedUptoRow, standIns := [], harness := (true, "3c3da000d1df9524d65d90c834101a4004ae7f3e41fe330b0d592a26923e82b3"), looks := true }, kinds := [], alts := [], laidByText := true, laidKinds := [.data, .data], laidTests := true, laidLooks := .later }
def WordingNestedUptoCardSaid : Prop := Claim7.holds Tryd.pinned (.plain (OpenSpec.upto wordingNestedSpec)) wordingNestedUptoCard
end Rows
end Go.Proofs.YtnhgeocdffhkjaaDoor
