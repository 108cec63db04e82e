/-
  DERIVED. GIVEN WITH THE SEED: THE CARDS: each row of YtamgbanmnededaaDoorRows.lean that lists a variable, with what it lists TIED to the program's text (the seventh form; the later family's looks); each row that meets fmt, with fmt's text TOLD by the authors' own Lean function (tested against real Go, not proved from fmt's source: count such statements apart). THE CARD IS WHAT COUNTS. Prove the row's statement (the work); the ties are given (YtamgbanmnededaaDoorTie.lean); close each card by the builder's one call (the guide's Derived/Test/ToyasCard.lean, 'card_holds'). Laid BY PROGRAM, IN A SANDBOX (cutbox-door.mjs). By AI agents, Wed Nov 11 2026. No macro, syntax, notation, axiom, sorry.
-/
import Derived.Test.YtamgbanmnededaaDoorRows
import GoSem.ClaimSeven
namespace Go.Proofs.YtamgbanmnededaaDoor
namespace Rows

/-- THE TIED CARD OF 'treatylaw05.LexerNames'. -/
def lexerNamesCard : Claim7 := { stood := { row := lexerNamesRow, standIns := [], harness := (true, "aa6304b70137c42c20da43bbcf4567f28ecf04db15d933dac5bc0d15ec6b00d9"), looks := false }, kinds := [], alts := [], laidByText := true, laidKinds := [.data], laidTests := true, laidLooks := .later }
def LexerNamesCardSaid : Prop := Claim7.holds Tryd.pinned (.plain (OpenSpec.ofChange lexerNamesSpec)) lexerNamesCard

/-- THE TIED CARD OF 'treatylaw05.LexerSpaces'. -/
def lexerSpacesCard : Claim7 := { stood := { row := lexerSpacesRow, standIns := [], harness := (true, "aa6304b70137c42c20da43bbcf4567f28ecf04db15d933dac5bc0d15ec6b00d9"), looks := false }, kinds := [], alts := [], laidByText := true, laidKinds := [.data], laidTests := true, laidLooks := .later }
def LexerSpacesCardSaid : Prop := Claim7.holds Tryd.pinned (.plain (OpenSpec.ofChange lexerSpacesSpec)) lexerSpacesCard

/-- THE TIED CARD OF 'treatylaw05.LexerLimits'. -/
def lexerLimitsCard : Claim7 := { stood := { row := lexerLimitsRow, standIns := [], harness := (true, "aa6304b70137c42c20da43bbcf4567f28ecf04db15d933dac5bc0d15ec6b00d9"), looks := false }, kinds := [], alts := [], laidByText := true, laidKinds := [.data], laidTests := true, laidLooks := .later }
def LexerLimitsCardSaid : Prop := Claim7.holds Tryd.pinned (.plain (OpenSpec.ofChange lexerLimitsSpec)) lexerLimitsCard

/-- THE TIED CARD OF 'treatylaw05.LexerJoin'. -/
def lexerJoinCard : Claim7 := { stood := { row := lexerJoinRow, standIns := [], harness := (true, "aa6304b70137c42c20da43bbcf4567f28ecf04db15d933dac5bc0d15ec6b00d9"), looks := false }, kinds := [], alts := [], laidByText := true, laidKinds := [.data, .data, .data, .data], laidTests := true, laidLooks := .later }
def LexerJoinCardSaid : Prop := Claim7.holds Tryd.pinned (.plain (OpenSpec.ofChange lexerJoinSpec)) lexerJoinCard

/-- THE TIED CARD OF 'treatylaw05.LexerBack'. -/
def lexerBackCard : Claim7 := { stood := { row := lexerBackRow, standIns := [], harness := (true, "aa6304b70137c42c20da43bbcf4567f28ecf04db15d933dac5bc0d15ec6b00d9"), looks := false }, kinds := [], alts := [], laidByText := true, laidKinds := [.data, .data, .data, .data], laidTests := true, laidLooks := .later }
def LexerBackCardSaid : Prop := Claim7.holds Tryd.pinned (.plain (OpenSpec.ofChange lexerBackSpec)) lexerBackCard

/-- THE TIED CARD OF 'treatylaw05.LexerOnce'. -/
def lexerOnceCard : Claim7 := { stood := { row := lexerOnceRow, standIns := [], harness := (true, "aa6304b70137c42c20da43bbcf4567f28ecf04db15d933dac5bc0d15ec6b00d9"), looks := false }, kinds := [], alts := [], laidByText := true, laidKinds := [.data, .data, .data, .data], laidTests := true, laidLooks := .later }
def LexerOnceCardSaid : Prop := Claim7.holds Tryd.pinned (.plain (OpenSpec.ofChange lexerOnceSpec)) lexerOnceCard

/-- THE SECOND FORM's CARD OF 'treatylaw05.LexerNames'. -/
def lexerNamesUptoCard : Claim7 := { stood := { row := lexerNamesUptoRow, standIns := [], harness := (true, "aa6304b70137c42c20da43bbcf4567f28ecf04db15d933dac5bc0d15ec6b00d9"), looks := false }, kinds := [], alts := [], laidByText := true, laidKinds := [.data], laidTests := true, laidLooks := .later }
def LexerNamesUptoCardSaid : Prop := Claim7.holds Tryd.pinned (.plain (OpenSpec.upto lexerNamesSpec)) lexerNamesUptoCard

/-- THE SECOND FORM's CARD OF 'treatylaw05.LexerSpaces'. -/
def lexerSpacesUptoCard : Claim7 := { stood := { row := lexerSpacesUptoRow, standIns := [], harness := (true, "aa6304b70137c42c20da43bbcf4567f28ecf04db15d933dac5bc0d15ec6b00d9"), looks := false }, kinds := [], alts := [], laidByText := true, laidKinds := [.data], laidTests := true, laidLooks := .later }
def LexerSpacesUptoCardSaid : Prop := Claim7.holds Tryd.pinned (.plain (OpenSpec.upto lexerSpacesSpec)) lexerSpacesUptoCard

/-- THE SECOND FORM's CARD OF 'treatylaw05.LexerLimits'. -/
def lexerLimitsUptoCard : Claim7 := { stood := { row := lexerLimitsUptoRow, standIns := [], harness := (true, "aa6304b70137c42c20da43bbcf4567f28ecf04db15d933dac5bc0d15ec6b00d9"), looks := false }, kinds := [], alts := [], laidByText := true, laidKinds := [.data], laidTests := true, laidLooks := .later }
def LexerLimitsUptoCardSaid : Prop := Claim7.holds Tryd.pinned (.plain (OpenSpec.upto lexerLimitsSpec)) lexerLimitsUptoCard

/-- THE SECOND FORM's CARD OF 'treatylaw05.LexerJoin'. -/
def lexerJoinUptoCard : Claim7 := { stood := { row := lexerJoinUptoRow, standIns := [], harness := (true, "aa6304b70137c42c20da43bbcf4567f28ecf04db15d933dac5bc0d15ec6b00d9"), looks := false }, kinds := [], alts := [], laidByText := true, laidKinds := [.data, .data, .data, .data], laidTests := true, laidLooks := .later }
def LexerJoinUptoCardSaid : Prop := Claim7.holds Tryd.pinned (.plain (OpenSpec.upto lexerJoinSpec)) lexerJoinUptoCard

/-- THE SECOND FORM's CARD OF 'treatylaw05.LexerBack'. -/
def lexerBackUptoCard : Claim7 := { stood := { row := lexerBackUptoRow, standIns := [], harness := (true, "aa6304b70137c42c20da43bbcf4567f28ecf04db15d933dac5bc0d15ec6b00d9"), looks := false }, kinds := [], alts := [], laidByText := true, laidKinds := [.data, .data, .data, .data], laidTests := true, laidLooks := .later }
def LexerBackUptoCardSaid : Prop := Claim7.holds Tryd.pinned (.plain (OpenSpec.upto lexerBackSpec)) lexerBackUptoCard

/-- THE SECOND FORM's CARD OF 'treatylaw05.LexerOnce'. -/
def lexerOnceUptoCard : Claim7 := { stood := { row := lexerOnceUptoRow, standIns := [], harness := (true, "aa6304b70137c42c20da43bbcf4567f28ecf04db15d933dac5bc0d15ec6b00d9"), looks := false }, kinds := [], alts := [], laidByText := true, laidKinds := [.data, .data, .data, .data], laidTests := true, laidLooks := .later }
def LexerOnceUptoCardSaid : Prop := Claim7.holds Tryd.pinned (.plain (OpenSpec.upto lexerOnceSpec)) lexerOnceUptoCard
end Rows
end Go.Proofs.YtamgbanmnededaaDoor
