/-
  DERIVED. GIVEN WITH THE SEED: THE CARDS: each row of YtfjhljjginlobaaDoorRows.lean that lists a variable, with what it lists TIED to the program's text (the seventh form; the later family's looks); each row that meets fmt, with fmt's text TOLD by the authors' own Lean function (tested against real Go, not proved from fmt's source: count such statements apart). THE CARD IS WHAT COUNTS. Prove the row's statement (the work); the ties are given (YtfjhljjginlobaaDoorTie.lean); close each card by the builder's one call (the guide's Derived/Test/ToyasCard.lean, 'card_holds'). Laid BY PROGRAM, IN A SANDBOX (cutbox-door.mjs). By AI agents, Wed Nov 11 2026. No macro, syntax, notation, axiom, sorry.
-/
import Derived.Test.YtfjhljjginlobaaDoorRows
import GoSem.ClaimSeven
namespace Go.Proofs.YtfjhljjginlobaaDoor
namespace Rows

/-- THE TIED CARD OF 'treatylaw46.ScriptFormat'. -/
def scriptFormatCard : Claim7 := { stood := { row := scriptFormatRow, standIns := [], harness := (true, "b033d8b160208e755383ac45624aacf17b0ad7b6be3d5d8e837cf3b7d1ab28a8"), looks := false }, kinds := [], alts := [], laidByText := true, laidKinds := [.data, .data, .data, .data], laidTests := true, laidLooks := .later }
def ScriptFormatCardSaid : Prop := Claim7.holds Tryd.pinned (.plain (OpenSpec.ofChange scriptFormatSpec)) scriptFormatCard

/-- THE TIED CARD OF 'treatylaw46.ScriptParse'. -/
def scriptParseCard : Claim7 := { stood := { row := scriptParseRow, standIns := [], harness := (true, "b033d8b160208e755383ac45624aacf17b0ad7b6be3d5d8e837cf3b7d1ab28a8"), looks := false }, kinds := [], alts := [], laidByText := true, laidKinds := [.data, .data, .data, .data], laidTests := true, laidLooks := .later }
def ScriptParseCardSaid : Prop := Claim7.holds Tryd.pinned (.plain (OpenSpec.ofChange scriptParseSpec)) scriptParseCard

/-- THE TIED CARD OF 'treatylaw46.ScriptRoundTrip'. -/
def scriptRoundTripCard : Claim7 := { stood := { row := scriptRoundTripRow, standIns := [], harness := (true, "b033d8b160208e755383ac45624aacf17b0ad7b6be3d5d8e837cf3b7d1ab28a8"), looks := false }, kinds := [], alts := [], laidByText := true, laidKinds := [.data, .data, .data, .data], laidTests := true, laidLooks := .later }
def ScriptRoundTripCardSaid : Prop := Claim7.holds Tryd.pinned (.plain (OpenSpec.ofChange scriptRoundTripSpec)) scriptRoundTripCard

/-- THE TIED CARD OF 'treatylaw46.ScriptUnique'. -/
def scriptUniqueCard : Claim7 := { stood := { row := scriptUniqueRow, standIns := [], harness := (true, "b033d8b160208e755383ac45624aacf17b0ad7b6be3d5d8e837cf3b7d1ab28a8"), looks := false }, kinds := [], alts := [], laidByText := true, laidKinds := [.data, .data, .data, .data], laidTests := true, laidLooks := .later }
def ScriptUniqueCardSaid : Prop := Claim7.holds Tryd.pinned (.plain (OpenSpec.ofChange scriptUniqueSpec)) scriptUniqueCard

/-- THE SECOND FORM's CARD OF 'treatylaw46.ScriptFormat'. -/
def scriptFormatUptoCard : Claim7 := { stood := { row := scriptFormatUptoRow, standIns := [], harness := (true, "b033d8b160208e755383ac45624aacf17b0ad7b6be3d5d8e837cf3b7d1ab28a8"), looks := false }, kinds := [], alts := [], laidByText := true, laidKinds := [.data, .data, .data, .data], laidTests := true, laidLooks := .later }
def ScriptFormatUptoCardSaid : Prop := Claim7.holds Tryd.pinned (.plain (OpenSpec.upto scriptFormatSpec)) scriptFormatUptoCard

/-- THE SECOND FORM's CARD OF 'treatylaw46.ScriptParse'. -/
def scriptParseUptoCard : Claim7 := { stood := { row := scriptParseUptoRow, standIns := [], harness := (true, "b033d8b160208e755383ac45624aacf17b0ad7b6be3d5d8e837cf3b7d1ab28a8"), looks := false }, kinds := [], alts := [], laidByText := true, laidKinds := [.data, .data, .data, .data], laidTests := true, laidLooks := .later }
def ScriptParseUptoCardSaid : Prop := Claim7.holds Tryd.pinned (.plain (OpenSpec.upto scriptParseSpec)) scriptParseUptoCard

/-- THE SECOND FORM's CARD OF 'treatylaw46.ScriptRoundTrip'. -/
def scriptRoundTripUptoCard : Claim7 := { stood := { row := scriptRoundTripUptoRow, standIns := [], harness := (true, "b033d8b160208e755383ac45624aacf17b0ad7b6be3d5d8e837cf3b7d1ab28a8"), looks := false }, kinds := [], alts := [], laidByText := true, laidKinds := [.data, .data, .data, .data], laidTests := true, laidLooks := .later }
def ScriptRoundTripUptoCardSaid : Prop := Claim7.holds Tryd.pinned (.plain (OpenSpec.upto scriptRoundTripSpec)) scriptRoundTripUptoCard

/-- THE SECOND FORM's CARD OF 'treatylaw46.ScriptUnique'. -/
def scriptUniqueUptoCard : Claim7 := { stood := { row := scriptUniqueUptoRow, standIns := [], harness := (true, "b033d8b160208e755383ac45624aacf17b0ad7b6be3d5d8e837cf3b7d1ab28a8"), looks := false }, kinds := [], alts := [], laidByText := true, laidKinds := [.data, .data, .data, .data], laidTests := true, laidLooks := .later }
def ScriptUniqueUptoCardSaid : Prop := Claim7.holds Tryd.pinned (.plain (OpenSpec.upto scriptUniqueSpec)) scriptUniqueUptoCard
end Rows
end Go.Proofs.YtfjhljjginlobaaDoor
