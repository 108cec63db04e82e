/-
  No cell of these rows narrows 'for every input' (looked for: loops, veiled, ifaces, maps, wideKeys, modest, calm, conditions, laid).
  DERIVED. THE GIVEN ROWS OF THIS SEAT. 6 by the template 'for every input the law returns true; each argument reads behind the call as it read before'; 0 by the template 'total and deterministic' (their statements: YtbghnjkieghloaaTotals.lean).
  GIVEN WITH THE SEED: the statements are not yours to turn. If you find one false, say at which input.
  Laid BY PROGRAM, IN A SANDBOX (cutbox-rows.mjs): the forced cells as the released guide's own fill.sh prints them over the translation 71e2b8e2cf189617… (all of the seat's roots in one cut). By AI agents, Wed Nov 11 2026. No macro, syntax, notation, axiom, sorry.
-/
import Derived.Test.YtbghnjkieghloaaChecked
import GoSem.Claim
import GoSem.ClaimJoined
import GoSem.ClaimMapViews
import Derived.JoinedTies
import Derived.KernelRfl
namespace Go.Proofs.Ytbghnjkieghloaa
/- THE CELL 'sum', in the pinned program and in every row, IS THE sha256 OF THE DUMP (.gsa) THAT YtbghnjkieghloaaProg.lean LOADS. Nothing in Lean hashes anything: it is a label: what it is worth is what the hold of that sum in a sandbox is worth. -/
noncomputable def Try.pinned : Pinned := { name := "ytbghnjkieghloaa", sum := "71e2b8e2cf1896177531753f5e7ef7e5f94ed5f2e3b03c83d6f0e1912711f956", checked := Try.checked }
namespace Rows
def none {H : Type} : Left H := { results := [], args := [] }

/-- 'treatylaw40.CodecNumber': WHATEVER THE INPUT: true; the input reads as it did. -/
def codecNumberSpec : ChangeSpec := { name := "codecNumber", fn := fun _ => fun
  | [d1, d2, d3] => { results := [.lit (.bool true)], args := [d1, d2, d3] }
  | _ => none }
def codecNumberRow : OpenClaim := { program := "ytbghnjkieghloaa", sum := "71e2b8e2cf1896177531753f5e7ef7e5f94ed5f2e3b03c83d6f0e1912711f956", func := "treaty/treatylaw40.CodecNumber", spec := "codecNumber", apart := false }
def CodecNumberSaid : Prop := codecNumberRow.holds Try.pinned (OpenSpec.ofChange codecNumberSpec)

/-- ITS FALSE NEIGHBOUR: 'it returns false'. Refute it at one input. -/
def codecNumberWrong : ChangeSpec := { name := "codecNumber", fn := fun _ => fun
  | [d1, d2, d3] => { results := [.lit (.bool false)], args := [d1, d2, d3] }
  | _ => none }
def CodecNumberWrongFalsely : Prop := codecNumberRow.holds Try.pinned (OpenSpec.ofChange codecNumberWrong)

/-- 'treatylaw40.CodecNumbers': WHATEVER THE INPUT: true; the input reads as it did. -/
def codecNumbersSpec : ChangeSpec := { name := "codecNumbers", fn := fun _ => fun
  | [d1, d2] => { results := [.lit (.bool true)], args := [d1, d2] }
  | _ => none }
def codecNumbersRow : OpenClaim := { program := "ytbghnjkieghloaa", sum := "71e2b8e2cf1896177531753f5e7ef7e5f94ed5f2e3b03c83d6f0e1912711f956", func := "treaty/treatylaw40.CodecNumbers", spec := "codecNumbers", apart := false }
def CodecNumbersSaid : Prop := codecNumbersRow.holds Try.pinned (OpenSpec.ofChange codecNumbersSpec)

/-- ITS FALSE NEIGHBOUR: 'it returns false'. Refute it at one input. -/
def codecNumbersWrong : ChangeSpec := { name := "codecNumbers", fn := fun _ => fun
  | [d1, d2] => { results := [.lit (.bool false)], args := [d1, d2] }
  | _ => none }
def CodecNumbersWrongFalsely : Prop := codecNumbersRow.holds Try.pinned (OpenSpec.ofChange codecNumbersWrong)

/-- 'treatylaw40.CodecCommand': WHATEVER THE INPUT: true; the input reads as it did. -/
def codecCommandSpec : ChangeSpec := { name := "codecCommand", fn := fun _ => fun
  | [d1, d2, d3, d4, d5] => { results := [.lit (.bool true)], args := [d1, d2, d3, d4, d5] }
  | _ => none }
def codecCommandRow : OpenClaim := { program := "ytbghnjkieghloaa", sum := "71e2b8e2cf1896177531753f5e7ef7e5f94ed5f2e3b03c83d6f0e1912711f956", func := "treaty/treatylaw40.CodecCommand", spec := "codecCommand", apart := false }
def CodecCommandSaid : Prop := codecCommandRow.holds Try.pinned (OpenSpec.ofChange codecCommandSpec)

/-- ITS FALSE NEIGHBOUR: 'it returns false'. Refute it at one input. -/
def codecCommandWrong : ChangeSpec := { name := "codecCommand", fn := fun _ => fun
  | [d1, d2, d3, d4, d5] => { results := [.lit (.bool false)], args := [d1, d2, d3, d4, d5] }
  | _ => none }
def CodecCommandWrongFalsely : Prop := codecCommandRow.holds Try.pinned (OpenSpec.ofChange codecCommandWrong)

/-- 'treatylaw40.CodecBordereau': WHATEVER THE INPUT: true; the input reads as it did. -/
def codecBordereauSpec : ChangeSpec := { name := "codecBordereau", fn := fun _ => fun
  | [d1, d2, d3, d4, d5] => { results := [.lit (.bool true)], args := [d1, d2, d3, d4, d5] }
  | _ => none }
def codecBordereauRow : OpenClaim := { program := "ytbghnjkieghloaa", sum := "71e2b8e2cf1896177531753f5e7ef7e5f94ed5f2e3b03c83d6f0e1912711f956", func := "treaty/treatylaw40.CodecBordereau", spec := "codecBordereau", apart := false }
def CodecBordereauSaid : Prop := codecBordereauRow.holds Try.pinned (OpenSpec.ofChange codecBordereauSpec)

/-- ITS FALSE NEIGHBOUR: 'it returns false'. Refute it at one input. -/
def codecBordereauWrong : ChangeSpec := { name := "codecBordereau", fn := fun _ => fun
  | [d1, d2, d3, d4, d5] => { results := [.lit (.bool false)], args := [d1, d2, d3, d4, d5] }
  | _ => none }
def CodecBordereauWrongFalsely : Prop := codecBordereauRow.holds Try.pinned (OpenSpec.ofChange codecBordereauWrong)

/-- 'treatylaw40.CodecRoundTrip': WHATEVER THE INPUT: true; the input reads as it did. -/
def codecRoundTripSpec : ChangeSpec := { name := "codecRoundTrip", fn := fun _ => fun
  | [d1, d2, d3] => { results := [.lit (.bool true)], args := [d1, d2, d3] }
  | _ => none }
def codecRoundTripRow : OpenClaim := { program := "ytbghnjkieghloaa", sum := "71e2b8e2cf1896177531753f5e7ef7e5f94ed5f2e3b03c83d6f0e1912711f956", func := "treaty/treatylaw40.CodecRoundTrip", spec := "codecRoundTrip", apart := false }
def CodecRoundTripSaid : Prop := codecRoundTripRow.holds Try.pinned (OpenSpec.ofChange codecRoundTripSpec)

/-- ITS FALSE NEIGHBOUR: 'it returns false'. Refute it at one input. -/
def codecRoundTripWrong : ChangeSpec := { name := "codecRoundTrip", fn := fun _ => fun
  | [d1, d2, d3] => { results := [.lit (.bool false)], args := [d1, d2, d3] }
  | _ => none }
def CodecRoundTripWrongFalsely : Prop := codecRoundTripRow.holds Try.pinned (OpenSpec.ofChange codecRoundTripWrong)

/-- 'treatylaw40.CodecUnique': WHATEVER THE INPUT: true; the input reads as it did. -/
def codecUniqueSpec : ChangeSpec := { name := "codecUnique", fn := fun _ => fun
  | [d1, d2, d3, d4] => { results := [.lit (.bool true)], args := [d1, d2, d3, d4] }
  | _ => none }
def codecUniqueRow : OpenClaim := { program := "ytbghnjkieghloaa", sum := "71e2b8e2cf1896177531753f5e7ef7e5f94ed5f2e3b03c83d6f0e1912711f956", func := "treaty/treatylaw40.CodecUnique", spec := "codecUnique", apart := false }
def CodecUniqueSaid : Prop := codecUniqueRow.holds Try.pinned (OpenSpec.ofChange codecUniqueSpec)

/-- ITS FALSE NEIGHBOUR: 'it returns false'. Refute it at one input. -/
def codecUniqueWrong : ChangeSpec := { name := "codecUnique", fn := fun _ => fun
  | [d1, d2, d3, d4] => { results := [.lit (.bool false)], args := [d1, d2, d3, d4] }
  | _ => none }
def CodecUniqueWrongFalsely : Prop := codecUniqueRow.holds Try.pinned (OpenSpec.ofChange codecUniqueWrong)

/- THE SECOND FORM. 'bulk': how many values and letters a reading holds, each counted each time it is reached (what is shared counts as often as it is met; a slice's spare places count too). A statement '..UptoSaid' is the law's where the arguments, and the package variables that the reading takes, are together of bulk at most 1048576: NARROWER than '..Said'. Prove '..Said' where nothing that the law and all that it calls make is longer than what came in: it says more and counts as full. Else prove '..UptoSaid'. A law counts once. -/
mutual
def uptoBulk {H : Type} : DataW H → Nat
  | .lit (.string bytes) => bytes.length + 1
  | .lit _ => 1
  | .nil => 1
  | .ptr d => uptoBulk d + 1
  | .slice elems spare => uptoBulkAll elems + uptoBulkAll spare + 1
  | .agg parts => uptoBulkAll parts + 1
  | .iface _ d => uptoBulk d + 1
  | .map entries => uptoBulkEntries entries + 1
  | .held _ => 1
def uptoBulkAll {H : Type} : List (DataW H) → Nat
  | [] => 0
  | d :: r => uptoBulk d + uptoBulkAll r
def uptoBulkEntries {H : Type} : List (Lit × DataW H) → Nat
  | [] => 0
  | x :: r => uptoBulkEntry x + uptoBulkEntries r
def uptoBulkEntry {H : Type} : Lit × DataW H → Nat
  | (.string bytes, d) => bytes.length + uptoBulk d + 1
  | (_, d) => uptoBulk d + 1
 end
def uptoSmall : (H : Type) → List (DataW H) → Bool := fun _ ds => decide (uptoBulkAll ds ≤ 1048576)
def OpenSpec.upto (s : _root_.Go.ChangeSpec) : _root_.Go.OpenSpec := { _root_.Go.OpenSpec.ofChange s with cond := some uptoSmall }

/-- 'treatylaw40.CodecNumber', WHERE WHAT IT READS IS OF BULK AT MOST 1048576: true; the input reads as it did. -/
def codecNumberUptoRow : OpenClaim := { program := "ytbghnjkieghloaa", sum := "71e2b8e2cf1896177531753f5e7ef7e5f94ed5f2e3b03c83d6f0e1912711f956", func := "treaty/treatylaw40.CodecNumber", spec := "codecNumber", apart := false, narrowed := true }
def CodecNumberUptoSaid : Prop := codecNumberUptoRow.holds Try.pinned (OpenSpec.upto codecNumberSpec)

/-- 'treatylaw40.CodecNumbers', WHERE WHAT IT READS IS OF BULK AT MOST 1048576: true; the input reads as it did. -/
def codecNumbersUptoRow : OpenClaim := { program := "ytbghnjkieghloaa", sum := "71e2b8e2cf1896177531753f5e7ef7e5f94ed5f2e3b03c83d6f0e1912711f956", func := "treaty/treatylaw40.CodecNumbers", spec := "codecNumbers", apart := false, narrowed := true }
def CodecNumbersUptoSaid : Prop := codecNumbersUptoRow.holds Try.pinned (OpenSpec.upto codecNumbersSpec)

/-- 'treatylaw40.CodecCommand', WHERE WHAT IT READS IS OF BULK AT MOST 1048576: true; the input reads as it did. -/
def codecCommandUptoRow : OpenClaim := { program := "ytbghnjkieghloaa", sum := "71e2b8e2cf1896177531753f5e7ef7e5f94ed5f2e3b03c83d6f0e1912711f956", func := "treaty/treatylaw40.CodecCommand", spec := "codecCommand", apart := false, narrowed := true }
def CodecCommandUptoSaid : Prop := codecCommandUptoRow.holds Try.pinned (OpenSpec.upto codecCommandSpec)

/-- 'treatylaw40.CodecBordereau', WHERE WHAT IT READS IS OF BULK AT MOST 1048576: true; the input reads as it did. -/
def codecBordereauUptoRow : OpenClaim := { program := "ytbghnjkieghloaa", sum := "71e2b8e2cf1896177531753f5e7ef7e5f94ed5f2e3b03c83d6f0e1912711f956", func := "treaty/treatylaw40.CodecBordereau", spec := "codecBordereau", apart := false, narrowed := true }
def CodecBordereauUptoSaid : Prop := codecBordereauUptoRow.holds Try.pinned (OpenSpec.upto codecBordereauSpec)

/-- 'treatylaw40.CodecRoundTrip', WHERE WHAT IT READS IS OF BULK AT MOST 1048576: true; the input reads as it did. -/
def codecRoundTripUptoRow : OpenClaim := { program := "ytbghnjkieghloaa", sum := "71e2b8e2cf1896177531753f5e7ef7e5f94ed5f2e3b03c83d6f0e1912711f956", func := "treaty/treatylaw40.CodecRoundTrip", spec := "codecRoundTrip", apart := false, narrowed := true }
def CodecRoundTripUptoSaid : Prop := codecRoundTripUptoRow.holds Try.pinned (OpenSpec.upto codecRoundTripSpec)

/-- 'treatylaw40.CodecUnique', WHERE WHAT IT READS IS OF BULK AT MOST 1048576: true; the input reads as it did. -/
def codecUniqueUptoRow : OpenClaim := { program := "ytbghnjkieghloaa", sum := "71e2b8e2cf1896177531753f5e7ef7e5f94ed5f2e3b03c83d6f0e1912711f956", func := "treaty/treatylaw40.CodecUnique", spec := "codecUnique", apart := false, narrowed := true }
def CodecUniqueUptoSaid : Prop := codecUniqueUptoRow.holds Try.pinned (OpenSpec.upto codecUniqueSpec)

end Rows
end Go.Proofs.Ytbghnjkieghloaa
