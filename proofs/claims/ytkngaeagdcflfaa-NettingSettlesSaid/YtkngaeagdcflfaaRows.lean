/-
  No cell of these rows narrows 'for every input' (looked for: loops, veiled, ifaces, maps, wideKeys, modest, calm, conditions, laid).
  DERIVED. THE GIVEN ROWS OF THIS SEAT. 5 by the template 'for every input the law returns true; each argument reads behind the call as it read before'; 0 by the template 'total and deterministic' (their statements: YtkngaeagdcflfaaTotals.lean).
  GIVEN WITH THE SEED: the statements are not yours to turn. If you find one false, say at which input.
  Laid BY PROGRAM, IN A SANDBOX (cutbox-rows.mjs): the forced cells as the released guide's own fill.sh prints them over the translation fc8164732a1c754c… (all of the seat's roots in one cut). By AI agents, Wed Nov 11 2026. No macro, syntax, notation, axiom, sorry.
-/
import Derived.Test.YtkngaeagdcflfaaChecked
import GoSem.Claim
import GoSem.ClaimJoined
import GoSem.ClaimMapViews
import Derived.JoinedTies
import Derived.KernelRfl
namespace Go.Proofs.Ytkngaeagdcflfaa
/- THE CELL 'sum', in the pinned program and in every row, IS THE sha256 OF THE DUMP (.gsa) THAT YtkngaeagdcflfaaProg.lean LOADS. Nothing in Lean hashes anything: it is a label: what it is worth is what the hold of that sum in a sandbox is worth. -/
noncomputable def Try.pinned : Pinned := { name := "ytkngaeagdcflfaa", sum := "fc8164732a1c754ca9916f04c4b3929f12d19de7092243473e2f21860df8ea92", checked := Try.checked }
namespace Rows
def none {H : Type} : Left H := { results := [], args := [] }

/-- 'treatylaw35.NettingOffset': WHATEVER THE INPUT: true; the input reads as it did. -/
def nettingOffsetSpec : ChangeSpec := { name := "nettingOffset", fn := fun _ => fun
  | [d1, d2] => { results := [.lit (.bool true)], args := [d1, d2] }
  | _ => none }
def nettingOffsetRow : OpenClaim := { program := "ytkngaeagdcflfaa", sum := "fc8164732a1c754ca9916f04c4b3929f12d19de7092243473e2f21860df8ea92", func := "treaty/treatylaw35.NettingOffset", spec := "nettingOffset", unfollowed := true, recurses := true, apart := false }
def NettingOffsetSaid : Prop := nettingOffsetRow.holds Try.pinned (OpenSpec.ofChange nettingOffsetSpec)

/-- ITS FALSE NEIGHBOUR: 'it returns false'. Refute it at one input. -/
def nettingOffsetWrong : ChangeSpec := { name := "nettingOffset", fn := fun _ => fun
  | [d1, d2] => { results := [.lit (.bool false)], args := [d1, d2] }
  | _ => none }
def NettingOffsetWrongFalsely : Prop := nettingOffsetRow.holds Try.pinned (OpenSpec.ofChange nettingOffsetWrong)

/-- 'treatylaw35.NettingPayments': WHATEVER THE INPUT: true; the input reads as it did. -/
def nettingPaymentsSpec : ChangeSpec := { name := "nettingPayments", fn := fun _ => fun
  | [d1, d2] => { results := [.lit (.bool true)], args := [d1, d2] }
  | _ => none }
def nettingPaymentsRow : OpenClaim := { program := "ytkngaeagdcflfaa", sum := "fc8164732a1c754ca9916f04c4b3929f12d19de7092243473e2f21860df8ea92", func := "treaty/treatylaw35.NettingPayments", spec := "nettingPayments", unfollowed := true, recurses := true, apart := false }
def NettingPaymentsSaid : Prop := nettingPaymentsRow.holds Try.pinned (OpenSpec.ofChange nettingPaymentsSpec)

/-- ITS FALSE NEIGHBOUR: 'it returns false'. Refute it at one input. -/
def nettingPaymentsWrong : ChangeSpec := { name := "nettingPayments", fn := fun _ => fun
  | [d1, d2] => { results := [.lit (.bool false)], args := [d1, d2] }
  | _ => none }
def NettingPaymentsWrongFalsely : Prop := nettingPaymentsRow.holds Try.pinned (OpenSpec.ofChange nettingPaymentsWrong)

/-- 'treatylaw35.NettingPositions': WHATEVER THE INPUT: true; the input reads as it did. -/
def nettingPositionsSpec : ChangeSpec := { name := "nettingPositions", fn := fun _ => fun
  | [d1, d2] => { results := [.lit (.bool true)], args := [d1, d2] }
  | _ => none }
def nettingPositionsRow : OpenClaim := { program := "ytkngaeagdcflfaa", sum := "fc8164732a1c754ca9916f04c4b3929f12d19de7092243473e2f21860df8ea92", func := "treaty/treatylaw35.NettingPositions", spec := "nettingPositions", unfollowed := true, recurses := true, apart := false }
def NettingPositionsSaid : Prop := nettingPositionsRow.holds Try.pinned (OpenSpec.ofChange nettingPositionsSpec)

/-- ITS FALSE NEIGHBOUR: 'it returns false'. Refute it at one input. -/
def nettingPositionsWrong : ChangeSpec := { name := "nettingPositions", fn := fun _ => fun
  | [d1, d2] => { results := [.lit (.bool false)], args := [d1, d2] }
  | _ => none }
def NettingPositionsWrongFalsely : Prop := nettingPositionsRow.holds Try.pinned (OpenSpec.ofChange nettingPositionsWrong)

/-- 'treatylaw35.NettingPreserves': WHATEVER THE INPUT: true; the input reads as it did. -/
def nettingPreservesSpec : ChangeSpec := { name := "nettingPreserves", fn := fun _ => fun
  | [d] => { results := [.lit (.bool true)], args := [d] }
  | _ => none }
def nettingPreservesRow : OpenClaim := { program := "ytkngaeagdcflfaa", sum := "fc8164732a1c754ca9916f04c4b3929f12d19de7092243473e2f21860df8ea92", func := "treaty/treatylaw35.NettingPreserves", spec := "nettingPreserves", unfollowed := true, recurses := true, apart := false }
def NettingPreservesSaid : Prop := nettingPreservesRow.holds Try.pinned (OpenSpec.ofChange nettingPreservesSpec)

/-- ITS FALSE NEIGHBOUR: 'it returns false'. Refute it at one input. -/
def nettingPreservesWrong : ChangeSpec := { name := "nettingPreserves", fn := fun _ => fun
  | [d] => { results := [.lit (.bool false)], args := [d] }
  | _ => none }
def NettingPreservesWrongFalsely : Prop := nettingPreservesRow.holds Try.pinned (OpenSpec.ofChange nettingPreservesWrong)

/-- 'treatylaw35.NettingSettles': WHATEVER THE INPUT: true; the input reads as it did. -/
def nettingSettlesSpec : ChangeSpec := { name := "nettingSettles", fn := fun _ => fun
  | [d] => { results := [.lit (.bool true)], args := [d] }
  | _ => none }
def nettingSettlesRow : OpenClaim := { program := "ytkngaeagdcflfaa", sum := "fc8164732a1c754ca9916f04c4b3929f12d19de7092243473e2f21860df8ea92", func := "treaty/treatylaw35.NettingSettles", spec := "nettingSettles", unfollowed := true, recurses := true, apart := false }
def NettingSettlesSaid : Prop := nettingSettlesRow.holds Try.pinned (OpenSpec.ofChange nettingSettlesSpec)

/-- ITS FALSE NEIGHBOUR: 'it returns false'. Refute it at one input. -/
def nettingSettlesWrong : ChangeSpec := { name := "nettingSettles", fn := fun _ => fun
  | [d] => { results := [.lit (.bool false)], args := [d] }
  | _ => none }
def NettingSettlesWrongFalsely : Prop := nettingSettlesRow.holds Try.pinned (OpenSpec.ofChange nettingSettlesWrong)

/- THE SECOND FORM. 'bulk': how many values and letters a reading holds, each counted each time it is reached (what is shared counts as often as it is met; a slice's spare places count too). A statement '..UptoSaid' is the law's where the arguments, and the package variables that the reading takes, are together of bulk at most 1048576: NARROWER than '..Said'. Prove '..Said' where nothing that the law and all that it calls make is longer than what came in: it says more and counts as full. Else prove '..UptoSaid'. A law counts once. -/
mutual
def uptoBulk {H : Type} : DataW H → Nat
  | .lit (.string bytes) => bytes.length + 1
  | .lit _ => 1
  | .nil => 1
  | .ptr d => uptoBulk d + 1
  | .slice elems spare => uptoBulkAll elems + uptoBulkAll spare + 1
  | .agg parts => uptoBulkAll parts + 1
  | .iface _ d => uptoBulk d + 1
  | .map entries => uptoBulkEntries entries + 1
  | .held _ => 1
def uptoBulkAll {H : Type} : List (DataW H) → Nat
  | [] => 0
  | d :: r => uptoBulk d + uptoBulkAll r
def uptoBulkEntries {H : Type} : List (Lit × DataW H) → Nat
  | [] => 0
  | x :: r => uptoBulkEntry x + uptoBulkEntries r
def uptoBulkEntry {H : Type} : Lit × DataW H → Nat
  | (.string bytes, d) => bytes.length + uptoBulk d + 1
  | (_, d) => uptoBulk d + 1
 end
def uptoSmall : (H : Type) → List (DataW H) → Bool := fun _ ds => decide (uptoBulkAll ds ≤ 1048576)
def OpenSpec.upto (s : _root_.Go.ChangeSpec) : _root_.Go.OpenSpec := { _root_.Go.OpenSpec.ofChange s with cond := some uptoSmall }

/-- 'treatylaw35.NettingOffset', WHERE WHAT IT READS IS OF BULK AT MOST 1048576: true; the input reads as it did. -/
def nettingOffsetUptoRow : OpenClaim := { program := "ytkngaeagdcflfaa", sum := "fc8164732a1c754ca9916f04c4b3929f12d19de7092243473e2f21860df8ea92", func := "treaty/treatylaw35.NettingOffset", spec := "nettingOffset", unfollowed := true, recurses := true, apart := false, narrowed := true }
def NettingOffsetUptoSaid : Prop := nettingOffsetUptoRow.holds Try.pinned (OpenSpec.upto nettingOffsetSpec)

/-- 'treatylaw35.NettingPayments', WHERE WHAT IT READS IS OF BULK AT MOST 1048576: true; the input reads as it did. -/
def nettingPaymentsUptoRow : OpenClaim := { program := "ytkngaeagdcflfaa", sum := "fc8164732a1c754ca9916f04c4b3929f12d19de7092243473e2f21860df8ea92", func := "treaty/treatylaw35.NettingPayments", spec := "nettingPayments", unfollowed := true, recurses := true, apart := false, narrowed := true }
def NettingPaymentsUptoSaid : Prop := nettingPaymentsUptoRow.holds Try.pinned (OpenSpec.upto nettingPaymentsSpec)

/-- 'treatylaw35.NettingPositions', WHERE WHAT IT READS IS OF BULK AT MOST 1048576: true; the input reads as it did. -/
def nettingPositionsUptoRow : OpenClaim := { program := "ytkngaeagdcflfaa", sum := "fc8164732a1c754ca9916f04c4b3929f12d19de7092243473e2f21860df8ea92", func := "treaty/treatylaw35.NettingPositions", spec := "nettingPositions", unfollowed := true, recurses := true, apart := false, narrowed := true }
def NettingPositionsUptoSaid : Prop := nettingPositionsUptoRow.holds Try.pinned (OpenSpec.upto nettingPositionsSpec)

/-- 'treatylaw35.NettingPreserves', WHERE WHAT IT READS IS OF BULK AT MOST 1048576: true; the input reads as it did. -/
def nettingPreservesUptoRow : OpenClaim := { program := "ytkngaeagdcflfaa", sum := "fc8164732a1c754ca9916f04c4b3929f12d19de7092243473e2f21860df8ea92", func := "treaty/treatylaw35.NettingPreserves", spec := "nettingPreserves", unfollowed := true, recurses := true, apart := false, narrowed := true }
def NettingPreservesUptoSaid : Prop := nettingPreservesUptoRow.holds Try.pinned (OpenSpec.upto nettingPreservesSpec)

/-- 'treatylaw35.NettingSettles', WHERE WHAT IT READS IS OF BULK AT MOST 1048576: true; the input reads as it did. -/
def nettingSettlesUptoRow : OpenClaim := { program := "ytkngaeagdcflfaa", sum := "fc8164732a1c754ca9916f04c4b3929f12d19de7092243473e2f21860df8ea92", func := "treaty/treatylaw35.NettingSettles", spec := "nettingSettles", unfollowed := true, recurses := true, apart := false, narrowed := true }
def NettingSettlesUptoSaid : Prop := nettingSettlesUptoRow.holds Try.pinned (OpenSpec.upto nettingSettlesSpec)

end Rows
end Go.Proofs.Ytkngaeagdcflfaa
