/- The law JournalFrame: for every input the law's call returns true and leaves what was there as it was. -/
import Derived.Test.YtpffhaligaebaaaJ5
import Derived.Test.YtpffhaligaebaaaRows
import Derived.Test.YtpffhaligaebaaaAbsR
import Derived.WalkKit
import Derived.ProofKit
import Derived.OpenShut
import Derived.ShutString
import Derived.ChangeOld
import Derived.Below
import Derived.Carry
namespace Go.Proofs.Ytpffhaligaebaaa.journalFrame
open Go.ChangeShapes Go.WideShapes Go.ChangeAt Go.RowKit Go.Proofs.Ytpffhaligaebaaa.Abs
set_option linter.unusedVariables false
set_option linter.unusedSimpArgs false

theorem own : ownKnob Try.prog.godebug = none := by kernel_rfl
theorem laidOut : laidOutB Try.prog = true := by kernel_rfl
theorem dec_disk {a : AV} (h : IsV (.tup [.list (.int .u8), .int .i64, .int .i64, .int .i64, .bool]) a) : ∃ xs wr ca tor off, a = eD xs wr ca tor off := by
  obtain ⟨l, rfl, h'⟩ := dec_tup h
  obtain ⟨a0, l0, rfl, h0, k0⟩ := isL_cons rfl h'
  obtain ⟨a1, l1, rfl, h1, k1⟩ := isL_cons rfl k0
  obtain ⟨a2, l2, rfl, h2, k2⟩ := isL_cons rfl k1
  obtain ⟨a3, l3, rfl, h3, k3⟩ := isL_cons rfl k2
  obtain ⟨a4, l4, rfl, h4, k4⟩ := isL_cons rfl k3
  have := isL_nil k4
  subst this
  obtain ⟨xs, rfl, -, -⟩ := dec_bytes h0
  obtain ⟨wr, rfl, -⟩ := dec_int h1
  obtain ⟨ca, rfl, -⟩ := dec_int h2
  obtain ⟨tor, rfl, -⟩ := dec_int h3
  obtain ⟨off, rfl⟩ := dec_bool h4
  exact ⟨xs, wr, ca, tor, off, rfl⟩

set_option maxRecDepth 100000 in
theorem lifted (os : Os) (started : os.Started) (H : Type) (enc : TypeId × Value → H) :
    ReturnsInHanded {} Try.checked os 3 .any (Rows.journalFrameSpec.pre6 enc Try.prog Try.f3 Rows.journalFrameRow.domain false) (Rows.journalFrameSpec.post enc Try.prog Try.f3 false true false false) := by
  refine returnsInHanded_of_change (C := Try.checked) own started (by kernel_rfl) Try.func3
    (ChangeSpec.witness6 (enc := enc) (C := Try.checked) false ⟨#[], #[.agg #[.slice none 0 0, .int .i64 0, .int .i64 0, .int .i64 0, .bool false], .slice none 0 0, .int .u16 0], []⟩ 8 (by kernel_rfl) (by kernel_rfl) (by kernel_rfl) (by kernel_rfl)) ?_
  intro W base args ds gs before hval0 hW hcnd _
  have hval : ∀ (j : Nat) t v, Try.f3.params[j]? = some t → args[j]? = some v → Value.okWide Try.prog W .any base t v := hval0
  have hW' := hW
  obtain ⟨p, q, hA0, hV, rfl, hfz, hnd⟩ := hW
  have hA : DataW.TrodAll enc Try.prog W 0 (fun _ => true) true Try.f3.params.toList args.toList ds p := hA0
  rw [Try.params3] at hA hval
  obtain ⟨v0, vs0, d0, ds0, p0, q0, hargs, rfl, rfl, h0, r0⟩ := trodAll_cons hA
  obtain ⟨v1, vs1, d1, ds1, p1, q1, rfl, rfl, rfl, h1, r1⟩ := trodAll_cons r0
  obtain ⟨v2, vs2, d2, ds2, p2, q2, rfl, rfl, rfl, h2, r2⟩ := trodAll_cons r1
  obtain ⟨rfl, rfl, rfl⟩ := trodAll_nil r2
  obtain rfl : args = #[v0, v1, v2] := by cases args; simp_all
  obtain ⟨rfl, rfl⟩ := trodVars_none hV
  have lt0 : ∀ x ∈ p0, x.block < W.heap.size := by obtain ⟨m, hm⟩ := h0; exact DataW.trod_lt m _ _ _ hm
  obtain ⟨a0, R0, i0⟩ := read_arg (d := 8) (T := (.tup [.list (.int .u8), .int .i64, .int .i64, .int .i64, .bool])) (by kernel_rfl) (hval 0 24 v0 rfl rfl) h0
  have lt1 : ∀ x ∈ p1, x.block < W.heap.size := by obtain ⟨m, hm⟩ := h1; exact DataW.trod_lt m _ _ _ hm
  obtain ⟨a1, R1, i1⟩ := read_arg (d := 8) (T := (.list (.int .u8))) (by kernel_rfl) (hval 1 22 v1 rfl rfl) h1
  have lt2 : ∀ x ∈ p2, x.block < W.heap.size := by obtain ⟨m, hm⟩ := h2; exact DataW.trod_lt m _ _ _ hm
  obtain ⟨a2, R2, i2⟩ := read_arg (d := 8) (T := (.int .u16)) (by kernel_rfl) (hval 2 25 v2 rfl rfl) h2
  obtain ⟨xs0, wr0, ca0, tor0, off0, rfl⟩ := dec_disk i0
  obtain ⟨ys1, rfl, hl1, hb1⟩ := dec_bytes i1
  obtain ⟨n2, rfl, hn2⟩ := dec_int i2
  refine (calls_true (w := W) (l := [_, _, _]) (frameLaw_sem xs0 wr0 ca0 tor0 off0 ys1 n2 (bounds_u16 hn2).1 (bounds_u16 hn2).2) (RPL.cons R0 (RPL.cons R1 (RPL.cons R2 RPL.nil)))).mono fun e W' ⟨he, bel⟩ => ?_
  subst he
  exact ⟨_, rfl, _, _, _, [], _, [], hW', trodAll_mk1 (shut_bool Try.underlying4 _), (trodAll_cons_mk (Below.trod laidOut (by kernel_rfl) (of_decide_eq_true (by kernel_rfl)) h0 bel lt0) (trodAll_cons_mk (Below.trod laidOut (by kernel_rfl) (of_decide_eq_true (by kernel_rfl)) h1 bel lt1) (trodAll_cons_mk (Below.trod laidOut (by kernel_rfl) (of_decide_eq_true (by kernel_rfl)) h2 bel lt2) trodAll_mk0))), rfl, bel.frame _, fun h => by cases h⟩

theorem said : Rows.JournalFrameSaid :=
  OpenClaim.holds_of_wide 3 Try.f3 rfl rfl rfl rfl rfl rfl rfl ⟨rfl, rfl, rfl, rfl, rfl⟩ rfl rfl rfl rfl rfl (by kernel_rfl) Try.func3 (by kernel_rfl)
    (of_decide_eq_true (by kernel_rfl)) (by unfold Func.isWrapper; first | (rw [if_pos (by decide +kernel)]; kernel_rfl) | (rw [if_neg (by decide +kernel)]; exact ⟨rfl, rfl⟩))
    (fun os started H enc _ => lifted os started H enc)
end Go.Proofs.Ytpffhaligaebaaa.journalFrame
