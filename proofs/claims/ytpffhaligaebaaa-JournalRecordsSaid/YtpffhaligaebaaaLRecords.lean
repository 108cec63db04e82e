/- The law JournalRecords: for every input the law's call returns true and leaves what was there as it was. -/
import Derived.Test.YtpffhaligaebaaaJ10
import Derived.Test.YtpffhaligaebaaaRows
import Derived.Test.YtpffhaligaebaaaAbsR
import Derived.WalkKit
import Derived.ProofKit
import Derived.OpenShut
import Derived.ShutString
import Derived.ChangeOld
import Derived.Below
import Derived.Carry
namespace Go.Proofs.Ytpffhaligaebaaa.journalRecords
open Go.ChangeShapes Go.WideShapes Go.ChangeAt Go.RowKit Go.Proofs.Ytpffhaligaebaaa.Abs
set_option linter.unusedVariables false
set_option linter.unusedSimpArgs false

theorem own : ownKnob Try.prog.godebug = none := by kernel_rfl
theorem laidOut : laidOutB Try.prog = true := by kernel_rfl
theorem dec_disk {a : AV} (h : IsV (.tup [.list (.int .u8), .int .i64, .int .i64, .int .i64, .bool]) a) : ∃ xs wr ca tor off, a = eD xs wr ca tor off := by
  obtain ⟨l, rfl, h'⟩ := dec_tup h
  obtain ⟨a0, l0, rfl, h0, k0⟩ := isL_cons rfl h'
  obtain ⟨a1, l1, rfl, h1, k1⟩ := isL_cons rfl k0
  obtain ⟨a2, l2, rfl, h2, k2⟩ := isL_cons rfl k1
  obtain ⟨a3, l3, rfl, h3, k3⟩ := isL_cons rfl k2
  obtain ⟨a4, l4, rfl, h4, k4⟩ := isL_cons rfl k3
  have := isL_nil k4
  subst this
  obtain ⟨xs, rfl, -, -⟩ := dec_bytes h0
  obtain ⟨wr, rfl, -⟩ := dec_int h1
  obtain ⟨ca, rfl, -⟩ := dec_int h2
  obtain ⟨tor, rfl, -⟩ := dec_int h3
  obtain ⟨off, rfl⟩ := dec_bool h4
  exact ⟨xs, wr, ca, tor, off, rfl⟩

set_option maxRecDepth 100000 in
theorem lifted (os : Os) (started : os.Started) (H : Type) (enc : TypeId × Value → H) :
    ReturnsInHanded {} Try.checked os 5 .any (Rows.journalRecordsSpec.pre6 enc Try.prog Try.f5 Rows.journalRecordsRow.domain false) (Rows.journalRecordsSpec.post enc Try.prog Try.f5 false true false false) := by
  refine returnsInHanded_of_change (C := Try.checked) own started (by kernel_rfl) Try.func5
    (ChangeSpec.witness6 (enc := enc) (C := Try.checked) false ⟨#[], #[.slice none 0 0, .slice none 0 0, .int .i64 0, .int .i64 0, .int .u8 0, .agg #[.slice none 0 0, .int .i64 0, .int .i64 0, .int .i64 0, .bool false]], []⟩ 8 (by kernel_rfl) (by kernel_rfl) (by kernel_rfl) (by kernel_rfl)) ?_
  intro W base args ds gs before hval0 hW hcnd _
  have hval : ∀ (j : Nat) t v, Try.f5.params[j]? = some t → args[j]? = some v → Value.okWide Try.prog W .any base t v := hval0
  have hW' := hW
  obtain ⟨p, q, hA0, hV, rfl, hfz, hnd⟩ := hW
  have hA : DataW.TrodAll enc Try.prog W 0 (fun _ => true) true Try.f5.params.toList args.toList ds p := hA0
  rw [Try.params5] at hA hval
  obtain ⟨v0, vs0, d0, ds0, p0, q0, hargs, rfl, rfl, h0, r0⟩ := trodAll_cons hA
  obtain ⟨v1, vs1, d1, ds1, p1, q1, rfl, rfl, rfl, h1, r1⟩ := trodAll_cons r0
  obtain ⟨v2, vs2, d2, ds2, p2, q2, rfl, rfl, rfl, h2, r2⟩ := trodAll_cons r1
  obtain ⟨v3, vs3, d3, ds3, p3, q3, rfl, rfl, rfl, h3, r3⟩ := trodAll_cons r2
  obtain ⟨v4, vs4, d4, ds4, p4, q4, rfl, rfl, rfl, h4, r4⟩ := trodAll_cons r3
  obtain ⟨v5, vs5, d5, ds5, p5, q5, rfl, rfl, rfl, h5, r5⟩ := trodAll_cons r4
  obtain ⟨rfl, rfl, rfl⟩ := trodAll_nil r5
  obtain rfl : args = #[v0, v1, v2, v3, v4, v5] := by cases args; simp_all
  obtain ⟨rfl, rfl⟩ := trodVars_none hV
  have lt0 : ∀ x ∈ p0, x.block < W.heap.size := by obtain ⟨m, hm⟩ := h0; exact DataW.trod_lt m _ _ _ hm
  obtain ⟨a0, R0, i0⟩ := read_arg (d := 8) (T := (.list (.int .u8))) (by kernel_rfl) (hval 0 22 v0 rfl rfl) h0
  have lt1 : ∀ x ∈ p1, x.block < W.heap.size := by obtain ⟨m, hm⟩ := h1; exact DataW.trod_lt m _ _ _ hm
  obtain ⟨a1, R1, i1⟩ := read_arg (d := 8) (T := (.list (.list (.int .u8)))) (by kernel_rfl) (hval 1 27 v1 rfl rfl) h1
  have lt2 : ∀ x ∈ p2, x.block < W.heap.size := by obtain ⟨m, hm⟩ := h2; exact DataW.trod_lt m _ _ _ hm
  obtain ⟨a2, R2, i2⟩ := read_arg (d := 8) (T := (.int .i64)) (by kernel_rfl) (hval 2 3 v2 rfl rfl) h2
  have lt3 : ∀ x ∈ p3, x.block < W.heap.size := by obtain ⟨m, hm⟩ := h3; exact DataW.trod_lt m _ _ _ hm
  obtain ⟨a3, R3, i3⟩ := read_arg (d := 8) (T := (.int .i64)) (by kernel_rfl) (hval 3 3 v3 rfl rfl) h3
  have lt4 : ∀ x ∈ p4, x.block < W.heap.size := by obtain ⟨m, hm⟩ := h4; exact DataW.trod_lt m _ _ _ hm
  obtain ⟨a4, R4, i4⟩ := read_arg (d := 8) (T := (.int .u8)) (by kernel_rfl) (hval 4 5 v4 rfl rfl) h4
  have lt5 : ∀ x ∈ p5, x.block < W.heap.size := by obtain ⟨m, hm⟩ := h5; exact DataW.trod_lt m _ _ _ hm
  obtain ⟨a5, R5, i5⟩ := read_arg (d := 8) (T := (.tup [.list (.int .u8), .int .i64, .int .i64, .int .i64, .bool])) (by kernel_rfl) (hval 5 24 v5 rfl rfl) h5
  obtain ⟨ys0, rfl, hl0, hb0⟩ := dec_bytes i0
  obtain ⟨ws1, rfl, hl1, hb1⟩ := dec_list eL Byt (fun a ha => by obtain ⟨z, rfl, -, hz⟩ := dec_bytes ha; exact ⟨z, rfl, hz⟩) i1
  obtain ⟨n2, rfl, hn2⟩ := dec_int i2
  obtain ⟨n3, rfl, hn3⟩ := dec_int i3
  obtain ⟨n4, rfl, hn4⟩ := dec_int i4
  obtain ⟨xs5, wr5, ca5, tor5, off5, rfl⟩ := dec_disk i5
  refine (calls_true (w := W) (l := [_, _, _, _, _, _]) (recordsLaw_sem ys0 ws1 n2 n3 n4 xs5 wr5 ca5 tor5 off5 hb0 hb1) (RPL.cons R0 (RPL.cons R1 (RPL.cons R2 (RPL.cons R3 (RPL.cons R4 (RPL.cons R5 RPL.nil))))))).mono fun e W' ⟨he, bel⟩ => ?_
  subst he
  exact ⟨_, rfl, _, _, _, [], _, [], hW', trodAll_mk1 (shut_bool Try.underlying4 _), (trodAll_cons_mk (Below.trod laidOut (by kernel_rfl) (of_decide_eq_true (by kernel_rfl)) h0 bel lt0) (trodAll_cons_mk (Below.trod laidOut (by kernel_rfl) (of_decide_eq_true (by kernel_rfl)) h1 bel lt1) (trodAll_cons_mk (Below.trod laidOut (by kernel_rfl) (of_decide_eq_true (by kernel_rfl)) h2 bel lt2) (trodAll_cons_mk (Below.trod laidOut (by kernel_rfl) (of_decide_eq_true (by kernel_rfl)) h3 bel lt3) (trodAll_cons_mk (Below.trod laidOut (by kernel_rfl) (of_decide_eq_true (by kernel_rfl)) h4 bel lt4) (trodAll_cons_mk (Below.trod laidOut (by kernel_rfl) (of_decide_eq_true (by kernel_rfl)) h5 bel lt5) trodAll_mk0)))))), rfl, bel.frame _, fun h => by cases h⟩

theorem said : Rows.JournalRecordsSaid :=
  OpenClaim.holds_of_wide 5 Try.f5 rfl rfl rfl rfl rfl rfl rfl ⟨rfl, rfl, rfl, rfl, rfl⟩ rfl rfl rfl rfl rfl (by kernel_rfl) Try.func5 (by kernel_rfl)
    (of_decide_eq_true (by kernel_rfl)) (by unfold Func.isWrapper; first | (rw [if_pos (by decide +kernel)]; kernel_rfl) | (rw [if_neg (by decide +kernel)]; exact ⟨rfl, rfl⟩))
    (fun os started H enc _ => lifted os started H enc)
end Go.Proofs.Ytpffhaligaebaaa.journalRecords
