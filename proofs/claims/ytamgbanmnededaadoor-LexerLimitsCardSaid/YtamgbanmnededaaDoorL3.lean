/- Lexer: tokens and Scan. -/
import Derived.Test.YtamgbanmnededaaDoorL2
namespace Go.Proofs.YtamgbanmnededaaDoor
namespace Abs
set_option linter.unusedVariables false
set_option linter.unusedSimpArgs false
theorem sub_T (s : ByteArray) (hs : s.size ≤ 100) : T (m57 s) (fun _ => True) := by
  unfold m57
  have hl := sLen_eq s
  refine T.loop (fun q => q.1 = s ∧ q.2.2.1 = sLen s ∧ 0 ≤ q.2.2.2.1) (fun q => (sLen s - q.2.2.2.1).toNat) ⟨rfl, rfl, by simp⟩ (fun q ⟨e1, e2, k0⟩ => ?_)
  rw [e1, e2]
  repeat' (first | (refine T.grd ?_ ?_) | (refine T.cnd (fun hc => ?_) (fun hc => ?_) <;> try simp only [iLt_T, iLt_F, iLe_T, iLe_F, iEq_T, iEq_F, iNe_T, iNe_F, bnd_T, bnd_F, inB_T, inB_F, fits_T, fitsI_T, cutOk_T, someE_T, someE_F, leN_T, not_T, not_F, and_T, and_F, or_T, or_F, candF_T, candF_F, corT_T, corT_F, bEqT_T, bEqT_F, bEqF_T, bEqF_F, eq_self, or_true, true_or, and_true, true_and, or_false, false_or, and_false, false_and, not_true_eq_false, not_false_eq_true, Bool.true_eq_false, Bool.false_eq_true] at hc) | (refine T.mapL ?_) | (refine T.mapJ ?_) | (refine T.go ?_ ?_) | (refine T.out ?_) | (refine T.jgo ?_) | (refine T.jout ?_) | (refine T.ret ?_))
  · first | (simp (disch := omega) only [iLt_T, iLt_F, iLe_T, iLe_F, iEq_T, iEq_F, iNe_T, iNe_F, bnd_T, bnd_F, inB_T, inB_F, fits_T, fitsI_T, cutOk_T, someE_T, someE_F, leN_T, not_T, not_F, and_T, and_F, or_T, or_F, candF_T, candF_F, corT_T, corT_F, bEqT_T, bEqT_F, bEqF_T, bEqF_F, eq_self, or_true, true_or, and_true, true_and, or_false, false_or, and_false, false_and, not_true_eq_false, not_false_eq_true, Bool.true_eq_false, Bool.false_eq_true, iAdd64, iSub64, iMul64, lenI_eq, List.length_append, List.length_cons, List.length_nil, List.length_set, List.length_take, List.length_drop, List.length_replicate]; omega) | (simp (disch := omega) only [iLt_T, iLt_F, iLe_T, iLe_F, iEq_T, iEq_F, iNe_T, iNe_F, bnd_T, bnd_F, inB_T, inB_F, fits_T, fitsI_T, cutOk_T, someE_T, someE_F, leN_T, not_T, not_F, and_T, and_F, or_T, or_F, candF_T, candF_F, corT_T, corT_F, bEqT_T, bEqT_F, bEqF_T, bEqF_F, eq_self, or_true, true_or, and_true, true_and, or_false, false_or, and_false, false_and, not_true_eq_false, not_false_eq_true, Bool.true_eq_false, Bool.false_eq_true, iAdd64, iSub64, iMul64, lenI_eq, List.length_append, List.length_cons, List.length_nil, List.length_set, List.length_take, List.length_drop, List.length_replicate]; done)
  · exact ⟨rfl, rfl, by simp (disch := omega) only [iAdd64]; omega⟩
  · simp (disch := omega) only [iAdd64]; omega
  · trivial
theorem tab_rng (k : Int) : 0 ≤ atI ([31, 28, 31, 30, 31, 30, 31, 31, 30, 31, 30, 31] : List Int) k 0 ∧ atI ([31, 28, 31, 30, 31, 30, 31, 31, 30, 31, 30, 31] : List Int) k 0 ≤ 31 := by
  unfold atI
  generalize k.toNat = n
  match n with
  | 0 | 1 | 2 | 3 | 4 | 5 | 6 | 7 | 8 | 9 | 10 | 11 => decide
  | n + 12 => simp
theorem length_T (y m : Int) (h : 1 ≤ m ∧ m ≤ 12) : T (m65 y m) (fun r => 0 ≤ r.1 ∧ r.1 ≤ 31) := by
  unfold m65
  repeat' (first | (refine T.grd ?_ ?_) | (refine T.cnd (fun hc => ?_) (fun hc => ?_) <;> try simp only [iLt_T, iLt_F, iLe_T, iLe_F, iEq_T, iEq_F, iNe_T, iNe_F, bnd_T, bnd_F, inB_T, inB_F, fits_T, fitsI_T, cutOk_T, someE_T, someE_F, leN_T, not_T, not_F, and_T, and_F, or_T, or_F, candF_T, candF_F, corT_T, corT_F, bEqT_T, bEqT_F, bEqF_T, bEqF_F, eq_self, or_true, true_or, and_true, true_and, or_false, false_or, and_false, false_and, not_true_eq_false, not_false_eq_true, Bool.true_eq_false, Bool.false_eq_true] at hc) | (refine T.mapL ?_) | (refine T.mapJ ?_) | (refine T.go ?_ ?_) | (refine T.out ?_) | (refine T.jgo ?_) | (refine T.jout ?_) | (refine T.ret ?_))
  · first | (simp (disch := omega) only [iLt_T, iLt_F, iLe_T, iLe_F, iEq_T, iEq_F, iNe_T, iNe_F, bnd_T, bnd_F, inB_T, inB_F, fits_T, fitsI_T, cutOk_T, someE_T, someE_F, leN_T, not_T, not_F, and_T, and_F, or_T, or_F, candF_T, candF_F, corT_T, corT_F, bEqT_T, bEqT_F, bEqF_T, bEqF_F, eq_self, or_true, true_or, and_true, true_and, or_false, false_or, and_false, false_and, not_true_eq_false, not_false_eq_true, Bool.true_eq_false, Bool.false_eq_true, iAdd64, iSub64, iMul64, lenI_eq, List.length_append, List.length_cons, List.length_nil, List.length_set, List.length_take, List.length_drop, List.length_replicate]; omega) | (simp (disch := omega) only [iLt_T, iLt_F, iLe_T, iLe_F, iEq_T, iEq_F, iNe_T, iNe_F, bnd_T, bnd_F, inB_T, inB_F, fits_T, fitsI_T, cutOk_T, someE_T, someE_F, leN_T, not_T, not_F, and_T, and_F, or_T, or_F, candF_T, candF_F, corT_T, corT_F, bEqT_T, bEqT_F, bEqF_T, bEqF_F, eq_self, or_true, true_or, and_true, true_and, or_false, false_or, and_false, false_and, not_true_eq_false, not_false_eq_true, Bool.true_eq_false, Bool.false_eq_true, iAdd64, iSub64, iMul64, lenI_eq, List.length_append, List.length_cons, List.length_nil, List.length_set, List.length_take, List.length_drop, List.length_replicate]; done)
  · exact ⟨by simp, by simp⟩
  · first | (simp (disch := omega) only [iLt_T, iLt_F, iLe_T, iLe_F, iEq_T, iEq_F, iNe_T, iNe_F, bnd_T, bnd_F, inB_T, inB_F, fits_T, fitsI_T, cutOk_T, someE_T, someE_F, leN_T, not_T, not_F, and_T, and_F, or_T, or_F, candF_T, candF_F, corT_T, corT_F, bEqT_T, bEqT_F, bEqF_T, bEqF_F, eq_self, or_true, true_or, and_true, true_and, or_false, false_or, and_false, false_and, not_true_eq_false, not_false_eq_true, Bool.true_eq_false, Bool.false_eq_true, iAdd64, iSub64, iMul64, lenI_eq, List.length_append, List.length_cons, List.length_nil, List.length_set, List.length_take, List.length_drop, List.length_replicate]; omega) | (simp (disch := omega) only [iLt_T, iLt_F, iLe_T, iLe_F, iEq_T, iEq_F, iNe_T, iNe_F, bnd_T, bnd_F, inB_T, inB_F, fits_T, fitsI_T, cutOk_T, someE_T, someE_F, leN_T, not_T, not_F, and_T, and_F, or_T, or_F, candF_T, candF_F, corT_T, corT_F, bEqT_T, bEqT_F, bEqF_T, bEqF_F, eq_self, or_true, true_or, and_true, true_and, or_false, false_or, and_false, false_and, not_true_eq_false, not_false_eq_true, Bool.true_eq_false, Bool.false_eq_true, iAdd64, iSub64, iMul64, lenI_eq, List.length_append, List.length_cons, List.length_nil, List.length_set, List.length_take, List.length_drop, List.length_replicate]; done)
  · exact tab_rng _
theorem year_T (y : Int) : T (m66 y) (fun r => 0 ≤ r.1 ∧ r.1 ≤ 366) := by
  unfold m66
  repeat' (first | (refine T.grd ?_ ?_) | (refine T.cnd (fun hc => ?_) (fun hc => ?_) <;> try simp only [iLt_T, iLt_F, iLe_T, iLe_F, iEq_T, iEq_F, iNe_T, iNe_F, bnd_T, bnd_F, inB_T, inB_F, fits_T, fitsI_T, cutOk_T, someE_T, someE_F, leN_T, not_T, not_F, and_T, and_F, or_T, or_F, candF_T, candF_F, corT_T, corT_F, bEqT_T, bEqT_F, bEqF_T, bEqF_F, eq_self, or_true, true_or, and_true, true_and, or_false, false_or, and_false, false_and, not_true_eq_false, not_false_eq_true, Bool.true_eq_false, Bool.false_eq_true] at hc) | (refine T.mapL ?_) | (refine T.mapJ ?_) | (refine T.go ?_ ?_) | (refine T.out ?_) | (refine T.jgo ?_) | (refine T.jout ?_) | (refine T.ret ?_))
  · first | (simp (disch := omega) only [iLt_T, iLt_F, iLe_T, iLe_F, iEq_T, iEq_F, iNe_T, iNe_F, bnd_T, bnd_F, inB_T, inB_F, fits_T, fitsI_T, cutOk_T, someE_T, someE_F, leN_T, not_T, not_F, and_T, and_F, or_T, or_F, candF_T, candF_F, corT_T, corT_F, bEqT_T, bEqT_F, bEqF_T, bEqF_F, eq_self, or_true, true_or, and_true, true_and, or_false, false_or, and_false, false_and, not_true_eq_false, not_false_eq_true, Bool.true_eq_false, Bool.false_eq_true, iAdd64, iSub64, iMul64, lenI_eq, List.length_append, List.length_cons, List.length_nil, List.length_set, List.length_take, List.length_drop, List.length_replicate]; omega) | (simp (disch := omega) only [iLt_T, iLt_F, iLe_T, iLe_F, iEq_T, iEq_F, iNe_T, iNe_F, bnd_T, bnd_F, inB_T, inB_F, fits_T, fitsI_T, cutOk_T, someE_T, someE_F, leN_T, not_T, not_F, and_T, and_F, or_T, or_F, candF_T, candF_F, corT_T, corT_F, bEqT_T, bEqT_F, bEqF_T, bEqF_F, eq_self, or_true, true_or, and_true, true_and, or_false, false_or, and_false, false_and, not_true_eq_false, not_false_eq_true, Bool.true_eq_false, Bool.false_eq_true, iAdd64, iSub64, iMul64, lenI_eq, List.length_append, List.length_cons, List.length_nil, List.length_set, List.length_take, List.length_drop, List.length_replicate]; done)
  · exact ⟨by simp, by simp⟩
  · exact ⟨by simp, by simp⟩
theorem hour58_T (d : DS2) (h : Int) : T (m58 d h) (fun _ => True) := by
  unfold m58
  refine T.cnd (fun _ => T.ret trivial) (fun hc => ?_)
  simp only [iLt_T, iLt_F, iLe_T, iLe_F, iEq_T, iEq_F, iNe_T, iNe_F, bnd_T, bnd_F, inB_T, inB_F, fits_T, fitsI_T, cutOk_T, someE_T, someE_F, leN_T, not_T, not_F, and_T, and_F, or_T, or_F, candF_T, candF_F, corT_T, corT_F, bEqT_T, bEqT_F, bEqF_T, bEqF_F, eq_self, or_true, true_or, and_true, true_and, or_false, false_or, and_false, false_and, not_true_eq_false, not_false_eq_true, Bool.true_eq_false, Bool.false_eq_true] at hc
  refine T.call (length_T _ _ ⟨by omega, by omega⟩) (fun y ⟨y0, y1⟩ => ?_)
  refine T.cnd (fun _ => T.ret trivial) (fun hc1 => ?_)
  refine T.cnd (fun _ => T.ret trivial) (fun hc2 => ?_)
  simp only [iLt_T, iLt_F, iLe_T, iLe_F, iEq_T, iEq_F, iNe_T, iNe_F, bnd_T, bnd_F, inB_T, inB_F, fits_T, fitsI_T, cutOk_T, someE_T, someE_F, leN_T, not_T, not_F, and_T, and_F, or_T, or_F, candF_T, candF_F, corT_T, corT_F, bEqT_T, bEqT_F, bEqF_T, bEqF_F, eq_self, or_true, true_or, and_true, true_and, or_false, false_or, and_false, false_and, not_true_eq_false, not_false_eq_true, Bool.true_eq_false, Bool.false_eq_true] at hc1 hc2
  have e1 : iSub .i64 d.2.2.1 1 = d.2.2.1 - 1 := iSub64 (by omega) (by omega)
  rw [e1]
  refine T.loop (fun q => (2000 ≤ q.2.2.1 ∧ q.2.2.1 ≤ 2100) ∧ q.2.2.2.1 = d.1 ∧ q.2.2.2.2.1 = d.2.1) (fun q => (2100 - q.2.2.1).toNat) ⟨⟨by simp, by simp⟩, rfl, rfl⟩ (fun q ⟨⟨q0, q1⟩, q2, q3⟩ => ?_)
  refine T.cnd (fun hc3 => ?_) (fun hc3 => ?_)
  · simp only [q2, iLt_T] at hc3
    refine T.call (year_T _) (fun _ _ => T.go ⟨?_, q2, q3⟩ ?_)
    · dsimp only; rw [iAdd64 (by omega) (by omega)]; omega
    · dsimp only; rw [iAdd64 (by omega) (by omega)]; omega
  · refine T.mapL ?_
    refine T.loop (fun r => (1 ≤ r.2.2.1 ∧ r.2.2.1 ≤ 12) ∧ r.2.2.2.2.1 = d.2.1) (fun r => (12 - r.2.2.1).toNat) ⟨⟨by simp, by simp⟩, q3⟩ (fun r ⟨⟨r0, r1⟩, r3⟩ => ?_)
    refine T.cnd (fun hc4 => ?_) (fun hc4 => T.out trivial)
    simp only [r3, iLt_T] at hc4
    refine T.call (length_T _ _ ⟨r0, r1⟩) (fun _ _ => T.go ⟨?_, r3⟩ ?_)
    · dsimp only; rw [iAdd64 (by omega) (by omega)]; omega
    · dsimp only; rw [iAdd64 (by omega) (by omega)]; omega
theorem fits_T' (c k : Int) : T (m56 c k) (fun _ => True) := by
  unfold m56
  repeat' (first | (refine T.grd ?_ ?_) | (refine T.cnd (fun hc => ?_) (fun hc => ?_) <;> try simp only [iLt_T, iLt_F, iLe_T, iLe_F, iEq_T, iEq_F, iNe_T, iNe_F, bnd_T, bnd_F, inB_T, inB_F, fits_T, fitsI_T, cutOk_T, someE_T, someE_F, leN_T, not_T, not_F, and_T, and_F, or_T, or_F, candF_T, candF_F, corT_T, corT_F, bEqT_T, bEqT_F, bEqF_T, bEqF_F, eq_self, or_true, true_or, and_true, true_and, or_false, false_or, and_false, false_and, not_true_eq_false, not_false_eq_true, Bool.true_eq_false, Bool.false_eq_true] at hc) | (refine T.mapL ?_) | (refine T.mapJ ?_) | (refine T.go ?_ ?_) | (refine T.out ?_) | (refine T.jgo ?_) | (refine T.jout ?_) | (refine T.ret ?_))
  all_goals trivial
theorem cut_size (l u : Nat) (s : ByteArray) (h : u ≤ s.size) (h2 : l ≤ u) : (cutS (l : Int) (u : Int) s).size = u - l := by
  rw [← bl_len, bl_cut, List.length_drop, List.length_take, bl_len]; omega
theorem parse_T (s : ByteArray) : T (m49 s) (fun _ => True) := by
  unfold m49
  have hl := sLen_eq s
  refine T.cnd (fun _ => T.ret trivial) (fun hc => ?_)
  simp only [iLt_T, iLt_F, iLe_T, iLe_F, iEq_T, iEq_F, iNe_T, iNe_F, bnd_T, bnd_F, inB_T, inB_F, fits_T, fitsI_T, cutOk_T, someE_T, someE_F, leN_T, not_T, not_F, and_T, and_F, or_T, or_F, candF_T, candF_F, corT_T, corT_F, bEqT_T, bEqT_F, bEqF_T, bEqF_F, eq_self, or_true, true_or, and_true, true_and, or_false, false_or, and_false, false_and, not_true_eq_false, not_false_eq_true, Bool.true_eq_false, Bool.false_eq_true] at hc
  refine T.loop (fun q => q.1 = s ∧ q.2.1 = sLen s ∧ 0 ≤ q.2.2.1) (fun q => (sLen s - q.2.2.1).toNat) ⟨rfl, rfl, by simp⟩ (fun q ⟨e1, e2, k0⟩ => ?_)
  rw [e1, e2]
  refine T.cnd (fun hc1 => ?_) (fun hc1 => ?_) <;> simp only [iLt_T, iLt_F] at hc1
  · refine T.grd (by first | (simp (disch := omega) only [iLt_T, iLt_F, iLe_T, iLe_F, iEq_T, iEq_F, iNe_T, iNe_F, bnd_T, bnd_F, inB_T, inB_F, fits_T, fitsI_T, cutOk_T, someE_T, someE_F, leN_T, not_T, not_F, and_T, and_F, or_T, or_F, candF_T, candF_F, corT_T, corT_F, bEqT_T, bEqT_F, bEqF_T, bEqF_F, eq_self, or_true, true_or, and_true, true_and, or_false, false_or, and_false, false_and, not_true_eq_false, not_false_eq_true, Bool.true_eq_false, Bool.false_eq_true, iAdd64, iSub64, iMul64, lenI_eq, List.length_append, List.length_cons, List.length_nil, List.length_set, List.length_take, List.length_drop, List.length_replicate]; omega) | (simp (disch := omega) only [iLt_T, iLt_F, iLe_T, iLe_F, iEq_T, iEq_F, iNe_T, iNe_F, bnd_T, bnd_F, inB_T, inB_F, fits_T, fitsI_T, cutOk_T, someE_T, someE_F, leN_T, not_T, not_F, and_T, and_F, or_T, or_F, candF_T, candF_F, corT_T, corT_F, bEqT_T, bEqT_F, bEqF_T, bEqF_F, eq_self, or_true, true_or, and_true, true_and, or_false, false_or, and_false, false_and, not_true_eq_false, not_false_eq_true, Bool.true_eq_false, Bool.false_eq_true, iAdd64, iSub64, iMul64, lenI_eq, List.length_append, List.length_cons, List.length_nil, List.length_set, List.length_take, List.length_drop, List.length_replicate]; done)) ?_
    refine T.call (fits_T' _ _) (fun _ _ => ?_)
    refine T.cnd (fun _ => T.out trivial) (fun _ => T.go ⟨rfl, rfl, ?_⟩ ?_)
    · dsimp only; rw [iAdd64 (by omega) (by omega)]; omega
    · dsimp only; rw [iAdd64 (by omega) (by omega)]; omega
  · refine T.mapL ?_
    have c1 : (cutS 0 4 s).size = 4 := by have := cut_size 0 4 s (by omega) (by omega); exact this
    have c2 : (cutS 5 7 s).size = 2 := by have := cut_size 5 7 s (by omega) (by omega); exact this
    have c3 : (cutS 8 10 s).size = 2 := by have := cut_size 8 10 s (by omega) (by omega); exact this
    refine T.cnd (fun hc2 => ?_) (fun hc2 => ?_)
    · simp only [iEq_T] at hc2
      have c4 : (cutS 11 ((ByteArray.size s : Nat) : Int) s).size = s.size - 11 := by have := cut_size 11 s.size s (Nat.le_refl _) (by omega); exact this
      refine T.grd (cutOk_t (by omega) (by omega) (by omega)) ?_
      refine T.call (sub_T _ (by omega)) (fun _ _ => ?_)
      refine T.grd (cutOk_t (by omega) (by omega) (by omega)) ?_
      refine T.call (sub_T _ (by omega)) (fun _ _ => ?_)
      refine T.grd (cutOk_t (by omega) (by omega) (by omega)) ?_
      refine T.call (sub_T _ (by omega)) (fun _ _ => ?_)
      refine T.grd (cutOk_t (by omega) (by omega) (by omega)) ?_
      refine T.call (sub_T _ (by omega)) (fun _ _ => ?_)
      exact T.call (hour58_T _ _) (fun _ _ => T.ret trivial)
    · refine T.grd (cutOk_t (by omega) (by omega) (by omega)) ?_
      refine T.call (sub_T _ (by omega)) (fun _ _ => ?_)
      refine T.grd (cutOk_t (by omega) (by omega) (by omega)) ?_
      refine T.call (sub_T _ (by omega)) (fun _ _ => ?_)
      refine T.grd (cutOk_t (by omega) (by omega) (by omega)) ?_
      refine T.call (sub_T _ (by omega)) (fun _ _ => ?_)
      exact T.call (hour58_T _ _) (fun _ _ => T.ret trivial)
/-- The hour that a text stands for, or its error. -/
noncomputable def hourS (s : ByteArray) : Int × Int × Unit := (m49 s).getD (0, 0, ())
theorem parse_m (s : ByteArray) : m49 s = some (hourS s) := by
  obtain ⟨v, h, _⟩ := parse_T s
  unfold hourS
  rw [h]; rfl
def isMark (c : Int) : Bool := decide (c = 59 ∨ c = 58 ∨ c = 44 ∨ c = 40 ∨ c = 41)
theorem mark_m (c : Int) : m50 c = some (isMark c, ()) := by
  unfold m50 isMark
  refine T.eq ?_
  repeat' (first | (refine T.grd ?_ ?_) | (refine T.cnd (fun hc => ?_) (fun hc => ?_) <;> try simp only [iLt_T, iLt_F, iLe_T, iLe_F, iEq_T, iEq_F, iNe_T, iNe_F, bnd_T, bnd_F, inB_T, inB_F, fits_T, fitsI_T, cutOk_T, someE_T, someE_F, leN_T, not_T, not_F, and_T, and_F, or_T, or_F, candF_T, candF_F, corT_T, corT_F, bEqT_T, bEqT_F, bEqF_T, bEqF_F, eq_self, or_true, true_or, and_true, true_and, or_false, false_or, and_false, false_and, not_true_eq_false, not_false_eq_true, Bool.true_eq_false, Bool.false_eq_true] at hc) | (refine T.mapL ?_) | (refine T.mapJ ?_) | (refine T.go ?_ ?_) | (refine T.out ?_) | (refine T.jgo ?_) | (refine T.jout ?_) | (refine T.ret ?_))
  all_goals (congr 1; symm; first | (rw [decide_eq_true_eq]; omega) | (rw [decide_eq_false_iff_not]; omega))
def zTok : DS0 := (0, bs [], 0, 0, ())
/-- The token at the beginning of bytes: the token, its length, the error. -/
noncomputable def tokL (r : List Int) (i : Int) : DS0 × Nat × Int :=
  let c := r.getD 0 0
  if isLet c = true then (if wordS (bsI (r.takeWhile isWrd)) = true then ((1, bsI (r.takeWhile isWrd), 0, i, ()), (r.takeWhile isWrd).length, 0) else (zTok, 0, 6))
  else if isDig c = true ∨ c = 45 then
    (if (numberL (c :: (r.drop 1).takeWhile isDig)).2 ≠ 0 then (zTok, 0, (numberL (c :: (r.drop 1).takeWhile isDig)).2) else ((2, bs [], (numberL (c :: (r.drop 1).takeWhile isDig)).1, i, ()), 1 + ((r.drop 1).takeWhile isDig).length, 0))
  else if c = 64 then
    (if (hourS (bsI ((r.drop 1).takeWhile isHr))).2.1 ≠ 0 then (zTok, 0, (hourS (bsI ((r.drop 1).takeWhile isHr))).2.1) else ((3, bs [], (hourS (bsI ((r.drop 1).takeWhile isHr))).1, i, ()), 1 + ((r.drop 1).takeWhile isHr).length, 0))
  else if isMark c = true then ((4, bsI [c], 0, i, ()), 1, 0) else (zTok, 0, 5)
theorem drop_take_cut {xs : List Int} {i k : Nat} : (xs.take (i + k)).drop i = (xs.drop i).take k := by rw [List.drop_take]; congr 1; omega
theorem cut_at (s : ByteArray) (i k : Nat) : cutS (i : Int) ((i + k : Nat) : Int) s = bsI (((bytesI s).drop i).take k) := by rw [cut_bs, drop_take_cut]
theorem tw_take (p : Int → Bool) (r : List Int) : r.take (r.takeWhile p).length = r.takeWhile p := by
  induction r with
  | nil => rfl
  | cons x r ih =>
    rw [List.takeWhile_cons]
    split
    · simp only [List.length_cons, List.take_succ_cons, ih]
    · rfl
theorem tw_le (p : Int → Bool) (r : List Int) : (r.takeWhile p).length ≤ r.length := by
  induction r with
  | nil => exact Nat.le_refl _
  | cons x r ih => rw [List.takeWhile_cons]; split <;> simp <;> omega
theorem tw_mem {p : Int → Bool} {r : List Int} : ∀ x ∈ r.takeWhile p, p x = true := by
  induction r with
  | nil => intro x hx; cases hx
  | cons y r ih =>
    intro x hx
    rw [List.takeWhile_cons] at hx
    split at hx
    · rcases List.mem_cons.1 hx with rfl | hx
      · assumption
      · exact ih x hx
    · cases hx
theorem tw_in {p : Int → Bool} {r : List Int} {x : Int} (h : x ∈ r.takeWhile p) : x ∈ r := by rw [← tw_take] at h; exact List.mem_of_mem_take h
theorem byt_drop {l : List Int} (h : Byt l) (n : Nat) : Byt (l.drop n) := fun x hx => h x (List.mem_of_mem_drop hx)
theorem byt_take {l : List Int} (h : Byt l) (n : Nat) : Byt (l.take n) := fun x hx => h x (List.mem_of_mem_take hx)
theorem token_m (s : ByteArray) (i : Nat) (hi : i < s.size) (hs : s.size ≤ 100000) : m31 s (i : Int) = some ((tokL ((bytesI s).drop i) (i : Int)).1, (if (tokL ((bytesI s).drop i) (i : Int)).2.2 = 0 then ((i + (tokL ((bytesI s).drop i) (i : Int)).2.1 : Nat) : Int) else 0), (tokL ((bytesI s).drop i) (i : Int)).2.2, ()) := by
  have hl := sLen_eq s
  have hbl := bl_len s
  generalize hr : (bytesI s).drop i = r
  have hrl : r.length = s.size - i := by rw [← hr, List.length_drop, hbl]
  have hc : r.getD 0 0 = sAt s (i : Int) := by
    have hlt : i < (bytesI s).length := by omega
    rw [← hr, List.drop_eq_getElem_cons hlt, bl_get]; rfl
  have hr1 : (bytesI s).drop (i + 1) = r.drop 1 := by rw [← hr, List.drop_drop]
  have hbr : Byt r := by rw [← hr]; exact byt_drop (bl_byt s) i
  have hcons : r = sAt s (i : Int) :: r.drop 1 := by
    cases hq : r with
    | nil => rw [hq] at hrl; simp at hrl; omega
    | cons c r' => rw [hq] at hc; simp at hc; rw [← hc]; rfl
  unfold m31 tokL
  dsimp only
  rw [hc, bnd_t (by omega) (by omega), let_m]
  simp only [cond_true, Option.bind_some]
  by_cases h1 : isLet (sAt s (i : Int)) = true
  · rw [if_pos h1, h1]
    simp only [cond_true]
    rw [span1 s i (by omega) (by omega), span_tw isWrd s (s.size - i) i (by omega), hr]
    have hk := tw_le isWrd r
    simp only [Option.bind_some]
    rw [cutOk_t (by omega) (by omega) (by omega), cut_at, hr, tw_take]
    simp only [cond_true]
    rw [word_m _ (by rw [← bl_len, bl_bsI (fun x hx => hbr x (tw_in hx))]; omega)]
    simp only [Option.bind_some]
    by_cases hw : wordS (bsI (r.takeWhile isWrd)) = true
    · rw [if_pos hw, hw]; rfl
    · rw [if_neg hw, Bool.eq_false_iff.2 hw]; rfl
  · rw [if_neg h1, Bool.eq_false_iff.2 h1]
    simp only [cond_false]
    rw [dig_m]
    simp only [Option.bind_some]
    by_cases h2 : isDig (sAt s (i : Int)) = true ∨ sAt s (i : Int) = 45
    · have hcd : (cond (isDig (sAt s (i : Int))) true (iEq (sAt s (i : Int)) 45)) = true := by
        rcases h2 with q | q
        · rw [q]; rfl
        · rw [iEq_t q]; cases isDig (sAt s (i : Int)) <;> rfl
      rw [hcd, if_pos h2, iAdd64 (by omega) (by omega)]
      simp only [cond_true]
      have hsp := span2 s (i + 1) (by omega) (by omega)
      rw [span_tw isDig s (s.size - (i + 1)) (i + 1) (by omega), hr1] at hsp
      rw [show (i : Int) + 1 = ((i + 1 : Nat) : Int) by omega, hsp]
      have hk := tw_le isDig (r.drop 1)
      rw [List.length_drop, hrl] at hk
      simp only [Option.bind_some]
      have hcut : cutS (i : Int) ((i + 1 + ((r.drop 1).takeWhile isDig).length : Nat) : Int) s = bsI (sAt s (i : Int) :: (r.drop 1).takeWhile isDig) := by
        rw [show i + 1 + ((r.drop 1).takeWhile isDig).length = i + (1 + ((r.drop 1).takeWhile isDig).length) by omega, cut_at, hr]
        have e : ∀ q : List Int, (sAt s (i : Int) :: q).take (1 + (q.takeWhile isDig).length) = sAt s (i : Int) :: q.takeWhile isDig := fun q => by rw [Nat.add_comm, List.take_succ_cons, tw_take]
        have e := e (r.drop 1)
        rw [← hcons] at e
        rw [e]
      have hbt : Byt (sAt s (i : Int) :: (r.drop 1).takeWhile isDig) := by
        intro x hx
        rcases List.mem_cons.1 hx with rfl | hx
        · exact sAt_rng s _
        · exact hbr x (List.mem_of_mem_drop (tw_in hx))
      rw [cutOk_t (by omega) (by omega) (by omega), hcut]
      simp only [cond_true]
      have hbb := bl_bsI hbt
      generalize bsI (sAt s (i : Int) :: (r.drop 1).takeWhile isDig) = t at hbb
      have htl : t.size = 1 + ((r.drop 1).takeWhile isDig).length := by rw [← bl_len, hbb, List.length_cons]; omega
      have ht0 : sAt t 0 = sAt s (i : Int) := by have := bl_at t 0; rw [hbb] at this; exact this
      rw [number_m t (by omega) (by omega) (by rw [ht0]; exact h2) (by rw [hbb]; exact tw_mem), hbb]
      simp only [Option.bind_some]
      by_cases hz : (numberL (sAt s (i : Int) :: (r.drop 1).takeWhile isDig)).2 = 0
      · rw [iNe_f hz, if_neg (by simpa using hz)]
        simp only [cond_false, if_true]
        rw [show i + 1 + ((r.drop 1).takeWhile isDig).length = i + (1 + ((r.drop 1).takeWhile isDig).length) by omega]
      · rw [iNe_t hz, if_pos hz]
        simp only [cond_true]
        rw [if_neg hz]; rfl
    · have hcd : (cond (isDig (sAt s (i : Int))) true (iEq (sAt s (i : Int)) 45)) = false := by
        cases hq : isDig (sAt s (i : Int)) with
        | true => exact absurd (.inl hq) h2
        | false => exact iEq_f (fun q => h2 (.inr q))
      rw [hcd, if_neg h2]
      simp only [cond_false]
      by_cases h3 : sAt s (i : Int) = 64
      · rw [iEq_t h3, if_pos h3, iAdd64 (by omega) (by omega)]
        simp only [cond_true]
        have hsp := span3 s (i + 1) (by omega) (by omega)
        rw [span_tw isHr s (s.size - (i + 1)) (i + 1) (by omega), hr1] at hsp
        rw [show (i : Int) + 1 = ((i + 1 : Nat) : Int) by omega, hsp]
        have hk := tw_le isHr (r.drop 1)
        rw [List.length_drop, hrl] at hk
        simp only [Option.bind_some]
        rw [cutOk_t (by omega) (by omega) (by omega), cut_at, hr1, tw_take, parse_m]
        simp only [cond_true, Option.bind_some]
        by_cases hz : (hourS (bsI ((r.drop 1).takeWhile isHr))).2.1 = 0
        · rw [iNe_f hz, if_neg (by simpa using hz)]
          simp only [cond_false, if_true]
          rw [show i + 1 + ((r.drop 1).takeWhile isHr).length = i + (1 + ((r.drop 1).takeWhile isHr).length) by omega]
        · rw [iNe_t hz, if_pos hz]
          simp only [cond_true]
          rw [if_neg hz]; rfl
      · rw [iEq_f h3, if_neg h3, mark_m]
        simp only [cond_false, Option.bind_some]
        by_cases h4 : isMark (sAt s (i : Int)) = true
        · rw [if_pos h4, h4]
          simp only [cond_true, if_true]
          rw [iAdd64 (by omega) (by omega), cutOk_t (by omega) (by omega) (by omega), show (i : Int) + 1 = ((i + 1 : Nat) : Int) by omega, cut_at, hr]
          have : r.take 1 = [sAt s (i : Int)] := by
            conv => lhs; rw [hcons]
            rfl
          rw [this]; rfl
        · rw [if_neg h4, Bool.eq_false_iff.2 h4]; rfl
end Abs
end Go.Proofs.YtamgbanmnededaaDoor
