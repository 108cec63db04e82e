/- Codec: what the deck's makers answer. -/
import Derived.Test.YtbghnjkieghloaaXP
import Derived.Test.YtbghnjkieghloaaC7
namespace Go.Proofs.Ytbghnjkieghloaa
namespace Abs
set_option linter.unusedVariables false
set_option linter.unusedSimpArgs false
theorem next_T {L : List Int} {a n : Int} (h : DeckOk L a) (hn : 0 < n) (hn2 : n ≤ 4611686018427387904) : T (m32 n L a) (fun y => DeckOk y.2.1 y.2.2.1 ∧ 0 ≤ y.1 ∧ y.1 < n) := by
  obtain ⟨v, a', e, h1, h2, h3⟩ := next_ok h hn hn2
  exact ⟨_, e, h3, h1, h2⟩
theorem upto_T {L : List Int} {a n : Int} (h : DeckOk L a) (h0 : 0 ≤ n) (h1 : n ≤ 4611686018427387903) : T (m11 n L a) (fun y => DeckOk y.2.1 y.2.2.1 ∧ 0 ≤ y.1 ∧ y.1 ≤ n) := by
  obtain ⟨v, a', e, h1, h2, h3⟩ := upto_ok h h0 h1
  exact ⟨_, e, h3, h1, h2⟩
theorem small_T {L : List Int} {a : Int} (h : DeckOk L a) : T (m56 L a) (fun y => DeckOk y.2.1 y.2.2.1 ∧ 0 ≤ y.1 ∧ y.1 < 268435456) := by
  unfold m56
  repeat' (first | (refine T.call (next_T (by assumption) (by first | omega | (simp (disch := omega) only [iAdd64, iSub64, iMul64, lenI_eq, List.length_append, List.length_cons, List.length_nil, List.length_set, List.length_take, List.length_drop, List.length_replicate]; omega)) (by first | omega | (simp (disch := omega) only [iAdd64, iSub64, iMul64, lenI_eq, List.length_append, List.length_cons, List.length_nil, List.length_set, List.length_take, List.length_drop, List.length_replicate]; omega))) (fun _ ⟨_, _, _⟩ => ?_)) | (refine T.grd ?_ ?_) | (refine T.cnd (fun hc => ?_) (fun hc => ?_) <;> try simp only [iLt_T, iLt_F, iLe_T, iLe_F, iEq_T, iEq_F, iNe_T, iNe_F, bnd_T, bnd_F, inB_T, inB_F, fits_T, fitsI_T, cutOk_T, someE_T, someE_F, leN_T, not_T, not_F, and_T, and_F, or_T, or_F, candF_T, candF_F, corT_T, corT_F, bEqT_T, bEqT_F, bEqF_T, bEqF_F, eq_self, or_true, true_or, and_true, true_and, or_false, false_or, and_false, false_and, not_true_eq_false, not_false_eq_true, Bool.true_eq_false, Bool.false_eq_true] at hc) | (refine T.mapL ?_) | (refine T.mapJ ?_) | (refine T.go ?_ ?_) | (refine T.out ?_) | (refine T.jgo ?_) | (refine T.jout ?_) | (refine T.ret ?_))
  all_goals exact ⟨by assumption, by omega, by omega⟩
theorem money_T {L : List Int} {a : Int} (h : DeckOk L a) : T (m65 L a) (fun y => DeckOk y.2.1 y.2.2.1 ∧ 0 ≤ y.1 ∧ y.1 ≤ 1073741824) := by
  unfold m65
  repeat' (first | (refine T.call (upto_T (by assumption) (by first | omega | (simp (disch := omega) only [iAdd64, iSub64, iMul64, lenI_eq, List.length_append, List.length_cons, List.length_nil, List.length_set, List.length_take, List.length_drop, List.length_replicate]; omega)) (by first | omega | (simp (disch := omega) only [iAdd64, iSub64, iMul64, lenI_eq, List.length_append, List.length_cons, List.length_nil, List.length_set, List.length_take, List.length_drop, List.length_replicate]; omega))) (fun _ ⟨_, _, _⟩ => ?_)) | (refine T.grd ?_ ?_) | (refine T.cnd (fun hc => ?_) (fun hc => ?_) <;> try simp only [iLt_T, iLt_F, iLe_T, iLe_F, iEq_T, iEq_F, iNe_T, iNe_F, bnd_T, bnd_F, inB_T, inB_F, fits_T, fitsI_T, cutOk_T, someE_T, someE_F, leN_T, not_T, not_F, and_T, and_F, or_T, or_F, candF_T, candF_F, corT_T, corT_F, bEqT_T, bEqT_F, bEqF_T, bEqF_F, eq_self, or_true, true_or, and_true, true_and, or_false, false_or, and_false, false_and, not_true_eq_false, not_false_eq_true, Bool.true_eq_false, Bool.false_eq_true] at hc) | (refine T.mapL ?_) | (refine T.mapJ ?_) | (refine T.go ?_ ?_) | (refine T.out ?_) | (refine T.jgo ?_) | (refine T.jout ?_) | (refine T.ret ?_))
  exact ⟨by assumption, by omega, by omega⟩
theorem range_T {L : List Int} {a l u : Int} (h : DeckOk L a) (h0 : 0 ≤ l) (h1 : l ≤ u) (h2 : u ≤ 1000000) : T (m66 l u L a) (fun y => DeckOk y.2.1 y.2.2.1 ∧ l ≤ y.1 ∧ y.1 ≤ u) := by
  unfold m66
  have e : iAdd .i64 (iSub .i64 u l) 1 = u - l + 1 := by rw [iSub64 (by omega) (by omega), iAdd64 (by omega) (by omega)]
  rw [e]
  repeat' (first | (refine T.call (next_T (by assumption) (by first | omega | (simp (disch := omega) only [iAdd64, iSub64, iMul64, lenI_eq, List.length_append, List.length_cons, List.length_nil, List.length_set, List.length_take, List.length_drop, List.length_replicate]; omega)) (by first | omega | (simp (disch := omega) only [iAdd64, iSub64, iMul64, lenI_eq, List.length_append, List.length_cons, List.length_nil, List.length_set, List.length_take, List.length_drop, List.length_replicate]; omega))) (fun _ ⟨_, _, _⟩ => ?_)) | (refine T.grd ?_ ?_) | (refine T.cnd (fun hc => ?_) (fun hc => ?_) <;> try simp only [iLt_T, iLt_F, iLe_T, iLe_F, iEq_T, iEq_F, iNe_T, iNe_F, bnd_T, bnd_F, inB_T, inB_F, fits_T, fitsI_T, cutOk_T, someE_T, someE_F, leN_T, not_T, not_F, and_T, and_F, or_T, or_F, candF_T, candF_F, corT_T, corT_F, bEqT_T, bEqT_F, bEqF_T, bEqF_F, eq_self, or_true, true_or, and_true, true_and, or_false, false_or, and_false, false_and, not_true_eq_false, not_false_eq_true, Bool.true_eq_false, Bool.false_eq_true] at hc) | (refine T.mapL ?_) | (refine T.mapJ ?_) | (refine T.go ?_ ?_) | (refine T.out ?_) | (refine T.jgo ?_) | (refine T.jout ?_) | (refine T.ret ?_))
  refine ⟨by assumption, ?_, ?_⟩ <;> (rw [iAdd64 (by omega) (by omega)]; omega)
theorem entry_T {L : List Int} {a : Int} (h : DeckOk L a) : T (m62 L a) (fun y => DeckOk y.2.2.2.2.2.1 y.2.2.2.2.2.2.1 ∧ (0 ≤ y.1 ∧ y.1 ≤ 10) ∧ (0 ≤ y.2.1 ∧ y.2.1 ≤ 10) ∧ (0 ≤ y.2.2.2.1 ∧ y.2.2.2.1 ≤ 10) ∧ (-34359738368 ≤ y.2.2.2.2.1 ∧ y.2.2.2.2.1 ≤ 34359738368)) := by
  unfold m62
  repeat' (first | (refine T.call (next_T (by assumption) (by first | omega | (simp (disch := omega) only [iAdd64, iSub64, iMul64, lenI_eq, List.length_append, List.length_cons, List.length_nil, List.length_set, List.length_take, List.length_drop, List.length_replicate]; omega)) (by first | omega | (simp (disch := omega) only [iAdd64, iSub64, iMul64, lenI_eq, List.length_append, List.length_cons, List.length_nil, List.length_set, List.length_take, List.length_drop, List.length_replicate]; omega))) (fun _ ⟨_, _, _⟩ => ?_)) | (refine T.grd ?_ ?_) | (refine T.cnd (fun hc => ?_) (fun hc => ?_) <;> try simp only [iLt_T, iLt_F, iLe_T, iLe_F, iEq_T, iEq_F, iNe_T, iNe_F, bnd_T, bnd_F, inB_T, inB_F, fits_T, fitsI_T, cutOk_T, someE_T, someE_F, leN_T, not_T, not_F, and_T, and_F, or_T, or_F, candF_T, candF_F, corT_T, corT_F, bEqT_T, bEqT_F, bEqF_T, bEqF_F, eq_self, or_true, true_or, and_true, true_and, or_false, false_or, and_false, false_and, not_true_eq_false, not_false_eq_true, Bool.true_eq_false, Bool.false_eq_true] at hc) | (refine T.mapL ?_) | (refine T.mapJ ?_) | (refine T.go ?_ ?_) | (refine T.out ?_) | (refine T.jgo ?_) | (refine T.jout ?_) | (refine T.ret ?_))
  all_goals refine ⟨by assumption, ?_, ?_, ?_, ?_⟩
  all_goals simp (disch := omega) only [iAdd64, iSub64]
  all_goals omega
/-- An entry that can be written. -/
def EntOk (x : DS5) : Prop := (0 ≤ x.1 ∧ x.1 ≤ 10) ∧ (0 ≤ x.2.1 ∧ x.2.1 ≤ 10) ∧ (0 ≤ x.2.2.2.1 ∧ x.2.2.2.1 ≤ 10) ∧ (-34359738368 ≤ x.2.2.2.2.1 ∧ x.2.2.2.2.1 ≤ 34359738368)
theorem mem_snoc {α : Type} {P : α → Prop} {xs : List α} {y : α} (h : ∀ x ∈ xs, P x) (hy : P y) : ∀ x ∈ xs ++ [y], P x := by
  intro x hx
  rcases List.mem_append.1 hx with q | q
  · exact h x q
  · rw [List.mem_singleton.1 q]; exact hy
theorem entries_T {L : List Int} {a n : Int} (h : DeckOk L a) (h0 : 0 ≤ n) (h1 : n ≤ 1000) : T (m52 n L a) (fun y => DeckOk y.1 y.2.1 ∧ (y.2.2.1.length : Int) ≤ n ∧ ∀ x ∈ y.2.2.1, EntOk x) := by
  unfold m52
  rw [iAdd64 (by omega) (by omega)]
  refine T.call (next_T h (by omega) (by omega)) (fun y ⟨d, y0, y1⟩ => ?_)
  refine T.loop (fun s => DeckOk s.2.1 s.2.2.1 ∧ 0 ≤ s.1 ∧ s.1 + (s.2.2.2.1.length : Int) ≤ n ∧ ∀ x ∈ s.2.2.2.1, EntOk x) (fun s => s.1.toNat) ⟨d, y0, by simp; omega, by simp⟩ (fun s ⟨d, s0, s1, s2⟩ => ?_)
  repeat' (first | (refine T.call (entry_T (by assumption)) (fun _ ⟨_, _, _, _, _⟩ => ?_)) | (refine T.grd ?_ ?_) | (refine T.cnd (fun hc => ?_) (fun hc => ?_) <;> try simp only [iLt_T, iLt_F, iLe_T, iLe_F, iEq_T, iEq_F, iNe_T, iNe_F, bnd_T, bnd_F, inB_T, inB_F, fits_T, fitsI_T, cutOk_T, someE_T, someE_F, leN_T, not_T, not_F, and_T, and_F, or_T, or_F, candF_T, candF_F, corT_T, corT_F, bEqT_T, bEqT_F, bEqF_T, bEqF_F, eq_self, or_true, true_or, and_true, true_and, or_false, false_or, and_false, false_and, not_true_eq_false, not_false_eq_true, Bool.true_eq_false, Bool.false_eq_true] at hc) | (refine T.mapL ?_) | (refine T.mapJ ?_) | (refine T.go ?_ ?_) | (refine T.out ?_) | (refine T.jgo ?_) | (refine T.jout ?_) | (refine T.ret ?_))
  · first | (simp (disch := omega) only [iLt_T, iLt_F, iLe_T, iLe_F, iEq_T, iEq_F, iNe_T, iNe_F, bnd_T, bnd_F, inB_T, inB_F, fits_T, fitsI_T, cutOk_T, someE_T, someE_F, leN_T, not_T, not_F, and_T, and_F, or_T, or_F, candF_T, candF_F, corT_T, corT_F, bEqT_T, bEqT_F, bEqF_T, bEqF_F, eq_self, or_true, true_or, and_true, true_and, or_false, false_or, and_false, false_and, not_true_eq_false, not_false_eq_true, Bool.true_eq_false, Bool.false_eq_true, iAdd64, iSub64, iMul64, lenI_eq, List.length_append, List.length_cons, List.length_nil, List.length_set, List.length_take, List.length_drop, List.length_replicate]; omega) | (simp (disch := omega) only [iLt_T, iLt_F, iLe_T, iLe_F, iEq_T, iEq_F, iNe_T, iNe_F, bnd_T, bnd_F, inB_T, inB_F, fits_T, fitsI_T, cutOk_T, someE_T, someE_F, leN_T, not_T, not_F, and_T, and_F, or_T, or_F, candF_T, candF_F, corT_T, corT_F, bEqT_T, bEqT_F, bEqF_T, bEqF_F, eq_self, or_true, true_or, and_true, true_and, or_false, false_or, and_false, false_and, not_true_eq_false, not_false_eq_true, Bool.true_eq_false, Bool.false_eq_true, iAdd64, iSub64, iMul64, lenI_eq, List.length_append, List.length_cons, List.length_nil, List.length_set, List.length_take, List.length_drop, List.length_replicate]; done)
  · dsimp only
    refine ⟨by assumption, ?_, ?_, mem_snoc s2 ⟨?_, ?_, ?_, ?_⟩⟩
    all_goals simp (disch := omega) only [iSub64, List.length_append, List.length_cons, List.length_nil]
    all_goals first | omega | assumption
  · simp (disch := omega) only [iSub64]; omega
  · exact ⟨d, by dsimp only; omega, s2⟩
/-- A bordereau's row that can be written. -/
def RowOk (p : Int) (x : DS6) : Prop := x.2.2.1.2.2.1 = p ∧ ∀ v ∈ rowN x, vAmt v = true
theorem vAmt_t {x : Int} (h1 : -17592186044416 ≤ x) (h2 : x ≤ 17592186044416) : vAmt x = true := decide_eq_true ⟨h1, h2⟩
theorem bord_T {L : List Int} {a : Int} (h : DeckOk L a) : T (m25 L a) (fun y => DeckOk y.2.2.2.1 y.2.2.2.2.1 ∧ (0 ≤ y.1 ∧ y.1 < 300) ∧ (0 ≤ y.2.1 ∧ y.2.1 < 16) ∧ (0 ≤ y.2.2.1 ∧ y.2.2.1 < 200) ∧ y.2.2.2.2.2.1.length ≤ 10 ∧ ∀ x ∈ y.2.2.2.2.2.1, RowOk y.2.1 x) := by
  unfold m25
  refine T.call (next_T h (by omega) (by omega)) (fun u ⟨d, u0, u1⟩ => ?_)
  refine T.call (next_T d (by omega) (by omega)) (fun v ⟨d, v0, v1⟩ => ?_)
  refine T.call (next_T d (by omega) (by omega)) (fun w ⟨d, w0, w1⟩ => ?_)
  refine T.call (entries_T d (by omega) (by omega)) (fun z ⟨d, z0, z1⟩ => ?_)
  refine T.loop (fun s => s.1 = lenI z.2.2.1 ∧ DeckOk s.2.2.1 s.2.2.2.1 ∧ s.2.2.2.2.2.2.2.1 = u.1 ∧ s.2.2.2.2.2.2.2.2.1 = v.1 ∧ s.2.2.2.2.2.2.2.2.2.1 = w.1 ∧ s.2.2.2.2.2.2.2.2.2.2.1 = z.2.2.1 ∧ (0 ≤ s.2.1 ∧ s.2.1 ≤ lenI z.2.2.1) ∧ (List.length (α := DS6) s.2.2.2.2.2.2.2.2.2.2.2.1 : Int) = s.2.1 ∧ ∀ x ∈ s.2.2.2.2.2.2.2.2.2.2.2.1, RowOk v.1 x) (fun s => (lenI z.2.2.1 - s.2.1).toNat) ⟨rfl, d, rfl, rfl, rfl, rfl, ⟨by simp, by simp [lenI]⟩, by simp, by simp⟩ (fun s ⟨e1, d, e7, e8, e9, e10, ⟨k0, k1⟩, hl, hr⟩ => ?_)
  rw [e1, e10] at *
  have hz : lenI z.2.2.1 = (z.2.2.1.length : Int) := rfl
  repeat' (first | (refine T.call (next_T (by assumption) (by first | omega | (simp (disch := omega) only [iAdd64, iSub64, iMul64, lenI_eq, List.length_append, List.length_cons, List.length_nil, List.length_set, List.length_take, List.length_drop, List.length_replicate]; omega)) (by first | omega | (simp (disch := omega) only [iAdd64, iSub64, iMul64, lenI_eq, List.length_append, List.length_cons, List.length_nil, List.length_set, List.length_take, List.length_drop, List.length_replicate]; omega))) (fun _ ⟨_, _, _⟩ => ?_)) | (refine T.grd ?_ ?_) | (refine T.cnd (fun hc => ?_) (fun hc => ?_) <;> try simp only [iLt_T, iLt_F, iLe_T, iLe_F, iEq_T, iEq_F, iNe_T, iNe_F, bnd_T, bnd_F, inB_T, inB_F, fits_T, fitsI_T, cutOk_T, someE_T, someE_F, leN_T, not_T, not_F, and_T, and_F, or_T, or_F, candF_T, candF_F, corT_T, corT_F, bEqT_T, bEqT_F, bEqF_T, bEqF_F, eq_self, or_true, true_or, and_true, true_and, or_false, false_or, and_false, false_and, not_true_eq_false, not_false_eq_true, Bool.true_eq_false, Bool.false_eq_true] at hc) | (refine T.mapL ?_) | (refine T.mapJ ?_) | (refine T.go ?_ ?_) | (refine T.out ?_) | (refine T.jgo ?_) | (refine T.jout ?_) | (refine T.ret ?_))
  · first | (simp (disch := omega) only [iLt_T, iLt_F, iLe_T, iLe_F, iEq_T, iEq_F, iNe_T, iNe_F, bnd_T, bnd_F, inB_T, inB_F, fits_T, fitsI_T, cutOk_T, someE_T, someE_F, leN_T, not_T, not_F, and_T, and_F, or_T, or_F, candF_T, candF_F, corT_T, corT_F, bEqT_T, bEqT_F, bEqF_T, bEqF_F, eq_self, or_true, true_or, and_true, true_and, or_false, false_or, and_false, false_and, not_true_eq_false, not_false_eq_true, Bool.true_eq_false, Bool.false_eq_true, iAdd64, iSub64, iMul64, lenI_eq, List.length_append, List.length_cons, List.length_nil, List.length_set, List.length_take, List.length_drop, List.length_replicate]; omega) | (simp (disch := omega) only [iLt_T, iLt_F, iLe_T, iLe_F, iEq_T, iEq_F, iNe_T, iNe_F, bnd_T, bnd_F, inB_T, inB_F, fits_T, fitsI_T, cutOk_T, someE_T, someE_F, leN_T, not_T, not_F, and_T, and_F, or_T, or_F, candF_T, candF_F, corT_T, corT_F, bEqT_T, bEqT_F, bEqF_T, bEqF_F, eq_self, or_true, true_or, and_true, true_and, or_false, false_or, and_false, false_and, not_true_eq_false, not_false_eq_true, Bool.true_eq_false, Bool.false_eq_true, iAdd64, iSub64, iMul64, lenI_eq, List.length_append, List.length_cons, List.length_nil, List.length_set, List.length_take, List.length_drop, List.length_replicate]; done)
  · first | (simp (disch := omega) only [iLt_T, iLt_F, iLe_T, iLe_F, iEq_T, iEq_F, iNe_T, iNe_F, bnd_T, bnd_F, inB_T, inB_F, fits_T, fitsI_T, cutOk_T, someE_T, someE_F, leN_T, not_T, not_F, and_T, and_F, or_T, or_F, candF_T, candF_F, corT_T, corT_F, bEqT_T, bEqT_F, bEqF_T, bEqF_F, eq_self, or_true, true_or, and_true, true_and, or_false, false_or, and_false, false_and, not_true_eq_false, not_false_eq_true, Bool.true_eq_false, Bool.false_eq_true, iAdd64, iSub64, iMul64, lenI_eq, List.length_append, List.length_cons, List.length_nil, List.length_set, List.length_take, List.length_drop, List.length_replicate]; omega) | (simp (disch := omega) only [iLt_T, iLt_F, iLe_T, iLe_F, iEq_T, iEq_F, iNe_T, iNe_F, bnd_T, bnd_F, inB_T, inB_F, fits_T, fitsI_T, cutOk_T, someE_T, someE_F, leN_T, not_T, not_F, and_T, and_F, or_T, or_F, candF_T, candF_F, corT_T, corT_F, bEqT_T, bEqT_F, bEqF_T, bEqF_F, eq_self, or_true, true_or, and_true, true_and, or_false, false_or, and_false, false_and, not_true_eq_false, not_false_eq_true, Bool.true_eq_false, Bool.false_eq_true, iAdd64, iSub64, iMul64, lenI_eq, List.length_append, List.length_cons, List.length_nil, List.length_set, List.length_take, List.length_drop, List.length_replicate]; done)
  · first | (simp (disch := omega) only [iLt_T, iLt_F, iLe_T, iLe_F, iEq_T, iEq_F, iNe_T, iNe_F, bnd_T, bnd_F, inB_T, inB_F, fits_T, fitsI_T, cutOk_T, someE_T, someE_F, leN_T, not_T, not_F, and_T, and_F, or_T, or_F, candF_T, candF_F, corT_T, corT_F, bEqT_T, bEqT_F, bEqF_T, bEqF_F, eq_self, or_true, true_or, and_true, true_and, or_false, false_or, and_false, false_and, not_true_eq_false, not_false_eq_true, Bool.true_eq_false, Bool.false_eq_true, iAdd64, iSub64, iMul64, lenI_eq, List.length_append, List.length_cons, List.length_nil, List.length_set, List.length_take, List.length_drop, List.length_replicate]; omega) | (simp (disch := omega) only [iLt_T, iLt_F, iLe_T, iLe_F, iEq_T, iEq_F, iNe_T, iNe_F, bnd_T, bnd_F, inB_T, inB_F, fits_T, fitsI_T, cutOk_T, someE_T, someE_F, leN_T, not_T, not_F, and_T, and_F, or_T, or_F, candF_T, candF_F, corT_T, corT_F, bEqT_T, bEqT_F, bEqF_T, bEqF_F, eq_self, or_true, true_or, and_true, true_and, or_false, false_or, and_false, false_and, not_true_eq_false, not_false_eq_true, Bool.true_eq_false, Bool.false_eq_true, iAdd64, iSub64, iMul64, lenI_eq, List.length_append, List.length_cons, List.length_nil, List.length_set, List.length_take, List.length_drop, List.length_replicate]; done)
  · dsimp only
    have hk : s.2.1.toNat < z.2.2.1.length := by omega
    have hx := z1 _ (List.getElem_mem hk)
    rw [getD_get _ hk]
    generalize z.2.2.1[s.2.1.toNat] = x at hx
    obtain ⟨x1, x2, x3, x4⟩ := hx
    refine ⟨rfl, by assumption, e7, e8, e9, rfl, ?_, ?_, ?_⟩
    · simp (disch := omega) only [iAdd64]; omega
    · simp (disch := omega) only [iAdd64, List.length_append, List.length_cons, List.length_nil]; omega
    · rw [e8]
      refine mem_snoc hr ⟨rfl, ?_⟩
      intro q hq
      simp only [rowN, List.mem_cons, List.not_mem_nil, or_false] at hq
      rw [iAdd64 (by omega) (by omega)] at hq
      rcases hq with rfl | rfl | rfl | rfl | rfl | rfl <;> exact vAmt_t (by omega) (by omega)
  · simp (disch := omega) only [iAdd64]; omega
  · rw [e7, e8, e9]
    exact ⟨d, ⟨by omega, by omega⟩, ⟨by omega, by omega⟩, ⟨by omega, by omega⟩, by dsimp only; omega, hr⟩
end Abs
end Go.Proofs.Ytbghnjkieghloaa
