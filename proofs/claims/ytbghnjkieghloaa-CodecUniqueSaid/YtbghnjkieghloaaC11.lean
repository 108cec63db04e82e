/- Codec: the law on commands. -/
import Derived.Test.YtbghnjkieghloaaC9
import Derived.Test.YtbghnjkieghloaaC10
namespace Go.Proofs.Ytbghnjkieghloaa
namespace Abs
set_option linter.unusedVariables false
set_option linter.unusedSimpArgs false
theorem LoB.set {b c : Int} {xs : List DS0} {i : Nat} {y : DS0} (h : ∀ x ∈ xs, LoB b x) (hbc : b ≤ c) (hy : LoB c y) : ∀ x ∈ xs.set i y, LoB c x := by
  intro x hx
  rcases List.mem_or_eq_of_mem_set hx with q | q
  · exact (h x q).mono hbc
  · rw [q]; exact hy
theorem changed_T {L : List Int} {a : Int} {l : List DS0} (h : DeckOk L a) (hl : l.length ≤ 12) (hp : ∀ x ∈ l, LoB 268435456 x) : T (m57 l L a) (fun y => DeckOk y.2.1 y.2.2.1 ∧ List.length (α := DS0) y.1 ≤ 12 ∧ ∀ x ∈ y.1, LoB 2147483648 x) := by
  unfold m57
  refine T.grd (by first | (simp (disch := omega) only [iLt_T, iLt_F, iLe_T, iLe_F, iEq_T, iEq_F, iNe_T, iNe_F, bnd_T, bnd_F, inB_T, inB_F, fits_T, fitsI_T, cutOk_T, someE_T, someE_F, leN_T, not_T, not_F, and_T, and_F, or_T, or_F, candF_T, candF_F, corT_T, corT_F, bEqT_T, bEqT_F, bEqF_T, bEqF_F, eq_self, or_true, true_or, and_true, true_and, or_false, false_or, and_false, false_and, not_true_eq_false, not_false_eq_true, Bool.true_eq_false, Bool.false_eq_true, iAdd64, iSub64, iMul64, lenI_eq, List.length_append, List.length_cons, List.length_nil, List.length_set, List.length_take, List.length_drop, List.length_replicate]; omega) | (simp (disch := omega) only [iLt_T, iLt_F, iLe_T, iLe_F, iEq_T, iEq_F, iNe_T, iNe_F, bnd_T, bnd_F, inB_T, inB_F, fits_T, fitsI_T, cutOk_T, someE_T, someE_F, leN_T, not_T, not_F, and_T, and_F, or_T, or_F, candF_T, candF_F, corT_T, corT_F, bEqT_T, bEqT_F, bEqF_T, bEqF_F, eq_self, or_true, true_or, and_true, true_and, or_false, false_or, and_false, false_and, not_true_eq_false, not_false_eq_true, Bool.true_eq_false, Bool.false_eq_true, iAdd64, iSub64, iMul64, lenI_eq, List.length_append, List.length_cons, List.length_nil, List.length_set, List.length_take, List.length_drop, List.length_replicate]; done)) ?_
  simp only [List.nil_append]
  refine T.call (next_T h (by omega) (by omega)) (fun y ⟨d, y0, y1⟩ => ?_)
  refine T.loop (fun s => (0 ≤ s.1 ∧ s.1 ≤ 3) ∧ DeckOk s.2.1 s.2.2.1 ∧ List.length (α := DS0) s.2.2.2.1 ≤ 12 ∧ ∀ x ∈ s.2.2.2.1, LoB (268435456 * (5 - s.1)) x) (fun s => s.1.toNat) ⟨⟨y0, by omega⟩, d, hl, fun x hx => (hp x hx).mono (by first | omega | (dsimp only; omega))⟩ (fun s ⟨⟨s0, s1⟩, d, sl, sp⟩ => ?_)
  have hz : lenI s.2.2.2.1 = (List.length (α := DS0) s.2.2.2.1 : Int) := rfl
  have g : ∀ i : Nat, i < List.length (α := DS0) s.2.2.2.1 → LoB (268435456 * (5 - s.1)) (List.getD s.2.2.2.1 i (0, 0, 0, 0, 0, 0, 0, 0, 0, 0, ())) := fun i hi => by rw [getD_get _ hi]; exact sp _ (List.getElem_mem hi)
  refine T.cnd (fun hc => ?_) (fun hc => T.out ⟨d, sl, fun x hx => (sp x hx).mono (by simp only [iLt_F] at hc; omega)⟩)
  simp only [iLt_T] at hc
  have ek : iSub .i64 s.1 1 = s.1 - 1 := iSub64 (by omega) (by omega)
  rw [ek]
  repeat' (first | (refine T.call (next_T (by assumption) (by first | omega | (simp (disch := omega) only [iAdd64, iSub64, iMul64, lenI_eq, List.length_append, List.length_cons, List.length_nil, List.length_set, List.length_take, List.length_drop, List.length_replicate]; omega)) (by first | omega | (simp (disch := omega) only [iAdd64, iSub64, iMul64, lenI_eq, List.length_append, List.length_cons, List.length_nil, List.length_set, List.length_take, List.length_drop, List.length_replicate]; omega))) (fun _ ⟨_, _, _⟩ => ?_)) | (refine T.call (small_T (by assumption)) (fun _ ⟨_, _, _⟩ => ?_)) | (refine T.join (fun j => j.1 = s.1 ∧ (0 ≤ j.2.1 ∧ j.2.1 ≤ 268435456 * (5 - s.1) + 1) ∧ DeckOk j.2.2.1 j.2.2.2.1 ∧ j.2.2.2.2.1 = s.2.2.2.1) ?_ ?_) | (rintro j ⟨ej, ⟨j0, j1⟩, dj, el⟩; simp only [ej, el, ek]) | (refine T.grd ?_ ?_) | (refine T.cnd (fun hc => ?_) (fun hc => ?_) <;> try simp only [iLt_T, iLt_F, iLe_T, iLe_F, iEq_T, iEq_F, iNe_T, iNe_F, bnd_T, bnd_F, inB_T, inB_F, fits_T, fitsI_T, cutOk_T, someE_T, someE_F, leN_T, not_T, not_F, and_T, and_F, or_T, or_F, candF_T, candF_F, corT_T, corT_F, bEqT_T, bEqT_F, bEqF_T, bEqF_F, eq_self, or_true, true_or, and_true, true_and, or_false, false_or, and_false, false_and, not_true_eq_false, not_false_eq_true, Bool.true_eq_false, Bool.false_eq_true] at hc) | (refine T.mapL ?_) | (refine T.mapJ ?_) | (refine T.go ?_ ?_) | (refine T.out ?_) | (refine T.jgo ?_) | (refine T.jout ?_) | (refine T.ret ?_))
  all_goals try (first | (simp (disch := omega) only [iLt_T, iLt_F, iLe_T, iLe_F, iEq_T, iEq_F, iNe_T, iNe_F, bnd_T, bnd_F, inB_T, inB_F, fits_T, fitsI_T, cutOk_T, someE_T, someE_F, leN_T, not_T, not_F, and_T, and_F, or_T, or_F, candF_T, candF_F, corT_T, corT_F, bEqT_T, bEqT_F, bEqF_T, bEqF_F, eq_self, or_true, true_or, and_true, true_and, or_false, false_or, and_false, false_and, not_true_eq_false, not_false_eq_true, Bool.true_eq_false, Bool.false_eq_true, iAdd64, iSub64, iMul64, lenI_eq, List.length_append, List.length_cons, List.length_nil, List.length_set, List.length_take, List.length_drop, List.length_replicate]; omega) | (simp (disch := omega) only [iLt_T, iLt_F, iLe_T, iLe_F, iEq_T, iEq_F, iNe_T, iNe_F, bnd_T, bnd_F, inB_T, inB_F, fits_T, fitsI_T, cutOk_T, someE_T, someE_F, leN_T, not_T, not_F, and_T, and_F, or_T, or_F, candF_T, candF_F, corT_T, corT_F, bEqT_T, bEqT_F, bEqF_T, bEqF_F, eq_self, or_true, true_or, and_true, true_and, or_false, false_or, and_false, false_and, not_true_eq_false, not_false_eq_true, Bool.true_eq_false, Bool.false_eq_true, iAdd64, iSub64, iMul64, lenI_eq, List.length_append, List.length_cons, List.length_nil, List.length_set, List.length_take, List.length_drop, List.length_replicate]; done))
  all_goals try exact ⟨⟨by first | omega | (dsimp only; omega), by first | omega | (dsimp only; omega)⟩, by assumption, sl, fun x hx => (sp x hx).mono (by first | omega | (dsimp only; omega))⟩
  all_goals try exact ⟨rfl, ⟨by first | omega | (dsimp only; omega), by first | omega | (dsimp only; omega)⟩, by assumption, rfl⟩
  all_goals try (refine ⟨⟨by first | omega | (dsimp only; omega), by first | omega | (dsimp only; omega)⟩, by assumption, by simp only [List.length_append, List.length_cons, List.length_nil]; omega, mem_snoc (fun x hx => (sp x hx).mono (by first | omega | (dsimp only; omega))) ⟨⟨?_, ?_⟩, ⟨?_, ?_⟩, ⟨?_, ?_⟩, ⟨?_, ?_⟩, ⟨?_, ?_⟩, ⟨?_, ?_⟩, ⟨?_, ?_⟩, ⟨?_, ?_⟩, ⟨?_, ?_⟩, ⟨?_, ?_⟩⟩⟩ <;> dsimp only <;> omega)
  · have := g (Int.toNat (iSub .i64 (lenI s.2.2.2.1) 1)) (by simp (disch := omega) only [iSub64]; omega)
    obtain ⟨⟨q1, q2⟩, _⟩ := this
    refine ⟨rfl, ⟨?_, ?_⟩, by assumption, rfl⟩ <;> dsimp only <;> rw [iAdd64 (by omega) (by omega)] <;> omega
  · refine ⟨⟨by first | omega | (dsimp only; omega), by first | omega | (dsimp only; omega)⟩, by assumption, ?_, ?_⟩
    · simp (disch := omega) only [List.length_append, List.length_take, List.length_drop, iAdd64]; omega
    · intro x hx
      rcases List.mem_append.1 hx with q | q
      · exact (sp x (List.mem_of_mem_take q)).mono (by first | omega | (dsimp only; omega))
      · exact (sp x (List.mem_of_mem_drop (List.mem_of_mem_take q))).mono (by first | omega | (dsimp only; omega))
  · refine ⟨⟨by first | omega | (dsimp only; omega), by first | omega | (dsimp only; omega)⟩, by assumption, ?_, ?_⟩
    · simp only [List.length_take]; omega
    · intro x hx
      exact (sp x (List.mem_of_mem_take hx)).mono (by first | omega | (dsimp only; omega))
  · rename_i i _ di i0 i1 q _ dq q0 q1 hq0
    have gi := g i.1.toNat (by omega)
    generalize List.getD s.2.2.2.1 i.1.toNat (0, 0, 0, 0, 0, 0, 0, 0, 0, 0, ()) = x at gi
    obtain ⟨⟨a0, b0⟩, ⟨a1, b1⟩, ⟨a2, b2⟩, ⟨a3, b3⟩, ⟨a4, b4⟩, ⟨a5, b5⟩, ⟨a6, b6⟩, ⟨a7, b7⟩, ⟨a8, b8⟩, ⟨a9, b9⟩⟩ := gi
    repeat' (first | (refine T.call (next_T (by assumption) (by first | omega | (simp (disch := omega) only [iAdd64, iSub64, iMul64, lenI_eq, List.length_append, List.length_cons, List.length_nil, List.length_set, List.length_take, List.length_drop, List.length_replicate]; omega)) (by first | omega | (simp (disch := omega) only [iAdd64, iSub64, iMul64, lenI_eq, List.length_append, List.length_cons, List.length_nil, List.length_set, List.length_take, List.length_drop, List.length_replicate]; omega))) (fun _ ⟨_, _, _⟩ => ?_)) | (refine T.call (small_T (by assumption)) (fun _ ⟨_, _, _⟩ => ?_)) | (refine T.grd ?_ ?_) | (refine T.cnd (fun hc => ?_) (fun hc => ?_) <;> try simp only [iLt_T, iLt_F, iLe_T, iLe_F, iEq_T, iEq_F, iNe_T, iNe_F, bnd_T, bnd_F, inB_T, inB_F, fits_T, fitsI_T, cutOk_T, someE_T, someE_F, leN_T, not_T, not_F, and_T, and_F, or_T, or_F, candF_T, candF_F, corT_T, corT_F, bEqT_T, bEqT_F, bEqF_T, bEqF_F, eq_self, or_true, true_or, and_true, true_and, or_false, false_or, and_false, false_and, not_true_eq_false, not_false_eq_true, Bool.true_eq_false, Bool.false_eq_true] at hc) | (refine T.mapL ?_) | (refine T.mapJ ?_) | (refine T.go ?_ ?_) | (refine T.out ?_) | (refine T.jgo ?_) | (refine T.jout ?_) | (refine T.ret ?_))
    all_goals try (first | (simp (disch := omega) only [iLt_T, iLt_F, iLe_T, iLe_F, iEq_T, iEq_F, iNe_T, iNe_F, bnd_T, bnd_F, inB_T, inB_F, fits_T, fitsI_T, cutOk_T, someE_T, someE_F, leN_T, not_T, not_F, and_T, and_F, or_T, or_F, candF_T, candF_F, corT_T, corT_F, bEqT_T, bEqT_F, bEqF_T, bEqF_F, eq_self, or_true, true_or, and_true, true_and, or_false, false_or, and_false, false_and, not_true_eq_false, not_false_eq_true, Bool.true_eq_false, Bool.false_eq_true, iAdd64, iSub64, iMul64, lenI_eq, List.length_append, List.length_cons, List.length_nil, List.length_set, List.length_take, List.length_drop, List.length_replicate]; omega) | (simp (disch := omega) only [iLt_T, iLt_F, iLe_T, iLe_F, iEq_T, iEq_F, iNe_T, iNe_F, bnd_T, bnd_F, inB_T, inB_F, fits_T, fitsI_T, cutOk_T, someE_T, someE_F, leN_T, not_T, not_F, and_T, and_F, or_T, or_F, candF_T, candF_F, corT_T, corT_F, bEqT_T, bEqT_F, bEqF_T, bEqF_F, eq_self, or_true, true_or, and_true, true_and, or_false, false_or, and_false, false_and, not_true_eq_false, not_false_eq_true, Bool.true_eq_false, Bool.false_eq_true, iAdd64, iSub64, iMul64, lenI_eq, List.length_append, List.length_cons, List.length_nil, List.length_set, List.length_take, List.length_drop, List.length_replicate]; done))
    all_goals
      iterate 2 (try simp (disch := omega) only [iAdd64] at *)
      refine ⟨⟨by first | omega | (dsimp only; omega), by first | omega | (dsimp only; omega)⟩, by assumption, by simp only [List.length_set]; exact sl, LoB.set sp (by first | omega | (dsimp only; omega)) ⟨⟨?_, ?_⟩, ⟨?_, ?_⟩, ⟨?_, ?_⟩, ⟨?_, ?_⟩, ⟨?_, ?_⟩, ⟨?_, ?_⟩, ⟨?_, ?_⟩, ⟨?_, ?_⟩, ⟨?_, ?_⟩, ⟨?_, ?_⟩⟩⟩ <;> dsimp only <;> omega
  · rename_i i _ di i0 i1 q _ dq q0 q1 hq0 v _ dv v0 v1
    have gi := g i.1.toNat (by omega)
    generalize List.getD s.2.2.2.1 i.1.toNat (0, 0, 0, 0, 0, 0, 0, 0, 0, 0, ()) = x at gi
    obtain ⟨⟨a0, b0⟩, ⟨a1, b1⟩, ⟨a2, b2⟩, ⟨a3, b3⟩, ⟨a4, b4⟩, ⟨a5, b5⟩, ⟨a6, b6⟩, ⟨a7, b7⟩, ⟨a8, b8⟩, ⟨a9, b9⟩⟩ := gi
    simp (disch := omega) only [iAdd64]
    refine ⟨⟨by first | omega | (dsimp only; omega), by first | omega | (dsimp only; omega)⟩, by assumption, by simp only [List.length_set]; exact sl, LoB.set sp (by first | omega | (dsimp only; omega)) ⟨⟨?_, ?_⟩, ⟨?_, ?_⟩, ⟨?_, ?_⟩, ⟨?_, ?_⟩, ⟨?_, ?_⟩, ⟨?_, ?_⟩, ⟨?_, ?_⟩, ⟨?_, ?_⟩, ⟨?_, ?_⟩, ⟨?_, ?_⟩⟩⟩ <;> dsimp only <;> omega
/-- A command whose numbers can be written. -/
def CmdOk (k : Int) (ls : List DS0) (t o p a : Int) : Prop := List.length (α := DS0) ls ≤ 12 ∧ (∀ x ∈ ls, LoB 2147483648 x) ∧ (0 ≤ t ∧ t ≤ 1000) ∧ (0 ≤ o ∧ o ≤ 1000) ∧ (0 ≤ p ∧ p ≤ 1000) ∧ (0 ≤ a ∧ a ≤ 268435456) ∧ ((k = 1 ∧ t = 0 ∧ o = 0 ∧ p = 0 ∧ a = 0) ∨ (k = 2 ∧ ls = [] ∧ t = 0 ∧ o = 0 ∧ p = 0 ∧ a = 0) ∨ (k = 3 ∧ ls = [] ∧ o = 0 ∧ a = 0) ∨ (k = 4 ∧ ls = [] ∧ o = 0) ∨ (k = 5 ∧ ls = [] ∧ p = 0 ∧ a = 0))
theorem command_T {L : List Int} {a : Int} {p : DS8} {l : List DS0} (h : DeckOk L a) (hl : List.length (α := DS3) p.2.1 ≤ 10) (hp : ∀ t ∈ p.2.1, TrOk t) (hll : l.length ≤ 12) (hlp : ∀ x ∈ l, LoB 268435456 x) : T (m36 p l L a) (fun y => DeckOk y.2.2.2.2.2.2.1 y.2.2.2.2.2.2.2.1 ∧ CmdOk y.1 y.2.1 y.2.2.1 y.2.2.2.1 y.2.2.2.2.1 y.2.2.2.2.2.1) := by
  unfold m36
  repeat' (first | (refine T.call (next_T (by assumption) (by first | omega | (simp (disch := omega) only [iAdd64, iSub64, iMul64, lenI_eq, List.length_append, List.length_cons, List.length_nil, List.length_set, List.length_take, List.length_drop, List.length_replicate]; omega)) (by first | omega | (simp (disch := omega) only [iAdd64, iSub64, iMul64, lenI_eq, List.length_append, List.length_cons, List.length_nil, List.length_set, List.length_take, List.length_drop, List.length_replicate]; omega))) (fun _ ⟨_, _, _⟩ => ?_)) | (refine T.call (small_T (by assumption)) (fun _ ⟨_, _, _⟩ => ?_)) | (refine T.call (treatyId_T (by assumption) hl hp) (fun _ ⟨_, _, _⟩ => ?_)) | (refine T.call (party_T (by assumption) hl hp) (fun _ ⟨_, _, _⟩ => ?_)) | (refine T.call (losses_T (by assumption) (by omega) (by omega)) (fun _ ⟨_, _, _⟩ => ?_)) | (refine T.call (changed_T (by assumption) hll hlp) (fun _ ⟨_, _, _⟩ => ?_)) | (refine T.grd ?_ ?_) | (refine T.cnd (fun hc => ?_) (fun hc => ?_) <;> try simp only [iLt_T, iLt_F, iLe_T, iLe_F, iEq_T, iEq_F, iNe_T, iNe_F, bnd_T, bnd_F, inB_T, inB_F, fits_T, fitsI_T, cutOk_T, someE_T, someE_F, leN_T, not_T, not_F, and_T, and_F, or_T, or_F, candF_T, candF_F, corT_T, corT_F, bEqT_T, bEqT_F, bEqF_T, bEqF_F, eq_self, or_true, true_or, and_true, true_and, or_false, false_or, and_false, false_and, not_true_eq_false, not_false_eq_true, Bool.true_eq_false, Bool.false_eq_true] at hc) | (refine T.mapL ?_) | (refine T.mapJ ?_) | (refine T.go ?_ ?_) | (refine T.out ?_) | (refine T.jgo ?_) | (refine T.jout ?_) | (refine T.ret ?_))
  · exact ⟨by assumption, by simp, by simp, ⟨by simp, by simp⟩, ⟨by simp, by simp⟩, ⟨by simp, by simp⟩, ⟨by simp, by simp⟩, .inr (.inl ⟨rfl, rfl, rfl, rfl, rfl, rfl⟩)⟩
  · exact ⟨by assumption, by simp, by simp, ⟨by assumption, by assumption⟩, ⟨by simp, by simp⟩, ⟨by assumption, by assumption⟩, ⟨by simp, by simp⟩, .inr (.inr (.inl ⟨rfl, rfl, rfl, rfl⟩))⟩
  · exact ⟨by assumption, by simp, by simp, ⟨by assumption, by assumption⟩, ⟨by simp, by simp⟩, ⟨by assumption, by assumption⟩, ⟨by assumption, by first | omega | (dsimp only; omega)⟩, .inr (.inr (.inr (.inl ⟨rfl, rfl, rfl⟩)))⟩
  · exact ⟨by assumption, by simp, by simp, ⟨by assumption, by assumption⟩, ⟨by assumption, by assumption⟩, ⟨by simp, by simp⟩, ⟨by simp, by simp⟩, .inr (.inr (.inr (.inr ⟨rfl, rfl, rfl, rfl⟩)))⟩
  · rename_i v _ dv v0 v1
    exact ⟨by assumption, by first | omega | (dsimp only; omega), fun x hx => (v1 x hx).mono (by omega), ⟨by simp, by simp⟩, ⟨by simp, by simp⟩, ⟨by simp, by simp⟩, ⟨by simp, by simp⟩, .inl ⟨rfl, rfl, rfl, rfl, rfl⟩⟩
  · rename_i v _ dv v0 v1
    exact ⟨by assumption, v0, v1, ⟨by simp, by simp⟩, ⟨by simp, by simp⟩, ⟨by simp, by simp⟩, ⟨by simp, by simp⟩, .inl ⟨rfl, rfl, rfl, rfl, rfl⟩⟩
theorem cmd_T {L : List Int} {a : Int} (h : DeckOk L a) : T (m18 L a) (fun y => DeckOk y.2.2.2.2.2.2.1 y.2.2.2.2.2.2.2.1 ∧ CmdOk y.1 y.2.1 y.2.2.1 y.2.2.2.1 y.2.2.2.2.1 y.2.2.2.2.2.1) := by
  unfold m18
  refine T.call (treaties_T h) (fun u ⟨d, u1, u2⟩ => ?_)
  refine T.call (losses_T d (by omega) (by omega)) (fun v ⟨d, v1, v2⟩ => ?_)
  refine T.call (command_T d u1 u2 (by omega) v2) (fun w hw => ?_)
  exact T.ret hw
/-- A loss' numbers. -/
def losN (x : DS0) : List Int := [x.1, x.2.1, x.2.2.1, x.2.2.2.1, x.2.2.2.2.1, x.2.2.2.2.2.1, x.2.2.2.2.2.2.1, x.2.2.2.2.2.2.2.1, x.2.2.2.2.2.2.2.2.1, x.2.2.2.2.2.2.2.2.2.1]
/-- All other fields are zero. -/
def zC (c : DS1) : Prop := (¬ c.1 = 1 ∨ (c.2.2.1 = 0 ∧ c.2.2.2.1 = 0 ∧ c.2.2.2.2.1 = 0 ∧ c.2.2.2.2.2.1 = 0)) ∧ (¬ c.1 = 2 ∨ (c.2.2.1 = 0 ∧ c.2.2.2.1 = 0 ∧ c.2.2.2.2.1 = 0 ∧ c.2.2.2.2.2.1 = 0)) ∧ (¬ c.1 = 3 ∨ (c.2.2.2.1 = 0 ∧ c.2.2.2.2.2.1 = 0)) ∧ (¬ c.1 = 4 ∨ (c.2.2.2.1 = 0)) ∧ (¬ c.1 = 5 ∨ (c.2.2.2.2.1 = 0 ∧ c.2.2.2.2.2.1 = 0)) ∧ (c.1 = 1 ∨ List.length (α := DS0) c.2.1 = 0)
instance (c : DS1) : Decidable (zC c) := by unfold zC; infer_instance
def numsC (c : DS1) : List Int := if c.1 = 1 then [c.1, lenI c.2.1] ++ List.flatMap (α := DS0) losN c.2.1 else if c.1 = 2 then [c.1] else if c.1 = 3 then [c.1, c.2.2.1, c.2.2.2.2.1] else if c.1 = 4 then [c.1, c.2.2.1, c.2.2.2.2.1, c.2.2.2.2.2.1] else [c.1, c.2.2.1, c.2.2.2.1]
/-- What EncodeCommand answers. -/
def encC (c : DS1) : List Int × Int × Unit := if ¬ (1 ≤ c.1 ∧ c.1 ≤ 5) then ([], 11, ()) else if ¬ zC c then ([], 20, ()) else if 64 < List.length (α := DS0) c.2.1 then ([], 4, ()) else encodeS (numsC c)
theorem los_len (rs : List DS0) : (rs.flatMap losN).length = 10 * rs.length := by
  induction rs with
  | nil => rfl
  | cons r rs ih => simp only [List.flatMap_cons, List.length_append, List.length_cons, ih]; simp [losN]; omega
theorem encC_m (c : DS1) : m19 c = some (encC c) := by
  obtain ⟨k, ls, t, o, p, a, u⟩ := c
  change List DS0 at ls
  cases u
  refine T.eq ?_
  unfold m19
  dsimp only
  have hz : lenI ls = (List.length (α := DS0) ls : Int) := rfl
  by_cases h1 : k = 1
  · subst h1
    refine T.callE (show m39 1 = some (true, ()) from rfl) ?_
    refine T.cf rfl ?_
    refine T.callE (show m40 _ = some (_, _, ()) from rfl) ?_
    refine T.cnd (fun hc => T.ret ?_) (fun hc => ?_) <;> simp only [iLt_T, iLt_F, iLe_T, iLe_F, iEq_T, iEq_F, iNe_T, iNe_F, bnd_T, bnd_F, inB_T, inB_F, fits_T, fitsI_T, cutOk_T, someE_T, someE_F, leN_T, not_T, not_F, and_T, and_F, or_T, or_F, candF_T, candF_F, corT_T, corT_F, bEqT_T, bEqT_F, bEqF_T, bEqF_F, eq_self, or_true, true_or, and_true, true_and, or_false, false_or, and_false, false_and, not_true_eq_false, not_false_eq_true, Bool.true_eq_false, Bool.false_eq_true] at hc
    · (unfold encC numsC zC; (repeat' split) <;> first | rfl | (exfalso; dsimp only at *; omega) | (dsimp only at *; omega))
    refine T.cf rfl ?_
    refine T.cnd (fun hc => T.ret ?_) (fun hl => ?_)
    · simp only [iLt_T, iLt_F, iLe_T, iLe_F, iEq_T, iEq_F, iNe_T, iNe_F, bnd_T, bnd_F, inB_T, inB_F, fits_T, fitsI_T, cutOk_T, someE_T, someE_F, leN_T, not_T, not_F, and_T, and_F, or_T, or_F, candF_T, candF_F, corT_T, corT_F, bEqT_T, bEqT_F, bEqF_T, bEqF_F, eq_self, or_true, true_or, and_true, true_and, or_false, false_or, and_false, false_and, not_true_eq_false, not_false_eq_true, Bool.true_eq_false, Bool.false_eq_true] at hc; (unfold encC numsC zC; (repeat' split) <;> first | rfl | (exfalso; dsimp only at *; omega) | (dsimp only at *; omega))
    simp only [iLt_T, iLt_F, iLe_T, iLe_F, iEq_T, iEq_F, iNe_T, iNe_F, bnd_T, bnd_F, inB_T, inB_F, fits_T, fitsI_T, cutOk_T, someE_T, someE_F, leN_T, not_T, not_F, and_T, and_F, or_T, or_F, candF_T, candF_F, corT_T, corT_F, bEqT_T, bEqT_F, bEqF_T, bEqF_F, eq_self, or_true, true_or, and_true, true_and, or_false, false_or, and_false, false_and, not_true_eq_false, not_false_eq_true, Bool.true_eq_false, Bool.false_eq_true] at hl
    refine T.along ls.length (fun j => (ls, lenI ls, (j : Int), [1, lenI ls] ++ (ls.take j).flatMap losN, ())) (fun j hj => ?_) ?_
    · dsimp only
      have hlen := los_len (ls.take j)
      rw [List.length_take] at hlen
      have he : (ls.take (j + 1)).flatMap losN = (ls.take j).flatMap losN ++ losN ls[j] := by rw [show ls.take (j + 1) = ls.take j ++ [ls[j]] from by rw [List.take_append_getElem], List.flatMap_append]; simp only [List.flatMap_cons, List.flatMap_nil, List.append_nil]
      refine T.ct (iLt_t (by omega)) ?_
      refine T.grd (bnd_t (by omega) (by omega)) ?_
      rw [atI_get _ hj]
      refine T.grd (fits_t (by simp only [List.length_append, hlen, List.length_cons, List.length_nil]; omega) (by simp only [List.length_append, hlen, List.length_cons, List.length_nil]; omega)) ?_
      refine T.go ?_ (by simp)
      rw [iAdd64 (by omega) (by omega), he, ← List.append_assoc]; rfl
    · dsimp only
      refine T.cf (iLt_f (by omega)) ?_
      refine T.mapL ?_
      rw [List.take_length]
      have hlen := los_len ls
      refine T.callE (encode_m _ (by simp only [List.length_append, hlen, List.length_cons, List.length_nil]; omega)) (T.ret ?_)
      (unfold encC numsC zC; (repeat' split) <;> first | rfl | (exfalso; dsimp only at *; omega) | (dsimp only at *; omega))
  by_cases hk : k = 2 ∨ k = 3 ∨ k = 4 ∨ k = 5
  · rcases hk with rfl | rfl | rfl | rfl
    all_goals
      refine T.callE (show m39 _ = some (true, ()) from rfl) ?_
      refine T.cf rfl ?_
      refine T.callE (show m40 _ = some (_, _, ()) from rfl) ?_
      refine T.cnd (fun hc => T.ret ?_) (fun hc => ?_) <;> simp only [iLt_T, iLt_F, iLe_T, iLe_F, iEq_T, iEq_F, iNe_T, iNe_F, bnd_T, bnd_F, inB_T, inB_F, fits_T, fitsI_T, cutOk_T, someE_T, someE_F, leN_T, not_T, not_F, and_T, and_F, or_T, or_F, candF_T, candF_F, corT_T, corT_F, bEqT_T, bEqT_F, bEqF_T, bEqF_F, eq_self, or_true, true_or, and_true, true_and, or_false, false_or, and_false, false_and, not_true_eq_false, not_false_eq_true, Bool.true_eq_false, Bool.false_eq_true] at hc
      · (unfold encC numsC zC; (repeat' split) <;> first | rfl | (exfalso; dsimp only at *; omega) | (dsimp only at *; omega))
      refine T.ct rfl ?_
      refine T.cnd (fun hc => T.ret ?_) (fun hl => ?_)
      · simp only [iLt_T, iLt_F, iLe_T, iLe_F, iEq_T, iEq_F, iNe_T, iNe_F, bnd_T, bnd_F, inB_T, inB_F, fits_T, fitsI_T, cutOk_T, someE_T, someE_F, leN_T, not_T, not_F, and_T, and_F, or_T, or_F, candF_T, candF_F, corT_T, corT_F, bEqT_T, bEqT_F, bEqF_T, bEqF_F, eq_self, or_true, true_or, and_true, true_and, or_false, false_or, and_false, false_and, not_true_eq_false, not_false_eq_true, Bool.true_eq_false, Bool.false_eq_true] at hc; (unfold encC numsC zC; (repeat' split) <;> first | rfl | (exfalso; dsimp only at *; omega) | (dsimp only at *; omega))
      simp only [iLt_T, iLt_F, iLe_T, iLe_F, iEq_T, iEq_F, iNe_T, iNe_F, bnd_T, bnd_F, inB_T, inB_F, fits_T, fitsI_T, cutOk_T, someE_T, someE_F, leN_T, not_T, not_F, and_T, and_F, or_T, or_F, candF_T, candF_F, corT_T, corT_F, bEqT_T, bEqT_F, bEqF_T, bEqF_F, eq_self, or_true, true_or, and_true, true_and, or_false, false_or, and_false, false_and, not_true_eq_false, not_false_eq_true, Bool.true_eq_false, Bool.false_eq_true] at hl
      refine T.grd rfl ?_
      refine T.callE (encode_m _ (by simp)) (T.ret ?_)
      (unfold encC numsC zC; (repeat' split) <;> first | rfl | (exfalso; dsimp only at *; omega) | (dsimp only at *; omega))
  · refine T.callE (show m39 k = some (false, ()) from ?_) ?_
    · unfold m39
      by_cases q : 1 ≤ k
      · rw [iLe_t q, iLe_f (by omega)]; rfl
      · rw [iLe_f (by omega)]; rfl
    refine T.ct rfl (T.ret ?_)
    (unfold encC numsC zC; (repeat' split) <;> first | rfl | (exfalso; dsimp only at *; omega) | (dsimp only at *; omega))
end Abs
end Go.Proofs.Ytbghnjkieghloaa
