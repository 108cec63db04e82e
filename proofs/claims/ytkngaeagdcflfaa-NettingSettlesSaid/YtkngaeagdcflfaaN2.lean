/- Netting: the deck, debts that are made of it, comparisons. -/
import Derived.Test.YtkngaeagdcflfaaN1
namespace Go.Proofs.Ytkngaeagdcflfaa
namespace Abs
set_option linter.unusedVariables false
set_option linter.unusedSimpArgs false
/-- A deck. -/
def DeckOk (L : List Int) (a : Int) : Prop := (∀ x ∈ L, -9223372036854775808 ≤ x ∧ x ≤ 9223372036854775807) ∧ L.length ≤ 9223372036854775807 ∧ 0 ≤ a
theorem next_ok {L : List Int} {a n : Int} (h : DeckOk L a) (hn : 0 < n) (hn2 : n ≤ 4611686018427387904) : ∃ v a', m21 n L a = some (v, L, a', ()) ∧ 0 ≤ v ∧ v < n ∧ DeckOk L a' := by
  obtain ⟨h1, h2, h3⟩ := h
  unfold m21
  by_cases hl : (L.length : Int) ≤ a
  · refine ⟨0, a, ?_, by omega, hn, h1, h2, h3⟩
    rw [iLe_t (by simpa [lenI] using hl)]; rfl
  · have hlt : a.toNat < L.length := by omega
    have ha : a = (a.toNat : Int) := by omega
    have hx := h1 L[a.toNat] (List.getElem_mem _)
    have e1 : iSub .i64 (iAdd .i64 a 1) 1 = (a.toNat : Int) := by rw [iAdd64 (by omega) (by omega), iSub64 (by omega) (by omega)]; omega
    have b1 := Int.tmod_lt_of_pos L[a.toNat] hn
    have b2 : -n < L[a.toNat].tmod n := by have := Int.lt_tmod_of_pos L[a.toNat] hn; omega
    have e2 : iAdd .i64 (iRem L[a.toNat] n) n = L[a.toNat].tmod n + n := iAdd64 (by simp only [iRem]; omega) (by simp only [iRem]; omega)
    refine ⟨(L[a.toNat].tmod n + n) % n, a + 1, ?_, Int.emod_nonneg _ (by omega), Int.emod_lt_of_pos _ hn, h1, h2, by omega⟩
    rw [iLe_f (by simp only [lenI]; omega), e1]
    simp (disch := omega) only [cond_false, bnd_t, lenI, cond_true, iNe_t, atI_get, e2, iAdd64, iRem_pos]
theorem small_ok {L : List Int} {a : Int} (h : DeckOk L a) : ∃ v a', m22 L a = some (v, L, a', ()) ∧ 0 ≤ v ∧ v < 268435456 ∧ DeckOk L a' := by
  unfold m22
  obtain ⟨v, a1, e, v0, v1, d1⟩ := next_ok (n := 4) h (by omega) (by omega)
  rw [e]
  simp only [Option.bind_some]
  obtain ⟨v2, a2, e2, w0, w1, d2⟩ := next_ok (n := 4) d1 (by omega) (by omega)
  obtain ⟨v3, a3, e3, x0, x1, d3⟩ := next_ok (n := 1000) d1 (by omega) (by omega)
  obtain ⟨v4, a4, e4, y0, y1, d4⟩ := next_ok (n := 268435456) d1 (by omega) (by omega)
  rw [e2, e3, e4]
  simp only [Option.bind_some, cond_if]
  split
  · exact ⟨v2, a2, rfl, w0, by omega, d2⟩
  · split
    · exact ⟨v3, a3, rfl, x0, by omega, d3⟩
    · split
      · exact ⟨v3, a3, rfl, x0, by omega, d3⟩
      · exact ⟨v4, a4, rfl, y0, by omega, d4⟩
/-- A debt that is made. -/
def mkD (d : DS0) : Prop := 0 ≤ d.1 ∧ d.1 ≤ 4 ∧ 0 ≤ d.2.1 ∧ d.2.1 ≤ 4 ∧ d.1 ≠ d.2.1 ∧ 0 ≤ d.2.2.1 ∧ d.2.2.1 < 268435456
theorem made_ok {L : List Int} {a : Int} (h : DeckOk L a) : ∃ a' ds, m9 30 L a = some (L, a', ds, ()) ∧ ds.length ≤ 30 ∧ ∀ d ∈ ds, mkD d := by
  unfold m9
  rw [iAdd64 (by omega) (by omega)]
  obtain ⟨v, a1, e, v0, v1, d1⟩ := next_ok (n := 30 + 1) h (by omega) (by omega)
  rw [e]
  simp only [Option.bind_some]
  refine loop_goal (fun o => ∃ (a' : Int) (ds : List DS0), o = some (L, a', ds, ()) ∧ ds.length ≤ 30 ∧ ∀ d ∈ ds, mkD d) (fun s : Int × (List Int) × Int × (List DS0) × Unit => 0 ≤ s.1 ∧ s.1 + s.2.2.2.1.length ≤ 30 ∧ s.2.1 = L ∧ DeckOk L s.2.2.1 ∧ ∀ d ∈ s.2.2.2.1, mkD d) (fun s => s.1.toNat) ?_ _ ?_
  · rintro ⟨k, L', b, ds, u⟩ ⟨k0, k1, hL, hd, hds⟩
    simp only at k0 k1 hL hd hds
    subst hL
    dsimp only
    by_cases hk : 0 < k
    · left
      rw [iLt_t hk]
      obtain ⟨w, b1, f1, w0, w1, e1⟩ := next_ok (n := 5) hd (by omega) (by omega)
      obtain ⟨x, b2, f2, x0, x1, e2⟩ := small_ok e1
      obtain ⟨y, b3, f3, y0, y1, e3⟩ := next_ok (n := 4) e2 (by omega) (by omega)
      rw [f1]; simp only [Option.bind_some]
      rw [f2]; simp only [Option.bind_some]
      rw [f3]; simp only [Option.bind_some]
      simp (disch := omega) only [cond_true, iNe_t, iAdd64, iSub64, iRem_pos, List.length_singleton]
      rw [fits_t (by omega) (by omega)]
      refine ⟨_, rfl, ⟨by simp only; omega, by simp only [List.length_append, List.length_singleton]; omega, rfl, e3, fun d hm => ?_⟩, by simp only; omega⟩
      rcases List.mem_append.1 hm with q | q
      · exact hds d q
      · simp only [List.mem_singleton] at q
        subst q
        refine ⟨w0, by simp only; omega, by simp only; omega, by simp only; omega, by simp only; omega, x0, x1⟩
    · right
      rw [iLt_f (by omega)]
      exact ⟨_, rfl, b, ds, rfl, by omega, hds⟩
  · exact ⟨v0, by simp; omega, rfl, d1, by simp⟩
theorem mkD_ok {d : DS0} (h : mkD d) : okD d = true := decide_eq_true (by unfold mkD at h; omega)
theorem made_val {ds : List DS0} (h1 : ds.length ≤ 30) (h2 : ∀ d ∈ ds, mkD d) : valE ds = 0 := by
  unfold valE
  rw [if_neg (by omega), if_pos (List.all_eq_true.2 fun d hd => mkD_ok (h2 d hd))]
theorem same_m (a b : List DS0) (hl : a.length ≤ 1152921504606846976) : m13 a b = some (decide (a = b), ()) := by
  unfold m13
  by_cases h : a.length = b.length
  · rw [iNe_f (by simp only [lenI]; omega), ← zip_all h]
    have hz : (a.zip b).length = a.length := by simp [h]
    refine Eq.trans (loop_all (a.zip b) (fun k => (a, b, (a.length : Int), (k : Int), ())) (fun p => decide (p.1 = p.2)) (false, ()) (true, ()) ?hs ?hf ?he) ?fin
    case fin => cases (a.zip b).all fun p => decide (p.1 = p.2) <;> rfl
    case hs =>
      intro k hk hp
      have h1 : k < a.length := by omega
      have h2 : k < b.length := by omega
      rw [List.getElem_zip] at hp
      simp only [decide_eq_true_eq] at hp
      dsimp only
      simp (disch := omega) only [iLt_t, bnd_t, lenI, atI_get, iAdd64, cond_true, hp, iEq_t, Bool.and_true, Bool.not_true, cond_false, Bool.and_self]
      rfl
    case hf =>
      intro k hk hp
      have h1 : k < a.length := by omega
      have h2 : k < b.length := by omega
      rw [List.getElem_zip] at hp
      simp only [decide_eq_false_iff_not] at hp
      dsimp only
      simp (disch := omega) only [iLt_t, bnd_t, lenI, atI_get, iAdd64, cond_true]
      rw [cond_if, if_pos]
      simp only [Bool.not_eq_true', Bool.and_eq_false_imp, iEq, beq_iff_eq, Bool.and_true]
      intro e1 e2
      rw [beq_eq_false_iff_ne]
      intro e3
      exact hp (Prod.ext e1 (Prod.ext e2 (Prod.ext e3 rfl)))
    case he =>
      dsimp only
      rw [hz]
      simp (disch := omega) only [iLt_f, cond_false]
  · rw [iNe_t (by simp only [lenI]; omega), decide_eq_false (fun q => h (by rw [q]))]; rfl
theorem sameI_m (a b : List Int) (hl : a.length ≤ 1152921504606846976) : m20 a b = some (decide (a = b), ()) := by
  unfold m20
  by_cases h : a.length = b.length
  · rw [iNe_f (by simp only [lenI]; omega), ← zip_all h]
    have hz : (a.zip b).length = a.length := by simp [h]
    refine Eq.trans (loop_all (a.zip b) (fun k => (a, b, (k : Int), ())) (fun p => decide (p.1 = p.2)) (false, ()) (true, ()) ?hs ?hf ?he) ?fin
    case fin => cases (a.zip b).all fun p => decide (p.1 = p.2) <;> rfl
    case hs =>
      intro k hk hp
      have h1 : k < a.length := by omega
      have h2 : k < b.length := by omega
      rw [List.getElem_zip] at hp
      simp only [decide_eq_true_eq] at hp
      dsimp only
      simp (disch := omega) only [iLt_t, bnd_t, lenI, atI_get, iAdd64, cond_true, iNe_f, cond_false]
      rfl
    case hf =>
      intro k hk hp
      have h1 : k < a.length := by omega
      have h2 : k < b.length := by omega
      rw [List.getElem_zip] at hp
      simp only [decide_eq_false_iff_not] at hp
      dsimp only
      simp (disch := omega) only [iLt_t, bnd_t, lenI, atI_get, iAdd64, cond_true, iNe_t]
    case he =>
      dsimp only
      rw [hz]
      simp (disch := omega) only [iLt_f, cond_false, lenI]
  · rw [iNe_t (by simp only [lenI]; omega), decide_eq_false (fun q => h (by rw [q]))]; rfl
end Abs
end Go.Proofs.Ytkngaeagdcflfaa
