/- Plain: the years of a period follow each other. No program in sight. -/
import Derived.Test.YtnidojfnpmhjkaaDoorYears
namespace Go.Proofs.YtnidojfnpmhjkaaDoor.Cal
set_option linter.unusedVariables false
set_option linter.unusedSimpArgs false

theorem len_lp (y m : Int) (h1 : 1 ≤ m) (h2 : m ≤ 12) : len y m = len 1 m + if m = 2 ∧ y % 4 = 0 then 1 else 0 := by
  unfold len
  by_cases hm : m = 2
  · subst hm
    by_cases hy : y % 4 = 0 <;> simp [hy, tab]
  · simp [hm]
theorem cumM_lp (y : Int) : ∀ j : Nat, j ≤ 12 → cumM y j = cumM 1 j + if 2 ≤ j ∧ y % 4 = 0 then 1 else 0
  | 0, _ => by simp [cumM]
  | j + 1, h => by
    rw [cumM, cumM, cumM_lp y j (by omega), len_lp y (j + 1) (by omega) (by omega)]
    by_cases hy : y % 4 = 0
    · by_cases h1 : j = 1
      · subst h1; simp [hy]; omega
      · have : ¬ ((j : Int) + 1 = 2) := by omega
        by_cases h2 : 2 ≤ j
        · simp [hy, h2, this, show 2 ≤ j + 1 by omega]; omega
        · simp [hy, h2, this, show ¬ 2 ≤ j + 1 by omega]
    · simp [hy]
theorem am_zero {a : Int} (h0 : 0 ≤ a) (h1 : a ≤ 876599) : amv a 0 = a ∧ ame a 0 = 0 := by
  have hc := civ_spec h0 h1
  obtain ⟨c1, c2, c3, c4, c5, c6, c7⟩ := id hc
  have hm : mon (cvy a) (cvm a) 0 = (cvy a - 2000) * 12 + cvm a - 1 := by unfold mon; omega
  have g := am_good h0 h1 hc (k := 0) (by omega) (by omega)
  have ey : 2000 + mon (cvy a) (cvm a) 0 / 12 = cvy a := by omega
  have em : mon (cvy a) (cvm a) 0 % 12 + 1 = cvm a := by omega
  have ed : amd (cvy a) (cvm a) (cvd a) 0 = cvd a := by unfold amd; rw [ey, em]; omega
  rw [ey, em, ed] at g
  have := hv_of_civ h0 hc
  rw [g.1, g.2]; exact this
/-- A year later is later. -/
theorem am_mono {a n : Int} (h0 : 0 ≤ a) (h1 : a ≤ 876599) (e1 : ame a n = 0) (e2 : ame a (n + 12) = 0) : amv a n < amv a (n + 12) := by
  have hc := civ_spec h0 h1
  obtain ⟨c1, c2, c3, c4, c5, c6, c7⟩ := id hc
  generalize cvy a = y at *
  generalize cvm a = m at *
  generalize cvd a = d at *
  have q1 : 0 ≤ mon y m n ∧ mon y m n < 1200 := by
    rcases Classical.em (0 ≤ mon y m n ∧ mon y m n < 1200) with q | q
    · exact q
    · rw [(am_bad h0 h1 hc q).2] at e1; omega
  have q2 : 0 ≤ mon y m (n + 12) ∧ mon y m (n + 12) < 1200 := by
    rcases Classical.em (0 ≤ mon y m (n + 12) ∧ mon y m (n + 12) < 1200) with q | q
    · exact q
    · rw [(am_bad h0 h1 hc q).2] at e2; omega
  have g1 := (am_good h0 h1 hc q1.1 q1.2).1
  have g2 := (am_good h0 h1 hc q2.1 q2.2).1
  have em : mon y m (n + 12) = mon y m n + 12 := by unfold mon; omega
  rw [em] at g2
  have ey : 2000 + (mon y m n + 12) / 12 = 2000 + mon y m n / 12 + 1 := by omega
  have emm : (mon y m n + 12) % 12 + 1 = mon y m n % 12 + 1 := by omega
  rw [ey, emm] at g2
  have ed1 : amd y m d n = min d (len (2000 + mon y m n / 12) (mon y m n % 12 + 1)) := rfl
  have ed2 : amd y m d (n + 12) = min d (len (2000 + mon y m n / 12 + 1) (mon y m n % 12 + 1)) := by unfold amd; rw [em, ey, emm]
  have hY : 2000 ≤ 2000 + mon y m n / 12 ∧ 2000 + mon y m n / 12 + 1 ≤ 2099 := by omega
  have hM : 1 ≤ mon y m n % 12 + 1 ∧ mon y m n % 12 + 1 ≤ 12 := by omega
  generalize 2000 + mon y m n / 12 = Y at *
  generalize mon y m n % 12 + 1 = M at *
  have l1 := len_lp Y M hM.1 hM.2
  have l2 := len_lp (Y + 1) M hM.1 hM.2
  have b1 := len_bd Y M hM.1 hM.2
  have b2 := len_bd (Y + 1) M hM.1 hM.2
  have l1' : len 1 M ≤ len Y M ∧ len Y M ≤ len 1 M + 1 := by rw [l1]; split <;> omega
  have l2' : len 1 M ≤ len (Y + 1) M ∧ len (Y + 1) M ≤ len 1 M + 1 := by rw [l2]; split <;> omega
  have m1 := cumM_lp Y (M - 1).toNat (by omega)
  have m2 := cumM_lp (Y + 1) (M - 1).toNat (by omega)
  have m1' : cumM 1 (M - 1).toNat ≤ cumM Y (M - 1).toNat ∧ cumM Y (M - 1).toNat ≤ cumM 1 (M - 1).toNat + 1 := by rw [m1]; split <;> omega
  have m2' : cumM 1 (M - 1).toNat ≤ cumM (Y + 1) (M - 1).toNat ∧ cumM (Y + 1) (M - 1).toNat ≤ cumM 1 (M - 1).toNat + 1 := by rw [m2]; split <;> omega
  have v1 := (hv_good (y := Y) (m := M) (d := amd y m d n) (h := a % 24) ⟨by omega, by omega, hM.1, hM.2, by rw [ed1]; omega, by rw [ed1]; omega, by omega, by omega⟩).1
  have v2 := (hv_good (y := Y + 1) (m := M) (d := amd y m d (n + 12)) (h := a % 24) ⟨by omega, by omega, hM.1, hM.2, by rw [ed2]; omega, by rw [ed2]; omega, by omega, by omega⟩).1
  have y1 := cumY_eq (Y - 2000).toNat
  have y2 := cumY_eq (Y + 1 - 2000).toNat
  rw [g1, g2, v1, v2]
  have hd : amd y m d n ≤ amd y m d (n + 12) + 1 := by rw [ed1, ed2]; omega
  omega
theorem yF_eq {a : Int} (h0 : 0 ≤ a) (h1 : a ≤ 876599) (k : Nat) : yF a k = amv a (12 * k) := by
  unfold yF
  split
  · rename_i h; subst h; exact ((am_zero h0 h1).1).symm
  · rfl
/-- What the law asks of the years. -/
theorem years_law {a b : Int} {k : Nat} (hp : 0 ≤ a ∧ a < b ∧ b ≤ 876600) (hk : yOk a b k) : (∀ i, i < k → yF a i < yF a (i + 1)) ∧ yF a k < b := by
  have h1 : a ≤ 876599 := by omega
  have hz : ∀ i, i ≤ k → ame a (12 * i) = 0 := fun i hi => by
    rcases Nat.eq_zero_or_pos i with q | q
    · subst q; exact (am_zero hp.1 h1).2
    · have := hk.1 (i - 1) (by omega)
      unfold yStop at this
      have e : (12 : Int) * (((i - 1 : Nat) : Int) + 1) = 12 * i := by omega
      rw [e] at this
      exact Classical.not_not.1 (fun q => this (.inl q))
  refine ⟨fun i hi => ?_, ?_⟩
  · rw [yF_eq hp.1 h1, yF_eq hp.1 h1]
    have := am_mono hp.1 h1 (hz i (by omega)) (by have := hz (i + 1) (by omega); rw [show (12 : Int) * ((i + 1 : Nat) : Int) = 12 * i + 12 by omega] at this; exact this)
    rw [show (12 : Int) * ((i + 1 : Nat) : Int) = 12 * i + 12 by omega]
    exact this
  · rcases Nat.eq_zero_or_pos k with q | q
    · subst q; simpa [yF] using hp.2.1
    · have := hk.1 (k - 1) (by omega)
      unfold yStop at this
      have e : (12 : Int) * (((k - 1 : Nat) : Int) + 1) = 12 * k := by omega
      rw [e] at this
      rw [yF_eq hp.1 h1]
      exact Int.not_le.1 (fun q => this (.inr q))
/-- The i-th year. -/
noncomputable def yTo (a b : Int) (k i : Nat) : Int := if i < k then yF a (i + 1) else b
theorem yRes_len (a b : Int) (k : Nat) : (yRes a b k).length = k + 1 := by simp [yRes, yL]
theorem yRes_at (a b : Int) (k i : Nat) (hi : i ≤ k) : (yRes a b k)[i]? = some (yF a i, yTo a b k i) := by
  unfold yRes yTo
  rcases Nat.lt_or_eq_of_le hi with h | h
  · rw [List.getElem?_append_left (by simp [yL]; exact h), if_pos h]; simp [yL, h]
  · subst h; rw [List.getElem?_append_right (by simp [yL])]; simp [yL]
theorem pc_at (l : List (Int × Int)) (i : Nat) (p : Int × Int) (h : l[i]? = some p) : (pc l)[2 * i]? = some (.int .i64 p.1) ∧ (pc l)[2 * i + 1]? = some (.int .i64 p.2) := by
  induction l generalizing i with
  | nil => simp at h
  | cons q l ih =>
    cases i with
    | zero => simp at h; subst h; simp [pc]
    | succ i =>
      simp at h
      have := ih i h
      have e1 : 2 * (i + 1) = (2 * i) + 1 + 1 := by omega
      have e : pc (q :: l) = .int .i64 q.1 :: .int .i64 q.2 :: pc l := by simp [pc]
      rw [e, e1]
      exact ⟨by simpa using this.1, by simpa using this.2⟩
theorem pc_len (l : List (Int × Int)) : (pc l).length = 2 * l.length := by
  induction l with
  | nil => rfl
  | cons q l ih =>
    have e : pc (q :: l) = .int .i64 q.1 :: .int .i64 q.2 :: pc l := by simp [pc]
    rw [e]; simp [ih]; omega
end Go.Proofs.YtnidojfnpmhjkaaDoor.Cal
