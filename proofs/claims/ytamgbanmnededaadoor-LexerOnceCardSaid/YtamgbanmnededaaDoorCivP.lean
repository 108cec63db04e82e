/- Plain: the day of an hour, and the hour some months later. No program in sight. -/
import Derived.Test.YtamgbanmnededaaDoorPlain
namespace Go.Proofs.YtamgbanmnededaaDoor.Cal
set_option linter.unusedVariables false
set_option linter.unusedSimpArgs false

theorem cumM_12 (y : Int) : cumM y 12 = yl y := by
  by_cases h : y % 4 = 0 <;> simp [cumM, len, tab, yl, h]
theorem cumM_lt (y : Int) (i : Nat) : ∀ j, i < j → j ≤ 12 → cumM y i + len y (i + 1) ≤ cumM y j
  | 0, h, _ => by omega
  | j + 1, h, hj => by
    rcases Nat.lt_or_eq_of_le (Nat.lt_succ_iff.1 h) with k | k
    · have := cumM_lt y i j k (by omega)
      have := len_bd y (j + 1) (by omega) (by omega)
      rw [cumM]; omega
    · subst k; rw [cumM]; omega
/-- (y, m, d) is the day of the hour n. -/
def IsCiv (n y m d : Int) : Prop := 2000 ≤ y ∧ y ≤ 2099 ∧ 1 ≤ m ∧ m ≤ 12 ∧ 1 ≤ d ∧ d ≤ len y m ∧ d - 1 + cumY (y - 2000).toNat + cumM y (m - 1).toNat = n / 24
theorem year_bd {y m d : Int} (h1 : 1 ≤ m) (h2 : m ≤ 12) (h3 : 1 ≤ d) (h4 : d ≤ len y m) : 0 ≤ d - 1 + cumM y (m - 1).toNat ∧ d - 1 + cumM y (m - 1).toNat < yl y := by
  have a := cumM_bd y (m - 1).toNat (by omega)
  refine ⟨by omega, ?_⟩
  rcases Int.lt_or_le m 12 with h | h
  · have b := cumM_lt y (m - 1).toNat 12 (by omega) (by omega)
    rw [cumM_12, show (((m - 1).toNat : Nat) : Int) + 1 = m by omega] at b
    omega
  · have e : (m - 1).toNat = 11 := by omega
    have b := cumM_lt y 11 12 (by omega) (by omega)
    rw [cumM_12] at b
    rw [e]
    have : m = 12 := by omega
    subst this
    have : len y 12 = len y ((11 : Nat) + 1) := rfl
    omega
theorem IsCiv.unique {n y m d y' m' d' : Int} (a : IsCiv n y m d) (b : IsCiv n y' m' d') : y = y' ∧ m = m' ∧ d = d' := by
  obtain ⟨a1, a2, a3, a4, a5, a6, a7⟩ := a
  obtain ⟨b1, b2, b3, b4, b5, b6, b7⟩ := b
  have a8 := year_bd a3 a4 a5 a6
  have b8 := year_bd b3 b4 b5 b6
  have ey : y = y' := by
    have c1 := cumY_eq (y - 2000).toNat
    have c2 := cumY_eq (y' - 2000).toNat
    have c3 : yl y ≤ 366 := (yl_bd y).2
    have c4 : yl y' ≤ 366 := (yl_bd y').2
    have c5 : y % 4 ≠ 0 → yl y = 365 := fun h => by simp [yl, h]
    have c6 : y' % 4 ≠ 0 → yl y' = 365 := fun h => by simp [yl, h]
    omega
  subst ey
  have em : (m - 1).toNat = (m' - 1).toNat := by
    rcases Nat.lt_trichotomy (m - 1).toNat (m' - 1).toNat with h | h | h
    · have := cumM_lt y (m - 1).toNat (m' - 1).toNat h (by omega)
      rw [show (((m - 1).toNat : Nat) : Int) + 1 = m by omega] at this
      omega
    · exact h
    · have := cumM_lt y (m' - 1).toNat (m - 1).toNat h (by omega)
      rw [show (((m' - 1).toNat : Nat) : Int) + 1 = m' by omega] at this
      omega
  have em' : m = m' := by omega
  subst em'
  exact ⟨rfl, rfl, by omega⟩
theorem month_of (y r : Int) (h0 : 0 ≤ r) : ∀ N, N ≤ 12 → r < cumM y N → ∃ j : Nat, j < N ∧ cumM y j ≤ r ∧ r < cumM y (j + 1)
  | 0, _, h => by simp [cumM] at h; omega
  | N + 1, hN, h => by
    rcases Int.lt_or_le r (cumM y N) with k | k
    · obtain ⟨j, a, b, c⟩ := month_of y r h0 N (by omega) k
      exact ⟨j, by omega, b, c⟩
    · exact ⟨N, by omega, k, h⟩
theorem civ_ex (n : Int) (h0 : 0 ≤ n) (h1 : n ≤ 876599) : ∃ y m d, IsCiv n y m d := by
  have hk : ∃ k : Nat, k = (4 * (n / 24) / 1461).toNat := ⟨_, rfl⟩
  obtain ⟨k, hk⟩ := hk
  have c1 := cumY_eq k
  have c2 := cumY_eq (k + 1)
  have hk1 : cumY k ≤ n / 24 ∧ n / 24 < cumY (k + 1) ∧ k ≤ 99 := by omega
  have hr : n / 24 - cumY k < cumM (2000 + k) 12 := by rw [cumM_12]; have := hk1.2.1; rw [cumY] at this; omega
  obtain ⟨j, hj, hj1, hj2⟩ := month_of (2000 + k) (n / 24 - cumY k) (by omega) 12 (by omega) hr
  rw [cumM] at hj2
  refine ⟨2000 + k, j + 1, n / 24 - cumY k - cumM (2000 + k) j + 1, by omega, by omega, by omega, by omega, by omega, by omega, ?_⟩
  rw [show ((2000 : Int) + k - 2000).toNat = k by omega, show ((j : Int) + 1 - 1).toNat = j by omega]
  omega
/-- The day of an hour; zeros, where the hour is not in the calendar. -/
noncomputable def civ (n : Int) : Int × Int × Int := open Classical in if h : ∃ t : Int × Int × Int, IsCiv n t.1 t.2.1 t.2.2 ∧ 0 ≤ n ∧ n ≤ 876599 then Classical.choose h else (0, 0, 0)
noncomputable def cvy (n : Int) : Int := (civ n).1
noncomputable def cvm (n : Int) : Int := (civ n).2.1
noncomputable def cvd (n : Int) : Int := (civ n).2.2
def cvh (n : Int) : Int := if 0 ≤ n ∧ n ≤ 876599 then n % 24 else 0
def cve (n : Int) : Int := if 0 ≤ n ∧ n ≤ 876599 then 0 else 1
theorem civ_spec {n : Int} (h0 : 0 ≤ n) (h1 : n ≤ 876599) : IsCiv n (cvy n) (cvm n) (cvd n) := by
  obtain ⟨y, m, d, h⟩ := civ_ex n h0 h1
  have hx : ∃ t : Int × Int × Int, IsCiv n t.1 t.2.1 t.2.2 ∧ 0 ≤ n ∧ n ≤ 876599 := ⟨(y, m, d), h, h0, h1⟩
  have := (Classical.choose_spec hx).1
  unfold cvy cvm cvd civ
  rw [dif_pos hx]
  exact this
theorem civ_eq {n y m d : Int} (h0 : 0 ≤ n) (h1 : n ≤ 876599) (h : IsCiv n y m d) : cvy n = y ∧ cvm n = m ∧ cvd n = d := (civ_spec h0 h1).unique h
theorem civ_bad {n : Int} (h : ¬ (0 ≤ n ∧ n ≤ 876599)) : cvy n = 0 ∧ cvm n = 0 ∧ cvd n = 0 ∧ cvh n = 0 ∧ cve n = 1 := by
  have hx : ¬ ∃ t : Int × Int × Int, IsCiv n t.1 t.2.1 t.2.2 ∧ 0 ≤ n ∧ n ≤ 876599 := fun ⟨_, _, k⟩ => h k
  have e : civ n = (0, 0, 0) := by unfold civ; rw [dif_neg hx]
  simp [cvy, cvm, cvd, e, cvh, cve, h]
theorem civ_good {n : Int} (h0 : 0 ≤ n) (h1 : n ≤ 876599) : cvh n = n % 24 ∧ cve n = 0 := by simp [cvh, cve, h0, h1]
theorem hv_of_civ {n y m d : Int} (h0 : 0 ≤ n) (h : IsCiv n y m d) : hv y m d (n % 24) = n ∧ he y m d (n % 24) = 0 := by
  obtain ⟨a1, a2, a3, a4, a5, a6, a7⟩ := h
  have := hv_good (y := y) (m := m) (d := d) (h := n % 24) ⟨a1, a2, a3, a4, a5, a6, by omega, by omega⟩
  rw [this.1, this.2]
  exact ⟨by omega, rfl⟩
theorem next_civ {n y m d : Int} (h : IsCiv n y m d) (h0 : 0 ≤ n) (h1 : n + 24 ≤ 876599) :
    IsCiv (n + 24) y m (d + 1) ∨ (28 ≤ d ∧ IsCiv (n + 24) y (m + 1) 1) ∨ (m = 12 ∧ d = 31 ∧ IsCiv (n + 24) (y + 1) 1 1) := by
  obtain ⟨a1, a2, a3, a4, a5, a6, a7⟩ := h
  have hl := len_bd y m a3 a4
  have hn : (n + 24) / 24 = n / 24 + 1 := by omega
  rcases Int.lt_or_le d (len y m) with k | k
  · left; exact ⟨a1, a2, a3, a4, by omega, by omega, by rw [hn]; omega⟩
  have hd : d = len y m := by omega
  rcases Int.lt_or_le m 12 with q | q
  · right; left
    refine ⟨by omega, a1, a2, by omega, by omega, by omega, ?_, ?_⟩
    · have := len_bd y (m + 1) (by omega) (by omega); omega
    · have e : (m + 1 - 1).toNat = (m - 1).toNat + 1 := by omega
      rw [e, cumM, show (((m - 1).toNat : Nat) : Int) + 1 = m by omega, hn]; omega
  · have hm : m = 12 := by omega
    subst hm
    have e12 : len y 12 = 31 := by simp [len, tab]
    right; right
    have c12 := cumM_12 y
    have c11 : cumM y 12 = cumM y 11 + len y 12 := by rw [cumM]; rfl
    have e11 : ((12 : Int) - 1).toNat = 11 := rfl
    rw [e11] at a7
    have cy : cumY (y + 1 - 2000).toNat = cumY (y - 2000).toNat + yl y := by
      rw [show (y + 1 - 2000).toNat = (y - 2000).toNat + 1 by omega, cumY, show (2000 : Int) + ((y - 2000).toNat : Nat) = y by omega]
    have hy : y + 1 ≤ 2099 := by
      have e := cumY_eq (y + 1 - 2000).toNat
      omega
    refine ⟨rfl, by omega, by omega, hy, by omega, by omega, by omega, ?_, ?_⟩
    · have := len_bd (y + 1) 1 (by omega) (by omega); omega
    · have e0 : ((1 : Int) - 1).toNat = 0 := rfl
      rw [e0, cy, hn, cumM]; omega
/-- A number from 0 to k - 1 made of any number. -/
def within (x k : Int) : Int := (x.tmod k + k).tmod k
theorem within_bd (x k : Int) (hk : 0 < k) : 0 ≤ within x k ∧ within x k < k := by
  unfold within
  have h1 : -k < x.tmod k := by have := Int.lt_tmod_of_pos x hk; omega
  have h2 : 0 ≤ x.tmod k + k := by omega
  exact ⟨Int.tmod_nonneg _ h2, Int.tmod_lt_of_pos _ hk⟩
end Go.Proofs.YtamgbanmnededaaDoor.Cal
