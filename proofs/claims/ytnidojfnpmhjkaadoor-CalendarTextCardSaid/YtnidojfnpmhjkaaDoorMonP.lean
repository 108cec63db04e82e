/- Plain: the same hour of the same day some months later. No program in sight. -/
import Derived.Test.YtnidojfnpmhjkaaDoorCivP
namespace Go.Proofs.YtnidojfnpmhjkaaDoor.Cal
set_option linter.unusedVariables false
set_option linter.unusedSimpArgs false

/-- The month, counted from January 2000 on. -/
def mon (y m k : Int) : Int := (y - 2000) * 12 + m - 1 + k
def amOk (n y m k : Int) : Bool := decide (0 ≤ n) && decide (n ≤ 876599) && decide (0 ≤ mon y m k) && decide (mon y m k < 1200)
theorem amOk_iff {n y m k : Int} : amOk n y m k = true ↔ 0 ≤ n ∧ n ≤ 876599 ∧ 0 ≤ mon y m k ∧ mon y m k < 1200 := by simp [amOk, and_assoc]
def amd (y m d k : Int) : Int := min d (len (2000 + mon y m k / 12) (mon y m k % 12 + 1))
noncomputable def amv (n k : Int) : Int := if amOk n (cvy n) (cvm n) k then hv (2000 + mon (cvy n) (cvm n) k / 12) (mon (cvy n) (cvm n) k % 12 + 1) (amd (cvy n) (cvm n) (cvd n) k) (n % 24) else 0
noncomputable def ame (n k : Int) : Int := if amOk n (cvy n) (cvm n) k then he (2000 + mon (cvy n) (cvm n) k / 12) (mon (cvy n) (cvm n) k % 12 + 1) (amd (cvy n) (cvm n) (cvd n) k) (n % 24) else 1
theorem am_out {n k : Int} (h : ¬ (0 ≤ n ∧ n ≤ 876599)) : amv n k = 0 ∧ ame n k = 1 := by
  have : amOk n (cvy n) (cvm n) k = false := by rw [← Bool.not_eq_true, amOk_iff]; exact fun q => h ⟨q.1, q.2.1⟩
  simp [amv, ame, this]
theorem am_bad {n y m d k : Int} (h0 : 0 ≤ n) (h1 : n ≤ 876599) (h : IsCiv n y m d) (hk : ¬ (0 ≤ mon y m k ∧ mon y m k < 1200)) : amv n k = 0 ∧ ame n k = 1 := by
  obtain ⟨e1, e2, e3⟩ := civ_eq h0 h1 h
  have : amOk n y m k = false := by rw [← Bool.not_eq_true, amOk_iff]; exact fun q => hk q.2.2
  simp [amv, ame, e1, e2, e3, this]
theorem am_good {n y m d k : Int} (h0 : 0 ≤ n) (h1 : n ≤ 876599) (h : IsCiv n y m d) (k0 : 0 ≤ mon y m k) (k1 : mon y m k < 1200) :
    amv n k = hv (2000 + mon y m k / 12) (mon y m k % 12 + 1) (amd y m d k) (n % 24) ∧ ame n k = he (2000 + mon y m k / 12) (mon y m k % 12 + 1) (amd y m d k) (n % 24) := by
  obtain ⟨e1, e2, e3⟩ := civ_eq h0 h1 h
  have : amOk n y m k = true := amOk_iff.2 ⟨h0, h1, k0, k1⟩
  simp only [amv, ame, e1, e2, e3, this, if_true, and_self]
end Go.Proofs.YtnidojfnpmhjkaaDoor.Cal
