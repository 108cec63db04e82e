/- Plain arithmetic of the calendar: lengths of months and years, hours of days. No program in sight. -/
import Derived.Below
namespace Go.Proofs.YtamgbanmnededaaDoor.Cal
set_option linter.unusedVariables false
set_option linter.unusedSimpArgs false

/-- The days of a year of 2000 to 2099. -/
def yl (y : Int) : Int := if y % 4 = 0 then 366 else 365
/-- The days of the months of a year that is not a leap year. -/
def tab : List Int := [31, 28, 31, 30, 31, 30, 31, 31, 30, 31, 30, 31]
/-- The days of a month of 2000 to 2099. -/
def len (y m : Int) : Int := if m = 2 ∧ y % 4 = 0 then 29 else tab.getD (m - 1).toNat 0
theorem yl_bd (y : Int) : 365 ≤ yl y ∧ yl y ≤ 366 := by unfold yl; split <;> omega
theorem tab_bd : ∀ k, k < 12 → 28 ≤ tab.getD k 0 ∧ tab.getD k 0 ≤ 31 := by decide
theorem len_bd (y m : Int) (h1 : 1 ≤ m) (h2 : m ≤ 12) : 28 ≤ len y m ∧ len y m ≤ 31 := by
  unfold len
  split
  · omega
  · exact tab_bd _ (by omega)
/-- The days ahead of the year 2000 + n. -/
def cumY : Nat → Int
  | 0 => 0
  | n + 1 => cumY n + yl (2000 + n)
theorem cumY_eq (n : Nat) : cumY n = 365 * n + (n + 3) / 4 := by
  induction n with
  | zero => rfl
  | succ n ih => rw [cumY, ih]; unfold yl; split <;> omega
/-- The days of a year ahead of the month k + 1. -/
def cumM (y : Int) : Nat → Int
  | 0 => 0
  | n + 1 => cumM y n + len y (n + 1)
theorem cumM_bd (y : Int) (n : Nat) (h : n ≤ 12) : 0 ≤ cumM y n ∧ cumM y n ≤ 31 * n := by
  induction n with
  | zero => simp [cumM]
  | succ n ih => have := ih (by omega); have := len_bd y (n + 1) (by omega) (by omega); rw [cumM]; omega
/-- There is such a day, and such an hour of it. -/
def okD (y m d h : Int) : Bool := decide (2000 ≤ y) && decide (y ≤ 2099) && decide (1 ≤ m) && decide (m ≤ 12) && decide (1 ≤ d) && decide (d ≤ len y m) && decide (0 ≤ h) && decide (h ≤ 23)
theorem okD_iff {y m d h : Int} : okD y m d h = true ↔ 2000 ≤ y ∧ y ≤ 2099 ∧ 1 ≤ m ∧ m ≤ 12 ∧ 1 ≤ d ∧ d ≤ len y m ∧ 0 ≤ h ∧ h ≤ 23 := by
  simp [okD, and_assoc]
/-- The hour of a day: its number, its error. -/
def hv (y m d h : Int) : Int := if okD y m d h then 24 * (d - 1 + cumY (y - 2000).toNat + cumM y (m - 1).toNat) + h else 0
def he (y m d h : Int) : Int := if okD y m d h then 0 else 1
theorem hv_bad {y m d h : Int} (k : ¬ (2000 ≤ y ∧ y ≤ 2099 ∧ 1 ≤ m ∧ m ≤ 12 ∧ 1 ≤ d ∧ d ≤ len y m ∧ 0 ≤ h ∧ h ≤ 23)) : hv y m d h = 0 ∧ he y m d h = 1 := by
  have : okD y m d h = false := by rw [← Bool.not_eq_true, okD_iff]; exact k
  simp [hv, he, this]
theorem hv_good {y m d h : Int} (k : 2000 ≤ y ∧ y ≤ 2099 ∧ 1 ≤ m ∧ m ≤ 12 ∧ 1 ≤ d ∧ d ≤ len y m ∧ 0 ≤ h ∧ h ≤ 23) : hv y m d h = 24 * (d - 1 + cumY (y - 2000).toNat + cumM y (m - 1).toNat) + h ∧ he y m d h = 0 := by
  have : okD y m d h = true := okD_iff.2 k
  simp [hv, he, this]
end Go.Proofs.YtamgbanmnededaaDoor.Cal
