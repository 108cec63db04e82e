/- The walks of the reference's leap, days and Hour. -/
import Derived.Test.YtnidojfnpmhjkaaDoorLeaf
import Derived.WalkSmall
namespace Go.Proofs.YtnidojfnpmhjkaaDoor
set_option linter.unusedVariables false
set_option linter.unusedSimpArgs false
open Go.RowKit

theorem leap_no (y : Int) (w : World) (h1 : 2000 ≤ y) (h2 : y ≤ 2099) (h : ¬ y % 4 = 0) : Calls Tryd.prog 44 #[.int .i64 y] w fun e w' => e = .returned (.bool false) ∧ w = w' := by
  have _ : (y % 4 == 0) = false := beq_eq_false_iff_ne.2 (by omega)
  clear h
  go_enter Tryd.func44, Tryd.ntmps44
  go_wp2
  go_ret
  exact ⟨rfl, rfl⟩

theorem leap_y2000 (y : Int) (w : World) (h1 : 2000 ≤ y) (h2 : y ≤ 2099) (h : y = 2000) : Calls Tryd.prog 44 #[.int .i64 y] w fun e w' => e = .returned (.bool true) ∧ w = w' := by
  subst h
  go_enter Tryd.func44, Tryd.ntmps44
  go_wp2
  go_ret
  exact ⟨rfl, rfl⟩

theorem leap_yes0 (y : Int) (w : World) (h1 : 2000 ≤ y) (h2 : y ≤ 2099) (h : y % 4 = 0) (h3 : 2000 < y) : Calls Tryd.prog 44 #[.int .i64 y] w fun e w' => e = .returned (.bool true) ∧ w = w' := by
  have _ : (y % 4 == 0) = true := beq_iff_eq.2 (by omega)
  have _ : (y % 100 != 0) = true := bne_iff_ne.2 (by omega)
  clear h
  go_enter Tryd.func44, Tryd.ntmps44
  go_wp2
  go_ret
  exact ⟨rfl, rfl⟩

theorem leap_yes (y : Int) (w : World) (h1 : 2000 ≤ y) (h2 : y ≤ 2099) (h : y % 4 = 0) : Calls Tryd.prog 44 #[.int .i64 y] w fun e w' => e = .returned (.bool true) ∧ w = w' := by
  by_cases h3 : y = 2000
  · exact leap_y2000 y w h1 h2 h3
  · exact leap_yes0 y w h1 h2 h (by omega)

theorem days_any (y m : Int) (w : World) (h1 : 2000 ≤ y) (h2 : y ≤ 2099) (h3 : 1 ≤ m) (h4 : m ≤ 12) : Calls Tryd.prog 43 #[.int .i64 y, .int .i64 m] w fun e w' => e = .returned (.int .i64 (Cal.len y m)) ∧ w = w' := by
  have hm : m = 1 ∨ m = 2 ∨ m = 3 ∨ m = 4 ∨ m = 5 ∨ m = 6 ∨ m = 7 ∨ m = 8 ∨ m = 9 ∨ m = 10 ∨ m = 11 ∨ m = 12 := by omega
  clear h3 h4
  rcases hm with rfl | rfl | rfl | rfl | rfl | rfl | rfl | rfl | rfl | rfl | rfl | rfl
  · have HV := Lib.hid (show Cal.len y 1 = 31 by simp [Cal.len, Cal.tab])
    go_enter Tryd.func43, Tryd.ntmps43
    go_wp2
    go_ret
    exact ⟨ret_int HV.out.symm, rfl⟩
  · by_cases h : y % 4 = 0
    · have HV := Lib.hid (show Cal.len y 2 = 29 by simp [Cal.len, h])
      have HC := Lib.hid (leap_yes y w h1 h2 h)
      clear h
      go_enter Tryd.func43, Tryd.ntmps43
      go_wp2_with (go_at_call 44; refine HC.out.mono ?_; rintro e w' ⟨rfl, rfl⟩)
      go_ret
      exact ⟨ret_int HV.out.symm, rfl⟩
    · have HV := Lib.hid (show Cal.len y 2 = 28 by simp [Cal.len, h, Cal.tab])
      have HC := Lib.hid (leap_no y w h1 h2 h)
      clear h
      go_enter Tryd.func43, Tryd.ntmps43
      go_wp2_with (go_at_call 44; refine HC.out.mono ?_; rintro e w' ⟨rfl, rfl⟩)
      go_ret
      exact ⟨ret_int HV.out.symm, rfl⟩
  · have HV := Lib.hid (show Cal.len y 3 = 31 by simp [Cal.len, Cal.tab])
    go_enter Tryd.func43, Tryd.ntmps43
    go_wp2
    go_ret
    exact ⟨ret_int HV.out.symm, rfl⟩
  · have HV := Lib.hid (show Cal.len y 4 = 30 by simp [Cal.len, Cal.tab])
    go_enter Tryd.func43, Tryd.ntmps43
    go_wp2
    go_ret
    exact ⟨ret_int HV.out.symm, rfl⟩
  · have HV := Lib.hid (show Cal.len y 5 = 31 by simp [Cal.len, Cal.tab])
    go_enter Tryd.func43, Tryd.ntmps43
    go_wp2
    go_ret
    exact ⟨ret_int HV.out.symm, rfl⟩
  · have HV := Lib.hid (show Cal.len y 6 = 30 by simp [Cal.len, Cal.tab])
    go_enter Tryd.func43, Tryd.ntmps43
    go_wp2
    go_ret
    exact ⟨ret_int HV.out.symm, rfl⟩
  · have HV := Lib.hid (show Cal.len y 7 = 31 by simp [Cal.len, Cal.tab])
    go_enter Tryd.func43, Tryd.ntmps43
    go_wp2
    go_ret
    exact ⟨ret_int HV.out.symm, rfl⟩
  · have HV := Lib.hid (show Cal.len y 8 = 31 by simp [Cal.len, Cal.tab])
    go_enter Tryd.func43, Tryd.ntmps43
    go_wp2
    go_ret
    exact ⟨ret_int HV.out.symm, rfl⟩
  · have HV := Lib.hid (show Cal.len y 9 = 30 by simp [Cal.len, Cal.tab])
    go_enter Tryd.func43, Tryd.ntmps43
    go_wp2
    go_ret
    exact ⟨ret_int HV.out.symm, rfl⟩
  · have HV := Lib.hid (show Cal.len y 10 = 31 by simp [Cal.len, Cal.tab])
    go_enter Tryd.func43, Tryd.ntmps43
    go_wp2
    go_ret
    exact ⟨ret_int HV.out.symm, rfl⟩
  · have HV := Lib.hid (show Cal.len y 11 = 30 by simp [Cal.len, Cal.tab])
    go_enter Tryd.func43, Tryd.ntmps43
    go_wp2
    go_ret
    exact ⟨ret_int HV.out.symm, rfl⟩
  · have HV := Lib.hid (show Cal.len y 12 = 31 by simp [Cal.len, Cal.tab])
    go_enter Tryd.func43, Tryd.ntmps43
    go_wp2
    go_ret
    exact ⟨ret_int HV.out.symm, rfl⟩

theorem rhour_y1 (y m d h : Int) (w : World) (h1 : y < 2000) :
    Calls Tryd.prog 14 #[.agg #[.int .i64 y, .int .i64 m, .int .i64 d], .int .i64 h] w fun e w' => e = .returned (.tuple #[.int .i64 (Cal.hv y m d h), .int .i64 (Cal.he y m d h)]) ∧ Below w.heap.size w w' := by
  have _ : decide (y < 2000) = true := decide_eq_true (by omega)
  have HV := Lib.hid (Cal.hv_bad (y := y) (m := m) (d := d) (h := h) (by omega))
  go_enter Tryd.func14, Tryd.ntmps14
  go_wp2
  go_quiet (fail)
  go_wp2
  go_ret2
  exact ⟨ret_two HV.out.1.symm HV.out.2.symm, (by repeat' (first | (with_reducible exact Below.refl _ _) | (with_reducible assumption) | (with_reducible refine below_drewN ?_ _) | (with_reducible refine Below.alloc ?_ ?_ _) | (with_reducible refine Below.drew ?_) | (with_reducible refine Below.setCell ?_ ?_ _) | go_size))⟩

theorem rhour_y2 (y m d h : Int) (w : World) (h1 : 2099 < y) :
    Calls Tryd.prog 14 #[.agg #[.int .i64 y, .int .i64 m, .int .i64 d], .int .i64 h] w fun e w' => e = .returned (.tuple #[.int .i64 (Cal.hv y m d h), .int .i64 (Cal.he y m d h)]) ∧ Below w.heap.size w w' := by
  have _ : decide (y < 2000) = false := decide_eq_false (by omega)
  have _ : decide (2099 < y) = true := decide_eq_true (by omega)
  have HV := Lib.hid (Cal.hv_bad (y := y) (m := m) (d := d) (h := h) (by omega))
  go_enter Tryd.func14, Tryd.ntmps14
  go_wp2
  go_quiet (fail)
  go_wp2
  go_ret2
  exact ⟨ret_two HV.out.1.symm HV.out.2.symm, (by repeat' (first | (with_reducible exact Below.refl _ _) | (with_reducible assumption) | (with_reducible refine below_drewN ?_ _) | (with_reducible refine Below.alloc ?_ ?_ _) | (with_reducible refine Below.drew ?_) | (with_reducible refine Below.setCell ?_ ?_ _) | go_size))⟩

theorem rhour_m1 (y m d h : Int) (w : World) (h1 : 2000 ≤ y) (h2 : y ≤ 2099) (h3 : m < 1) :
    Calls Tryd.prog 14 #[.agg #[.int .i64 y, .int .i64 m, .int .i64 d], .int .i64 h] w fun e w' => e = .returned (.tuple #[.int .i64 (Cal.hv y m d h), .int .i64 (Cal.he y m d h)]) ∧ Below w.heap.size w w' := by
  have _ : decide (y < 2000) = false := decide_eq_false (by omega)
  have _ : decide (2099 < y) = false := decide_eq_false (by omega)
  have _ : decide (m < 1) = true := decide_eq_true (by omega)
  have HV := Lib.hid (Cal.hv_bad (y := y) (m := m) (d := d) (h := h) (by omega))
  go_enter Tryd.func14, Tryd.ntmps14
  go_wp2
  go_quiet (fail)
  go_wp2
  go_ret2
  exact ⟨ret_two HV.out.1.symm HV.out.2.symm, (by repeat' (first | (with_reducible exact Below.refl _ _) | (with_reducible assumption) | (with_reducible refine below_drewN ?_ _) | (with_reducible refine Below.alloc ?_ ?_ _) | (with_reducible refine Below.drew ?_) | (with_reducible refine Below.setCell ?_ ?_ _) | go_size))⟩

theorem rhour_m2 (y m d h : Int) (w : World) (h1 : 2000 ≤ y) (h2 : y ≤ 2099) (h3 : 12 < m) :
    Calls Tryd.prog 14 #[.agg #[.int .i64 y, .int .i64 m, .int .i64 d], .int .i64 h] w fun e w' => e = .returned (.tuple #[.int .i64 (Cal.hv y m d h), .int .i64 (Cal.he y m d h)]) ∧ Below w.heap.size w w' := by
  have _ : decide (y < 2000) = false := decide_eq_false (by omega)
  have _ : decide (2099 < y) = false := decide_eq_false (by omega)
  have _ : decide (m < 1) = false := decide_eq_false (by omega)
  have _ : decide (12 < m) = true := decide_eq_true (by omega)
  have HV := Lib.hid (Cal.hv_bad (y := y) (m := m) (d := d) (h := h) (by omega))
  go_enter Tryd.func14, Tryd.ntmps14
  go_wp2
  go_quiet (fail)
  go_wp2
  go_ret2
  exact ⟨ret_two HV.out.1.symm HV.out.2.symm, (by repeat' (first | (with_reducible exact Below.refl _ _) | (with_reducible assumption) | (with_reducible refine below_drewN ?_ _) | (with_reducible refine Below.alloc ?_ ?_ _) | (with_reducible refine Below.drew ?_) | (with_reducible refine Below.setCell ?_ ?_ _) | go_size))⟩

theorem rhour_d1 (y m d h : Int) (w : World) (h1 : 2000 ≤ y) (h2 : y ≤ 2099) (h3 : 1 ≤ m) (h4 : m ≤ 12) (h5 : d < 1) :
    Calls Tryd.prog 14 #[.agg #[.int .i64 y, .int .i64 m, .int .i64 d], .int .i64 h] w fun e w' => e = .returned (.tuple #[.int .i64 (Cal.hv y m d h), .int .i64 (Cal.he y m d h)]) ∧ Below w.heap.size w w' := by
  have _ : decide (y < 2000) = false := decide_eq_false (by omega)
  have _ : decide (2099 < y) = false := decide_eq_false (by omega)
  have _ : decide (m < 1) = false := decide_eq_false (by omega)
  have _ : decide (12 < m) = false := decide_eq_false (by omega)
  have _ : decide (d < 1) = true := decide_eq_true (by omega)
  have HV := Lib.hid (Cal.hv_bad (y := y) (m := m) (d := d) (h := h) (by omega))
  go_enter Tryd.func14, Tryd.ntmps14
  go_wp2
  go_quiet (fail)
  go_wp2
  go_ret2
  exact ⟨ret_two HV.out.1.symm HV.out.2.symm, (by repeat' (first | (with_reducible exact Below.refl _ _) | (with_reducible assumption) | (with_reducible refine below_drewN ?_ _) | (with_reducible refine Below.alloc ?_ ?_ _) | (with_reducible refine Below.drew ?_) | (with_reducible refine Below.setCell ?_ ?_ _) | go_size))⟩

theorem rhour_d2 (y m d h : Int) (w : World) (h1 : 2000 ≤ y) (h2 : y ≤ 2099) (h3 : 1 ≤ m) (h4 : m ≤ 12) (h5 : 1 ≤ d) (h6 : Cal.len y m < d) :
    Calls Tryd.prog 14 #[.agg #[.int .i64 y, .int .i64 m, .int .i64 d], .int .i64 h] w fun e w' => e = .returned (.tuple #[.int .i64 (Cal.hv y m d h), .int .i64 (Cal.he y m d h)]) ∧ Below w.heap.size w w' := by
  have _ : decide (y < 2000) = false := decide_eq_false (by omega)
  have _ : decide (2099 < y) = false := decide_eq_false (by omega)
  have _ : decide (m < 1) = false := decide_eq_false (by omega)
  have _ : decide (12 < m) = false := decide_eq_false (by omega)
  have _ : decide (d < 1) = false := decide_eq_false (by omega)
  have _ : decide (Cal.len y m < d) = true := decide_eq_true (by omega)
  have HV := Lib.hid (Cal.hv_bad (y := y) (m := m) (d := d) (h := h) (by omega))
  go_enter Tryd.func14, Tryd.ntmps14
  go_wp2
  go_quiet ((go_at_call 43; exact quiet_same (days_any _ _ _ (by omega) (by omega) (by omega) (by omega))))
  go_wp2
  go_ret2
  exact ⟨ret_two HV.out.1.symm HV.out.2.symm, (by repeat' (first | (with_reducible exact Below.refl _ _) | (with_reducible assumption) | (with_reducible refine below_drewN ?_ _) | (with_reducible refine Below.alloc ?_ ?_ _) | (with_reducible refine Below.drew ?_) | (with_reducible refine Below.setCell ?_ ?_ _) | go_size))⟩

theorem rhour_h1 (y m d h : Int) (w : World) (h1 : 2000 ≤ y) (h2 : y ≤ 2099) (h3 : 1 ≤ m) (h4 : m ≤ 12) (h5 : 1 ≤ d) (h6 : d ≤ Cal.len y m) (h7 : h < 0) :
    Calls Tryd.prog 14 #[.agg #[.int .i64 y, .int .i64 m, .int .i64 d], .int .i64 h] w fun e w' => e = .returned (.tuple #[.int .i64 (Cal.hv y m d h), .int .i64 (Cal.he y m d h)]) ∧ Below w.heap.size w w' := by
  have _ : decide (y < 2000) = false := decide_eq_false (by omega)
  have _ : decide (2099 < y) = false := decide_eq_false (by omega)
  have _ : decide (m < 1) = false := decide_eq_false (by omega)
  have _ : decide (12 < m) = false := decide_eq_false (by omega)
  have _ : decide (d < 1) = false := decide_eq_false (by omega)
  have _ : decide (Cal.len y m < d) = false := decide_eq_false (by omega)
  have _ : decide (h < 0) = true := decide_eq_true (by omega)
  have HV := Lib.hid (Cal.hv_bad (y := y) (m := m) (d := d) (h := h) (by omega))
  go_enter Tryd.func14, Tryd.ntmps14
  go_wp2
  go_quiet ((go_at_call 43; exact quiet_same (days_any _ _ _ (by omega) (by omega) (by omega) (by omega))))
  go_wp2
  go_ret2
  exact ⟨ret_two HV.out.1.symm HV.out.2.symm, (by repeat' (first | (with_reducible exact Below.refl _ _) | (with_reducible assumption) | (with_reducible refine below_drewN ?_ _) | (with_reducible refine Below.alloc ?_ ?_ _) | (with_reducible refine Below.drew ?_) | (with_reducible refine Below.setCell ?_ ?_ _) | go_size))⟩

theorem rhour_h2 (y m d h : Int) (w : World) (h1 : 2000 ≤ y) (h2 : y ≤ 2099) (h3 : 1 ≤ m) (h4 : m ≤ 12) (h5 : 1 ≤ d) (h6 : d ≤ Cal.len y m) (h7 : 24 ≤ h) :
    Calls Tryd.prog 14 #[.agg #[.int .i64 y, .int .i64 m, .int .i64 d], .int .i64 h] w fun e w' => e = .returned (.tuple #[.int .i64 (Cal.hv y m d h), .int .i64 (Cal.he y m d h)]) ∧ Below w.heap.size w w' := by
  have _ : decide (y < 2000) = false := decide_eq_false (by omega)
  have _ : decide (2099 < y) = false := decide_eq_false (by omega)
  have _ : decide (m < 1) = false := decide_eq_false (by omega)
  have _ : decide (12 < m) = false := decide_eq_false (by omega)
  have _ : decide (d < 1) = false := decide_eq_false (by omega)
  have _ : decide (Cal.len y m < d) = false := decide_eq_false (by omega)
  have _ : decide (h < 0) = false := decide_eq_false (by omega)
  have _ : decide (23 < h) = true := decide_eq_true (by omega)
  have HV := Lib.hid (Cal.hv_bad (y := y) (m := m) (d := d) (h := h) (by omega))
  go_enter Tryd.func14, Tryd.ntmps14
  go_wp2
  go_quiet ((go_at_call 43; exact quiet_same (days_any _ _ _ (by omega) (by omega) (by omega) (by omega))))
  go_wp2
  go_ret2
  exact ⟨ret_two HV.out.1.symm HV.out.2.symm, (by repeat' (first | (with_reducible exact Below.refl _ _) | (with_reducible assumption) | (with_reducible refine below_drewN ?_ _) | (with_reducible refine Below.alloc ?_ ?_ _) | (with_reducible refine Below.drew ?_) | (with_reducible refine Below.setCell ?_ ?_ _) | go_size))⟩

theorem rhour_good (y m d h : Int) (w : World) (h1 : 2000 ≤ y) (h2 : y ≤ 2099) (h3 : 1 ≤ m) (h4 : m ≤ 12) (h5 : 1 ≤ d) (h6 : d ≤ Cal.len y m) (h7 : 0 ≤ h) (h8 : h < 24) :
    Calls Tryd.prog 14 #[.agg #[.int .i64 y, .int .i64 m, .int .i64 d], .int .i64 h] w fun e w' => e = .returned (.tuple #[.int .i64 (Cal.hv y m d h), .int .i64 (Cal.he y m d h)]) ∧ Below w.heap.size w w' := by
  have _ : decide (y < 2000) = false := decide_eq_false (by omega)
  have _ : decide (2099 < y) = false := decide_eq_false (by omega)
  have _ : decide (m < 1) = false := decide_eq_false (by omega)
  have _ : decide (12 < m) = false := decide_eq_false (by omega)
  have _ : decide (d < 1) = false := decide_eq_false (by omega)
  have _ : decide (Cal.len y m < d) = false := decide_eq_false (by omega)
  have _ : decide (h < 0) = false := decide_eq_false (by omega)
  have _ : decide (23 < h) = false := decide_eq_false (by omega)
  have hl := Cal.len_bd y m h3 h4
  have HV := Lib.hid (Cal.hv_good ⟨h1, h2, h3, h4, h5, h6, h7, show h ≤ 23 by omega⟩)
  go_enter Tryd.func14, Tryd.ntmps14
  go_wp2
  go_quiet ((go_at_call 43; exact quiet_same (days_any _ _ _ (by omega) (by omega) (by omega) (by omega))))
  go_wp2
  go_loop [6, 7] (fun t i => ∃ j : Nat, (j : Int) ≤ m - 1 ∧ i = .int .i64 (1 + j) ∧ t = .int .i64 (d - 1 + Cal.cumM y j)) (fun _ i => (m - intOf i).toNat)
  case atStart => exact ⟨0, by omega, rfl, by simp [Cal.cumM]⟩
  case round =>
    obtain ⟨j, hj, rfl, rfl⟩ := hrel
    have hm0 := Cal.cumM_bd y j (by omega)
    have hml := Cal.len_bd y (1 + j) (by omega) (by omega)
    by_cases hlt2 : 1 + (j : Int) < m
    · go_wp2_with (go_at_call 43; refine (days_any _ _ _ (by omega) (by omega) (by omega) (by omega)).mono ?_; rintro e w' ⟨rfl, rfl⟩)
      go_round
      case rel => exact ⟨j + 1, by omega, by go_num, by rw [Cal.cumM, show ((j : Int) + 1) = 1 + (j : Int) by omega]; go_num⟩
      case measure => simp [intOf]; omega
    · have HJ := Lib.hid (show (m - 1).toNat = j by omega)
      go_wp2
      go_loop [6, 8] (fun t i => ∃ k : Nat, (k : Int) ≤ y - 2000 ∧ i = .int .i64 (2000 + k) ∧ t = .int .i64 (d - 1 + Cal.cumM y j + Cal.cumY k)) (fun _ i => (y - intOf i).toNat)
      case atStart => exact ⟨0, by omega, rfl, by simp [Cal.cumY]⟩
      case round =>
        obtain ⟨k, hk, rfl, rfl⟩ := hrel
        have hy0 := Cal.cumY_eq k
        have hk1 : 0 ≤ Cal.cumY k ∧ Cal.cumY k ≤ 40000 := by omega
        clear hy0
        by_cases hlt : 2000 + (k : Int) < y
        · by_cases h4 : (2000 + (k : Int)) % 4 = 0
          · have HL := Lib.hid (show Cal.yl (2000 + k) = 366 by simp only [Cal.yl, h4, if_true])
            have HC := Lib.hid (fun w => leap_yes (2000 + (k : Int)) w (by omega) (by omega) h4)
            clear h4
            go_wp2_with (go_at_call 44; refine (HC.out _).mono ?_; rintro e w' ⟨rfl, rfl⟩)
            go_round
            case rel => exact ⟨k + 1, by omega, by go_num, by rw [Cal.cumY, HL.out]; go_num⟩
            case measure => simp [intOf]; omega
          · have HL := Lib.hid (show Cal.yl (2000 + k) = 365 by simp only [Cal.yl, h4, if_false])
            have HC := Lib.hid (fun w => leap_no (2000 + (k : Int)) w (by omega) (by omega) h4)
            clear h4
            go_wp2_with (go_at_call 44; refine (HC.out _).mono ?_; rintro e w' ⟨rfl, rfl⟩)
            go_round
            case rel => exact ⟨k + 1, by omega, by go_num, by rw [Cal.cumY, HL.out]; go_num⟩
            case measure => simp [intOf]; omega
        · have HK := Lib.hid (show (y - 2000).toNat = k by omega)
          go_wp2
          go_ret2
          exact ⟨ret_two (by rw [HV.out.1, HK.out, HJ.out]; omega) HV.out.2.symm, (by repeat' (first | (with_reducible exact Below.refl _ _) | (with_reducible assumption) | (with_reducible refine below_drewN ?_ _) | (with_reducible refine Below.alloc ?_ ?_ _) | (with_reducible refine Below.drew ?_) | (with_reducible refine Below.setCell ?_ ?_ _) | go_size))⟩

theorem rhour_any (y m d h : Int) (w : World) :
    Calls Tryd.prog 14 #[.agg #[.int .i64 y, .int .i64 m, .int .i64 d], .int .i64 h] w fun e w' => e = .returned (.tuple #[.int .i64 (Cal.hv y m d h), .int .i64 (Cal.he y m d h)]) ∧ Below w.heap.size w w' := by
  rcases Int.lt_or_le y 2000 with h1 | h1
  · exact rhour_y1 y m d h w h1
  rcases Int.lt_or_le 2099 y with h2 | h2
  · exact rhour_y2 y m d h w h2
  rcases Int.lt_or_le m 1 with h3 | h3
  · exact rhour_m1 y m d h w h1 h2 h3
  rcases Int.lt_or_le 12 m with h4 | h4
  · exact rhour_m2 y m d h w h1 h2 h4
  rcases Int.lt_or_le d 1 with h5 | h5
  · exact rhour_d1 y m d h w h1 h2 h3 h4 h5
  rcases Int.lt_or_le (Cal.len y m) d with h6 | h6
  · exact rhour_d2 y m d h w h1 h2 h3 h4 h5 h6
  rcases Int.lt_or_le h 0 with h7 | h7
  · exact rhour_h1 y m d h w h1 h2 h3 h4 h5 h6 h7
  rcases Int.lt_or_le h 24 with h8 | h8
  · exact rhour_good y m d h w h1 h2 h3 h4 h5 h6 h7 h8
  · exact rhour_h2 y m d h w h1 h2 h3 h4 h5 h6 h8
end Go.Proofs.YtnidojfnpmhjkaaDoor
