/- The walks of calendar.Civil, the reference's Civil, Within and hour. -/
import Derived.Test.YtnidojfnpmhjkaaDoorCivP
import Derived.Test.YtnidojfnpmhjkaaDoorHour
import Derived.Test.YtnidojfnpmhjkaaDoorRefHour
namespace Go.Proofs.YtnidojfnpmhjkaaDoor
set_option linter.unusedVariables false
set_option linter.unusedSimpArgs false
open Go.RowKit

theorem ret_civ {a b c d e a' b' c' d' e' : Int} (h1 : a = a') (h2 : b = b') (h3 : c = c') (h4 : d = d') (h5 : e = e') : Ending.returned (.tuple #[.agg #[.int .i64 a, .int .i64 b, .int .i64 c], .int .i64 d, .int .i64 e]) = .returned (.tuple #[.agg #[.int .i64 a', .int .i64 b', .int .i64 c'], .int .i64 d', .int .i64 e']) := by rw [h1, h2, h3, h4, h5]
theorem within_any (x k : Int) (w : World) (h0 : 0 < k) (h1 : k ≤ 4611686018427387904) : Calls Tryd.prog 20 #[.int .i64 x, .int .i64 k] w fun e w' => e = .returned (.int .i64 (Cal.within x k)) ∧ w = w' := by
  have a1 : -k < x.tmod k := by have := Int.lt_tmod_of_pos x h0; omega
  have a2 : x.tmod k < k := Int.tmod_lt_of_pos _ h0
  have hk : (k == 0) = false := beq_eq_false_iff_ne.2 (by omega)
  have HV := Lib.hid (show Cal.within x k = (x.tmod k + k).tmod k from rfl)
  have HE := Lib.hid (Int.tmod_eq_emod_of_nonneg (a := x.tmod k + k) (b := k) (by omega))
  go_enter Tryd.func20, Tryd.ntmps20
  go_wp2
  go_ret
  exact ⟨ret_int (by rw [HV.out, HE.out]), rfl⟩
theorem lawhour_any (x : Int) (w : World) : Calls Tryd.prog 19 #[.int .i64 x] w fun e w' => e = .returned (.int .i64 (Cal.within x 876600)) ∧ w = w' := by
  have HC := Lib.hid (within_any x 876600 w (by omega) (by omega))
  go_enter Tryd.func19, Tryd.ntmps19
  go_wp2_with (go_at_call 20; refine HC.out.mono ?_; rintro e w' ⟨rfl, rfl⟩)
  go_ret
  exact ⟨rfl, rfl⟩

theorem civil_low (n : Int) (w : World) (h : n < 0) : Calls Tryd.prog 30 #[.int .i64 n] w fun e w' => e = .returned (.tuple #[.agg #[.int .i64 (Cal.cvy n), .int .i64 (Cal.cvm n), .int .i64 (Cal.cvd n)], .int .i64 (Cal.cvh n), .int .i64 (Cal.cve n)]) ∧ Below w.heap.size w w' := by
  have _ : decide (0 ≤ n) = false := decide_eq_false (by omega)
  have HV := Lib.hid (Cal.civ_bad (n := n) (by omega))
  go_enter Tryd.func30, Tryd.ntmps30
  go_wp2
  refine bodyPost_ret (v := .tuple #[.agg #[.int .i64 0, .int .i64 0, .int .i64 0], .int .i64 0, .int .i64 1]) (by simp [results, Tryd.results30, go_sem]) rfl ⟨?_, (by repeat' (first | (with_reducible exact Below.refl _ _) | (with_reducible assumption) | (with_reducible refine below_drewN ?_ _) | (with_reducible refine Below.alloc ?_ ?_ _) | (with_reducible refine Below.drew ?_) | (with_reducible refine Below.setCell ?_ ?_ _) | go_size))⟩
  exact ret_civ HV.out.1.symm HV.out.2.1.symm HV.out.2.2.1.symm HV.out.2.2.2.1.symm HV.out.2.2.2.2.symm

theorem civil_high (n : Int) (w : World) (h : 876599 < n) : Calls Tryd.prog 30 #[.int .i64 n] w fun e w' => e = .returned (.tuple #[.agg #[.int .i64 (Cal.cvy n), .int .i64 (Cal.cvm n), .int .i64 (Cal.cvd n)], .int .i64 (Cal.cvh n), .int .i64 (Cal.cve n)]) ∧ Below w.heap.size w w' := by
  have _ : decide (0 ≤ n) = true := decide_eq_true (by omega)
  have _ : decide (n ≤ 876599) = false := decide_eq_false (by omega)
  have HV := Lib.hid (Cal.civ_bad (n := n) (by omega))
  go_enter Tryd.func30, Tryd.ntmps30
  go_wp2
  refine bodyPost_ret (v := .tuple #[.agg #[.int .i64 0, .int .i64 0, .int .i64 0], .int .i64 0, .int .i64 1]) (by simp [results, Tryd.results30, go_sem]) rfl ⟨?_, (by repeat' (first | (with_reducible exact Below.refl _ _) | (with_reducible assumption) | (with_reducible refine below_drewN ?_ _) | (with_reducible refine Below.alloc ?_ ?_ _) | (with_reducible refine Below.drew ?_) | (with_reducible refine Below.setCell ?_ ?_ _) | go_size))⟩
  exact ret_civ HV.out.1.symm HV.out.2.1.symm HV.out.2.2.1.symm HV.out.2.2.2.1.symm HV.out.2.2.2.2.symm

theorem rciv_low (n : Int) (w : World) (h : n < 0) : Calls Tryd.prog 31 #[.int .i64 n] w fun e w' => e = .returned (.tuple #[.agg #[.int .i64 (Cal.cvy n), .int .i64 (Cal.cvm n), .int .i64 (Cal.cvd n)], .int .i64 (Cal.cvh n), .int .i64 (Cal.cve n)]) ∧ Below w.heap.size w w' := by
  have _ : decide (0 ≤ n) = false := decide_eq_false (by omega)
  have HV := Lib.hid (Cal.civ_bad (n := n) (by omega))
  go_enter Tryd.func31, Tryd.ntmps31
  go_wp2
  refine bodyPost_ret (v := .tuple #[.agg #[.int .i64 0, .int .i64 0, .int .i64 0], .int .i64 0, .int .i64 1]) (by simp [results, Tryd.results31, go_sem]) rfl ⟨?_, (by repeat' (first | (with_reducible exact Below.refl _ _) | (with_reducible assumption) | (with_reducible refine below_drewN ?_ _) | (with_reducible refine Below.alloc ?_ ?_ _) | (with_reducible refine Below.drew ?_) | (with_reducible refine Below.setCell ?_ ?_ _) | go_size))⟩
  exact ret_civ HV.out.1.symm HV.out.2.1.symm HV.out.2.2.1.symm HV.out.2.2.2.1.symm HV.out.2.2.2.2.symm

theorem rciv_high (n : Int) (w : World) (h : 876599 < n) : Calls Tryd.prog 31 #[.int .i64 n] w fun e w' => e = .returned (.tuple #[.agg #[.int .i64 (Cal.cvy n), .int .i64 (Cal.cvm n), .int .i64 (Cal.cvd n)], .int .i64 (Cal.cvh n), .int .i64 (Cal.cve n)]) ∧ Below w.heap.size w w' := by
  have _ : decide (0 ≤ n) = true := decide_eq_true (by omega)
  have _ : decide (n ≤ 876599) = false := decide_eq_false (by omega)
  have HV := Lib.hid (Cal.civ_bad (n := n) (by omega))
  go_enter Tryd.func31, Tryd.ntmps31
  go_wp2
  refine bodyPost_ret (v := .tuple #[.agg #[.int .i64 0, .int .i64 0, .int .i64 0], .int .i64 0, .int .i64 1]) (by simp [results, Tryd.results31, go_sem]) rfl ⟨?_, (by repeat' (first | (with_reducible exact Below.refl _ _) | (with_reducible assumption) | (with_reducible refine below_drewN ?_ _) | (with_reducible refine Below.alloc ?_ ?_ _) | (with_reducible refine Below.drew ?_) | (with_reducible refine Below.setCell ?_ ?_ _) | go_size))⟩
  exact ret_civ HV.out.1.symm HV.out.2.1.symm HV.out.2.2.1.symm HV.out.2.2.2.1.symm HV.out.2.2.2.2.symm

theorem civil_good (n : Int) (w : World) (hT : Tab w) (hB : 0 < w.heap.size) (h0 : 0 ≤ n) (h1 : n ≤ 876599) : Calls Tryd.prog 30 #[.int .i64 n] w fun e w' => e = .returned (.tuple #[.agg #[.int .i64 (Cal.cvy n), .int .i64 (Cal.cvm n), .int .i64 (Cal.cvd n)], .int .i64 (Cal.cvh n), .int .i64 (Cal.cve n)]) ∧ Below w.heap.size w w' := by
  have HG := Lib.hid (Cal.civ_good h0 h1)
  have HE := Lib.hid (fun y m d => Cal.civ_eq (y := y) (m := m) (d := d) h0 h1)
  have hT' : Tab (w.alloc (.cells #[.int .i64 0, .int .i64 0, .int .i64 0] 23)) := hT.alloc hB _
  have hD0 : 0 ≤ n / 24 := by omega
  have hD1 : n / 24 ≤ 36524 := by omega
  go_enter Tryd.func30, Tryd.ntmps30
  go_wp2_with (first | (go_at_call 50; go_in) | (go_at_call 42; refine (yearLength_any _ _ (by omega)).mono ?_; rintro e w' ⟨rfl, rfl⟩))
  go_loop [5, 6, 8] (fun t i l => ∃ k : Nat, k ≤ 99 ∧ i = .int .i64 (2000 + k) ∧ t = .int .i64 (n / 24 - Cal.cumY k) ∧ 0 ≤ n / 24 - Cal.cumY k ∧ l = .int .i64 (Cal.yl (2000 + k))) (fun _ i _ => (2100 - intOf i).toNat)
  case atStart => exact ⟨0, by omega, rfl, by simp [Cal.cumY], by simp [Cal.cumY]; omega, rfl⟩
  case round =>
    obtain ⟨k, hk, rfl, rfl, hk0, rfl⟩ := hrel
    have c1 := Cal.cumY_eq k
    have c2 := Cal.cumY_eq (k + 1)
    have c3 := Cal.yl_bd (2000 + k)
    have c4 : Cal.cumY (k + 1) = Cal.cumY k + Cal.yl (2000 + k) := by rw [Cal.cumY]
    have d1 : 0 ≤ Cal.cumY k := by omega
    by_cases hlt : Cal.yl (2000 + k) ≤ n / 24 - Cal.cumY k
    · have hk1 : k + 1 ≤ 99 := by omega
      have HC4 := Lib.hid c4
      clear c1 c2 c4
      go_wp2_with (go_at_call 42; refine (yearLength_any _ _ (by omega)).mono ?_; rintro e w' ⟨rfl, rfl⟩)
      go_round
      case rel => exact ⟨k + 1, hk1, by go_num, by rw [HC4.out]; go_num, by rw [HC4.out]; omega, by rw [show ((k + 1 : Nat) : Int) = k + 1 by omega, show (2000 : Int) + (k + 1) = 2000 + k + 1 by omega]⟩
      case measure => simp [intOf]; omega
    · have HM := Lib.hid (Cal.cumM_12 (2000 + k))
      clear c1 c2 c4
      have l1 := Cal.len_bd (2000 + k) 1 (by omega) (by omega)
      go_wp2_with (go_at_call 41; refine (length_any _ _ _ (by exact hT') (by omega) (by omega) (by omega)).mono ?_; rintro e w' ⟨rfl, rfl⟩)
      go_loop [5, 7, 9] (fun t i l => ∃ j : Nat, j ≤ 11 ∧ i = .int .i64 (1 + j) ∧ t = .int .i64 (n / 24 - Cal.cumY k - Cal.cumM (2000 + k) j) ∧ 0 ≤ n / 24 - Cal.cumY k - Cal.cumM (2000 + k) j ∧ l = .int .i64 (Cal.len (2000 + k) (1 + j))) (fun _ i _ => (13 - intOf i).toNat)
      case atStart => exact ⟨0, by omega, rfl, by simp [Cal.cumM], by simp [Cal.cumM]; omega, rfl⟩
      case round =>
        obtain ⟨j, hj, rfl, rfl, hj0, rfl⟩ := hrel
        have e1 := Cal.cumM_bd (2000 + k) j (by omega)
        have e2 := Cal.len_bd (2000 + k) (1 + j) (by omega) (by omega)
        by_cases hlt2 : Cal.len (2000 + k) (1 + j) ≤ n / 24 - Cal.cumY k - Cal.cumM (2000 + k) j
        · have e3 : Cal.cumM (2000 + k) (j + 1) = Cal.cumM (2000 + k) j + Cal.len (2000 + k) (1 + j) := by rw [Cal.cumM, show ((j : Int) + 1) = 1 + j by omega]
          have hj1 : j + 1 ≤ 11 := by
            rcases Nat.lt_or_ge j 11 with q | q
            · omega
            · obtain rfl : j = 11 := by omega
              rw [HM.out] at e3
              omega
          have HE3 := Lib.hid e3
          clear e3
          have e4 := Cal.len_bd (2000 + k) (1 + j + 1) (by omega) (by omega)
          go_wp2_with (go_at_call 41; refine (length_any _ _ _ (by exact hT') (by omega) (by omega) (by omega)).mono ?_; rintro e w' ⟨rfl, rfl⟩)
          go_round
          case rel => exact ⟨j + 1, hj1, by go_num, by rw [HE3.out]; go_num, by rw [HE3.out]; omega, by rw [show ((j + 1 : Nat) : Int) = j + 1 by omega, show (1 : Int) + (j + 1) = 1 + j + 1 by omega]⟩
          case measure => simp [intOf]; omega
        · have HI := Lib.hid (HE.out (2000 + k) (1 + j) (n / 24 - Cal.cumY k - Cal.cumM (2000 + k) j + 1) ⟨by omega, by omega, by omega, by omega, by omega, by omega, by rw [show ((2000 : Int) + k - 2000).toNat = k by omega, show ((1 : Int) + j - 1).toNat = j by omega]; omega⟩)
          go_wp2
          refine bodyPost_ret (v := .tuple #[.agg #[.int .i64 (2000 + k), .int .i64 (1 + j), .int .i64 (n / 24 - Cal.cumY k - Cal.cumM (2000 + k) j + 1)], .int .i64 (n % 24), .int .i64 0]) (by simp [results, Tryd.results30, go_sem]) rfl ⟨?_, (by repeat' (first | (with_reducible exact Below.refl _ _) | (with_reducible assumption) | (with_reducible refine below_drewN ?_ _) | (with_reducible refine Below.alloc ?_ ?_ _) | (with_reducible refine Below.drew ?_) | (with_reducible refine Below.setCell ?_ ?_ _) | go_size))⟩
          exact ret_civ HI.out.1.symm HI.out.2.1.symm HI.out.2.2.symm HG.out.1.symm HG.out.2.symm

theorem civil_any (n : Int) (w : World) (hT : Tab w) (hB : 0 < w.heap.size) : Calls Tryd.prog 30 #[.int .i64 n] w fun e w' => e = .returned (.tuple #[.agg #[.int .i64 (Cal.cvy n), .int .i64 (Cal.cvm n), .int .i64 (Cal.cvd n)], .int .i64 (Cal.cvh n), .int .i64 (Cal.cve n)]) ∧ Below w.heap.size w w' := by
  rcases Int.lt_or_le n 0 with h | h
  · exact civil_low n w h
  rcases Int.lt_or_le 876599 n with k | k
  · exact civil_high n w k
  · exact civil_good n w hT hB h k

theorem inhrs_good (n : Int) (w : World) (h0 : 0 ≤ n) (h1 : n ≤ 876599) : Calls Tryd.prog 51 #[.int .i64 n] w fun e w' => e = .returned (.bool true) ∧ w = w' := by
  have _ : decide (0 ≤ n) = true := decide_eq_true (by omega)
  have _ : decide (n ≤ 876599) = true := decide_eq_true (by omega)
  go_enter Tryd.func51, Tryd.ntmps51
  go_wp2
  go_ret
  exact ⟨rfl, rfl⟩
theorem rciv_good (n : Int) (w : World) (h0 : 0 ≤ n) (h1 : n ≤ 876599) : Calls Tryd.prog 31 #[.int .i64 n] w fun e w' => e = .returned (.tuple #[.agg #[.int .i64 (Cal.cvy n), .int .i64 (Cal.cvm n), .int .i64 (Cal.cvd n)], .int .i64 (Cal.cvh n), .int .i64 (Cal.cve n)]) ∧ Below w.heap.size w w' := by
  have HG := Lib.hid (Cal.civ_good h0 h1)
  have HE := Lib.hid (fun y m d => Cal.civ_eq (y := y) (m := m) (d := d) h0 h1)
  have hD0 : 0 ≤ n / 24 := by omega
  have hD1 : n / 24 ≤ 36524 := by omega
  go_enter Tryd.func31, Tryd.ntmps31
  go_wp2_with (go_at_call 51; refine (inhrs_good _ _ h0 h1).mono ?_; rintro e w' ⟨rfl, rfl⟩)
  go_loop [5, 6, 7] (fun t i l => ∃ k j : Nat, k ≤ 99 ∧ j ≤ 11 ∧ i = .int .i64 (2000 + k) ∧ l = .int .i64 (1 + j) ∧ t = .int .i64 (n / 24 - Cal.cumY k - Cal.cumM (2000 + k) j) ∧ 0 ≤ n / 24 - Cal.cumY k - Cal.cumM (2000 + k) j) (fun _ i l => (30000 - 12 * intOf i - intOf l).toNat)
  case atStart => exact ⟨0, 0, by omega, by omega, rfl, rfl, by simp [Cal.cumY, Cal.cumM], by simp [Cal.cumY, Cal.cumM]; omega⟩
  case round =>
    obtain ⟨k, j, hk, hj, rfl, rfl, rfl, hk0⟩ := hrel
    have c1 := Cal.cumY_eq k
    have c2 := Cal.cumY_eq (k + 1)
    have c4 : Cal.cumY (k + 1) = Cal.cumY k + Cal.yl (2000 + k) := by rw [Cal.cumY]
    have d1 : 0 ≤ Cal.cumY k := by omega
    have d2 : Cal.cumY k ≤ 36525 := by omega
    have e1 := Cal.cumM_bd (2000 + k) j (by omega)
    have e2 := Cal.len_bd (2000 + k) (1 + j) (by omega) (by omega)
    by_cases hlt : Cal.len (2000 + k) (1 + j) ≤ n / 24 - Cal.cumY k - Cal.cumM (2000 + k) j
    · have e3 : Cal.cumM (2000 + k) (j + 1) = Cal.cumM (2000 + k) j + Cal.len (2000 + k) (1 + j) := by rw [Cal.cumM, show ((j : Int) + 1) = 1 + j by omega]
      by_cases hj1 : j = 11
      · have hm : Cal.cumM (2000 + k) (j + 1) = Cal.yl (2000 + k) := by rw [hj1]; exact Cal.cumM_12 (2000 + k)
        have hk1 : k + 1 ≤ 99 := by omega
        have HX := Lib.hid (show n / 24 - Cal.cumY k - Cal.cumM (2000 + k) j - Cal.len (2000 + k) (1 + j) = n / 24 - Cal.cumY (k + 1) by omega)
        have hj2 : 11 ≤ j := by omega
        clear c1 c2 c4 e3 hm hj1
        go_wp2_with (go_at_call 43; refine (days_any _ _ _ (by omega) (by omega) (by omega) (by omega)).mono ?_; rintro e w' ⟨rfl, rfl⟩)
        go_round
        case rel => exact ⟨k + 1, 0, hk1, by omega, by go_num, rfl, by rw [← HX.out]; simp [Cal.cumM], by rw [← HX.out]; simp [Cal.cumM]; omega⟩
        case measure => simp [intOf]; omega
      · have HX := Lib.hid (show n / 24 - Cal.cumY k - Cal.cumM (2000 + k) j - Cal.len (2000 + k) (1 + j) = n / 24 - Cal.cumY k - Cal.cumM (2000 + k) (j + 1) by rw [e3]; omega)
        have hj2 : j < 11 := by omega
        clear c1 c2 c4 e3 hj1
        go_wp2_with (go_at_call 43; refine (days_any _ _ _ (by omega) (by omega) (by omega) (by omega)).mono ?_; rintro e w' ⟨rfl, rfl⟩)
        go_round
        case rel => exact ⟨k, j + 1, hk, by omega, rfl, by go_num, by rw [← HX.out], by rw [← HX.out]; omega⟩
        case measure => simp [intOf]; omega
    · have HI := Lib.hid (HE.out (2000 + k) (1 + j) (n / 24 - Cal.cumY k - Cal.cumM (2000 + k) j + 1) ⟨by omega, by omega, by omega, by omega, by omega, by omega, by rw [show ((2000 : Int) + k - 2000).toNat = k by omega, show ((1 : Int) + j - 1).toNat = j by omega]; omega⟩)
      clear c1 c2 c4
      go_wp2_with (go_at_call 43; refine (days_any _ _ _ (by omega) (by omega) (by omega) (by omega)).mono ?_; rintro e w' ⟨rfl, rfl⟩)
      refine bodyPost_ret (v := .tuple #[.agg #[.int .i64 (2000 + k), .int .i64 (1 + j), .int .i64 (n / 24 - Cal.cumY k - Cal.cumM (2000 + k) j + 1)], .int .i64 (n % 24), .int .i64 0]) (by simp [results, Tryd.results31, go_sem]) rfl ⟨?_, (by repeat' (first | (with_reducible exact Below.refl _ _) | (with_reducible assumption) | (with_reducible refine below_drewN ?_ _) | (with_reducible refine Below.alloc ?_ ?_ _) | (with_reducible refine Below.drew ?_) | (with_reducible refine Below.setCell ?_ ?_ _) | go_size))⟩
      exact ret_civ HI.out.1.symm HI.out.2.1.symm HI.out.2.2.symm HG.out.1.symm HG.out.2.symm

theorem rciv_any (n : Int) (w : World) : Calls Tryd.prog 31 #[.int .i64 n] w fun e w' => e = .returned (.tuple #[.agg #[.int .i64 (Cal.cvy n), .int .i64 (Cal.cvm n), .int .i64 (Cal.cvd n)], .int .i64 (Cal.cvh n), .int .i64 (Cal.cve n)]) ∧ Below w.heap.size w w' := by
  rcases Int.lt_or_le n 0 with h | h
  · exact rciv_low n w h
  rcases Int.lt_or_le 876599 n with k | k
  · exact rciv_high n w k
  · exact rciv_good n w h k
end Go.Proofs.YtnidojfnpmhjkaaDoor
