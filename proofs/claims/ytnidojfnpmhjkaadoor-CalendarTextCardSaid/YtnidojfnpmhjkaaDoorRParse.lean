/- The walks of the reference's number and ParseHour. -/
import Derived.Test.YtnidojfnpmhjkaaDoorParse0
import Derived.Test.YtnidojfnpmhjkaaDoorRefHour
import Derived.Test.YtnidojfnpmhjkaaDoorLaws1
namespace Go.Proofs.YtnidojfnpmhjkaaDoor
set_option linter.unusedVariables false
set_option linter.unusedSimpArgs false
open Go.RowKit Go.PlainAid
namespace Cal
/-- Are the n bytes from a on digits? -/
def digB (s : ByteArray) (a n : Nat) : Bool := (List.range n).all fun i => decide (48 ≤ bt s (a + i)) && decide (bt s (a + i) ≤ 57)
theorem digB_iff {s : ByteArray} {a n : Nat} : digB s a n = true ↔ Digs s a n := by simp [digB, Digs]
def numB (s : ByteArray) (a n : Nat) : Int := if digB s a n then num s a n else 0
theorem text_f {s : ByteArray} (h : ¬ ((s.size = 10 ∨ s.size = 13) ∧ ∀ i, i < s.size → fits (bt s i) i = true)) : pv s = 0 ∧ pe s = 5 := p_bad h
theorem no_of_dig {s : ByteArray} (a n : Nat) (ha : a + n ≤ s.size) (hne : ∀ i, i < n → a + i ≠ 4 ∧ a + i ≠ 7 ∧ a + i ≠ 10) (h : digB s a n = false) : pv s = 0 ∧ pe s = 5 :=
  p_bad fun q => by
    have : digB s a n = true := digB_iff.2 (fits_digs q.2 a n ha hne)
    rw [this] at h; cases h
theorem no_of_at {s : ByteArray} (i : Nat) (hi : i < s.size) (h : fits (bt s i) i = false) : pv s = 0 ∧ pe s = 5 :=
  p_bad fun q => by have := q.2 i hi; rw [this] at h; cases h
theorem good10 {s : ByteArray} (hs : s.size = 10) (a : digB s 0 4 = true) (b : digB s 5 2 = true) (c : digB s 8 2 = true) (h4 : bt s 4 = 45) (h7 : bt s 7 = 45) : (s.size = 10 ∨ s.size = 13) ∧ ∀ i, i < s.size → fits (bt s i) i = true := by
  refine ⟨.inl hs, fun i hi => ?_⟩
  have hi' : i = 0 ∨ i = 1 ∨ i = 2 ∨ i = 3 ∨ i = 4 ∨ i = 5 ∨ i = 6 ∨ i = 7 ∨ i = 8 ∨ i = 9 := by omega
  have A := digB_iff.1 a; have B := digB_iff.1 b; have C := digB_iff.1 c
  rcases hi' with rfl | rfl | rfl | rfl | rfl | rfl | rfl | rfl | rfl | rfl
  · exact dig_fits (A 0 (by omega)) (by omega) (by omega) (by omega)
  · exact dig_fits (A 1 (by omega)) (by omega) (by omega) (by omega)
  · exact dig_fits (A 2 (by omega)) (by omega) (by omega) (by omega)
  · exact dig_fits (A 3 (by omega)) (by omega) (by omega) (by omega)
  · simp [fits, h4]
  · exact dig_fits (B 0 (by omega)) (by omega) (by omega) (by omega)
  · exact dig_fits (B 1 (by omega)) (by omega) (by omega) (by omega)
  · simp [fits, h7]
  · exact dig_fits (C 0 (by omega)) (by omega) (by omega) (by omega)
  · exact dig_fits (C 1 (by omega)) (by omega) (by omega) (by omega)
theorem good13 {s : ByteArray} (hs : s.size = 13) (a : digB s 0 4 = true) (b : digB s 5 2 = true) (c : digB s 8 2 = true) (h4 : bt s 4 = 45) (h7 : bt s 7 = 45) (d : digB s 11 2 = true) (h10 : bt s 10 = 84) : (s.size = 10 ∨ s.size = 13) ∧ ∀ i, i < s.size → fits (bt s i) i = true := by
  refine ⟨.inr hs, fun i hi => ?_⟩
  have hi' : i = 0 ∨ i = 1 ∨ i = 2 ∨ i = 3 ∨ i = 4 ∨ i = 5 ∨ i = 6 ∨ i = 7 ∨ i = 8 ∨ i = 9 ∨ i = 10 ∨ i = 11 ∨ i = 12 := by omega
  have A := digB_iff.1 a; have B := digB_iff.1 b; have C := digB_iff.1 c; have D := digB_iff.1 d
  rcases hi' with rfl | rfl | rfl | rfl | rfl | rfl | rfl | rfl | rfl | rfl | rfl | rfl | rfl
  · exact dig_fits (A 0 (by omega)) (by omega) (by omega) (by omega)
  · exact dig_fits (A 1 (by omega)) (by omega) (by omega) (by omega)
  · exact dig_fits (A 2 (by omega)) (by omega) (by omega) (by omega)
  · exact dig_fits (A 3 (by omega)) (by omega) (by omega) (by omega)
  · simp [fits, h4]
  · exact dig_fits (B 0 (by omega)) (by omega) (by omega) (by omega)
  · exact dig_fits (B 1 (by omega)) (by omega) (by omega) (by omega)
  · simp [fits, h7]
  · exact dig_fits (C 0 (by omega)) (by omega) (by omega) (by omega)
  · exact dig_fits (C 1 (by omega)) (by omega) (by omega) (by omega)
  · simp [fits, h10]
  · exact dig_fits (D 0 (by omega)) (by omega) (by omega) (by omega)
  · exact dig_fits (D 1 (by omega)) (by omega) (by omega) (by omega)
end Cal
theorem ret_ib {a b : Int} {c d : Bool} (h : a = b) (i : c = d) : Ending.returned (.tuple #[.int .i64 a, .bool c]) = .returned (.tuple #[.int .i64 b, .bool d]) := by rw [h, i]

set_option maxHeartbeats 1000000 in
theorem rnumber_any (s : ByteArray) (i k : Nat) (w : World) (hik : i ≤ k) (hk : k ≤ s.size) (h4 : k - i ≤ 4) (hs : k ≤ 100) :
    Calls Tryd.prog 47 #[.string s, .int .i64 i, .int .i64 k] w fun e w' => e = .returned (.tuple #[.int .i64 (Cal.numB s i (k - i)), .bool (Cal.digB s i (k - i))]) ∧ w = w' := by
  go_enter Tryd.func47, Tryd.ntmps47
  go_wp2
  go_loop [1, 8] (fun x n => ∃ j : Nat, i + j ≤ k ∧ x = .int .i64 ((i + j : Nat) : Int) ∧ n = .int .i64 (Cal.num s i j) ∧ Hid (Cal.Digs s i j)) (fun x _ => k - (intOf x).toNat)
  case atStart => exact ⟨0, by omega, rfl, rfl, fun i hi => by omega⟩
  case round =>
    obtain ⟨j, hj, rfl, rfl, HD⟩ := hrel
    have hb := Cal.num_le s i j (by omega) HD.out
    have hg := get_bt s
    by_cases hlt : i + j < k
    · have hlt' : i + j < s.size := by omega
      have b0 := bt_nonneg s (i + j)
      have b1 := bt_le s (i + j)
      by_cases hd : 48 ≤ bt s (i + j) ∧ bt s (i + j) ≤ 57
      · obtain ⟨hd1, hd2⟩ := hd
        have HN := Lib.hid (show Cal.num s i (j + 1) = 10 * Cal.num s i j + (bt s (i + j) - 48) by rw [Cal.num]; omega)
        have HD' : Hid (Cal.Digs s i (j + 1)) := fun q hq => (Nat.lt_succ_iff_lt_or_eq.1 hq).elim (HD.out q) (fun e => by subst e; exact ⟨hd1, hd2⟩)
        go_wp2
        go_round
        case rel => exact ⟨j + 1, by omega, by go_num, by rw [HN.out], HD'⟩
        case measure => simp [intOf]; omega
      · have HB := Lib.hid (show Cal.digB s i (k - i) = false by rw [← Bool.not_eq_true, Cal.digB_iff]; exact fun q => hd (q j (by omega)))
        have HV := Lib.hid (show Cal.numB s i (k - i) = 0 by rw [Cal.numB, HB.out]; rfl)
        rcases Int.lt_or_le (bt s (i + j)) 48 with q | q
        · have d1 : decide (bt s (i + j) < 48) = true := decide_eq_true q
          go_wp2
          go_ret2
          exact ⟨ret_ib HV.out.symm HB.out.symm, rfl⟩
        · have d1 : decide (bt s (i + j) < 48) = false := decide_eq_false (by omega)
          have d2 : decide (57 < bt s (i + j)) = true := decide_eq_true (by omega)
          go_wp2
          go_ret2
          exact ⟨ret_ib HV.out.symm HB.out.symm, rfl⟩
    · have hjk : j = k - i := by omega
      have HB := Lib.hid (show Cal.digB s i (k - i) = true by rw [Cal.digB_iff, ← hjk]; exact HD.out)
      have HV := Lib.hid (show Cal.num s i j = Cal.numB s i (k - i) by rw [Cal.numB, HB.out, ← hjk]; rfl)
      clear hjk
      go_wp2
      go_ret2
      exact ⟨ret_ib HV.out HB.out.symm, rfl⟩
theorem rnum_0_4 (s : ByteArray) (w : World) (hs : 4 ≤ s.size) : Calls Tryd.prog 47 #[.string s, .int .i64 0, .int .i64 4] w fun e w' => e = .returned (.tuple #[.int .i64 (Cal.numB s 0 4), .bool (Cal.digB s 0 4)]) ∧ w = w' := rnumber_any s 0 4 w (by omega) hs (by omega) (by omega)
theorem rnum_5_7 (s : ByteArray) (w : World) (hs : 7 ≤ s.size) : Calls Tryd.prog 47 #[.string s, .int .i64 5, .int .i64 7] w fun e w' => e = .returned (.tuple #[.int .i64 (Cal.numB s 5 2), .bool (Cal.digB s 5 2)]) ∧ w = w' := rnumber_any s 5 7 w (by omega) hs (by omega) (by omega)
theorem rnum_8_10 (s : ByteArray) (w : World) (hs : 10 ≤ s.size) : Calls Tryd.prog 47 #[.string s, .int .i64 8, .int .i64 10] w fun e w' => e = .returned (.tuple #[.int .i64 (Cal.numB s 8 2), .bool (Cal.digB s 8 2)]) ∧ w = w' := rnumber_any s 8 10 w (by omega) hs (by omega) (by omega)
theorem rnum_11_13 (s : ByteArray) (w : World) (hs : 13 ≤ s.size) : Calls Tryd.prog 47 #[.string s, .int .i64 11, .int .i64 13] w fun e w' => e = .returned (.tuple #[.int .i64 (Cal.numB s 11 2), .bool (Cal.digB s 11 2)]) ∧ w = w' := rnumber_any s 11 13 w (by omega) hs (by omega) (by omega)

theorem rparse_len (s : ByteArray) (w0 : World) (h1 : s.size ≠ 10) (h2 : s.size ≠ 13) : Calls Tryd.prog 17 #[.string s] w0 fun e w' => e = .returned (.tuple #[.int .i64 (Cal.pv s), .int .i64 (Cal.pe s)]) ∧ Below w0.heap.size w0 w' := by
  have _ : ((s.size : Int) != 10) = true := bne_iff_ne.2 (by omega)
  have _ : ((s.size : Int) != 13) = true := bne_iff_ne.2 (by omega)
  have HV := Lib.hid (Cal.p_bad (s := s) (by omega))
  go_enter Tryd.func17, Tryd.ntmps17
  go_wp2
  go_ret2
  exact ⟨ret_two HV.out.1.symm HV.out.2.symm, (by repeat' (first | (with_reducible exact Below.refl _ _) | (with_reducible assumption) | (with_reducible refine below_drewN ?_ _) | (with_reducible refine Below.alloc ?_ ?_ _) | (with_reducible refine Below.drew ?_) | (with_reducible refine Below.setCell ?_ ?_ _) | go_size))⟩

set_option maxHeartbeats 1000000 in
set_option maxRecDepth 100000 in
theorem rparse10_a (s : ByteArray) (w0 : World) (hB : 0 < w0.heap.size) (hs : s.size = 10) (a : Cal.digB s 0 4 = false)  : Calls Tryd.prog 17 #[.string s] w0 fun e w' => e = .returned (.tuple #[.int .i64 (Cal.pv s), .int .i64 (Cal.pe s)]) ∧ Below w0.heap.size w0 w' := by
  have _ : ((s.size : Int) != 10) = false := by rw [bne_eq_false_iff_eq]; omega
  have _ : ((s.size : Int) != 13) = true := bne_iff_ne.2 (by omega)
  have _ : ((s.size : Int) == 13) = false := beq_eq_false_iff_ne.2 (by omega)
  have HV := Lib.hid (Cal.no_of_dig (s := s) 0 4 (by omega) (by omega) a)
  have ha : 10 ≤ s.size := by omega
  have hb : s.size ≤ 10 := by omega
  have hl4 : 4 < s.size := by omega
  have hl7 : 7 < s.size := by omega
  
  have hg := get_bt s
  clear hs
  go_enter Tryd.func17, Tryd.ntmps17
  have Q0 := Lib.hid (Below.refl w0.heap.size w0)
  have hB0 := hB
  go_wp2_with fail
  refine (rnum_0_4 s _ (by omega)).mono ?_
  rintro e w' ⟨rfl, rfl⟩
  go_wp2_with fail
  refine (rnum_5_7 s _ (by omega)).mono ?_
  rintro e w' ⟨rfl, rfl⟩
  go_wp2_with fail
  refine (rnum_8_10 s _ (by omega)).mono ?_
  rintro e w' ⟨rfl, rfl⟩
  go_wp2
  go_ret2
  exact ⟨ret_two HV.out.1.symm HV.out.2.symm, (by repeat' (first | (with_reducible exact Below.refl _ _) | (with_reducible assumption) | (with_reducible refine below_drewN ?_ _) | (with_reducible refine Below.alloc ?_ ?_ _) | (with_reducible refine Below.drew ?_) | (with_reducible refine Below.setCell ?_ ?_ _) | go_size))⟩

set_option maxHeartbeats 1000000 in
set_option maxRecDepth 100000 in
theorem rparse10_b (s : ByteArray) (w0 : World) (hB : 0 < w0.heap.size) (hs : s.size = 10) (a : Cal.digB s 0 4 = true) (b : Cal.digB s 5 2 = false)  : Calls Tryd.prog 17 #[.string s] w0 fun e w' => e = .returned (.tuple #[.int .i64 (Cal.pv s), .int .i64 (Cal.pe s)]) ∧ Below w0.heap.size w0 w' := by
  have _ : ((s.size : Int) != 10) = false := by rw [bne_eq_false_iff_eq]; omega
  have _ : ((s.size : Int) != 13) = true := bne_iff_ne.2 (by omega)
  have _ : ((s.size : Int) == 13) = false := beq_eq_false_iff_ne.2 (by omega)
  have HV := Lib.hid (Cal.no_of_dig (s := s) 5 2 (by omega) (by omega) b)
  have ha : 10 ≤ s.size := by omega
  have hb : s.size ≤ 10 := by omega
  have hl4 : 4 < s.size := by omega
  have hl7 : 7 < s.size := by omega
  
  have hg := get_bt s
  clear hs
  go_enter Tryd.func17, Tryd.ntmps17
  have Q0 := Lib.hid (Below.refl w0.heap.size w0)
  have hB0 := hB
  go_wp2_with fail
  refine (rnum_0_4 s _ (by omega)).mono ?_
  rintro e w' ⟨rfl, rfl⟩
  go_wp2_with fail
  refine (rnum_5_7 s _ (by omega)).mono ?_
  rintro e w' ⟨rfl, rfl⟩
  go_wp2_with fail
  refine (rnum_8_10 s _ (by omega)).mono ?_
  rintro e w' ⟨rfl, rfl⟩
  go_wp2
  go_ret2
  exact ⟨ret_two HV.out.1.symm HV.out.2.symm, (by repeat' (first | (with_reducible exact Below.refl _ _) | (with_reducible assumption) | (with_reducible refine below_drewN ?_ _) | (with_reducible refine Below.alloc ?_ ?_ _) | (with_reducible refine Below.drew ?_) | (with_reducible refine Below.setCell ?_ ?_ _) | go_size))⟩

set_option maxHeartbeats 1000000 in
set_option maxRecDepth 100000 in
theorem rparse10_c (s : ByteArray) (w0 : World) (hB : 0 < w0.heap.size) (hs : s.size = 10) (a : Cal.digB s 0 4 = true) (b : Cal.digB s 5 2 = true) (c : Cal.digB s 8 2 = false)  : Calls Tryd.prog 17 #[.string s] w0 fun e w' => e = .returned (.tuple #[.int .i64 (Cal.pv s), .int .i64 (Cal.pe s)]) ∧ Below w0.heap.size w0 w' := by
  have _ : ((s.size : Int) != 10) = false := by rw [bne_eq_false_iff_eq]; omega
  have _ : ((s.size : Int) != 13) = true := bne_iff_ne.2 (by omega)
  have _ : ((s.size : Int) == 13) = false := beq_eq_false_iff_ne.2 (by omega)
  have HV := Lib.hid (Cal.no_of_dig (s := s) 8 2 (by omega) (by omega) c)
  have ha : 10 ≤ s.size := by omega
  have hb : s.size ≤ 10 := by omega
  have hl4 : 4 < s.size := by omega
  have hl7 : 7 < s.size := by omega
  
  have hg := get_bt s
  clear hs
  go_enter Tryd.func17, Tryd.ntmps17
  have Q0 := Lib.hid (Below.refl w0.heap.size w0)
  have hB0 := hB
  go_wp2_with fail
  refine (rnum_0_4 s _ (by omega)).mono ?_
  rintro e w' ⟨rfl, rfl⟩
  go_wp2_with fail
  refine (rnum_5_7 s _ (by omega)).mono ?_
  rintro e w' ⟨rfl, rfl⟩
  go_wp2_with fail
  refine (rnum_8_10 s _ (by omega)).mono ?_
  rintro e w' ⟨rfl, rfl⟩
  go_wp2
  go_ret2
  exact ⟨ret_two HV.out.1.symm HV.out.2.symm, (by repeat' (first | (with_reducible exact Below.refl _ _) | (with_reducible assumption) | (with_reducible refine below_drewN ?_ _) | (with_reducible refine Below.alloc ?_ ?_ _) | (with_reducible refine Below.drew ?_) | (with_reducible refine Below.setCell ?_ ?_ _) | go_size))⟩

set_option maxHeartbeats 1000000 in
set_option maxRecDepth 100000 in
theorem rparse10_d (s : ByteArray) (w0 : World) (hB : 0 < w0.heap.size) (hs : s.size = 10) (a : Cal.digB s 0 4 = true) (b : Cal.digB s 5 2 = true) (c : Cal.digB s 8 2 = true) (h4 : bt s 4 ≠ 45)  : Calls Tryd.prog 17 #[.string s] w0 fun e w' => e = .returned (.tuple #[.int .i64 (Cal.pv s), .int .i64 (Cal.pe s)]) ∧ Below w0.heap.size w0 w' := by
  have _ : ((s.size : Int) != 10) = false := by rw [bne_eq_false_iff_eq]; omega
  have _ : ((s.size : Int) != 13) = true := bne_iff_ne.2 (by omega)
  have _ : ((s.size : Int) == 13) = false := beq_eq_false_iff_ne.2 (by omega)
  have HV := Lib.hid (Cal.no_of_at (s := s) 4 (by omega) (by simp [Cal.fits, h4]))
  have q4 : (bt s 4 != 45) = true := bne_iff_ne.2 h4
  clear h4
  have ha : 10 ≤ s.size := by omega
  have hb : s.size ≤ 10 := by omega
  have hl4 : 4 < s.size := by omega
  have hl7 : 7 < s.size := by omega
  
  have hg := get_bt s
  clear hs
  go_enter Tryd.func17, Tryd.ntmps17
  have Q0 := Lib.hid (Below.refl w0.heap.size w0)
  have hB0 := hB
  go_wp2_with fail
  refine (rnum_0_4 s _ (by omega)).mono ?_
  rintro e w' ⟨rfl, rfl⟩
  go_wp2_with fail
  refine (rnum_5_7 s _ (by omega)).mono ?_
  rintro e w' ⟨rfl, rfl⟩
  go_wp2_with fail
  refine (rnum_8_10 s _ (by omega)).mono ?_
  rintro e w' ⟨rfl, rfl⟩
  go_wp2
  go_ret2
  exact ⟨ret_two HV.out.1.symm HV.out.2.symm, (by repeat' (first | (with_reducible exact Below.refl _ _) | (with_reducible assumption) | (with_reducible refine below_drewN ?_ _) | (with_reducible refine Below.alloc ?_ ?_ _) | (with_reducible refine Below.drew ?_) | (with_reducible refine Below.setCell ?_ ?_ _) | go_size))⟩

set_option maxHeartbeats 1000000 in
set_option maxRecDepth 100000 in
theorem rparse10_e (s : ByteArray) (w0 : World) (hB : 0 < w0.heap.size) (hs : s.size = 10) (a : Cal.digB s 0 4 = true) (b : Cal.digB s 5 2 = true) (c : Cal.digB s 8 2 = true) (h4 : bt s 4 = 45) (h7 : bt s 7 ≠ 45)  : Calls Tryd.prog 17 #[.string s] w0 fun e w' => e = .returned (.tuple #[.int .i64 (Cal.pv s), .int .i64 (Cal.pe s)]) ∧ Below w0.heap.size w0 w' := by
  have _ : ((s.size : Int) != 10) = false := by rw [bne_eq_false_iff_eq]; omega
  have _ : ((s.size : Int) != 13) = true := bne_iff_ne.2 (by omega)
  have _ : ((s.size : Int) == 13) = false := beq_eq_false_iff_ne.2 (by omega)
  have HV := Lib.hid (Cal.no_of_at (s := s) 7 (by omega) (by simp [Cal.fits, h7]))
  have q4 : (bt s 4 != 45) = false := by rw [bne_eq_false_iff_eq]; exact h4
  clear h4
  have q7 : (bt s 7 != 45) = true := bne_iff_ne.2 h7
  clear h7
  have ha : 10 ≤ s.size := by omega
  have hb : s.size ≤ 10 := by omega
  have hl4 : 4 < s.size := by omega
  have hl7 : 7 < s.size := by omega
  
  have hg := get_bt s
  clear hs
  go_enter Tryd.func17, Tryd.ntmps17
  have Q0 := Lib.hid (Below.refl w0.heap.size w0)
  have hB0 := hB
  go_wp2_with fail
  refine (rnum_0_4 s _ (by omega)).mono ?_
  rintro e w' ⟨rfl, rfl⟩
  go_wp2_with fail
  refine (rnum_5_7 s _ (by omega)).mono ?_
  rintro e w' ⟨rfl, rfl⟩
  go_wp2_with fail
  refine (rnum_8_10 s _ (by omega)).mono ?_
  rintro e w' ⟨rfl, rfl⟩
  go_wp2
  go_ret2
  exact ⟨ret_two HV.out.1.symm HV.out.2.symm, (by repeat' (first | (with_reducible exact Below.refl _ _) | (with_reducible assumption) | (with_reducible refine below_drewN ?_ _) | (with_reducible refine Below.alloc ?_ ?_ _) | (with_reducible refine Below.drew ?_) | (with_reducible refine Below.setCell ?_ ?_ _) | go_size))⟩

set_option maxHeartbeats 1000000 in
set_option maxRecDepth 100000 in
theorem rparse10_g (s : ByteArray) (w0 : World) (hB : 0 < w0.heap.size) (hs : s.size = 10) (a : Cal.digB s 0 4 = true) (b : Cal.digB s 5 2 = true) (c : Cal.digB s 8 2 = true) (h4 : bt s 4 = 45) (h7 : bt s 7 = 45)  : Calls Tryd.prog 17 #[.string s] w0 fun e w' => e = .returned (.tuple #[.int .i64 (Cal.pv s), .int .i64 (Cal.pe s)]) ∧ Below w0.heap.size w0 w' := by
  have _ : ((s.size : Int) != 10) = false := by rw [bne_eq_false_iff_eq]; omega
  have _ : ((s.size : Int) != 13) = true := bne_iff_ne.2 (by omega)
  have _ : ((s.size : Int) == 13) = false := beq_eq_false_iff_ne.2 (by omega)
  have HG := Cal.p_good (Cal.good10 hs a b c h4 h7)
  have hh : Cal.hh s = 0 := by simp only [Cal.hh, hs]; rfl
  have n1 : Cal.numB s 0 4 = Cal.num s 0 4 := by simp [Cal.numB, a]
  have n2 : Cal.numB s 5 2 = Cal.num s 5 2 := by simp [Cal.numB, b]
  have n3 : Cal.numB s 8 2 = Cal.num s 8 2 := by simp [Cal.numB, c]
  rw [hh, ← n1, ← n2, ← n3] at HG
  have HV := Lib.hid HG
  clear HG hh n1 n2 n3
  have q4 : (bt s 4 != 45) = false := by rw [bne_eq_false_iff_eq]; exact h4
  clear h4
  have q7 : (bt s 7 != 45) = false := by rw [bne_eq_false_iff_eq]; exact h7
  clear h7
  have ha : 10 ≤ s.size := by omega
  have hb : s.size ≤ 10 := by omega
  have hl4 : 4 < s.size := by omega
  have hl7 : 7 < s.size := by omega
  
  have hg := get_bt s
  clear hs
  go_enter Tryd.func17, Tryd.ntmps17
  have Q0 := Lib.hid (Below.refl w0.heap.size w0)
  have hB0 := hB
  go_wp2_with fail
  refine (rnum_0_4 s _ (by omega)).mono ?_
  rintro e w' ⟨rfl, rfl⟩
  go_wp2_with fail
  refine (rnum_5_7 s _ (by omega)).mono ?_
  rintro e w' ⟨rfl, rfl⟩
  go_wp2_with fail
  refine (rnum_8_10 s _ (by omega)).mono ?_
  rintro e w' ⟨rfl, rfl⟩
  go_wp2_with fail
  refine (rhour_any _ _ _ _ _).mono ?_
  rintro e w1 ⟨rfl, hb1⟩
  have Q1 := Lib.hid (chain Q0.out (by repeat' (first | (with_reducible exact Below.refl _ _) | (with_reducible assumption) | (with_reducible refine below_drewN ?_ _) | (with_reducible refine Below.alloc ?_ ?_ _) | (with_reducible refine Below.drew ?_) | (with_reducible refine Below.setCell ?_ ?_ _) | go_size)) hb1)
  have hq1 : w0.heap.size ≤ w1.heap.size := Q1.out.size
  have hz1 := hb1.size
  try simp only [World.size_alloc, World.size_setCell, World.size_drew] at hz1
  have hB1 : 0 < w1.heap.size := Nat.lt_of_lt_of_le hB (Q1.out.size)
  clear hb1
  go_wp2
  go_ret2
  exact ⟨ret_two HV.out.1.symm HV.out.2.symm, Q1.out⟩

set_option maxHeartbeats 1000000 in
set_option maxRecDepth 100000 in
theorem rparse13_na (s : ByteArray) (w0 : World) (hB : 0 < w0.heap.size) (hs : s.size = 13) (d : Cal.digB s 11 2 = false) (a : Cal.digB s 0 4 = false)  : Calls Tryd.prog 17 #[.string s] w0 fun e w' => e = .returned (.tuple #[.int .i64 (Cal.pv s), .int .i64 (Cal.pe s)]) ∧ Below w0.heap.size w0 w' := by
  have _ : ((s.size : Int) != 13) = false := by rw [bne_eq_false_iff_eq]; omega
  have _ : ((s.size : Int) != 10) = true := bne_iff_ne.2 (by omega)
  have _ : ((s.size : Int) == 13) = true := beq_iff_eq.2 (by omega)
  have HV := Lib.hid (Cal.no_of_dig (s := s) 11 2 (by omega) (by omega) d)
  have ha : 13 ≤ s.size := by omega
  have hb : s.size ≤ 13 := by omega
  have hl4 : 4 < s.size := by omega
  have hl7 : 7 < s.size := by omega
  have hl10 : 10 < s.size := by omega
  have hg := get_bt s
  clear hs
  go_enter Tryd.func17, Tryd.ntmps17
  have Q0 := Lib.hid (Below.refl w0.heap.size w0)
  have hB0 := hB
  go_wp2_with fail
  refine (rnum_0_4 s _ (by omega)).mono ?_
  rintro e w' ⟨rfl, rfl⟩
  go_wp2_with fail
  refine (rnum_5_7 s _ (by omega)).mono ?_
  rintro e w' ⟨rfl, rfl⟩
  go_wp2_with fail
  refine (rnum_8_10 s _ (by omega)).mono ?_
  rintro e w' ⟨rfl, rfl⟩
  go_wp2_with fail
  refine (rnum_11_13 s _ (by omega)).mono ?_
  rintro e w' ⟨rfl, rfl⟩
  go_wp2
  go_ret2
  exact ⟨ret_two HV.out.1.symm HV.out.2.symm, (by repeat' (first | (with_reducible exact Below.refl _ _) | (with_reducible assumption) | (with_reducible refine below_drewN ?_ _) | (with_reducible refine Below.alloc ?_ ?_ _) | (with_reducible refine Below.drew ?_) | (with_reducible refine Below.setCell ?_ ?_ _) | go_size))⟩

set_option maxHeartbeats 1000000 in
set_option maxRecDepth 100000 in
theorem rparse13_nb (s : ByteArray) (w0 : World) (hB : 0 < w0.heap.size) (hs : s.size = 13) (d : Cal.digB s 11 2 = false) (a : Cal.digB s 0 4 = true) (b : Cal.digB s 5 2 = false)  : Calls Tryd.prog 17 #[.string s] w0 fun e w' => e = .returned (.tuple #[.int .i64 (Cal.pv s), .int .i64 (Cal.pe s)]) ∧ Below w0.heap.size w0 w' := by
  have _ : ((s.size : Int) != 13) = false := by rw [bne_eq_false_iff_eq]; omega
  have _ : ((s.size : Int) != 10) = true := bne_iff_ne.2 (by omega)
  have _ : ((s.size : Int) == 13) = true := beq_iff_eq.2 (by omega)
  have HV := Lib.hid (Cal.no_of_dig (s := s) 11 2 (by omega) (by omega) d)
  have ha : 13 ≤ s.size := by omega
  have hb : s.size ≤ 13 := by omega
  have hl4 : 4 < s.size := by omega
  have hl7 : 7 < s.size := by omega
  have hl10 : 10 < s.size := by omega
  have hg := get_bt s
  clear hs
  go_enter Tryd.func17, Tryd.ntmps17
  have Q0 := Lib.hid (Below.refl w0.heap.size w0)
  have hB0 := hB
  go_wp2_with fail
  refine (rnum_0_4 s _ (by omega)).mono ?_
  rintro e w' ⟨rfl, rfl⟩
  go_wp2_with fail
  refine (rnum_5_7 s _ (by omega)).mono ?_
  rintro e w' ⟨rfl, rfl⟩
  go_wp2_with fail
  refine (rnum_8_10 s _ (by omega)).mono ?_
  rintro e w' ⟨rfl, rfl⟩
  go_wp2_with fail
  refine (rnum_11_13 s _ (by omega)).mono ?_
  rintro e w' ⟨rfl, rfl⟩
  go_wp2
  go_ret2
  exact ⟨ret_two HV.out.1.symm HV.out.2.symm, (by repeat' (first | (with_reducible exact Below.refl _ _) | (with_reducible assumption) | (with_reducible refine below_drewN ?_ _) | (with_reducible refine Below.alloc ?_ ?_ _) | (with_reducible refine Below.drew ?_) | (with_reducible refine Below.setCell ?_ ?_ _) | go_size))⟩

set_option maxHeartbeats 1000000 in
set_option maxRecDepth 100000 in
theorem rparse13_nc (s : ByteArray) (w0 : World) (hB : 0 < w0.heap.size) (hs : s.size = 13) (d : Cal.digB s 11 2 = false) (a : Cal.digB s 0 4 = true) (b : Cal.digB s 5 2 = true) (c : Cal.digB s 8 2 = false)  : Calls Tryd.prog 17 #[.string s] w0 fun e w' => e = .returned (.tuple #[.int .i64 (Cal.pv s), .int .i64 (Cal.pe s)]) ∧ Below w0.heap.size w0 w' := by
  have _ : ((s.size : Int) != 13) = false := by rw [bne_eq_false_iff_eq]; omega
  have _ : ((s.size : Int) != 10) = true := bne_iff_ne.2 (by omega)
  have _ : ((s.size : Int) == 13) = true := beq_iff_eq.2 (by omega)
  have HV := Lib.hid (Cal.no_of_dig (s := s) 11 2 (by omega) (by omega) d)
  have ha : 13 ≤ s.size := by omega
  have hb : s.size ≤ 13 := by omega
  have hl4 : 4 < s.size := by omega
  have hl7 : 7 < s.size := by omega
  have hl10 : 10 < s.size := by omega
  have hg := get_bt s
  clear hs
  go_enter Tryd.func17, Tryd.ntmps17
  have Q0 := Lib.hid (Below.refl w0.heap.size w0)
  have hB0 := hB
  go_wp2_with fail
  refine (rnum_0_4 s _ (by omega)).mono ?_
  rintro e w' ⟨rfl, rfl⟩
  go_wp2_with fail
  refine (rnum_5_7 s _ (by omega)).mono ?_
  rintro e w' ⟨rfl, rfl⟩
  go_wp2_with fail
  refine (rnum_8_10 s _ (by omega)).mono ?_
  rintro e w' ⟨rfl, rfl⟩
  go_wp2_with fail
  refine (rnum_11_13 s _ (by omega)).mono ?_
  rintro e w' ⟨rfl, rfl⟩
  go_wp2
  go_ret2
  exact ⟨ret_two HV.out.1.symm HV.out.2.symm, (by repeat' (first | (with_reducible exact Below.refl _ _) | (with_reducible assumption) | (with_reducible refine below_drewN ?_ _) | (with_reducible refine Below.alloc ?_ ?_ _) | (with_reducible refine Below.drew ?_) | (with_reducible refine Below.setCell ?_ ?_ _) | go_size))⟩

set_option maxHeartbeats 1000000 in
set_option maxRecDepth 100000 in
theorem rparse13_nd (s : ByteArray) (w0 : World) (hB : 0 < w0.heap.size) (hs : s.size = 13) (d : Cal.digB s 11 2 = false) (a : Cal.digB s 0 4 = true) (b : Cal.digB s 5 2 = true) (c : Cal.digB s 8 2 = true)  : Calls Tryd.prog 17 #[.string s] w0 fun e w' => e = .returned (.tuple #[.int .i64 (Cal.pv s), .int .i64 (Cal.pe s)]) ∧ Below w0.heap.size w0 w' := by
  have _ : ((s.size : Int) != 13) = false := by rw [bne_eq_false_iff_eq]; omega
  have _ : ((s.size : Int) != 10) = true := bne_iff_ne.2 (by omega)
  have _ : ((s.size : Int) == 13) = true := beq_iff_eq.2 (by omega)
  have HV := Lib.hid (Cal.no_of_dig (s := s) 11 2 (by omega) (by omega) d)
  have ha : 13 ≤ s.size := by omega
  have hb : s.size ≤ 13 := by omega
  have hl4 : 4 < s.size := by omega
  have hl7 : 7 < s.size := by omega
  have hl10 : 10 < s.size := by omega
  have hg := get_bt s
  clear hs
  go_enter Tryd.func17, Tryd.ntmps17
  have Q0 := Lib.hid (Below.refl w0.heap.size w0)
  have hB0 := hB
  go_wp2_with fail
  refine (rnum_0_4 s _ (by omega)).mono ?_
  rintro e w' ⟨rfl, rfl⟩
  go_wp2_with fail
  refine (rnum_5_7 s _ (by omega)).mono ?_
  rintro e w' ⟨rfl, rfl⟩
  go_wp2_with fail
  refine (rnum_8_10 s _ (by omega)).mono ?_
  rintro e w' ⟨rfl, rfl⟩
  go_wp2_with fail
  refine (rnum_11_13 s _ (by omega)).mono ?_
  rintro e w' ⟨rfl, rfl⟩
  go_wp2
  go_ret2
  exact ⟨ret_two HV.out.1.symm HV.out.2.symm, (by repeat' (first | (with_reducible exact Below.refl _ _) | (with_reducible assumption) | (with_reducible refine below_drewN ?_ _) | (with_reducible refine Below.alloc ?_ ?_ _) | (with_reducible refine Below.drew ?_) | (with_reducible refine Below.setCell ?_ ?_ _) | go_size))⟩

set_option maxHeartbeats 1000000 in
set_option maxRecDepth 100000 in
theorem rparse13_xa (s : ByteArray) (w0 : World) (hB : 0 < w0.heap.size) (hs : s.size = 13) (d : Cal.digB s 11 2 = true) (h10 : bt s 10 ≠ 84) (a : Cal.digB s 0 4 = false)  : Calls Tryd.prog 17 #[.string s] w0 fun e w' => e = .returned (.tuple #[.int .i64 (Cal.pv s), .int .i64 (Cal.pe s)]) ∧ Below w0.heap.size w0 w' := by
  have _ : ((s.size : Int) != 13) = false := by rw [bne_eq_false_iff_eq]; omega
  have _ : ((s.size : Int) != 10) = true := bne_iff_ne.2 (by omega)
  have _ : ((s.size : Int) == 13) = true := beq_iff_eq.2 (by omega)
  have HV := Lib.hid (Cal.no_of_at (s := s) 10 (by omega) (by simp [Cal.fits, h10]))
  have qx : (bt s 10 == 84) = false := beq_eq_false_iff_ne.2 h10
  clear h10
  have ha : 13 ≤ s.size := by omega
  have hb : s.size ≤ 13 := by omega
  have hl4 : 4 < s.size := by omega
  have hl7 : 7 < s.size := by omega
  have hl10 : 10 < s.size := by omega
  have hg := get_bt s
  clear hs
  go_enter Tryd.func17, Tryd.ntmps17
  have Q0 := Lib.hid (Below.refl w0.heap.size w0)
  have hB0 := hB
  go_wp2_with fail
  refine (rnum_0_4 s _ (by omega)).mono ?_
  rintro e w' ⟨rfl, rfl⟩
  go_wp2_with fail
  refine (rnum_5_7 s _ (by omega)).mono ?_
  rintro e w' ⟨rfl, rfl⟩
  go_wp2_with fail
  refine (rnum_8_10 s _ (by omega)).mono ?_
  rintro e w' ⟨rfl, rfl⟩
  go_wp2_with fail
  refine (rnum_11_13 s _ (by omega)).mono ?_
  rintro e w' ⟨rfl, rfl⟩
  go_wp2
  go_ret2
  exact ⟨ret_two HV.out.1.symm HV.out.2.symm, (by repeat' (first | (with_reducible exact Below.refl _ _) | (with_reducible assumption) | (with_reducible refine below_drewN ?_ _) | (with_reducible refine Below.alloc ?_ ?_ _) | (with_reducible refine Below.drew ?_) | (with_reducible refine Below.setCell ?_ ?_ _) | go_size))⟩

set_option maxHeartbeats 1000000 in
set_option maxRecDepth 100000 in
theorem rparse13_xb (s : ByteArray) (w0 : World) (hB : 0 < w0.heap.size) (hs : s.size = 13) (d : Cal.digB s 11 2 = true) (h10 : bt s 10 ≠ 84) (a : Cal.digB s 0 4 = true) (b : Cal.digB s 5 2 = false)  : Calls Tryd.prog 17 #[.string s] w0 fun e w' => e = .returned (.tuple #[.int .i64 (Cal.pv s), .int .i64 (Cal.pe s)]) ∧ Below w0.heap.size w0 w' := by
  have _ : ((s.size : Int) != 13) = false := by rw [bne_eq_false_iff_eq]; omega
  have _ : ((s.size : Int) != 10) = true := bne_iff_ne.2 (by omega)
  have _ : ((s.size : Int) == 13) = true := beq_iff_eq.2 (by omega)
  have HV := Lib.hid (Cal.no_of_at (s := s) 10 (by omega) (by simp [Cal.fits, h10]))
  have qx : (bt s 10 == 84) = false := beq_eq_false_iff_ne.2 h10
  clear h10
  have ha : 13 ≤ s.size := by omega
  have hb : s.size ≤ 13 := by omega
  have hl4 : 4 < s.size := by omega
  have hl7 : 7 < s.size := by omega
  have hl10 : 10 < s.size := by omega
  have hg := get_bt s
  clear hs
  go_enter Tryd.func17, Tryd.ntmps17
  have Q0 := Lib.hid (Below.refl w0.heap.size w0)
  have hB0 := hB
  go_wp2_with fail
  refine (rnum_0_4 s _ (by omega)).mono ?_
  rintro e w' ⟨rfl, rfl⟩
  go_wp2_with fail
  refine (rnum_5_7 s _ (by omega)).mono ?_
  rintro e w' ⟨rfl, rfl⟩
  go_wp2_with fail
  refine (rnum_8_10 s _ (by omega)).mono ?_
  rintro e w' ⟨rfl, rfl⟩
  go_wp2_with fail
  refine (rnum_11_13 s _ (by omega)).mono ?_
  rintro e w' ⟨rfl, rfl⟩
  go_wp2
  go_ret2
  exact ⟨ret_two HV.out.1.symm HV.out.2.symm, (by repeat' (first | (with_reducible exact Below.refl _ _) | (with_reducible assumption) | (with_reducible refine below_drewN ?_ _) | (with_reducible refine Below.alloc ?_ ?_ _) | (with_reducible refine Below.drew ?_) | (with_reducible refine Below.setCell ?_ ?_ _) | go_size))⟩

set_option maxHeartbeats 1000000 in
set_option maxRecDepth 100000 in
theorem rparse13_xc (s : ByteArray) (w0 : World) (hB : 0 < w0.heap.size) (hs : s.size = 13) (d : Cal.digB s 11 2 = true) (h10 : bt s 10 ≠ 84) (a : Cal.digB s 0 4 = true) (b : Cal.digB s 5 2 = true) (c : Cal.digB s 8 2 = false)  : Calls Tryd.prog 17 #[.string s] w0 fun e w' => e = .returned (.tuple #[.int .i64 (Cal.pv s), .int .i64 (Cal.pe s)]) ∧ Below w0.heap.size w0 w' := by
  have _ : ((s.size : Int) != 13) = false := by rw [bne_eq_false_iff_eq]; omega
  have _ : ((s.size : Int) != 10) = true := bne_iff_ne.2 (by omega)
  have _ : ((s.size : Int) == 13) = true := beq_iff_eq.2 (by omega)
  have HV := Lib.hid (Cal.no_of_at (s := s) 10 (by omega) (by simp [Cal.fits, h10]))
  have qx : (bt s 10 == 84) = false := beq_eq_false_iff_ne.2 h10
  clear h10
  have ha : 13 ≤ s.size := by omega
  have hb : s.size ≤ 13 := by omega
  have hl4 : 4 < s.size := by omega
  have hl7 : 7 < s.size := by omega
  have hl10 : 10 < s.size := by omega
  have hg := get_bt s
  clear hs
  go_enter Tryd.func17, Tryd.ntmps17
  have Q0 := Lib.hid (Below.refl w0.heap.size w0)
  have hB0 := hB
  go_wp2_with fail
  refine (rnum_0_4 s _ (by omega)).mono ?_
  rintro e w' ⟨rfl, rfl⟩
  go_wp2_with fail
  refine (rnum_5_7 s _ (by omega)).mono ?_
  rintro e w' ⟨rfl, rfl⟩
  go_wp2_with fail
  refine (rnum_8_10 s _ (by omega)).mono ?_
  rintro e w' ⟨rfl, rfl⟩
  go_wp2_with fail
  refine (rnum_11_13 s _ (by omega)).mono ?_
  rintro e w' ⟨rfl, rfl⟩
  go_wp2
  go_ret2
  exact ⟨ret_two HV.out.1.symm HV.out.2.symm, (by repeat' (first | (with_reducible exact Below.refl _ _) | (with_reducible assumption) | (with_reducible refine below_drewN ?_ _) | (with_reducible refine Below.alloc ?_ ?_ _) | (with_reducible refine Below.drew ?_) | (with_reducible refine Below.setCell ?_ ?_ _) | go_size))⟩

set_option maxHeartbeats 1000000 in
set_option maxRecDepth 100000 in
theorem rparse13_xd (s : ByteArray) (w0 : World) (hB : 0 < w0.heap.size) (hs : s.size = 13) (d : Cal.digB s 11 2 = true) (h10 : bt s 10 ≠ 84) (a : Cal.digB s 0 4 = true) (b : Cal.digB s 5 2 = true) (c : Cal.digB s 8 2 = true)  : Calls Tryd.prog 17 #[.string s] w0 fun e w' => e = .returned (.tuple #[.int .i64 (Cal.pv s), .int .i64 (Cal.pe s)]) ∧ Below w0.heap.size w0 w' := by
  have _ : ((s.size : Int) != 13) = false := by rw [bne_eq_false_iff_eq]; omega
  have _ : ((s.size : Int) != 10) = true := bne_iff_ne.2 (by omega)
  have _ : ((s.size : Int) == 13) = true := beq_iff_eq.2 (by omega)
  have HV := Lib.hid (Cal.no_of_at (s := s) 10 (by omega) (by simp [Cal.fits, h10]))
  have qx : (bt s 10 == 84) = false := beq_eq_false_iff_ne.2 h10
  clear h10
  have ha : 13 ≤ s.size := by omega
  have hb : s.size ≤ 13 := by omega
  have hl4 : 4 < s.size := by omega
  have hl7 : 7 < s.size := by omega
  have hl10 : 10 < s.size := by omega
  have hg := get_bt s
  clear hs
  go_enter Tryd.func17, Tryd.ntmps17
  have Q0 := Lib.hid (Below.refl w0.heap.size w0)
  have hB0 := hB
  go_wp2_with fail
  refine (rnum_0_4 s _ (by omega)).mono ?_
  rintro e w' ⟨rfl, rfl⟩
  go_wp2_with fail
  refine (rnum_5_7 s _ (by omega)).mono ?_
  rintro e w' ⟨rfl, rfl⟩
  go_wp2_with fail
  refine (rnum_8_10 s _ (by omega)).mono ?_
  rintro e w' ⟨rfl, rfl⟩
  go_wp2_with fail
  refine (rnum_11_13 s _ (by omega)).mono ?_
  rintro e w' ⟨rfl, rfl⟩
  go_wp2
  go_ret2
  exact ⟨ret_two HV.out.1.symm HV.out.2.symm, (by repeat' (first | (with_reducible exact Below.refl _ _) | (with_reducible assumption) | (with_reducible refine below_drewN ?_ _) | (with_reducible refine Below.alloc ?_ ?_ _) | (with_reducible refine Below.drew ?_) | (with_reducible refine Below.setCell ?_ ?_ _) | go_size))⟩

set_option maxHeartbeats 1000000 in
set_option maxRecDepth 100000 in
theorem rparse13_a (s : ByteArray) (w0 : World) (hB : 0 < w0.heap.size) (hs : s.size = 13) (d : Cal.digB s 11 2 = true) (h10 : bt s 10 = 84) (a : Cal.digB s 0 4 = false)  : Calls Tryd.prog 17 #[.string s] w0 fun e w' => e = .returned (.tuple #[.int .i64 (Cal.pv s), .int .i64 (Cal.pe s)]) ∧ Below w0.heap.size w0 w' := by
  have _ : ((s.size : Int) != 13) = false := by rw [bne_eq_false_iff_eq]; omega
  have _ : ((s.size : Int) != 10) = true := bne_iff_ne.2 (by omega)
  have _ : ((s.size : Int) == 13) = true := beq_iff_eq.2 (by omega)
  have HV := Lib.hid (Cal.no_of_dig (s := s) 0 4 (by omega) (by omega) a)
  have qx : (bt s 10 == 84) = true := by rw [beq_iff_eq]; exact h10
  clear h10
  have ha : 13 ≤ s.size := by omega
  have hb : s.size ≤ 13 := by omega
  have hl4 : 4 < s.size := by omega
  have hl7 : 7 < s.size := by omega
  have hl10 : 10 < s.size := by omega
  have hg := get_bt s
  clear hs
  go_enter Tryd.func17, Tryd.ntmps17
  have Q0 := Lib.hid (Below.refl w0.heap.size w0)
  have hB0 := hB
  go_wp2_with fail
  refine (rnum_0_4 s _ (by omega)).mono ?_
  rintro e w' ⟨rfl, rfl⟩
  go_wp2_with fail
  refine (rnum_5_7 s _ (by omega)).mono ?_
  rintro e w' ⟨rfl, rfl⟩
  go_wp2_with fail
  refine (rnum_8_10 s _ (by omega)).mono ?_
  rintro e w' ⟨rfl, rfl⟩
  go_wp2_with fail
  refine (rnum_11_13 s _ (by omega)).mono ?_
  rintro e w' ⟨rfl, rfl⟩
  go_wp2
  go_ret2
  exact ⟨ret_two HV.out.1.symm HV.out.2.symm, (by repeat' (first | (with_reducible exact Below.refl _ _) | (with_reducible assumption) | (with_reducible refine below_drewN ?_ _) | (with_reducible refine Below.alloc ?_ ?_ _) | (with_reducible refine Below.drew ?_) | (with_reducible refine Below.setCell ?_ ?_ _) | go_size))⟩

set_option maxHeartbeats 1000000 in
set_option maxRecDepth 100000 in
theorem rparse13_b (s : ByteArray) (w0 : World) (hB : 0 < w0.heap.size) (hs : s.size = 13) (d : Cal.digB s 11 2 = true) (h10 : bt s 10 = 84) (a : Cal.digB s 0 4 = true) (b : Cal.digB s 5 2 = false)  : Calls Tryd.prog 17 #[.string s] w0 fun e w' => e = .returned (.tuple #[.int .i64 (Cal.pv s), .int .i64 (Cal.pe s)]) ∧ Below w0.heap.size w0 w' := by
  have _ : ((s.size : Int) != 13) = false := by rw [bne_eq_false_iff_eq]; omega
  have _ : ((s.size : Int) != 10) = true := bne_iff_ne.2 (by omega)
  have _ : ((s.size : Int) == 13) = true := beq_iff_eq.2 (by omega)
  have HV := Lib.hid (Cal.no_of_dig (s := s) 5 2 (by omega) (by omega) b)
  have qx : (bt s 10 == 84) = true := by rw [beq_iff_eq]; exact h10
  clear h10
  have ha : 13 ≤ s.size := by omega
  have hb : s.size ≤ 13 := by omega
  have hl4 : 4 < s.size := by omega
  have hl7 : 7 < s.size := by omega
  have hl10 : 10 < s.size := by omega
  have hg := get_bt s
  clear hs
  go_enter Tryd.func17, Tryd.ntmps17
  have Q0 := Lib.hid (Below.refl w0.heap.size w0)
  have hB0 := hB
  go_wp2_with fail
  refine (rnum_0_4 s _ (by omega)).mono ?_
  rintro e w' ⟨rfl, rfl⟩
  go_wp2_with fail
  refine (rnum_5_7 s _ (by omega)).mono ?_
  rintro e w' ⟨rfl, rfl⟩
  go_wp2_with fail
  refine (rnum_8_10 s _ (by omega)).mono ?_
  rintro e w' ⟨rfl, rfl⟩
  go_wp2_with fail
  refine (rnum_11_13 s _ (by omega)).mono ?_
  rintro e w' ⟨rfl, rfl⟩
  go_wp2
  go_ret2
  exact ⟨ret_two HV.out.1.symm HV.out.2.symm, (by repeat' (first | (with_reducible exact Below.refl _ _) | (with_reducible assumption) | (with_reducible refine below_drewN ?_ _) | (with_reducible refine Below.alloc ?_ ?_ _) | (with_reducible refine Below.drew ?_) | (with_reducible refine Below.setCell ?_ ?_ _) | go_size))⟩

set_option maxHeartbeats 1000000 in
set_option maxRecDepth 100000 in
theorem rparse13_c (s : ByteArray) (w0 : World) (hB : 0 < w0.heap.size) (hs : s.size = 13) (d : Cal.digB s 11 2 = true) (h10 : bt s 10 = 84) (a : Cal.digB s 0 4 = true) (b : Cal.digB s 5 2 = true) (c : Cal.digB s 8 2 = false)  : Calls Tryd.prog 17 #[.string s] w0 fun e w' => e = .returned (.tuple #[.int .i64 (Cal.pv s), .int .i64 (Cal.pe s)]) ∧ Below w0.heap.size w0 w' := by
  have _ : ((s.size : Int) != 13) = false := by rw [bne_eq_false_iff_eq]; omega
  have _ : ((s.size : Int) != 10) = true := bne_iff_ne.2 (by omega)
  have _ : ((s.size : Int) == 13) = true := beq_iff_eq.2 (by omega)
  have HV := Lib.hid (Cal.no_of_dig (s := s) 8 2 (by omega) (by omega) c)
  have qx : (bt s 10 == 84) = true := by rw [beq_iff_eq]; exact h10
  clear h10
  have ha : 13 ≤ s.size := by omega
  have hb : s.size ≤ 13 := by omega
  have hl4 : 4 < s.size := by omega
  have hl7 : 7 < s.size := by omega
  have hl10 : 10 < s.size := by omega
  have hg := get_bt s
  clear hs
  go_enter Tryd.func17, Tryd.ntmps17
  have Q0 := Lib.hid (Below.refl w0.heap.size w0)
  have hB0 := hB
  go_wp2_with fail
  refine (rnum_0_4 s _ (by omega)).mono ?_
  rintro e w' ⟨rfl, rfl⟩
  go_wp2_with fail
  refine (rnum_5_7 s _ (by omega)).mono ?_
  rintro e w' ⟨rfl, rfl⟩
  go_wp2_with fail
  refine (rnum_8_10 s _ (by omega)).mono ?_
  rintro e w' ⟨rfl, rfl⟩
  go_wp2_with fail
  refine (rnum_11_13 s _ (by omega)).mono ?_
  rintro e w' ⟨rfl, rfl⟩
  go_wp2
  go_ret2
  exact ⟨ret_two HV.out.1.symm HV.out.2.symm, (by repeat' (first | (with_reducible exact Below.refl _ _) | (with_reducible assumption) | (with_reducible refine below_drewN ?_ _) | (with_reducible refine Below.alloc ?_ ?_ _) | (with_reducible refine Below.drew ?_) | (with_reducible refine Below.setCell ?_ ?_ _) | go_size))⟩

set_option maxHeartbeats 1000000 in
set_option maxRecDepth 100000 in
theorem rparse13_d (s : ByteArray) (w0 : World) (hB : 0 < w0.heap.size) (hs : s.size = 13) (d : Cal.digB s 11 2 = true) (h10 : bt s 10 = 84) (a : Cal.digB s 0 4 = true) (b : Cal.digB s 5 2 = true) (c : Cal.digB s 8 2 = true) (h4 : bt s 4 ≠ 45)  : Calls Tryd.prog 17 #[.string s] w0 fun e w' => e = .returned (.tuple #[.int .i64 (Cal.pv s), .int .i64 (Cal.pe s)]) ∧ Below w0.heap.size w0 w' := by
  have _ : ((s.size : Int) != 13) = false := by rw [bne_eq_false_iff_eq]; omega
  have _ : ((s.size : Int) != 10) = true := bne_iff_ne.2 (by omega)
  have _ : ((s.size : Int) == 13) = true := beq_iff_eq.2 (by omega)
  have HV := Lib.hid (Cal.no_of_at (s := s) 4 (by omega) (by simp [Cal.fits, h4]))
  have q4 : (bt s 4 != 45) = true := bne_iff_ne.2 h4
  clear h4
  have qx : (bt s 10 == 84) = true := by rw [beq_iff_eq]; exact h10
  clear h10
  have ha : 13 ≤ s.size := by omega
  have hb : s.size ≤ 13 := by omega
  have hl4 : 4 < s.size := by omega
  have hl7 : 7 < s.size := by omega
  have hl10 : 10 < s.size := by omega
  have hg := get_bt s
  clear hs
  go_enter Tryd.func17, Tryd.ntmps17
  have Q0 := Lib.hid (Below.refl w0.heap.size w0)
  have hB0 := hB
  go_wp2_with fail
  refine (rnum_0_4 s _ (by omega)).mono ?_
  rintro e w' ⟨rfl, rfl⟩
  go_wp2_with fail
  refine (rnum_5_7 s _ (by omega)).mono ?_
  rintro e w' ⟨rfl, rfl⟩
  go_wp2_with fail
  refine (rnum_8_10 s _ (by omega)).mono ?_
  rintro e w' ⟨rfl, rfl⟩
  go_wp2_with fail
  refine (rnum_11_13 s _ (by omega)).mono ?_
  rintro e w' ⟨rfl, rfl⟩
  go_wp2
  go_ret2
  exact ⟨ret_two HV.out.1.symm HV.out.2.symm, (by repeat' (first | (with_reducible exact Below.refl _ _) | (with_reducible assumption) | (with_reducible refine below_drewN ?_ _) | (with_reducible refine Below.alloc ?_ ?_ _) | (with_reducible refine Below.drew ?_) | (with_reducible refine Below.setCell ?_ ?_ _) | go_size))⟩

set_option maxHeartbeats 1000000 in
set_option maxRecDepth 100000 in
theorem rparse13_e (s : ByteArray) (w0 : World) (hB : 0 < w0.heap.size) (hs : s.size = 13) (d : Cal.digB s 11 2 = true) (h10 : bt s 10 = 84) (a : Cal.digB s 0 4 = true) (b : Cal.digB s 5 2 = true) (c : Cal.digB s 8 2 = true) (h4 : bt s 4 = 45) (h7 : bt s 7 ≠ 45)  : Calls Tryd.prog 17 #[.string s] w0 fun e w' => e = .returned (.tuple #[.int .i64 (Cal.pv s), .int .i64 (Cal.pe s)]) ∧ Below w0.heap.size w0 w' := by
  have _ : ((s.size : Int) != 13) = false := by rw [bne_eq_false_iff_eq]; omega
  have _ : ((s.size : Int) != 10) = true := bne_iff_ne.2 (by omega)
  have _ : ((s.size : Int) == 13) = true := beq_iff_eq.2 (by omega)
  have HV := Lib.hid (Cal.no_of_at (s := s) 7 (by omega) (by simp [Cal.fits, h7]))
  have q4 : (bt s 4 != 45) = false := by rw [bne_eq_false_iff_eq]; exact h4
  clear h4
  have q7 : (bt s 7 != 45) = true := bne_iff_ne.2 h7
  clear h7
  have qx : (bt s 10 == 84) = true := by rw [beq_iff_eq]; exact h10
  clear h10
  have ha : 13 ≤ s.size := by omega
  have hb : s.size ≤ 13 := by omega
  have hl4 : 4 < s.size := by omega
  have hl7 : 7 < s.size := by omega
  have hl10 : 10 < s.size := by omega
  have hg := get_bt s
  clear hs
  go_enter Tryd.func17, Tryd.ntmps17
  have Q0 := Lib.hid (Below.refl w0.heap.size w0)
  have hB0 := hB
  go_wp2_with fail
  refine (rnum_0_4 s _ (by omega)).mono ?_
  rintro e w' ⟨rfl, rfl⟩
  go_wp2_with fail
  refine (rnum_5_7 s _ (by omega)).mono ?_
  rintro e w' ⟨rfl, rfl⟩
  go_wp2_with fail
  refine (rnum_8_10 s _ (by omega)).mono ?_
  rintro e w' ⟨rfl, rfl⟩
  go_wp2_with fail
  refine (rnum_11_13 s _ (by omega)).mono ?_
  rintro e w' ⟨rfl, rfl⟩
  go_wp2
  go_ret2
  exact ⟨ret_two HV.out.1.symm HV.out.2.symm, (by repeat' (first | (with_reducible exact Below.refl _ _) | (with_reducible assumption) | (with_reducible refine below_drewN ?_ _) | (with_reducible refine Below.alloc ?_ ?_ _) | (with_reducible refine Below.drew ?_) | (with_reducible refine Below.setCell ?_ ?_ _) | go_size))⟩

set_option maxHeartbeats 1000000 in
set_option maxRecDepth 100000 in
theorem rparse13_g (s : ByteArray) (w0 : World) (hB : 0 < w0.heap.size) (hs : s.size = 13) (d : Cal.digB s 11 2 = true) (h10 : bt s 10 = 84) (a : Cal.digB s 0 4 = true) (b : Cal.digB s 5 2 = true) (c : Cal.digB s 8 2 = true) (h4 : bt s 4 = 45) (h7 : bt s 7 = 45)  : Calls Tryd.prog 17 #[.string s] w0 fun e w' => e = .returned (.tuple #[.int .i64 (Cal.pv s), .int .i64 (Cal.pe s)]) ∧ Below w0.heap.size w0 w' := by
  have _ : ((s.size : Int) != 13) = false := by rw [bne_eq_false_iff_eq]; omega
  have _ : ((s.size : Int) != 10) = true := bne_iff_ne.2 (by omega)
  have _ : ((s.size : Int) == 13) = true := beq_iff_eq.2 (by omega)
  have HG := Cal.p_good (Cal.good13 hs a b c h4 h7 d h10)
  have hh : Cal.hh s = Cal.num s 11 2 := by simp only [Cal.hh, hs]; rfl
  have n1 : Cal.numB s 0 4 = Cal.num s 0 4 := by simp [Cal.numB, a]
  have n2 : Cal.numB s 5 2 = Cal.num s 5 2 := by simp [Cal.numB, b]
  have n3 : Cal.numB s 8 2 = Cal.num s 8 2 := by simp [Cal.numB, c]
  have n4 : Cal.numB s 11 2 = Cal.num s 11 2 := by simp [Cal.numB, d]
  rw [hh, ← n1, ← n2, ← n3, ← n4] at HG
  have HV := Lib.hid HG
  clear HG hh n1 n2 n3 n4
  have q4 : (bt s 4 != 45) = false := by rw [bne_eq_false_iff_eq]; exact h4
  clear h4
  have q7 : (bt s 7 != 45) = false := by rw [bne_eq_false_iff_eq]; exact h7
  clear h7
  have qx : (bt s 10 == 84) = true := by rw [beq_iff_eq]; exact h10
  clear h10
  have ha : 13 ≤ s.size := by omega
  have hb : s.size ≤ 13 := by omega
  have hl4 : 4 < s.size := by omega
  have hl7 : 7 < s.size := by omega
  have hl10 : 10 < s.size := by omega
  have hg := get_bt s
  clear hs
  go_enter Tryd.func17, Tryd.ntmps17
  have Q0 := Lib.hid (Below.refl w0.heap.size w0)
  have hB0 := hB
  go_wp2_with fail
  refine (rnum_0_4 s _ (by omega)).mono ?_
  rintro e w' ⟨rfl, rfl⟩
  go_wp2_with fail
  refine (rnum_5_7 s _ (by omega)).mono ?_
  rintro e w' ⟨rfl, rfl⟩
  go_wp2_with fail
  refine (rnum_8_10 s _ (by omega)).mono ?_
  rintro e w' ⟨rfl, rfl⟩
  go_wp2_with fail
  refine (rnum_11_13 s _ (by omega)).mono ?_
  rintro e w' ⟨rfl, rfl⟩
  go_wp2_with fail
  refine (rhour_any _ _ _ _ _).mono ?_
  rintro e w1 ⟨rfl, hb1⟩
  have Q1 := Lib.hid (chain Q0.out (by repeat' (first | (with_reducible exact Below.refl _ _) | (with_reducible assumption) | (with_reducible refine below_drewN ?_ _) | (with_reducible refine Below.alloc ?_ ?_ _) | (with_reducible refine Below.drew ?_) | (with_reducible refine Below.setCell ?_ ?_ _) | go_size)) hb1)
  have hq1 : w0.heap.size ≤ w1.heap.size := Q1.out.size
  have hz1 := hb1.size
  try simp only [World.size_alloc, World.size_setCell, World.size_drew] at hz1
  have hB1 : 0 < w1.heap.size := Nat.lt_of_lt_of_le hB (Q1.out.size)
  clear hb1
  go_wp2
  go_ret2
  exact ⟨ret_two HV.out.1.symm HV.out.2.symm, Q1.out⟩

theorem rparse_any (s : ByteArray) (w0 : World) (hB : 0 < w0.heap.size) : Calls Tryd.prog 17 #[.string s] w0 fun e w' => e = .returned (.tuple #[.int .i64 (Cal.pv s), .int .i64 (Cal.pe s)]) ∧ Below w0.heap.size w0 w' := by
  by_cases h10 : s.size = 10
  · have hs := h10
    clear h10
    rcases Bool.eq_false_or_eq_true (Cal.digB s 0 4) with a | a
    · rcases Bool.eq_false_or_eq_true (Cal.digB s 5 2) with b | b
      · rcases Bool.eq_false_or_eq_true (Cal.digB s 8 2) with c | c
        · by_cases h4 : bt s 4 = 45
          · by_cases h7 : bt s 7 = 45
            · exact rparse10_g s w0 hB hs a b c h4 h7
            · exact rparse10_e s w0 hB hs a b c h4 h7
          · exact rparse10_d s w0 hB hs a b c h4
        · exact rparse10_c s w0 hB hs a b c
      · exact rparse10_b s w0 hB hs a b
    · exact rparse10_a s w0 hB hs a
  by_cases h13 : s.size = 13
  · have hs := h13
    clear h13
    rcases Bool.eq_false_or_eq_true (Cal.digB s 11 2) with d | d
    · by_cases hx : bt s 10 = 84
      · skip
        rcases Bool.eq_false_or_eq_true (Cal.digB s 0 4) with a | a
        · rcases Bool.eq_false_or_eq_true (Cal.digB s 5 2) with b | b
          · rcases Bool.eq_false_or_eq_true (Cal.digB s 8 2) with c | c
            · by_cases h4 : bt s 4 = 45
              · by_cases h7 : bt s 7 = 45
                · exact rparse13_g s w0 hB hs d hx a b c h4 h7
                · exact rparse13_e s w0 hB hs d hx a b c h4 h7
              · exact rparse13_d s w0 hB hs d hx a b c h4
            · exact rparse13_c s w0 hB hs d hx a b c
          · exact rparse13_b s w0 hB hs d hx a b
        · exact rparse13_a s w0 hB hs d hx a
      · skip
        rcases Bool.eq_false_or_eq_true (Cal.digB s 0 4) with a | a
        · rcases Bool.eq_false_or_eq_true (Cal.digB s 5 2) with b | b
          · rcases Bool.eq_false_or_eq_true (Cal.digB s 8 2) with c | c
            · exact rparse13_xd s w0 hB hs d hx a b c
            · exact rparse13_xc s w0 hB hs d hx a b c
          · exact rparse13_xb s w0 hB hs d hx a b
        · exact rparse13_xa s w0 hB hs d hx a
    · skip
      rcases Bool.eq_false_or_eq_true (Cal.digB s 0 4) with a | a
      · rcases Bool.eq_false_or_eq_true (Cal.digB s 5 2) with b | b
        · rcases Bool.eq_false_or_eq_true (Cal.digB s 8 2) with c | c
          · exact rparse13_nd s w0 hB hs d a b c
          · exact rparse13_nc s w0 hB hs d a b c
        · exact rparse13_nb s w0 hB hs d a b
      · exact rparse13_na s w0 hB hs d a
  · exact rparse_len s w0 h10 h13
end Go.Proofs.YtnidojfnpmhjkaaDoor
