/- The walks of Days and Elapsed, the program's and the reference's. -/
import Derived.Test.YtnidojfnpmhjkaaDoorPer
namespace Go.Proofs.YtnidojfnpmhjkaaDoor
set_option linter.unusedVariables false
set_option linter.unusedSimpArgs false
open Go.RowKit
theorem begun_any (h : Int) (w : World) (h0 : 0 ≤ h) (h1 : h ≤ 4611686018427387904) : Calls Tryd.prog 52 #[.int .i64 h] w fun e w' => e = .returned (.int .i64 ((h + 23) / 24)) ∧ w = w' := by
  have HE := Lib.hid (show (h + 24 - 1) / 24 = (h + 23) / 24 by omega)
  go_enter Tryd.func52, Tryd.ntmps52
  go_wp2
  go_ret
  exact ⟨ret_int HE.out, rfl⟩

set_option maxHeartbeats 1000000 in
theorem days_f (a b : Int) (w0 : World) (hB : 0 < w0.heap.size) (hP : ¬ (0 ≤ a ∧ a < b ∧ b ≤ 876600)) : Calls Tryd.prog 34 #[.agg #[.int .i64 a, .int .i64 b]] w0 fun e w' => e = .returned (.int .i64 (Cal.dys a b)) ∧ Below w0.heap.size w0 w' := by
  have HV := Lib.hid (show Cal.dys a b = 0 by simp [Cal.dys, Cal.vp_f hP])
  go_enter Tryd.func34, Tryd.ntmps34
  have Q0 := Lib.hid (Below.refl w0.heap.size w0)
  have hB0 := hB
  go_wp2_with fail
  refine (valid_f a b _ hP).mono ?_
  rintro e w1 ⟨rfl, hb1⟩
  have Q1 := Lib.hid (chain Q0.out (by repeat' (first | (with_reducible exact Below.refl _ _) | (with_reducible assumption) | (with_reducible refine below_drewN ?_ _) | (with_reducible refine Below.alloc ?_ ?_ _) | (with_reducible refine Below.drew ?_) | (with_reducible refine Below.setCell ?_ ?_ _) | go_size)) hb1)
  have hq1 : w0.heap.size ≤ w1.heap.size := Q1.out.size
  have hz1 := hb1.size
  try simp only [World.size_alloc, World.size_setCell, World.size_drew] at hz1
  have hB1 : 0 < w1.heap.size := Nat.lt_of_lt_of_le hB (Q1.out.size)
  have hl1_0 : w0.heap.size < w1.heap.size := by omega
  have hm1_0 : w0.heap.size ≤ w1.heap.size := by omega
  have c1_0_0 : w1.cell? ⟨w0.heap.size, 0, none⟩ = some (.int .i64 a) := by rw [hb1.cell (p := ⟨w0.heap.size, 0, none⟩) (by simp; try omega)]; simp [go_sem, *]
  have f1_0_0 : w1.frozen? ⟨w0.heap.size, 0, none⟩ = false := by rw [hb1.frozen (p := ⟨w0.heap.size, 0, none⟩) (by simp; try omega)]; simp [go_sem, *]
  have c1_0_1 : w1.cell? ⟨w0.heap.size, 1, none⟩ = some (.int .i64 b) := by rw [hb1.cell (p := ⟨w0.heap.size, 1, none⟩) (by simp; try omega)]; simp [go_sem, *]
  have f1_0_1 : w1.frozen? ⟨w0.heap.size, 1, none⟩ = false := by rw [hb1.frozen (p := ⟨w0.heap.size, 1, none⟩) (by simp; try omega)]; simp [go_sem, *]
  clear hb1
  go_wp2_with (go_at_call 52; refine (begun_any _ _ (by omega) (by omega)).mono ?_; rintro e w' ⟨rfl, rfl⟩)
  go_ret
  exact ⟨ret_int HV.out.symm, Below.trans Q1.out (by repeat' (first | (with_reducible exact Below.refl _ _) | (with_reducible assumption) | (with_reducible refine below_drewN ?_ _) | (with_reducible refine Below.alloc ?_ ?_ _) | (with_reducible refine Below.drew ?_) | (with_reducible refine Below.setCell ?_ ?_ _) | go_size))⟩

set_option maxHeartbeats 1000000 in
theorem days_t (a b : Int) (w0 : World) (hB : 0 < w0.heap.size) (hP : 0 ≤ a ∧ a < b ∧ b ≤ 876600) : Calls Tryd.prog 34 #[.agg #[.int .i64 a, .int .i64 b]] w0 fun e w' => e = .returned (.int .i64 (Cal.dys a b)) ∧ Below w0.heap.size w0 w' := by
  have HV := Lib.hid (show Cal.dys a b = (b - a + 23) / 24 by simp [Cal.dys, Cal.vp_t hP])
  go_enter Tryd.func34, Tryd.ntmps34
  have Q0 := Lib.hid (Below.refl w0.heap.size w0)
  have hB0 := hB
  go_wp2_with fail
  refine (valid_t a b _ hP.1 hP.2.1 hP.2.2).mono ?_
  rintro e w1 ⟨rfl, hb1⟩
  have Q1 := Lib.hid (chain Q0.out (by repeat' (first | (with_reducible exact Below.refl _ _) | (with_reducible assumption) | (with_reducible refine below_drewN ?_ _) | (with_reducible refine Below.alloc ?_ ?_ _) | (with_reducible refine Below.drew ?_) | (with_reducible refine Below.setCell ?_ ?_ _) | go_size)) hb1)
  have hq1 : w0.heap.size ≤ w1.heap.size := Q1.out.size
  have hz1 := hb1.size
  try simp only [World.size_alloc, World.size_setCell, World.size_drew] at hz1
  have hB1 : 0 < w1.heap.size := Nat.lt_of_lt_of_le hB (Q1.out.size)
  have hl1_0 : w0.heap.size < w1.heap.size := by omega
  have hm1_0 : w0.heap.size ≤ w1.heap.size := by omega
  have c1_0_0 : w1.cell? ⟨w0.heap.size, 0, none⟩ = some (.int .i64 a) := by rw [hb1.cell (p := ⟨w0.heap.size, 0, none⟩) (by simp; try omega)]; simp [go_sem, *]
  have f1_0_0 : w1.frozen? ⟨w0.heap.size, 0, none⟩ = false := by rw [hb1.frozen (p := ⟨w0.heap.size, 0, none⟩) (by simp; try omega)]; simp [go_sem, *]
  have c1_0_1 : w1.cell? ⟨w0.heap.size, 1, none⟩ = some (.int .i64 b) := by rw [hb1.cell (p := ⟨w0.heap.size, 1, none⟩) (by simp; try omega)]; simp [go_sem, *]
  have f1_0_1 : w1.frozen? ⟨w0.heap.size, 1, none⟩ = false := by rw [hb1.frozen (p := ⟨w0.heap.size, 1, none⟩) (by simp; try omega)]; simp [go_sem, *]
  clear hb1
  go_wp2_with (go_at_call 52; refine (begun_any _ _ (by omega) (by omega)).mono ?_; rintro e w' ⟨rfl, rfl⟩)
  go_ret
  exact ⟨ret_int HV.out.symm, Below.trans Q1.out (by repeat' (first | (with_reducible exact Below.refl _ _) | (with_reducible assumption) | (with_reducible refine below_drewN ?_ _) | (with_reducible refine Below.alloc ?_ ?_ _) | (with_reducible refine Below.drew ?_) | (with_reducible refine Below.setCell ?_ ?_ _) | go_size))⟩

theorem days0_any (a b : Int) (w0 : World) (hB : 0 < w0.heap.size) : Calls Tryd.prog 34 #[.agg #[.int .i64 a, .int .i64 b]] w0 fun e w' => e = .returned (.int .i64 (Cal.dys a b)) ∧ Below w0.heap.size w0 w' := by
  by_cases h : 0 ≤ a ∧ a < b ∧ b ≤ 876600
  · exact days_t a b w0 hB h
  · exact days_f a b w0 hB h

set_option maxHeartbeats 1000000 in
theorem elapsed_f (a b n : Int) (w0 : World) (hB : 0 < w0.heap.size) (hP : ¬ (0 ≤ a ∧ a < b ∧ b ≤ 876600)) : Calls Tryd.prog 32 #[.agg #[.int .i64 a, .int .i64 b], .int .i64 n] w0 fun e w' => e = .returned (.tuple #[.int .i64 (Cal.elp a b n), .int .i64 (Cal.dys a b)]) ∧ Below w0.heap.size w0 w' := by
  have HV := Lib.hid (show Cal.elp a b n = 0 by simp [Cal.elp, Cal.vp_f hP])
  go_enter Tryd.func32, Tryd.ntmps32
  have Q0 := Lib.hid (Below.refl w0.heap.size w0)
  have hB0 := hB
  go_wp2_with fail
  refine (days0_any a b _ (by exact Nat.lt_of_lt_of_le hB (Below.size (Below.trans Q0.out (by repeat' (first | (with_reducible exact Below.refl _ _) | (with_reducible assumption) | (with_reducible refine below_drewN ?_ _) | (with_reducible refine Below.alloc ?_ ?_ _) | (with_reducible refine Below.drew ?_) | (with_reducible refine Below.setCell ?_ ?_ _) | go_size)))))).mono ?_
  rintro e w1 ⟨rfl, hb1⟩
  have Q1 := Lib.hid (chain Q0.out (by repeat' (first | (with_reducible exact Below.refl _ _) | (with_reducible assumption) | (with_reducible refine below_drewN ?_ _) | (with_reducible refine Below.alloc ?_ ?_ _) | (with_reducible refine Below.drew ?_) | (with_reducible refine Below.setCell ?_ ?_ _) | go_size)) hb1)
  have hq1 : w0.heap.size ≤ w1.heap.size := Q1.out.size
  have hz1 := hb1.size
  try simp only [World.size_alloc, World.size_setCell, World.size_drew] at hz1
  have hB1 : 0 < w1.heap.size := Nat.lt_of_lt_of_le hB (Q1.out.size)
  have hl1_0 : w0.heap.size < w1.heap.size := by omega
  have hm1_0 : w0.heap.size ≤ w1.heap.size := by omega
  have c1_0_0 : w1.cell? ⟨w0.heap.size, 0, none⟩ = some (.int .i64 a) := by rw [hb1.cell (p := ⟨w0.heap.size, 0, none⟩) (by simp; try omega)]; simp [go_sem, *]
  have f1_0_0 : w1.frozen? ⟨w0.heap.size, 0, none⟩ = false := by rw [hb1.frozen (p := ⟨w0.heap.size, 0, none⟩) (by simp; try omega)]; simp [go_sem, *]
  have c1_0_1 : w1.cell? ⟨w0.heap.size, 1, none⟩ = some (.int .i64 b) := by rw [hb1.cell (p := ⟨w0.heap.size, 1, none⟩) (by simp; try omega)]; simp [go_sem, *]
  have f1_0_1 : w1.frozen? ⟨w0.heap.size, 1, none⟩ = false := by rw [hb1.frozen (p := ⟨w0.heap.size, 1, none⟩) (by simp; try omega)]; simp [go_sem, *]
  clear hb1
  go_wp2_with fail
  refine (valid_f a b _ hP).mono ?_
  rintro e w2 ⟨rfl, hb2⟩
  have Q2 := Lib.hid (chain Q1.out (by repeat' (first | (with_reducible exact Below.refl _ _) | (with_reducible assumption) | (with_reducible refine below_drewN ?_ _) | (with_reducible refine Below.alloc ?_ ?_ _) | (with_reducible refine Below.drew ?_) | (with_reducible refine Below.setCell ?_ ?_ _) | go_size)) hb2)
  have hq2 : w0.heap.size ≤ w2.heap.size := Q2.out.size
  have hz2 := hb2.size
  try simp only [World.size_alloc, World.size_setCell, World.size_drew] at hz2
  have hB2 : 0 < w2.heap.size := Nat.lt_of_lt_of_le hB (Q2.out.size)
  have hl2_0 : w0.heap.size < w2.heap.size := by omega
  have hm2_0 : w0.heap.size ≤ w2.heap.size := by omega
  have c2_0_0 : w2.cell? ⟨w0.heap.size, 0, none⟩ = some (.int .i64 a) := by rw [hb2.cell (p := ⟨w0.heap.size, 0, none⟩) (by simp; try omega)]; simp [go_sem, *]
  have f2_0_0 : w2.frozen? ⟨w0.heap.size, 0, none⟩ = false := by rw [hb2.frozen (p := ⟨w0.heap.size, 0, none⟩) (by simp; try omega)]; simp [go_sem, *]
  have c2_0_1 : w2.cell? ⟨w0.heap.size, 1, none⟩ = some (.int .i64 b) := by rw [hb2.cell (p := ⟨w0.heap.size, 1, none⟩) (by simp; try omega)]; simp [go_sem, *]
  have f2_0_1 : w2.frozen? ⟨w0.heap.size, 1, none⟩ = false := by rw [hb2.frozen (p := ⟨w0.heap.size, 1, none⟩) (by simp; try omega)]; simp [go_sem, *]
  clear hb2
  go_wp2_with (go_at_call 52; refine (begun_any _ _ (by omega) (by omega)).mono ?_; rintro e w' ⟨rfl, rfl⟩)
  go_ret2
  exact ⟨ret_two HV.out.symm rfl, Below.trans Q2.out (by repeat' (first | (with_reducible exact Below.refl _ _) | (with_reducible assumption) | (with_reducible refine below_drewN ?_ _) | (with_reducible refine Below.alloc ?_ ?_ _) | (with_reducible refine Below.drew ?_) | (with_reducible refine Below.setCell ?_ ?_ _) | go_size))⟩

set_option maxHeartbeats 1000000 in
theorem elapsed_1 (a b n : Int) (w0 : World) (hB : 0 < w0.heap.size) (hP : 0 ≤ a ∧ a < b ∧ b ≤ 876600) (h1 : n ≤ a) : Calls Tryd.prog 32 #[.agg #[.int .i64 a, .int .i64 b], .int .i64 n] w0 fun e w' => e = .returned (.tuple #[.int .i64 (Cal.elp a b n), .int .i64 (Cal.dys a b)]) ∧ Below w0.heap.size w0 w' := by
  have HV := Lib.hid (show Cal.elp a b n = 0 by simp [Cal.elp, Cal.vp_t hP, h1])
  have _ : decide (n ≤ a) = true := decide_eq_true (by omega)
  go_enter Tryd.func32, Tryd.ntmps32
  have Q0 := Lib.hid (Below.refl w0.heap.size w0)
  have hB0 := hB
  go_wp2_with fail
  refine (days0_any a b _ (by exact Nat.lt_of_lt_of_le hB (Below.size (Below.trans Q0.out (by repeat' (first | (with_reducible exact Below.refl _ _) | (with_reducible assumption) | (with_reducible refine below_drewN ?_ _) | (with_reducible refine Below.alloc ?_ ?_ _) | (with_reducible refine Below.drew ?_) | (with_reducible refine Below.setCell ?_ ?_ _) | go_size)))))).mono ?_
  rintro e w1 ⟨rfl, hb1⟩
  have Q1 := Lib.hid (chain Q0.out (by repeat' (first | (with_reducible exact Below.refl _ _) | (with_reducible assumption) | (with_reducible refine below_drewN ?_ _) | (with_reducible refine Below.alloc ?_ ?_ _) | (with_reducible refine Below.drew ?_) | (with_reducible refine Below.setCell ?_ ?_ _) | go_size)) hb1)
  have hq1 : w0.heap.size ≤ w1.heap.size := Q1.out.size
  have hz1 := hb1.size
  try simp only [World.size_alloc, World.size_setCell, World.size_drew] at hz1
  have hB1 : 0 < w1.heap.size := Nat.lt_of_lt_of_le hB (Q1.out.size)
  have hl1_0 : w0.heap.size < w1.heap.size := by omega
  have hm1_0 : w0.heap.size ≤ w1.heap.size := by omega
  have c1_0_0 : w1.cell? ⟨w0.heap.size, 0, none⟩ = some (.int .i64 a) := by rw [hb1.cell (p := ⟨w0.heap.size, 0, none⟩) (by simp; try omega)]; simp [go_sem, *]
  have f1_0_0 : w1.frozen? ⟨w0.heap.size, 0, none⟩ = false := by rw [hb1.frozen (p := ⟨w0.heap.size, 0, none⟩) (by simp; try omega)]; simp [go_sem, *]
  have c1_0_1 : w1.cell? ⟨w0.heap.size, 1, none⟩ = some (.int .i64 b) := by rw [hb1.cell (p := ⟨w0.heap.size, 1, none⟩) (by simp; try omega)]; simp [go_sem, *]
  have f1_0_1 : w1.frozen? ⟨w0.heap.size, 1, none⟩ = false := by rw [hb1.frozen (p := ⟨w0.heap.size, 1, none⟩) (by simp; try omega)]; simp [go_sem, *]
  clear hb1
  go_wp2_with fail
  refine (valid_t a b _ hP.1 hP.2.1 hP.2.2).mono ?_
  rintro e w2 ⟨rfl, hb2⟩
  have Q2 := Lib.hid (chain Q1.out (by repeat' (first | (with_reducible exact Below.refl _ _) | (with_reducible assumption) | (with_reducible refine below_drewN ?_ _) | (with_reducible refine Below.alloc ?_ ?_ _) | (with_reducible refine Below.drew ?_) | (with_reducible refine Below.setCell ?_ ?_ _) | go_size)) hb2)
  have hq2 : w0.heap.size ≤ w2.heap.size := Q2.out.size
  have hz2 := hb2.size
  try simp only [World.size_alloc, World.size_setCell, World.size_drew] at hz2
  have hB2 : 0 < w2.heap.size := Nat.lt_of_lt_of_le hB (Q2.out.size)
  have hl2_0 : w0.heap.size < w2.heap.size := by omega
  have hm2_0 : w0.heap.size ≤ w2.heap.size := by omega
  have c2_0_0 : w2.cell? ⟨w0.heap.size, 0, none⟩ = some (.int .i64 a) := by rw [hb2.cell (p := ⟨w0.heap.size, 0, none⟩) (by simp; try omega)]; simp [go_sem, *]
  have f2_0_0 : w2.frozen? ⟨w0.heap.size, 0, none⟩ = false := by rw [hb2.frozen (p := ⟨w0.heap.size, 0, none⟩) (by simp; try omega)]; simp [go_sem, *]
  have c2_0_1 : w2.cell? ⟨w0.heap.size, 1, none⟩ = some (.int .i64 b) := by rw [hb2.cell (p := ⟨w0.heap.size, 1, none⟩) (by simp; try omega)]; simp [go_sem, *]
  have f2_0_1 : w2.frozen? ⟨w0.heap.size, 1, none⟩ = false := by rw [hb2.frozen (p := ⟨w0.heap.size, 1, none⟩) (by simp; try omega)]; simp [go_sem, *]
  clear hb2
  go_wp2_with (go_at_call 52; refine (begun_any _ _ (by omega) (by omega)).mono ?_; rintro e w' ⟨rfl, rfl⟩)
  go_ret2
  exact ⟨ret_two HV.out.symm rfl, Below.trans Q2.out (by repeat' (first | (with_reducible exact Below.refl _ _) | (with_reducible assumption) | (with_reducible refine below_drewN ?_ _) | (with_reducible refine Below.alloc ?_ ?_ _) | (with_reducible refine Below.drew ?_) | (with_reducible refine Below.setCell ?_ ?_ _) | go_size))⟩

set_option maxHeartbeats 1000000 in
theorem elapsed_2 (a b n : Int) (w0 : World) (hB : 0 < w0.heap.size) (hP : 0 ≤ a ∧ a < b ∧ b ≤ 876600) (h1 : a < n) (h2 : b ≤ n) : Calls Tryd.prog 32 #[.agg #[.int .i64 a, .int .i64 b], .int .i64 n] w0 fun e w' => e = .returned (.tuple #[.int .i64 (Cal.elp a b n), .int .i64 (Cal.dys a b)]) ∧ Below w0.heap.size w0 w' := by
  have HV := Lib.hid (show Cal.elp a b n = Cal.dys a b by simp only [Cal.elp, Cal.vp_t hP, if_true]; rw [if_neg (by omega), if_pos h2])
  have _ : decide (n ≤ a) = false := decide_eq_false (by omega)
  have _ : decide (b ≤ n) = true := decide_eq_true (by omega)
  go_enter Tryd.func32, Tryd.ntmps32
  have Q0 := Lib.hid (Below.refl w0.heap.size w0)
  have hB0 := hB
  go_wp2_with fail
  refine (days0_any a b _ (by exact Nat.lt_of_lt_of_le hB (Below.size (Below.trans Q0.out (by repeat' (first | (with_reducible exact Below.refl _ _) | (with_reducible assumption) | (with_reducible refine below_drewN ?_ _) | (with_reducible refine Below.alloc ?_ ?_ _) | (with_reducible refine Below.drew ?_) | (with_reducible refine Below.setCell ?_ ?_ _) | go_size)))))).mono ?_
  rintro e w1 ⟨rfl, hb1⟩
  have Q1 := Lib.hid (chain Q0.out (by repeat' (first | (with_reducible exact Below.refl _ _) | (with_reducible assumption) | (with_reducible refine below_drewN ?_ _) | (with_reducible refine Below.alloc ?_ ?_ _) | (with_reducible refine Below.drew ?_) | (with_reducible refine Below.setCell ?_ ?_ _) | go_size)) hb1)
  have hq1 : w0.heap.size ≤ w1.heap.size := Q1.out.size
  have hz1 := hb1.size
  try simp only [World.size_alloc, World.size_setCell, World.size_drew] at hz1
  have hB1 : 0 < w1.heap.size := Nat.lt_of_lt_of_le hB (Q1.out.size)
  have hl1_0 : w0.heap.size < w1.heap.size := by omega
  have hm1_0 : w0.heap.size ≤ w1.heap.size := by omega
  have c1_0_0 : w1.cell? ⟨w0.heap.size, 0, none⟩ = some (.int .i64 a) := by rw [hb1.cell (p := ⟨w0.heap.size, 0, none⟩) (by simp; try omega)]; simp [go_sem, *]
  have f1_0_0 : w1.frozen? ⟨w0.heap.size, 0, none⟩ = false := by rw [hb1.frozen (p := ⟨w0.heap.size, 0, none⟩) (by simp; try omega)]; simp [go_sem, *]
  have c1_0_1 : w1.cell? ⟨w0.heap.size, 1, none⟩ = some (.int .i64 b) := by rw [hb1.cell (p := ⟨w0.heap.size, 1, none⟩) (by simp; try omega)]; simp [go_sem, *]
  have f1_0_1 : w1.frozen? ⟨w0.heap.size, 1, none⟩ = false := by rw [hb1.frozen (p := ⟨w0.heap.size, 1, none⟩) (by simp; try omega)]; simp [go_sem, *]
  clear hb1
  go_wp2_with fail
  refine (valid_t a b _ hP.1 hP.2.1 hP.2.2).mono ?_
  rintro e w2 ⟨rfl, hb2⟩
  have Q2 := Lib.hid (chain Q1.out (by repeat' (first | (with_reducible exact Below.refl _ _) | (with_reducible assumption) | (with_reducible refine below_drewN ?_ _) | (with_reducible refine Below.alloc ?_ ?_ _) | (with_reducible refine Below.drew ?_) | (with_reducible refine Below.setCell ?_ ?_ _) | go_size)) hb2)
  have hq2 : w0.heap.size ≤ w2.heap.size := Q2.out.size
  have hz2 := hb2.size
  try simp only [World.size_alloc, World.size_setCell, World.size_drew] at hz2
  have hB2 : 0 < w2.heap.size := Nat.lt_of_lt_of_le hB (Q2.out.size)
  have hl2_0 : w0.heap.size < w2.heap.size := by omega
  have hm2_0 : w0.heap.size ≤ w2.heap.size := by omega
  have c2_0_0 : w2.cell? ⟨w0.heap.size, 0, none⟩ = some (.int .i64 a) := by rw [hb2.cell (p := ⟨w0.heap.size, 0, none⟩) (by simp; try omega)]; simp [go_sem, *]
  have f2_0_0 : w2.frozen? ⟨w0.heap.size, 0, none⟩ = false := by rw [hb2.frozen (p := ⟨w0.heap.size, 0, none⟩) (by simp; try omega)]; simp [go_sem, *]
  have c2_0_1 : w2.cell? ⟨w0.heap.size, 1, none⟩ = some (.int .i64 b) := by rw [hb2.cell (p := ⟨w0.heap.size, 1, none⟩) (by simp; try omega)]; simp [go_sem, *]
  have f2_0_1 : w2.frozen? ⟨w0.heap.size, 1, none⟩ = false := by rw [hb2.frozen (p := ⟨w0.heap.size, 1, none⟩) (by simp; try omega)]; simp [go_sem, *]
  clear hb2
  go_wp2_with (go_at_call 52; refine (begun_any _ _ (by omega) (by omega)).mono ?_; rintro e w' ⟨rfl, rfl⟩)
  go_ret2
  exact ⟨ret_two HV.out.symm rfl, Below.trans Q2.out (by repeat' (first | (with_reducible exact Below.refl _ _) | (with_reducible assumption) | (with_reducible refine below_drewN ?_ _) | (with_reducible refine Below.alloc ?_ ?_ _) | (with_reducible refine Below.drew ?_) | (with_reducible refine Below.setCell ?_ ?_ _) | go_size))⟩

set_option maxHeartbeats 1000000 in
theorem elapsed_3 (a b n : Int) (w0 : World) (hB : 0 < w0.heap.size) (hP : 0 ≤ a ∧ a < b ∧ b ≤ 876600) (h1 : a < n) (h2 : n < b) : Calls Tryd.prog 32 #[.agg #[.int .i64 a, .int .i64 b], .int .i64 n] w0 fun e w' => e = .returned (.tuple #[.int .i64 (Cal.elp a b n), .int .i64 (Cal.dys a b)]) ∧ Below w0.heap.size w0 w' := by
  have HV := Lib.hid (show Cal.elp a b n = (n - a + 23) / 24 by simp only [Cal.elp, Cal.vp_t hP, if_true]; rw [if_neg (by omega), if_neg (by omega)])
  have _ : decide (n ≤ a) = false := decide_eq_false (by omega)
  have _ : decide (b ≤ n) = false := decide_eq_false (by omega)
  go_enter Tryd.func32, Tryd.ntmps32
  have Q0 := Lib.hid (Below.refl w0.heap.size w0)
  have hB0 := hB
  go_wp2_with fail
  refine (days0_any a b _ (by exact Nat.lt_of_lt_of_le hB (Below.size (Below.trans Q0.out (by repeat' (first | (with_reducible exact Below.refl _ _) | (with_reducible assumption) | (with_reducible refine below_drewN ?_ _) | (with_reducible refine Below.alloc ?_ ?_ _) | (with_reducible refine Below.drew ?_) | (with_reducible refine Below.setCell ?_ ?_ _) | go_size)))))).mono ?_
  rintro e w1 ⟨rfl, hb1⟩
  have Q1 := Lib.hid (chain Q0.out (by repeat' (first | (with_reducible exact Below.refl _ _) | (with_reducible assumption) | (with_reducible refine below_drewN ?_ _) | (with_reducible refine Below.alloc ?_ ?_ _) | (with_reducible refine Below.drew ?_) | (with_reducible refine Below.setCell ?_ ?_ _) | go_size)) hb1)
  have hq1 : w0.heap.size ≤ w1.heap.size := Q1.out.size
  have hz1 := hb1.size
  try simp only [World.size_alloc, World.size_setCell, World.size_drew] at hz1
  have hB1 : 0 < w1.heap.size := Nat.lt_of_lt_of_le hB (Q1.out.size)
  have hl1_0 : w0.heap.size < w1.heap.size := by omega
  have hm1_0 : w0.heap.size ≤ w1.heap.size := by omega
  have c1_0_0 : w1.cell? ⟨w0.heap.size, 0, none⟩ = some (.int .i64 a) := by rw [hb1.cell (p := ⟨w0.heap.size, 0, none⟩) (by simp; try omega)]; simp [go_sem, *]
  have f1_0_0 : w1.frozen? ⟨w0.heap.size, 0, none⟩ = false := by rw [hb1.frozen (p := ⟨w0.heap.size, 0, none⟩) (by simp; try omega)]; simp [go_sem, *]
  have c1_0_1 : w1.cell? ⟨w0.heap.size, 1, none⟩ = some (.int .i64 b) := by rw [hb1.cell (p := ⟨w0.heap.size, 1, none⟩) (by simp; try omega)]; simp [go_sem, *]
  have f1_0_1 : w1.frozen? ⟨w0.heap.size, 1, none⟩ = false := by rw [hb1.frozen (p := ⟨w0.heap.size, 1, none⟩) (by simp; try omega)]; simp [go_sem, *]
  clear hb1
  go_wp2_with fail
  refine (valid_t a b _ hP.1 hP.2.1 hP.2.2).mono ?_
  rintro e w2 ⟨rfl, hb2⟩
  have Q2 := Lib.hid (chain Q1.out (by repeat' (first | (with_reducible exact Below.refl _ _) | (with_reducible assumption) | (with_reducible refine below_drewN ?_ _) | (with_reducible refine Below.alloc ?_ ?_ _) | (with_reducible refine Below.drew ?_) | (with_reducible refine Below.setCell ?_ ?_ _) | go_size)) hb2)
  have hq2 : w0.heap.size ≤ w2.heap.size := Q2.out.size
  have hz2 := hb2.size
  try simp only [World.size_alloc, World.size_setCell, World.size_drew] at hz2
  have hB2 : 0 < w2.heap.size := Nat.lt_of_lt_of_le hB (Q2.out.size)
  have hl2_0 : w0.heap.size < w2.heap.size := by omega
  have hm2_0 : w0.heap.size ≤ w2.heap.size := by omega
  have c2_0_0 : w2.cell? ⟨w0.heap.size, 0, none⟩ = some (.int .i64 a) := by rw [hb2.cell (p := ⟨w0.heap.size, 0, none⟩) (by simp; try omega)]; simp [go_sem, *]
  have f2_0_0 : w2.frozen? ⟨w0.heap.size, 0, none⟩ = false := by rw [hb2.frozen (p := ⟨w0.heap.size, 0, none⟩) (by simp; try omega)]; simp [go_sem, *]
  have c2_0_1 : w2.cell? ⟨w0.heap.size, 1, none⟩ = some (.int .i64 b) := by rw [hb2.cell (p := ⟨w0.heap.size, 1, none⟩) (by simp; try omega)]; simp [go_sem, *]
  have f2_0_1 : w2.frozen? ⟨w0.heap.size, 1, none⟩ = false := by rw [hb2.frozen (p := ⟨w0.heap.size, 1, none⟩) (by simp; try omega)]; simp [go_sem, *]
  clear hb2
  go_wp2_with (go_at_call 52; refine (begun_any _ _ (by omega) (by omega)).mono ?_; rintro e w' ⟨rfl, rfl⟩)
  go_ret2
  exact ⟨ret_two HV.out.symm rfl, Below.trans Q2.out (by repeat' (first | (with_reducible exact Below.refl _ _) | (with_reducible assumption) | (with_reducible refine below_drewN ?_ _) | (with_reducible refine Below.alloc ?_ ?_ _) | (with_reducible refine Below.drew ?_) | (with_reducible refine Below.setCell ?_ ?_ _) | go_size))⟩

theorem elapsed_any (a b n : Int) (w0 : World) (hB : 0 < w0.heap.size) : Calls Tryd.prog 32 #[.agg #[.int .i64 a, .int .i64 b], .int .i64 n] w0 fun e w' => e = .returned (.tuple #[.int .i64 (Cal.elp a b n), .int .i64 (Cal.dys a b)]) ∧ Below w0.heap.size w0 w' := by
  by_cases h : 0 ≤ a ∧ a < b ∧ b ≤ 876600
  · rcases Int.lt_or_le a n with k | k
    · rcases Int.lt_or_le n b with q | q
      · exact elapsed_3 a b n w0 hB h k q
      · exact elapsed_2 a b n w0 hB h k q
    · exact elapsed_1 a b n w0 hB h k
  · exact elapsed_f a b n w0 hB h

set_option maxHeartbeats 1000000 in
theorem rdays_f (a b : Int) (w0 : World) (hB : 0 < w0.heap.size) (hP : ¬ (0 ≤ a ∧ a < b ∧ b ≤ 876600)) : Calls Tryd.prog 35 #[.agg #[.int .i64 a, .int .i64 b]] w0 fun e w' => e = .returned (.int .i64 (Cal.dys a b)) ∧ Below w0.heap.size w0 w' := by
  have HV := Lib.hid (show Cal.dys a b = 0 by simp [Cal.dys, Cal.vp_f hP])
  go_enter Tryd.func35, Tryd.ntmps35
  have Q0 := Lib.hid (Below.refl w0.heap.size w0)
  have hB0 := hB
  go_wp2_with fail
  refine (rvalid_f a b _ hP).mono ?_
  rintro e w1 ⟨rfl, hb1⟩
  have Q1 := Lib.hid (chain Q0.out (by repeat' (first | (with_reducible exact Below.refl _ _) | (with_reducible assumption) | (with_reducible refine below_drewN ?_ _) | (with_reducible refine Below.alloc ?_ ?_ _) | (with_reducible refine Below.drew ?_) | (with_reducible refine Below.setCell ?_ ?_ _) | go_size)) hb1)
  have hq1 : w0.heap.size ≤ w1.heap.size := Q1.out.size
  have hz1 := hb1.size
  try simp only [World.size_alloc, World.size_setCell, World.size_drew] at hz1
  have hB1 : 0 < w1.heap.size := Nat.lt_of_lt_of_le hB (Q1.out.size)
  have hl1_0 : w0.heap.size < w1.heap.size := by omega
  have hm1_0 : w0.heap.size ≤ w1.heap.size := by omega
  have c1_0_0 : w1.cell? ⟨w0.heap.size, 0, none⟩ = some (.int .i64 a) := by rw [hb1.cell (p := ⟨w0.heap.size, 0, none⟩) (by simp; try omega)]; simp [go_sem, *]
  have f1_0_0 : w1.frozen? ⟨w0.heap.size, 0, none⟩ = false := by rw [hb1.frozen (p := ⟨w0.heap.size, 0, none⟩) (by simp; try omega)]; simp [go_sem, *]
  have c1_0_1 : w1.cell? ⟨w0.heap.size, 1, none⟩ = some (.int .i64 b) := by rw [hb1.cell (p := ⟨w0.heap.size, 1, none⟩) (by simp; try omega)]; simp [go_sem, *]
  have f1_0_1 : w1.frozen? ⟨w0.heap.size, 1, none⟩ = false := by rw [hb1.frozen (p := ⟨w0.heap.size, 1, none⟩) (by simp; try omega)]; simp [go_sem, *]
  clear hb1
  go_wp2
  go_ret
  exact ⟨ret_int HV.out.symm, Below.trans Q1.out (by repeat' (first | (with_reducible exact Below.refl _ _) | (with_reducible assumption) | (with_reducible refine below_drewN ?_ _) | (with_reducible refine Below.alloc ?_ ?_ _) | (with_reducible refine Below.drew ?_) | (with_reducible refine Below.setCell ?_ ?_ _) | go_size))⟩

set_option maxHeartbeats 1000000 in
theorem rdays_t (a b : Int) (w0 : World) (hB : 0 < w0.heap.size) (hP : 0 ≤ a ∧ a < b ∧ b ≤ 876600) : Calls Tryd.prog 35 #[.agg #[.int .i64 a, .int .i64 b]] w0 fun e w' => e = .returned (.int .i64 (Cal.dys a b)) ∧ Below w0.heap.size w0 w' := by
  have HV := Lib.hid (show Cal.dys a b = (b - a + 23) / 24 by simp [Cal.dys, Cal.vp_t hP])
  go_enter Tryd.func35, Tryd.ntmps35
  have Q0 := Lib.hid (Below.refl w0.heap.size w0)
  have hB0 := hB
  go_wp2_with fail
  refine (rvalid_t a b _ hP.1 hP.2.1 hP.2.2).mono ?_
  rintro e w1 ⟨rfl, hb1⟩
  have Q1 := Lib.hid (chain Q0.out (by repeat' (first | (with_reducible exact Below.refl _ _) | (with_reducible assumption) | (with_reducible refine below_drewN ?_ _) | (with_reducible refine Below.alloc ?_ ?_ _) | (with_reducible refine Below.drew ?_) | (with_reducible refine Below.setCell ?_ ?_ _) | go_size)) hb1)
  have hq1 : w0.heap.size ≤ w1.heap.size := Q1.out.size
  have hz1 := hb1.size
  try simp only [World.size_alloc, World.size_setCell, World.size_drew] at hz1
  have hB1 : 0 < w1.heap.size := Nat.lt_of_lt_of_le hB (Q1.out.size)
  have hl1_0 : w0.heap.size < w1.heap.size := by omega
  have hm1_0 : w0.heap.size ≤ w1.heap.size := by omega
  have c1_0_0 : w1.cell? ⟨w0.heap.size, 0, none⟩ = some (.int .i64 a) := by rw [hb1.cell (p := ⟨w0.heap.size, 0, none⟩) (by simp; try omega)]; simp [go_sem, *]
  have f1_0_0 : w1.frozen? ⟨w0.heap.size, 0, none⟩ = false := by rw [hb1.frozen (p := ⟨w0.heap.size, 0, none⟩) (by simp; try omega)]; simp [go_sem, *]
  have c1_0_1 : w1.cell? ⟨w0.heap.size, 1, none⟩ = some (.int .i64 b) := by rw [hb1.cell (p := ⟨w0.heap.size, 1, none⟩) (by simp; try omega)]; simp [go_sem, *]
  have f1_0_1 : w1.frozen? ⟨w0.heap.size, 1, none⟩ = false := by rw [hb1.frozen (p := ⟨w0.heap.size, 1, none⟩) (by simp; try omega)]; simp [go_sem, *]
  clear hb1
  go_wp2
  go_ret
  exact ⟨ret_int HV.out.symm, Below.trans Q1.out (by repeat' (first | (with_reducible exact Below.refl _ _) | (with_reducible assumption) | (with_reducible refine below_drewN ?_ _) | (with_reducible refine Below.alloc ?_ ?_ _) | (with_reducible refine Below.drew ?_) | (with_reducible refine Below.setCell ?_ ?_ _) | go_size))⟩

theorem rdays0_any (a b : Int) (w0 : World) (hB : 0 < w0.heap.size) : Calls Tryd.prog 35 #[.agg #[.int .i64 a, .int .i64 b]] w0 fun e w' => e = .returned (.int .i64 (Cal.dys a b)) ∧ Below w0.heap.size w0 w' := by
  by_cases h : 0 ≤ a ∧ a < b ∧ b ≤ 876600
  · exact rdays_t a b w0 hB h
  · exact rdays_f a b w0 hB h

set_option maxHeartbeats 1000000 in
theorem relapsed_f (a b n : Int) (w0 : World) (hB : 0 < w0.heap.size) (hP : ¬ (0 ≤ a ∧ a < b ∧ b ≤ 876600)) : Calls Tryd.prog 33 #[.agg #[.int .i64 a, .int .i64 b], .int .i64 n] w0 fun e w' => e = .returned (.tuple #[.int .i64 (Cal.elp a b n), .int .i64 (Cal.dys a b)]) ∧ Below w0.heap.size w0 w' := by
  have hdz : (Cal.dys a b == 0) = true := by simp [Cal.dys, Cal.vp_f hP]
  have HV := Lib.hid (show Cal.elp a b n = 0 by simp [Cal.elp, Cal.vp_f hP])
  go_enter Tryd.func33, Tryd.ntmps33
  have Q0 := Lib.hid (Below.refl w0.heap.size w0)
  have hB0 := hB
  go_wp2_with fail
  refine (rdays0_any a b _ (by exact Nat.lt_of_lt_of_le hB (Below.size (Below.trans Q0.out (by repeat' (first | (with_reducible exact Below.refl _ _) | (with_reducible assumption) | (with_reducible refine below_drewN ?_ _) | (with_reducible refine Below.alloc ?_ ?_ _) | (with_reducible refine Below.drew ?_) | (with_reducible refine Below.setCell ?_ ?_ _) | go_size)))))).mono ?_
  rintro e w1 ⟨rfl, hb1⟩
  have Q1 := Lib.hid (chain Q0.out (by repeat' (first | (with_reducible exact Below.refl _ _) | (with_reducible assumption) | (with_reducible refine below_drewN ?_ _) | (with_reducible refine Below.alloc ?_ ?_ _) | (with_reducible refine Below.drew ?_) | (with_reducible refine Below.setCell ?_ ?_ _) | go_size)) hb1)
  have hq1 : w0.heap.size ≤ w1.heap.size := Q1.out.size
  have hz1 := hb1.size
  try simp only [World.size_alloc, World.size_setCell, World.size_drew] at hz1
  have hB1 : 0 < w1.heap.size := Nat.lt_of_lt_of_le hB (Q1.out.size)
  have hl1_0 : w0.heap.size < w1.heap.size := by omega
  have hm1_0 : w0.heap.size ≤ w1.heap.size := by omega
  have c1_0_0 : w1.cell? ⟨w0.heap.size, 0, none⟩ = some (.int .i64 a) := by rw [hb1.cell (p := ⟨w0.heap.size, 0, none⟩) (by simp; try omega)]; simp [go_sem, *]
  have f1_0_0 : w1.frozen? ⟨w0.heap.size, 0, none⟩ = false := by rw [hb1.frozen (p := ⟨w0.heap.size, 0, none⟩) (by simp; try omega)]; simp [go_sem, *]
  have c1_0_1 : w1.cell? ⟨w0.heap.size, 1, none⟩ = some (.int .i64 b) := by rw [hb1.cell (p := ⟨w0.heap.size, 1, none⟩) (by simp; try omega)]; simp [go_sem, *]
  have f1_0_1 : w1.frozen? ⟨w0.heap.size, 1, none⟩ = false := by rw [hb1.frozen (p := ⟨w0.heap.size, 1, none⟩) (by simp; try omega)]; simp [go_sem, *]
  clear hb1
  go_wp2
  go_ret2
  exact ⟨ret_two HV.out.symm rfl, Below.trans Q1.out (by repeat' (first | (with_reducible exact Below.refl _ _) | (with_reducible assumption) | (with_reducible refine below_drewN ?_ _) | (with_reducible refine Below.alloc ?_ ?_ _) | (with_reducible refine Below.drew ?_) | (with_reducible refine Below.setCell ?_ ?_ _) | go_size))⟩

set_option maxHeartbeats 1000000 in
theorem relapsed_1 (a b n : Int) (w0 : World) (hB : 0 < w0.heap.size) (hP : 0 ≤ a ∧ a < b ∧ b ≤ 876600) (h1 : n ≤ a) : Calls Tryd.prog 33 #[.agg #[.int .i64 a, .int .i64 b], .int .i64 n] w0 fun e w' => e = .returned (.tuple #[.int .i64 (Cal.elp a b n), .int .i64 (Cal.dys a b)]) ∧ Below w0.heap.size w0 w' := by
  have hdz : (Cal.dys a b == 0) = false := by simp [Cal.dys, Cal.vp_t hP]; omega
  have HV := Lib.hid (show Cal.elp a b n = 0 by simp [Cal.elp, Cal.vp_t hP, h1])
  have _ : decide (n ≤ a) = true := decide_eq_true (by omega)
  go_enter Tryd.func33, Tryd.ntmps33
  have Q0 := Lib.hid (Below.refl w0.heap.size w0)
  have hB0 := hB
  go_wp2_with fail
  refine (rdays0_any a b _ (by exact Nat.lt_of_lt_of_le hB (Below.size (Below.trans Q0.out (by repeat' (first | (with_reducible exact Below.refl _ _) | (with_reducible assumption) | (with_reducible refine below_drewN ?_ _) | (with_reducible refine Below.alloc ?_ ?_ _) | (with_reducible refine Below.drew ?_) | (with_reducible refine Below.setCell ?_ ?_ _) | go_size)))))).mono ?_
  rintro e w1 ⟨rfl, hb1⟩
  have Q1 := Lib.hid (chain Q0.out (by repeat' (first | (with_reducible exact Below.refl _ _) | (with_reducible assumption) | (with_reducible refine below_drewN ?_ _) | (with_reducible refine Below.alloc ?_ ?_ _) | (with_reducible refine Below.drew ?_) | (with_reducible refine Below.setCell ?_ ?_ _) | go_size)) hb1)
  have hq1 : w0.heap.size ≤ w1.heap.size := Q1.out.size
  have hz1 := hb1.size
  try simp only [World.size_alloc, World.size_setCell, World.size_drew] at hz1
  have hB1 : 0 < w1.heap.size := Nat.lt_of_lt_of_le hB (Q1.out.size)
  have hl1_0 : w0.heap.size < w1.heap.size := by omega
  have hm1_0 : w0.heap.size ≤ w1.heap.size := by omega
  have c1_0_0 : w1.cell? ⟨w0.heap.size, 0, none⟩ = some (.int .i64 a) := by rw [hb1.cell (p := ⟨w0.heap.size, 0, none⟩) (by simp; try omega)]; simp [go_sem, *]
  have f1_0_0 : w1.frozen? ⟨w0.heap.size, 0, none⟩ = false := by rw [hb1.frozen (p := ⟨w0.heap.size, 0, none⟩) (by simp; try omega)]; simp [go_sem, *]
  have c1_0_1 : w1.cell? ⟨w0.heap.size, 1, none⟩ = some (.int .i64 b) := by rw [hb1.cell (p := ⟨w0.heap.size, 1, none⟩) (by simp; try omega)]; simp [go_sem, *]
  have f1_0_1 : w1.frozen? ⟨w0.heap.size, 1, none⟩ = false := by rw [hb1.frozen (p := ⟨w0.heap.size, 1, none⟩) (by simp; try omega)]; simp [go_sem, *]
  clear hb1
  go_wp2
  go_ret2
  exact ⟨ret_two HV.out.symm rfl, Below.trans Q1.out (by repeat' (first | (with_reducible exact Below.refl _ _) | (with_reducible assumption) | (with_reducible refine below_drewN ?_ _) | (with_reducible refine Below.alloc ?_ ?_ _) | (with_reducible refine Below.drew ?_) | (with_reducible refine Below.setCell ?_ ?_ _) | go_size))⟩

set_option maxHeartbeats 1000000 in
theorem relapsed_2 (a b n : Int) (w0 : World) (hB : 0 < w0.heap.size) (hP : 0 ≤ a ∧ a < b ∧ b ≤ 876600) (h1 : a < n) (h2 : b ≤ n) : Calls Tryd.prog 33 #[.agg #[.int .i64 a, .int .i64 b], .int .i64 n] w0 fun e w' => e = .returned (.tuple #[.int .i64 (Cal.elp a b n), .int .i64 (Cal.dys a b)]) ∧ Below w0.heap.size w0 w' := by
  have hdz : (Cal.dys a b == 0) = false := by simp [Cal.dys, Cal.vp_t hP]; omega
  have HV := Lib.hid (show Cal.elp a b n = Cal.dys a b by simp only [Cal.elp, Cal.vp_t hP, if_true]; rw [if_neg (by omega), if_pos h2])
  have _ : decide (n ≤ a) = false := decide_eq_false (by omega)
  have _ : decide (b ≤ n) = true := decide_eq_true (by omega)
  go_enter Tryd.func33, Tryd.ntmps33
  have Q0 := Lib.hid (Below.refl w0.heap.size w0)
  have hB0 := hB
  go_wp2_with fail
  refine (rdays0_any a b _ (by exact Nat.lt_of_lt_of_le hB (Below.size (Below.trans Q0.out (by repeat' (first | (with_reducible exact Below.refl _ _) | (with_reducible assumption) | (with_reducible refine below_drewN ?_ _) | (with_reducible refine Below.alloc ?_ ?_ _) | (with_reducible refine Below.drew ?_) | (with_reducible refine Below.setCell ?_ ?_ _) | go_size)))))).mono ?_
  rintro e w1 ⟨rfl, hb1⟩
  have Q1 := Lib.hid (chain Q0.out (by repeat' (first | (with_reducible exact Below.refl _ _) | (with_reducible assumption) | (with_reducible refine below_drewN ?_ _) | (with_reducible refine Below.alloc ?_ ?_ _) | (with_reducible refine Below.drew ?_) | (with_reducible refine Below.setCell ?_ ?_ _) | go_size)) hb1)
  have hq1 : w0.heap.size ≤ w1.heap.size := Q1.out.size
  have hz1 := hb1.size
  try simp only [World.size_alloc, World.size_setCell, World.size_drew] at hz1
  have hB1 : 0 < w1.heap.size := Nat.lt_of_lt_of_le hB (Q1.out.size)
  have hl1_0 : w0.heap.size < w1.heap.size := by omega
  have hm1_0 : w0.heap.size ≤ w1.heap.size := by omega
  have c1_0_0 : w1.cell? ⟨w0.heap.size, 0, none⟩ = some (.int .i64 a) := by rw [hb1.cell (p := ⟨w0.heap.size, 0, none⟩) (by simp; try omega)]; simp [go_sem, *]
  have f1_0_0 : w1.frozen? ⟨w0.heap.size, 0, none⟩ = false := by rw [hb1.frozen (p := ⟨w0.heap.size, 0, none⟩) (by simp; try omega)]; simp [go_sem, *]
  have c1_0_1 : w1.cell? ⟨w0.heap.size, 1, none⟩ = some (.int .i64 b) := by rw [hb1.cell (p := ⟨w0.heap.size, 1, none⟩) (by simp; try omega)]; simp [go_sem, *]
  have f1_0_1 : w1.frozen? ⟨w0.heap.size, 1, none⟩ = false := by rw [hb1.frozen (p := ⟨w0.heap.size, 1, none⟩) (by simp; try omega)]; simp [go_sem, *]
  clear hb1
  go_wp2
  go_ret2
  exact ⟨ret_two HV.out.symm rfl, Below.trans Q1.out (by repeat' (first | (with_reducible exact Below.refl _ _) | (with_reducible assumption) | (with_reducible refine below_drewN ?_ _) | (with_reducible refine Below.alloc ?_ ?_ _) | (with_reducible refine Below.drew ?_) | (with_reducible refine Below.setCell ?_ ?_ _) | go_size))⟩

set_option maxHeartbeats 1000000 in
theorem relapsed_3 (a b n : Int) (w0 : World) (hB : 0 < w0.heap.size) (hP : 0 ≤ a ∧ a < b ∧ b ≤ 876600) (h1 : a < n) (h2 : n < b) : Calls Tryd.prog 33 #[.agg #[.int .i64 a, .int .i64 b], .int .i64 n] w0 fun e w' => e = .returned (.tuple #[.int .i64 (Cal.elp a b n), .int .i64 (Cal.dys a b)]) ∧ Below w0.heap.size w0 w' := by
  have hdz : (Cal.dys a b == 0) = false := by simp [Cal.dys, Cal.vp_t hP]; omega
  have HV := Lib.hid (show Cal.elp a b n = (n - a + 23) / 24 by simp only [Cal.elp, Cal.vp_t hP, if_true]; rw [if_neg (by omega), if_neg (by omega)])
  have _ : decide (n ≤ a) = false := decide_eq_false (by omega)
  have _ : decide (b ≤ n) = false := decide_eq_false (by omega)
  go_enter Tryd.func33, Tryd.ntmps33
  have Q0 := Lib.hid (Below.refl w0.heap.size w0)
  have hB0 := hB
  go_wp2_with fail
  refine (rdays0_any a b _ (by exact Nat.lt_of_lt_of_le hB (Below.size (Below.trans Q0.out (by repeat' (first | (with_reducible exact Below.refl _ _) | (with_reducible assumption) | (with_reducible refine below_drewN ?_ _) | (with_reducible refine Below.alloc ?_ ?_ _) | (with_reducible refine Below.drew ?_) | (with_reducible refine Below.setCell ?_ ?_ _) | go_size)))))).mono ?_
  rintro e w1 ⟨rfl, hb1⟩
  have Q1 := Lib.hid (chain Q0.out (by repeat' (first | (with_reducible exact Below.refl _ _) | (with_reducible assumption) | (with_reducible refine below_drewN ?_ _) | (with_reducible refine Below.alloc ?_ ?_ _) | (with_reducible refine Below.drew ?_) | (with_reducible refine Below.setCell ?_ ?_ _) | go_size)) hb1)
  have hq1 : w0.heap.size ≤ w1.heap.size := Q1.out.size
  have hz1 := hb1.size
  try simp only [World.size_alloc, World.size_setCell, World.size_drew] at hz1
  have hB1 : 0 < w1.heap.size := Nat.lt_of_lt_of_le hB (Q1.out.size)
  have hl1_0 : w0.heap.size < w1.heap.size := by omega
  have hm1_0 : w0.heap.size ≤ w1.heap.size := by omega
  have c1_0_0 : w1.cell? ⟨w0.heap.size, 0, none⟩ = some (.int .i64 a) := by rw [hb1.cell (p := ⟨w0.heap.size, 0, none⟩) (by simp; try omega)]; simp [go_sem, *]
  have f1_0_0 : w1.frozen? ⟨w0.heap.size, 0, none⟩ = false := by rw [hb1.frozen (p := ⟨w0.heap.size, 0, none⟩) (by simp; try omega)]; simp [go_sem, *]
  have c1_0_1 : w1.cell? ⟨w0.heap.size, 1, none⟩ = some (.int .i64 b) := by rw [hb1.cell (p := ⟨w0.heap.size, 1, none⟩) (by simp; try omega)]; simp [go_sem, *]
  have f1_0_1 : w1.frozen? ⟨w0.heap.size, 1, none⟩ = false := by rw [hb1.frozen (p := ⟨w0.heap.size, 1, none⟩) (by simp; try omega)]; simp [go_sem, *]
  clear hb1
  go_wp2
  go_ret2
  exact ⟨ret_two HV.out.symm rfl, Below.trans Q1.out (by repeat' (first | (with_reducible exact Below.refl _ _) | (with_reducible assumption) | (with_reducible refine below_drewN ?_ _) | (with_reducible refine Below.alloc ?_ ?_ _) | (with_reducible refine Below.drew ?_) | (with_reducible refine Below.setCell ?_ ?_ _) | go_size))⟩

theorem relapsed_any (a b n : Int) (w0 : World) (hB : 0 < w0.heap.size) : Calls Tryd.prog 33 #[.agg #[.int .i64 a, .int .i64 b], .int .i64 n] w0 fun e w' => e = .returned (.tuple #[.int .i64 (Cal.elp a b n), .int .i64 (Cal.dys a b)]) ∧ Below w0.heap.size w0 w' := by
  by_cases h : 0 ≤ a ∧ a < b ∧ b ≤ 876600
  · rcases Int.lt_or_le a n with k | k
    · rcases Int.lt_or_le n b with q | q
      · exact relapsed_3 a b n w0 hB h k q
      · exact relapsed_2 a b n w0 hB h k q
    · exact relapsed_1 a b n w0 hB h k
  · exact relapsed_f a b n w0 hB h
end Go.Proofs.YtnidojfnpmhjkaaDoor
