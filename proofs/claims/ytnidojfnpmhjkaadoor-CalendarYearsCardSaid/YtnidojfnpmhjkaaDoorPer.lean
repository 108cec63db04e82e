/- The walks of Valid, Contains, Overlap, Days and Elapsed, the program's and the reference's. -/
import Derived.Test.YtnidojfnpmhjkaaDoorLaws1
namespace Go.Proofs.YtnidojfnpmhjkaaDoor
set_option linter.unusedVariables false
set_option linter.unusedSimpArgs false
open Go.RowKit

namespace Cal
/-- The hours from a on, before b, are a period. -/
def vp (a b : Int) : Bool := decide (0 ≤ a) && decide (a < b) && decide (b ≤ 876600)
theorem vp_iff {a b : Int} : vp a b = true ↔ 0 ≤ a ∧ a < b ∧ b ≤ 876600 := by simp [vp, and_assoc]
theorem vp_t {a b : Int} (h : 0 ≤ a ∧ a < b ∧ b ≤ 876600) : vp a b = true := vp_iff.2 h
theorem vp_f {a b : Int} (h : ¬ (0 ≤ a ∧ a < b ∧ b ≤ 876600)) : vp a b = false := by rw [← Bool.not_eq_true, vp_iff]; exact h
def ct (a b n : Int) : Bool := vp a b && decide (a ≤ n) && decide (n < b)
def ovOk (a b c d : Int) : Bool := vp a b && vp c d && decide (max a c < min b d)
def ovA (a b c d : Int) : Int := if ovOk a b c d then max a c else 0
def ovB (a b c d : Int) : Int := if ovOk a b c d then min b d else 0
def dys (a b : Int) : Int := if vp a b then (b - a + 23) / 24 else 0
def elp (a b n : Int) : Int := if vp a b then (if n ≤ a then 0 else if b ≤ n then dys a b else (n - a + 23) / 24) else 0
end Cal

theorem valid_1 (a b : Int) (w : World) (h : a < 0) : Calls Tryd.prog 21 #[.agg #[.int .i64 a, .int .i64 b]] w fun e w' => e = .returned (.bool false) ∧ Below w.heap.size w w' := by
  have _ : decide (0 ≤ a) = false := decide_eq_false (by omega)
  go_enter Tryd.func21, Tryd.ntmps21
  go_wp2
  go_ret
  exact ⟨rfl, (by repeat' (first | (with_reducible exact Below.refl _ _) | (with_reducible assumption) | (with_reducible refine below_drewN ?_ _) | (with_reducible refine Below.alloc ?_ ?_ _) | (with_reducible refine Below.drew ?_) | (with_reducible refine Below.setCell ?_ ?_ _) | go_size))⟩

theorem valid_2 (a b : Int) (w : World) (h0 : 0 ≤ a) (h : b ≤ a) : Calls Tryd.prog 21 #[.agg #[.int .i64 a, .int .i64 b]] w fun e w' => e = .returned (.bool false) ∧ Below w.heap.size w w' := by
  have _ : decide (0 ≤ a) = true := decide_eq_true (by omega)
  have _ : decide (a < b) = false := decide_eq_false (by omega)
  go_enter Tryd.func21, Tryd.ntmps21
  go_wp2
  go_ret
  exact ⟨rfl, (by repeat' (first | (with_reducible exact Below.refl _ _) | (with_reducible assumption) | (with_reducible refine below_drewN ?_ _) | (with_reducible refine Below.alloc ?_ ?_ _) | (with_reducible refine Below.drew ?_) | (with_reducible refine Below.setCell ?_ ?_ _) | go_size))⟩

theorem valid_3 (a b : Int) (w : World) (h0 : 0 ≤ a) (h1 : a < b) (h : 876600 < b) : Calls Tryd.prog 21 #[.agg #[.int .i64 a, .int .i64 b]] w fun e w' => e = .returned (.bool false) ∧ Below w.heap.size w w' := by
  have _ : decide (0 ≤ a) = true := decide_eq_true (by omega)
  have _ : decide (a < b) = true := decide_eq_true (by omega)
  have _ : decide (b ≤ 876600) = false := decide_eq_false (by omega)
  go_enter Tryd.func21, Tryd.ntmps21
  go_wp2
  go_ret
  exact ⟨rfl, (by repeat' (first | (with_reducible exact Below.refl _ _) | (with_reducible assumption) | (with_reducible refine below_drewN ?_ _) | (with_reducible refine Below.alloc ?_ ?_ _) | (with_reducible refine Below.drew ?_) | (with_reducible refine Below.setCell ?_ ?_ _) | go_size))⟩

theorem valid_t (a b : Int) (w : World) (h0 : 0 ≤ a) (h1 : a < b) (h : b ≤ 876600) : Calls Tryd.prog 21 #[.agg #[.int .i64 a, .int .i64 b]] w fun e w' => e = .returned (.bool true) ∧ Below w.heap.size w w' := by
  have _ : decide (0 ≤ a) = true := decide_eq_true (by omega)
  have _ : decide (a < b) = true := decide_eq_true (by omega)
  have _ : decide (b ≤ 876600) = true := decide_eq_true (by omega)
  go_enter Tryd.func21, Tryd.ntmps21
  go_wp2
  go_ret
  exact ⟨rfl, (by repeat' (first | (with_reducible exact Below.refl _ _) | (with_reducible assumption) | (with_reducible refine below_drewN ?_ _) | (with_reducible refine Below.alloc ?_ ?_ _) | (with_reducible refine Below.drew ?_) | (with_reducible refine Below.setCell ?_ ?_ _) | go_size))⟩

theorem valid_f (a b : Int) (w : World) (h : ¬ (0 ≤ a ∧ a < b ∧ b ≤ 876600)) : Calls Tryd.prog 21 #[.agg #[.int .i64 a, .int .i64 b]] w fun e w' => e = .returned (.bool false) ∧ Below w.heap.size w w' := by
  rcases Int.lt_or_le a 0 with k | k
  · exact valid_1 a b w k
  rcases Int.lt_or_le a b with q | q
  · exact valid_3 a b w k q (by omega)
  · exact valid_2 a b w k q
theorem valid_any (a b : Int) (w : World) : Calls Tryd.prog 21 #[.agg #[.int .i64 a, .int .i64 b]] w fun e w' => e = .returned (.bool (Cal.vp a b)) ∧ Below w.heap.size w w' := by
  by_cases h : 0 ≤ a ∧ a < b ∧ b ≤ 876600
  · rw [Cal.vp_t h]; exact valid_t a b w h.1 h.2.1 h.2.2
  · rw [Cal.vp_f h]; exact valid_f a b w h

theorem rvalid_1 (a b : Int) (w : World) (h : a < 0) : Calls Tryd.prog 22 #[.agg #[.int .i64 a, .int .i64 b]] w fun e w' => e = .returned (.bool false) ∧ Below w.heap.size w w' := by
  have _ : decide (0 ≤ a) = false := decide_eq_false (by omega)
  go_enter Tryd.func22, Tryd.ntmps22
  go_wp2
  go_ret
  exact ⟨rfl, (by repeat' (first | (with_reducible exact Below.refl _ _) | (with_reducible assumption) | (with_reducible refine below_drewN ?_ _) | (with_reducible refine Below.alloc ?_ ?_ _) | (with_reducible refine Below.drew ?_) | (with_reducible refine Below.setCell ?_ ?_ _) | go_size))⟩

theorem rvalid_2 (a b : Int) (w : World) (h0 : 0 ≤ a) (h : b ≤ a) : Calls Tryd.prog 22 #[.agg #[.int .i64 a, .int .i64 b]] w fun e w' => e = .returned (.bool false) ∧ Below w.heap.size w w' := by
  have _ : decide (0 ≤ a) = true := decide_eq_true (by omega)
  have _ : decide (a < b) = false := decide_eq_false (by omega)
  go_enter Tryd.func22, Tryd.ntmps22
  go_wp2
  go_ret
  exact ⟨rfl, (by repeat' (first | (with_reducible exact Below.refl _ _) | (with_reducible assumption) | (with_reducible refine below_drewN ?_ _) | (with_reducible refine Below.alloc ?_ ?_ _) | (with_reducible refine Below.drew ?_) | (with_reducible refine Below.setCell ?_ ?_ _) | go_size))⟩

theorem rvalid_3 (a b : Int) (w : World) (h0 : 0 ≤ a) (h1 : a < b) (h : 876600 < b) : Calls Tryd.prog 22 #[.agg #[.int .i64 a, .int .i64 b]] w fun e w' => e = .returned (.bool false) ∧ Below w.heap.size w w' := by
  have _ : decide (0 ≤ a) = true := decide_eq_true (by omega)
  have _ : decide (a < b) = true := decide_eq_true (by omega)
  have _ : decide (b ≤ 876600) = false := decide_eq_false (by omega)
  go_enter Tryd.func22, Tryd.ntmps22
  go_wp2
  go_ret
  exact ⟨rfl, (by repeat' (first | (with_reducible exact Below.refl _ _) | (with_reducible assumption) | (with_reducible refine below_drewN ?_ _) | (with_reducible refine Below.alloc ?_ ?_ _) | (with_reducible refine Below.drew ?_) | (with_reducible refine Below.setCell ?_ ?_ _) | go_size))⟩

theorem rvalid_t (a b : Int) (w : World) (h0 : 0 ≤ a) (h1 : a < b) (h : b ≤ 876600) : Calls Tryd.prog 22 #[.agg #[.int .i64 a, .int .i64 b]] w fun e w' => e = .returned (.bool true) ∧ Below w.heap.size w w' := by
  have _ : decide (0 ≤ a) = true := decide_eq_true (by omega)
  have _ : decide (a < b) = true := decide_eq_true (by omega)
  have _ : decide (b ≤ 876600) = true := decide_eq_true (by omega)
  go_enter Tryd.func22, Tryd.ntmps22
  go_wp2
  go_ret
  exact ⟨rfl, (by repeat' (first | (with_reducible exact Below.refl _ _) | (with_reducible assumption) | (with_reducible refine below_drewN ?_ _) | (with_reducible refine Below.alloc ?_ ?_ _) | (with_reducible refine Below.drew ?_) | (with_reducible refine Below.setCell ?_ ?_ _) | go_size))⟩

theorem rvalid_f (a b : Int) (w : World) (h : ¬ (0 ≤ a ∧ a < b ∧ b ≤ 876600)) : Calls Tryd.prog 22 #[.agg #[.int .i64 a, .int .i64 b]] w fun e w' => e = .returned (.bool false) ∧ Below w.heap.size w w' := by
  rcases Int.lt_or_le a 0 with k | k
  · exact rvalid_1 a b w k
  rcases Int.lt_or_le a b with q | q
  · exact rvalid_3 a b w k q (by omega)
  · exact rvalid_2 a b w k q
theorem rvalid_any (a b : Int) (w : World) : Calls Tryd.prog 22 #[.agg #[.int .i64 a, .int .i64 b]] w fun e w' => e = .returned (.bool (Cal.vp a b)) ∧ Below w.heap.size w w' := by
  by_cases h : 0 ≤ a ∧ a < b ∧ b ≤ 876600
  · rw [Cal.vp_t h]; exact rvalid_t a b w h.1 h.2.1 h.2.2
  · rw [Cal.vp_f h]; exact rvalid_f a b w h

set_option maxHeartbeats 1000000 in
theorem contains_f (a b n : Int) (w0 : World) (hB : 0 < w0.heap.size) (hP : ¬ (0 ≤ a ∧ a < b ∧ b ≤ 876600)) : Calls Tryd.prog 23 #[.agg #[.int .i64 a, .int .i64 b], .int .i64 n] w0 fun e w' => e = .returned (.bool (Cal.ct a b n)) ∧ Below w0.heap.size w0 w' := by
  have HV := Lib.hid (show Cal.ct a b n = false by simp [Cal.ct, Cal.vp_f hP])
  go_enter Tryd.func23, Tryd.ntmps23
  have Q0 := Lib.hid (Below.refl w0.heap.size w0)
  have hB0 := hB
  go_wp2_with fail
  refine (valid_f a b _ hP).mono ?_
  rintro e w1 ⟨rfl, hb1⟩
  have Q1 := Lib.hid (chain Q0.out (by repeat' (first | (with_reducible exact Below.refl _ _) | (with_reducible assumption) | (with_reducible refine below_drewN ?_ _) | (with_reducible refine Below.alloc ?_ ?_ _) | (with_reducible refine Below.drew ?_) | (with_reducible refine Below.setCell ?_ ?_ _) | go_size)) hb1)
  have hq1 : w0.heap.size ≤ w1.heap.size := Q1.out.size
  have hz1 := hb1.size
  try simp only [World.size_alloc, World.size_setCell, World.size_drew] at hz1
  have hB1 : 0 < w1.heap.size := Nat.lt_of_lt_of_le hB (Q1.out.size)
  have hl1_0 : w0.heap.size < w1.heap.size := by omega
  have hm1_0 : w0.heap.size ≤ w1.heap.size := by omega
  have c1_0_0 : w1.cell? ⟨w0.heap.size, 0, none⟩ = some (.int .i64 a) := by rw [hb1.cell (p := ⟨w0.heap.size, 0, none⟩) (by simp; try omega)]; simp [go_sem, *]
  have f1_0_0 : w1.frozen? ⟨w0.heap.size, 0, none⟩ = false := by rw [hb1.frozen (p := ⟨w0.heap.size, 0, none⟩) (by simp; try omega)]; simp [go_sem, *]
  have c1_0_1 : w1.cell? ⟨w0.heap.size, 1, none⟩ = some (.int .i64 b) := by rw [hb1.cell (p := ⟨w0.heap.size, 1, none⟩) (by simp; try omega)]; simp [go_sem, *]
  have f1_0_1 : w1.frozen? ⟨w0.heap.size, 1, none⟩ = false := by rw [hb1.frozen (p := ⟨w0.heap.size, 1, none⟩) (by simp; try omega)]; simp [go_sem, *]
  clear hb1
  go_wp2
  go_ret
  exact ⟨ret_bool HV.out.symm, Below.trans Q1.out (by repeat' (first | (with_reducible exact Below.refl _ _) | (with_reducible assumption) | (with_reducible refine below_drewN ?_ _) | (with_reducible refine Below.alloc ?_ ?_ _) | (with_reducible refine Below.drew ?_) | (with_reducible refine Below.setCell ?_ ?_ _) | go_size))⟩

set_option maxHeartbeats 1000000 in
theorem contains_1 (a b n : Int) (w0 : World) (hB : 0 < w0.heap.size) (hP : 0 ≤ a ∧ a < b ∧ b ≤ 876600) (h1 : n < a) : Calls Tryd.prog 23 #[.agg #[.int .i64 a, .int .i64 b], .int .i64 n] w0 fun e w' => e = .returned (.bool (Cal.ct a b n)) ∧ Below w0.heap.size w0 w' := by
  have HV := Lib.hid (show Cal.ct a b n = false by simp [Cal.ct]; omega)
  have _ : decide (a ≤ n) = false := decide_eq_false (by omega)
  go_enter Tryd.func23, Tryd.ntmps23
  have Q0 := Lib.hid (Below.refl w0.heap.size w0)
  have hB0 := hB
  go_wp2_with fail
  refine (valid_t a b _ hP.1 hP.2.1 hP.2.2).mono ?_
  rintro e w1 ⟨rfl, hb1⟩
  have Q1 := Lib.hid (chain Q0.out (by repeat' (first | (with_reducible exact Below.refl _ _) | (with_reducible assumption) | (with_reducible refine below_drewN ?_ _) | (with_reducible refine Below.alloc ?_ ?_ _) | (with_reducible refine Below.drew ?_) | (with_reducible refine Below.setCell ?_ ?_ _) | go_size)) hb1)
  have hq1 : w0.heap.size ≤ w1.heap.size := Q1.out.size
  have hz1 := hb1.size
  try simp only [World.size_alloc, World.size_setCell, World.size_drew] at hz1
  have hB1 : 0 < w1.heap.size := Nat.lt_of_lt_of_le hB (Q1.out.size)
  have hl1_0 : w0.heap.size < w1.heap.size := by omega
  have hm1_0 : w0.heap.size ≤ w1.heap.size := by omega
  have c1_0_0 : w1.cell? ⟨w0.heap.size, 0, none⟩ = some (.int .i64 a) := by rw [hb1.cell (p := ⟨w0.heap.size, 0, none⟩) (by simp; try omega)]; simp [go_sem, *]
  have f1_0_0 : w1.frozen? ⟨w0.heap.size, 0, none⟩ = false := by rw [hb1.frozen (p := ⟨w0.heap.size, 0, none⟩) (by simp; try omega)]; simp [go_sem, *]
  have c1_0_1 : w1.cell? ⟨w0.heap.size, 1, none⟩ = some (.int .i64 b) := by rw [hb1.cell (p := ⟨w0.heap.size, 1, none⟩) (by simp; try omega)]; simp [go_sem, *]
  have f1_0_1 : w1.frozen? ⟨w0.heap.size, 1, none⟩ = false := by rw [hb1.frozen (p := ⟨w0.heap.size, 1, none⟩) (by simp; try omega)]; simp [go_sem, *]
  clear hb1
  go_wp2
  go_ret
  exact ⟨ret_bool HV.out.symm, Below.trans Q1.out (by repeat' (first | (with_reducible exact Below.refl _ _) | (with_reducible assumption) | (with_reducible refine below_drewN ?_ _) | (with_reducible refine Below.alloc ?_ ?_ _) | (with_reducible refine Below.drew ?_) | (with_reducible refine Below.setCell ?_ ?_ _) | go_size))⟩

set_option maxHeartbeats 1000000 in
theorem contains_2 (a b n : Int) (w0 : World) (hB : 0 < w0.heap.size) (hP : 0 ≤ a ∧ a < b ∧ b ≤ 876600) (h1 : a ≤ n) (h2 : b ≤ n) : Calls Tryd.prog 23 #[.agg #[.int .i64 a, .int .i64 b], .int .i64 n] w0 fun e w' => e = .returned (.bool (Cal.ct a b n)) ∧ Below w0.heap.size w0 w' := by
  have HV := Lib.hid (show Cal.ct a b n = false by simp [Cal.ct]; omega)
  have _ : decide (a ≤ n) = true := decide_eq_true (by omega)
  have _ : decide (n < b) = false := decide_eq_false (by omega)
  go_enter Tryd.func23, Tryd.ntmps23
  have Q0 := Lib.hid (Below.refl w0.heap.size w0)
  have hB0 := hB
  go_wp2_with fail
  refine (valid_t a b _ hP.1 hP.2.1 hP.2.2).mono ?_
  rintro e w1 ⟨rfl, hb1⟩
  have Q1 := Lib.hid (chain Q0.out (by repeat' (first | (with_reducible exact Below.refl _ _) | (with_reducible assumption) | (with_reducible refine below_drewN ?_ _) | (with_reducible refine Below.alloc ?_ ?_ _) | (with_reducible refine Below.drew ?_) | (with_reducible refine Below.setCell ?_ ?_ _) | go_size)) hb1)
  have hq1 : w0.heap.size ≤ w1.heap.size := Q1.out.size
  have hz1 := hb1.size
  try simp only [World.size_alloc, World.size_setCell, World.size_drew] at hz1
  have hB1 : 0 < w1.heap.size := Nat.lt_of_lt_of_le hB (Q1.out.size)
  have hl1_0 : w0.heap.size < w1.heap.size := by omega
  have hm1_0 : w0.heap.size ≤ w1.heap.size := by omega
  have c1_0_0 : w1.cell? ⟨w0.heap.size, 0, none⟩ = some (.int .i64 a) := by rw [hb1.cell (p := ⟨w0.heap.size, 0, none⟩) (by simp; try omega)]; simp [go_sem, *]
  have f1_0_0 : w1.frozen? ⟨w0.heap.size, 0, none⟩ = false := by rw [hb1.frozen (p := ⟨w0.heap.size, 0, none⟩) (by simp; try omega)]; simp [go_sem, *]
  have c1_0_1 : w1.cell? ⟨w0.heap.size, 1, none⟩ = some (.int .i64 b) := by rw [hb1.cell (p := ⟨w0.heap.size, 1, none⟩) (by simp; try omega)]; simp [go_sem, *]
  have f1_0_1 : w1.frozen? ⟨w0.heap.size, 1, none⟩ = false := by rw [hb1.frozen (p := ⟨w0.heap.size, 1, none⟩) (by simp; try omega)]; simp [go_sem, *]
  clear hb1
  go_wp2
  go_ret
  exact ⟨ret_bool HV.out.symm, Below.trans Q1.out (by repeat' (first | (with_reducible exact Below.refl _ _) | (with_reducible assumption) | (with_reducible refine below_drewN ?_ _) | (with_reducible refine Below.alloc ?_ ?_ _) | (with_reducible refine Below.drew ?_) | (with_reducible refine Below.setCell ?_ ?_ _) | go_size))⟩

set_option maxHeartbeats 1000000 in
theorem contains_3 (a b n : Int) (w0 : World) (hB : 0 < w0.heap.size) (hP : 0 ≤ a ∧ a < b ∧ b ≤ 876600) (h1 : a ≤ n) (h2 : n < b) : Calls Tryd.prog 23 #[.agg #[.int .i64 a, .int .i64 b], .int .i64 n] w0 fun e w' => e = .returned (.bool (Cal.ct a b n)) ∧ Below w0.heap.size w0 w' := by
  have HV := Lib.hid (show Cal.ct a b n = true by simp [Cal.ct, Cal.vp_t hP]; omega)
  have _ : decide (a ≤ n) = true := decide_eq_true (by omega)
  have _ : decide (n < b) = true := decide_eq_true (by omega)
  go_enter Tryd.func23, Tryd.ntmps23
  have Q0 := Lib.hid (Below.refl w0.heap.size w0)
  have hB0 := hB
  go_wp2_with fail
  refine (valid_t a b _ hP.1 hP.2.1 hP.2.2).mono ?_
  rintro e w1 ⟨rfl, hb1⟩
  have Q1 := Lib.hid (chain Q0.out (by repeat' (first | (with_reducible exact Below.refl _ _) | (with_reducible assumption) | (with_reducible refine below_drewN ?_ _) | (with_reducible refine Below.alloc ?_ ?_ _) | (with_reducible refine Below.drew ?_) | (with_reducible refine Below.setCell ?_ ?_ _) | go_size)) hb1)
  have hq1 : w0.heap.size ≤ w1.heap.size := Q1.out.size
  have hz1 := hb1.size
  try simp only [World.size_alloc, World.size_setCell, World.size_drew] at hz1
  have hB1 : 0 < w1.heap.size := Nat.lt_of_lt_of_le hB (Q1.out.size)
  have hl1_0 : w0.heap.size < w1.heap.size := by omega
  have hm1_0 : w0.heap.size ≤ w1.heap.size := by omega
  have c1_0_0 : w1.cell? ⟨w0.heap.size, 0, none⟩ = some (.int .i64 a) := by rw [hb1.cell (p := ⟨w0.heap.size, 0, none⟩) (by simp; try omega)]; simp [go_sem, *]
  have f1_0_0 : w1.frozen? ⟨w0.heap.size, 0, none⟩ = false := by rw [hb1.frozen (p := ⟨w0.heap.size, 0, none⟩) (by simp; try omega)]; simp [go_sem, *]
  have c1_0_1 : w1.cell? ⟨w0.heap.size, 1, none⟩ = some (.int .i64 b) := by rw [hb1.cell (p := ⟨w0.heap.size, 1, none⟩) (by simp; try omega)]; simp [go_sem, *]
  have f1_0_1 : w1.frozen? ⟨w0.heap.size, 1, none⟩ = false := by rw [hb1.frozen (p := ⟨w0.heap.size, 1, none⟩) (by simp; try omega)]; simp [go_sem, *]
  clear hb1
  go_wp2
  go_ret
  exact ⟨ret_bool HV.out.symm, Below.trans Q1.out (by repeat' (first | (with_reducible exact Below.refl _ _) | (with_reducible assumption) | (with_reducible refine below_drewN ?_ _) | (with_reducible refine Below.alloc ?_ ?_ _) | (with_reducible refine Below.drew ?_) | (with_reducible refine Below.setCell ?_ ?_ _) | go_size))⟩

theorem contains_any (a b n : Int) (w0 : World) (hB : 0 < w0.heap.size) : Calls Tryd.prog 23 #[.agg #[.int .i64 a, .int .i64 b], .int .i64 n] w0 fun e w' => e = .returned (.bool (Cal.ct a b n)) ∧ Below w0.heap.size w0 w' := by
  by_cases h : 0 ≤ a ∧ a < b ∧ b ≤ 876600
  · rcases Int.lt_or_le n a with k | k
    · exact contains_1 a b n w0 hB h k
    rcases Int.lt_or_le n b with q | q
    · exact contains_3 a b n w0 hB h k q
    · exact contains_2 a b n w0 hB h k q
  · exact contains_f a b n w0 hB h

set_option maxHeartbeats 1000000 in
theorem rcontains_f (a b n : Int) (w0 : World) (hB : 0 < w0.heap.size) (hP : ¬ (0 ≤ a ∧ a < b ∧ b ≤ 876600)) : Calls Tryd.prog 24 #[.agg #[.int .i64 a, .int .i64 b], .int .i64 n] w0 fun e w' => e = .returned (.bool (Cal.ct a b n)) ∧ Below w0.heap.size w0 w' := by
  have HV := Lib.hid (show Cal.ct a b n = false by simp [Cal.ct, Cal.vp_f hP])
  go_enter Tryd.func24, Tryd.ntmps24
  have Q0 := Lib.hid (Below.refl w0.heap.size w0)
  have hB0 := hB
  go_wp2_with fail
  refine (rvalid_f a b _ hP).mono ?_
  rintro e w1 ⟨rfl, hb1⟩
  have Q1 := Lib.hid (chain Q0.out (by repeat' (first | (with_reducible exact Below.refl _ _) | (with_reducible assumption) | (with_reducible refine below_drewN ?_ _) | (with_reducible refine Below.alloc ?_ ?_ _) | (with_reducible refine Below.drew ?_) | (with_reducible refine Below.setCell ?_ ?_ _) | go_size)) hb1)
  have hq1 : w0.heap.size ≤ w1.heap.size := Q1.out.size
  have hz1 := hb1.size
  try simp only [World.size_alloc, World.size_setCell, World.size_drew] at hz1
  have hB1 : 0 < w1.heap.size := Nat.lt_of_lt_of_le hB (Q1.out.size)
  have hl1_0 : w0.heap.size < w1.heap.size := by omega
  have hm1_0 : w0.heap.size ≤ w1.heap.size := by omega
  have c1_0_0 : w1.cell? ⟨w0.heap.size, 0, none⟩ = some (.int .i64 a) := by rw [hb1.cell (p := ⟨w0.heap.size, 0, none⟩) (by simp; try omega)]; simp [go_sem, *]
  have f1_0_0 : w1.frozen? ⟨w0.heap.size, 0, none⟩ = false := by rw [hb1.frozen (p := ⟨w0.heap.size, 0, none⟩) (by simp; try omega)]; simp [go_sem, *]
  have c1_0_1 : w1.cell? ⟨w0.heap.size, 1, none⟩ = some (.int .i64 b) := by rw [hb1.cell (p := ⟨w0.heap.size, 1, none⟩) (by simp; try omega)]; simp [go_sem, *]
  have f1_0_1 : w1.frozen? ⟨w0.heap.size, 1, none⟩ = false := by rw [hb1.frozen (p := ⟨w0.heap.size, 1, none⟩) (by simp; try omega)]; simp [go_sem, *]
  clear hb1
  go_wp2
  go_ret
  exact ⟨ret_bool HV.out.symm, Below.trans Q1.out (by repeat' (first | (with_reducible exact Below.refl _ _) | (with_reducible assumption) | (with_reducible refine below_drewN ?_ _) | (with_reducible refine Below.alloc ?_ ?_ _) | (with_reducible refine Below.drew ?_) | (with_reducible refine Below.setCell ?_ ?_ _) | go_size))⟩

set_option maxHeartbeats 1000000 in
theorem rcontains_1 (a b n : Int) (w0 : World) (hB : 0 < w0.heap.size) (hP : 0 ≤ a ∧ a < b ∧ b ≤ 876600) (h1 : n < a) : Calls Tryd.prog 24 #[.agg #[.int .i64 a, .int .i64 b], .int .i64 n] w0 fun e w' => e = .returned (.bool (Cal.ct a b n)) ∧ Below w0.heap.size w0 w' := by
  have HV := Lib.hid (show Cal.ct a b n = false by simp [Cal.ct]; omega)
  have _ : decide (a ≤ n) = false := decide_eq_false (by omega)
  go_enter Tryd.func24, Tryd.ntmps24
  have Q0 := Lib.hid (Below.refl w0.heap.size w0)
  have hB0 := hB
  go_wp2_with fail
  refine (rvalid_t a b _ hP.1 hP.2.1 hP.2.2).mono ?_
  rintro e w1 ⟨rfl, hb1⟩
  have Q1 := Lib.hid (chain Q0.out (by repeat' (first | (with_reducible exact Below.refl _ _) | (with_reducible assumption) | (with_reducible refine below_drewN ?_ _) | (with_reducible refine Below.alloc ?_ ?_ _) | (with_reducible refine Below.drew ?_) | (with_reducible refine Below.setCell ?_ ?_ _) | go_size)) hb1)
  have hq1 : w0.heap.size ≤ w1.heap.size := Q1.out.size
  have hz1 := hb1.size
  try simp only [World.size_alloc, World.size_setCell, World.size_drew] at hz1
  have hB1 : 0 < w1.heap.size := Nat.lt_of_lt_of_le hB (Q1.out.size)
  have hl1_0 : w0.heap.size < w1.heap.size := by omega
  have hm1_0 : w0.heap.size ≤ w1.heap.size := by omega
  have c1_0_0 : w1.cell? ⟨w0.heap.size, 0, none⟩ = some (.int .i64 a) := by rw [hb1.cell (p := ⟨w0.heap.size, 0, none⟩) (by simp; try omega)]; simp [go_sem, *]
  have f1_0_0 : w1.frozen? ⟨w0.heap.size, 0, none⟩ = false := by rw [hb1.frozen (p := ⟨w0.heap.size, 0, none⟩) (by simp; try omega)]; simp [go_sem, *]
  have c1_0_1 : w1.cell? ⟨w0.heap.size, 1, none⟩ = some (.int .i64 b) := by rw [hb1.cell (p := ⟨w0.heap.size, 1, none⟩) (by simp; try omega)]; simp [go_sem, *]
  have f1_0_1 : w1.frozen? ⟨w0.heap.size, 1, none⟩ = false := by rw [hb1.frozen (p := ⟨w0.heap.size, 1, none⟩) (by simp; try omega)]; simp [go_sem, *]
  clear hb1
  go_wp2
  go_ret
  exact ⟨ret_bool HV.out.symm, Below.trans Q1.out (by repeat' (first | (with_reducible exact Below.refl _ _) | (with_reducible assumption) | (with_reducible refine below_drewN ?_ _) | (with_reducible refine Below.alloc ?_ ?_ _) | (with_reducible refine Below.drew ?_) | (with_reducible refine Below.setCell ?_ ?_ _) | go_size))⟩

set_option maxHeartbeats 1000000 in
theorem rcontains_2 (a b n : Int) (w0 : World) (hB : 0 < w0.heap.size) (hP : 0 ≤ a ∧ a < b ∧ b ≤ 876600) (h1 : a ≤ n) (h2 : b ≤ n) : Calls Tryd.prog 24 #[.agg #[.int .i64 a, .int .i64 b], .int .i64 n] w0 fun e w' => e = .returned (.bool (Cal.ct a b n)) ∧ Below w0.heap.size w0 w' := by
  have HV := Lib.hid (show Cal.ct a b n = false by simp [Cal.ct]; omega)
  have _ : decide (a ≤ n) = true := decide_eq_true (by omega)
  have _ : decide (n < b) = false := decide_eq_false (by omega)
  go_enter Tryd.func24, Tryd.ntmps24
  have Q0 := Lib.hid (Below.refl w0.heap.size w0)
  have hB0 := hB
  go_wp2_with fail
  refine (rvalid_t a b _ hP.1 hP.2.1 hP.2.2).mono ?_
  rintro e w1 ⟨rfl, hb1⟩
  have Q1 := Lib.hid (chain Q0.out (by repeat' (first | (with_reducible exact Below.refl _ _) | (with_reducible assumption) | (with_reducible refine below_drewN ?_ _) | (with_reducible refine Below.alloc ?_ ?_ _) | (with_reducible refine Below.drew ?_) | (with_reducible refine Below.setCell ?_ ?_ _) | go_size)) hb1)
  have hq1 : w0.heap.size ≤ w1.heap.size := Q1.out.size
  have hz1 := hb1.size
  try simp only [World.size_alloc, World.size_setCell, World.size_drew] at hz1
  have hB1 : 0 < w1.heap.size := Nat.lt_of_lt_of_le hB (Q1.out.size)
  have hl1_0 : w0.heap.size < w1.heap.size := by omega
  have hm1_0 : w0.heap.size ≤ w1.heap.size := by omega
  have c1_0_0 : w1.cell? ⟨w0.heap.size, 0, none⟩ = some (.int .i64 a) := by rw [hb1.cell (p := ⟨w0.heap.size, 0, none⟩) (by simp; try omega)]; simp [go_sem, *]
  have f1_0_0 : w1.frozen? ⟨w0.heap.size, 0, none⟩ = false := by rw [hb1.frozen (p := ⟨w0.heap.size, 0, none⟩) (by simp; try omega)]; simp [go_sem, *]
  have c1_0_1 : w1.cell? ⟨w0.heap.size, 1, none⟩ = some (.int .i64 b) := by rw [hb1.cell (p := ⟨w0.heap.size, 1, none⟩) (by simp; try omega)]; simp [go_sem, *]
  have f1_0_1 : w1.frozen? ⟨w0.heap.size, 1, none⟩ = false := by rw [hb1.frozen (p := ⟨w0.heap.size, 1, none⟩) (by simp; try omega)]; simp [go_sem, *]
  clear hb1
  go_wp2
  go_ret
  exact ⟨ret_bool HV.out.symm, Below.trans Q1.out (by repeat' (first | (with_reducible exact Below.refl _ _) | (with_reducible assumption) | (with_reducible refine below_drewN ?_ _) | (with_reducible refine Below.alloc ?_ ?_ _) | (with_reducible refine Below.drew ?_) | (with_reducible refine Below.setCell ?_ ?_ _) | go_size))⟩

set_option maxHeartbeats 1000000 in
theorem rcontains_3 (a b n : Int) (w0 : World) (hB : 0 < w0.heap.size) (hP : 0 ≤ a ∧ a < b ∧ b ≤ 876600) (h1 : a ≤ n) (h2 : n < b) : Calls Tryd.prog 24 #[.agg #[.int .i64 a, .int .i64 b], .int .i64 n] w0 fun e w' => e = .returned (.bool (Cal.ct a b n)) ∧ Below w0.heap.size w0 w' := by
  have HV := Lib.hid (show Cal.ct a b n = true by simp [Cal.ct, Cal.vp_t hP]; omega)
  have _ : decide (a ≤ n) = true := decide_eq_true (by omega)
  have _ : decide (n < b) = true := decide_eq_true (by omega)
  go_enter Tryd.func24, Tryd.ntmps24
  have Q0 := Lib.hid (Below.refl w0.heap.size w0)
  have hB0 := hB
  go_wp2_with fail
  refine (rvalid_t a b _ hP.1 hP.2.1 hP.2.2).mono ?_
  rintro e w1 ⟨rfl, hb1⟩
  have Q1 := Lib.hid (chain Q0.out (by repeat' (first | (with_reducible exact Below.refl _ _) | (with_reducible assumption) | (with_reducible refine below_drewN ?_ _) | (with_reducible refine Below.alloc ?_ ?_ _) | (with_reducible refine Below.drew ?_) | (with_reducible refine Below.setCell ?_ ?_ _) | go_size)) hb1)
  have hq1 : w0.heap.size ≤ w1.heap.size := Q1.out.size
  have hz1 := hb1.size
  try simp only [World.size_alloc, World.size_setCell, World.size_drew] at hz1
  have hB1 : 0 < w1.heap.size := Nat.lt_of_lt_of_le hB (Q1.out.size)
  have hl1_0 : w0.heap.size < w1.heap.size := by omega
  have hm1_0 : w0.heap.size ≤ w1.heap.size := by omega
  have c1_0_0 : w1.cell? ⟨w0.heap.size, 0, none⟩ = some (.int .i64 a) := by rw [hb1.cell (p := ⟨w0.heap.size, 0, none⟩) (by simp; try omega)]; simp [go_sem, *]
  have f1_0_0 : w1.frozen? ⟨w0.heap.size, 0, none⟩ = false := by rw [hb1.frozen (p := ⟨w0.heap.size, 0, none⟩) (by simp; try omega)]; simp [go_sem, *]
  have c1_0_1 : w1.cell? ⟨w0.heap.size, 1, none⟩ = some (.int .i64 b) := by rw [hb1.cell (p := ⟨w0.heap.size, 1, none⟩) (by simp; try omega)]; simp [go_sem, *]
  have f1_0_1 : w1.frozen? ⟨w0.heap.size, 1, none⟩ = false := by rw [hb1.frozen (p := ⟨w0.heap.size, 1, none⟩) (by simp; try omega)]; simp [go_sem, *]
  clear hb1
  go_wp2
  go_ret
  exact ⟨ret_bool HV.out.symm, Below.trans Q1.out (by repeat' (first | (with_reducible exact Below.refl _ _) | (with_reducible assumption) | (with_reducible refine below_drewN ?_ _) | (with_reducible refine Below.alloc ?_ ?_ _) | (with_reducible refine Below.drew ?_) | (with_reducible refine Below.setCell ?_ ?_ _) | go_size))⟩

theorem rcontains_any (a b n : Int) (w0 : World) (hB : 0 < w0.heap.size) : Calls Tryd.prog 24 #[.agg #[.int .i64 a, .int .i64 b], .int .i64 n] w0 fun e w' => e = .returned (.bool (Cal.ct a b n)) ∧ Below w0.heap.size w0 w' := by
  by_cases h : 0 ≤ a ∧ a < b ∧ b ≤ 876600
  · rcases Int.lt_or_le n a with k | k
    · exact rcontains_1 a b n w0 hB h k
    rcases Int.lt_or_le n b with q | q
    · exact rcontains_3 a b n w0 hB h k q
    · exact rcontains_2 a b n w0 hB h k q
  · exact rcontains_f a b n w0 hB h

theorem ret_ov {a b a' b' : Int} {o o' : Bool} (h1 : a = a') (h2 : b = b') (h3 : o = o') : Ending.returned (.tuple #[.agg #[.int .i64 a, .int .i64 b], .bool o]) = .returned (.tuple #[.agg #[.int .i64 a', .int .i64 b'], .bool o']) := by rw [h1, h2, h3]
namespace Cal
theorem ov_f {a b c d : Int} (h : ¬ ((0 ≤ a ∧ a < b ∧ b ≤ 876600) ∧ (0 ≤ c ∧ c < d ∧ d ≤ 876600) ∧ max a c < min b d)) : ovA a b c d = 0 ∧ ovB a b c d = 0 ∧ ovOk a b c d = false := by
  have : ovOk a b c d = false := by
    rw [← Bool.not_eq_true]; intro q; simp only [ovOk, Bool.and_eq_true, vp_iff, decide_eq_true_eq] at q; exact h ⟨q.1.1, q.1.2, q.2⟩
  simp [ovA, ovB, this]
theorem ov_t {a b c d : Int} (h : (0 ≤ a ∧ a < b ∧ b ≤ 876600) ∧ (0 ≤ c ∧ c < d ∧ d ≤ 876600) ∧ max a c < min b d) : ovA a b c d = max a c ∧ ovB a b c d = min b d ∧ ovOk a b c d = true := by
  have : ovOk a b c d = true := by simp only [ovOk, Bool.and_eq_true, vp_iff, decide_eq_true_eq]; exact ⟨⟨h.1, h.2.1⟩, h.2.2⟩
  simp only [ovA, ovB, this, if_true, and_self]
end Cal

set_option maxHeartbeats 1000000 in
theorem overlap_1 (a b c d : Int) (w0 : World) (hB : 0 < w0.heap.size) (hP : ¬ (0 ≤ a ∧ a < b ∧ b ≤ 876600)) : Calls Tryd.prog 25 #[.agg #[.int .i64 a, .int .i64 b], .agg #[.int .i64 c, .int .i64 d]] w0 fun e w' => e = .returned (.tuple #[.agg #[.int .i64 (Cal.ovA a b c d), .int .i64 (Cal.ovB a b c d)], .bool (Cal.ovOk a b c d)]) ∧ Below w0.heap.size w0 w' := by
  have HV := Lib.hid (Cal.ov_f (a := a) (b := b) (c := c) (d := d) (fun q => hP q.1))
  go_enter Tryd.func25, Tryd.ntmps25
  have Q0 := Lib.hid (Below.refl w0.heap.size w0)
  have hB0 := hB
  go_wp2_with fail
  refine (valid_f a b _ hP).mono ?_
  rintro e w1 ⟨rfl, hb1⟩
  have Q1 := Lib.hid (chain Q0.out (by repeat' (first | (with_reducible exact Below.refl _ _) | (with_reducible assumption) | (with_reducible refine below_drewN ?_ _) | (with_reducible refine Below.alloc ?_ ?_ _) | (with_reducible refine Below.drew ?_) | (with_reducible refine Below.setCell ?_ ?_ _) | go_size)) hb1)
  have hq1 : w0.heap.size ≤ w1.heap.size := Q1.out.size
  have hz1 := hb1.size
  try simp only [World.size_alloc, World.size_setCell, World.size_drew] at hz1
  have hB1 : 0 < w1.heap.size := Nat.lt_of_lt_of_le hB (Q1.out.size)
  have hl1_0 : w0.heap.size < w1.heap.size := by omega
  have hm1_0 : w0.heap.size ≤ w1.heap.size := by omega
  have c1_0_0 : w1.cell? ⟨w0.heap.size, 0, none⟩ = some (.int .i64 a) := by rw [hb1.cell (p := ⟨w0.heap.size, 0, none⟩) (by simp; try omega)]; simp [go_sem, *]
  have f1_0_0 : w1.frozen? ⟨w0.heap.size, 0, none⟩ = false := by rw [hb1.frozen (p := ⟨w0.heap.size, 0, none⟩) (by simp; try omega)]; simp [go_sem, *]
  have c1_0_1 : w1.cell? ⟨w0.heap.size, 1, none⟩ = some (.int .i64 b) := by rw [hb1.cell (p := ⟨w0.heap.size, 1, none⟩) (by simp; try omega)]; simp [go_sem, *]
  have f1_0_1 : w1.frozen? ⟨w0.heap.size, 1, none⟩ = false := by rw [hb1.frozen (p := ⟨w0.heap.size, 1, none⟩) (by simp; try omega)]; simp [go_sem, *]
  have hl1_1 : w0.heap.size + 1 < w1.heap.size := by omega
  have hm1_1 : w0.heap.size + 1 ≤ w1.heap.size := by omega
  have c1_1_0 : w1.cell? ⟨w0.heap.size + 1, 0, none⟩ = some (.int .i64 c) := by rw [hb1.cell (p := ⟨w0.heap.size + 1, 0, none⟩) (by simp; try omega)]; simp [go_sem, *]
  have f1_1_0 : w1.frozen? ⟨w0.heap.size + 1, 0, none⟩ = false := by rw [hb1.frozen (p := ⟨w0.heap.size + 1, 0, none⟩) (by simp; try omega)]; simp [go_sem, *]
  have c1_1_1 : w1.cell? ⟨w0.heap.size + 1, 1, none⟩ = some (.int .i64 d) := by rw [hb1.cell (p := ⟨w0.heap.size + 1, 1, none⟩) (by simp; try omega)]; simp [go_sem, *]
  have f1_1_1 : w1.frozen? ⟨w0.heap.size + 1, 1, none⟩ = false := by rw [hb1.frozen (p := ⟨w0.heap.size + 1, 1, none⟩) (by simp; try omega)]; simp [go_sem, *]
  have hl1_2 : w0.heap.size + 1 + 1 < w1.heap.size := by omega
  have hm1_2 : w0.heap.size + 1 + 1 ≤ w1.heap.size := by omega
  have c1_2_0 : w1.cell? ⟨w0.heap.size + 1 + 1, 0, none⟩ = some (.int .i64 0) := by rw [hb1.cell (p := ⟨w0.heap.size + 1 + 1, 0, none⟩) (by simp; try omega)]; simp [go_sem, *]
  have f1_2_0 : w1.frozen? ⟨w0.heap.size + 1 + 1, 0, none⟩ = false := by rw [hb1.frozen (p := ⟨w0.heap.size + 1 + 1, 0, none⟩) (by simp; try omega)]; simp [go_sem, *]
  have c1_2_1 : w1.cell? ⟨w0.heap.size + 1 + 1, 1, none⟩ = some (.int .i64 0) := by rw [hb1.cell (p := ⟨w0.heap.size + 1 + 1, 1, none⟩) (by simp; try omega)]; simp [go_sem, *]
  have f1_2_1 : w1.frozen? ⟨w0.heap.size + 1 + 1, 1, none⟩ = false := by rw [hb1.frozen (p := ⟨w0.heap.size + 1 + 1, 1, none⟩) (by simp; try omega)]; simp [go_sem, *]
  clear hb1
  go_wp2
  all_goals (refine bodyPost_ret (v := .tuple #[.agg #[.int .i64 0, .int .i64 0], .bool false]) ?_ rfl ?_; (focus (simp [results, Tryd.results25, go_sem, *]; done)); exact ⟨ret_ov (by have := HV.out.1; omega) (by have := HV.out.2.1; omega) HV.out.2.2.symm, Below.trans Q1.out (by repeat' (first | (with_reducible exact Below.refl _ _) | (with_reducible assumption) | (with_reducible refine below_drewN ?_ _) | (with_reducible refine Below.alloc ?_ ?_ _) | (with_reducible refine Below.drew ?_) | (with_reducible refine Below.setCell ?_ ?_ _) | go_size))⟩)

set_option maxHeartbeats 1000000 in
theorem overlap_2 (a b c d : Int) (w0 : World) (hB : 0 < w0.heap.size) (hP : 0 ≤ a ∧ a < b ∧ b ≤ 876600) (hQ : ¬ (0 ≤ c ∧ c < d ∧ d ≤ 876600)) : Calls Tryd.prog 25 #[.agg #[.int .i64 a, .int .i64 b], .agg #[.int .i64 c, .int .i64 d]] w0 fun e w' => e = .returned (.tuple #[.agg #[.int .i64 (Cal.ovA a b c d), .int .i64 (Cal.ovB a b c d)], .bool (Cal.ovOk a b c d)]) ∧ Below w0.heap.size w0 w' := by
  have HV := Lib.hid (Cal.ov_f (a := a) (b := b) (c := c) (d := d) (fun q => hQ q.2.1))
  go_enter Tryd.func25, Tryd.ntmps25
  have Q0 := Lib.hid (Below.refl w0.heap.size w0)
  have hB0 := hB
  go_wp2_with fail
  refine (valid_t a b _ hP.1 hP.2.1 hP.2.2).mono ?_
  rintro e w1 ⟨rfl, hb1⟩
  have Q1 := Lib.hid (chain Q0.out (by repeat' (first | (with_reducible exact Below.refl _ _) | (with_reducible assumption) | (with_reducible refine below_drewN ?_ _) | (with_reducible refine Below.alloc ?_ ?_ _) | (with_reducible refine Below.drew ?_) | (with_reducible refine Below.setCell ?_ ?_ _) | go_size)) hb1)
  have hq1 : w0.heap.size ≤ w1.heap.size := Q1.out.size
  have hz1 := hb1.size
  try simp only [World.size_alloc, World.size_setCell, World.size_drew] at hz1
  have hB1 : 0 < w1.heap.size := Nat.lt_of_lt_of_le hB (Q1.out.size)
  have hl1_0 : w0.heap.size < w1.heap.size := by omega
  have hm1_0 : w0.heap.size ≤ w1.heap.size := by omega
  have c1_0_0 : w1.cell? ⟨w0.heap.size, 0, none⟩ = some (.int .i64 a) := by rw [hb1.cell (p := ⟨w0.heap.size, 0, none⟩) (by simp; try omega)]; simp [go_sem, *]
  have f1_0_0 : w1.frozen? ⟨w0.heap.size, 0, none⟩ = false := by rw [hb1.frozen (p := ⟨w0.heap.size, 0, none⟩) (by simp; try omega)]; simp [go_sem, *]
  have c1_0_1 : w1.cell? ⟨w0.heap.size, 1, none⟩ = some (.int .i64 b) := by rw [hb1.cell (p := ⟨w0.heap.size, 1, none⟩) (by simp; try omega)]; simp [go_sem, *]
  have f1_0_1 : w1.frozen? ⟨w0.heap.size, 1, none⟩ = false := by rw [hb1.frozen (p := ⟨w0.heap.size, 1, none⟩) (by simp; try omega)]; simp [go_sem, *]
  have hl1_1 : w0.heap.size + 1 < w1.heap.size := by omega
  have hm1_1 : w0.heap.size + 1 ≤ w1.heap.size := by omega
  have c1_1_0 : w1.cell? ⟨w0.heap.size + 1, 0, none⟩ = some (.int .i64 c) := by rw [hb1.cell (p := ⟨w0.heap.size + 1, 0, none⟩) (by simp; try omega)]; simp [go_sem, *]
  have f1_1_0 : w1.frozen? ⟨w0.heap.size + 1, 0, none⟩ = false := by rw [hb1.frozen (p := ⟨w0.heap.size + 1, 0, none⟩) (by simp; try omega)]; simp [go_sem, *]
  have c1_1_1 : w1.cell? ⟨w0.heap.size + 1, 1, none⟩ = some (.int .i64 d) := by rw [hb1.cell (p := ⟨w0.heap.size + 1, 1, none⟩) (by simp; try omega)]; simp [go_sem, *]
  have f1_1_1 : w1.frozen? ⟨w0.heap.size + 1, 1, none⟩ = false := by rw [hb1.frozen (p := ⟨w0.heap.size + 1, 1, none⟩) (by simp; try omega)]; simp [go_sem, *]
  have hl1_2 : w0.heap.size + 1 + 1 < w1.heap.size := by omega
  have hm1_2 : w0.heap.size + 1 + 1 ≤ w1.heap.size := by omega
  have c1_2_0 : w1.cell? ⟨w0.heap.size + 1 + 1, 0, none⟩ = some (.int .i64 0) := by rw [hb1.cell (p := ⟨w0.heap.size + 1 + 1, 0, none⟩) (by simp; try omega)]; simp [go_sem, *]
  have f1_2_0 : w1.frozen? ⟨w0.heap.size + 1 + 1, 0, none⟩ = false := by rw [hb1.frozen (p := ⟨w0.heap.size + 1 + 1, 0, none⟩) (by simp; try omega)]; simp [go_sem, *]
  have c1_2_1 : w1.cell? ⟨w0.heap.size + 1 + 1, 1, none⟩ = some (.int .i64 0) := by rw [hb1.cell (p := ⟨w0.heap.size + 1 + 1, 1, none⟩) (by simp; try omega)]; simp [go_sem, *]
  have f1_2_1 : w1.frozen? ⟨w0.heap.size + 1 + 1, 1, none⟩ = false := by rw [hb1.frozen (p := ⟨w0.heap.size + 1 + 1, 1, none⟩) (by simp; try omega)]; simp [go_sem, *]
  clear hb1
  go_wp2_with fail
  refine (valid_f c d _ hQ).mono ?_
  rintro e w2 ⟨rfl, hb2⟩
  have Q2 := Lib.hid (chain Q1.out (by repeat' (first | (with_reducible exact Below.refl _ _) | (with_reducible assumption) | (with_reducible refine below_drewN ?_ _) | (with_reducible refine Below.alloc ?_ ?_ _) | (with_reducible refine Below.drew ?_) | (with_reducible refine Below.setCell ?_ ?_ _) | go_size)) hb2)
  have hq2 : w0.heap.size ≤ w2.heap.size := Q2.out.size
  have hz2 := hb2.size
  try simp only [World.size_alloc, World.size_setCell, World.size_drew] at hz2
  have hB2 : 0 < w2.heap.size := Nat.lt_of_lt_of_le hB (Q2.out.size)
  have hl2_0 : w0.heap.size < w2.heap.size := by omega
  have hm2_0 : w0.heap.size ≤ w2.heap.size := by omega
  have c2_0_0 : w2.cell? ⟨w0.heap.size, 0, none⟩ = some (.int .i64 a) := by rw [hb2.cell (p := ⟨w0.heap.size, 0, none⟩) (by simp; try omega)]; simp [go_sem, *]
  have f2_0_0 : w2.frozen? ⟨w0.heap.size, 0, none⟩ = false := by rw [hb2.frozen (p := ⟨w0.heap.size, 0, none⟩) (by simp; try omega)]; simp [go_sem, *]
  have c2_0_1 : w2.cell? ⟨w0.heap.size, 1, none⟩ = some (.int .i64 b) := by rw [hb2.cell (p := ⟨w0.heap.size, 1, none⟩) (by simp; try omega)]; simp [go_sem, *]
  have f2_0_1 : w2.frozen? ⟨w0.heap.size, 1, none⟩ = false := by rw [hb2.frozen (p := ⟨w0.heap.size, 1, none⟩) (by simp; try omega)]; simp [go_sem, *]
  have hl2_1 : w0.heap.size + 1 < w2.heap.size := by omega
  have hm2_1 : w0.heap.size + 1 ≤ w2.heap.size := by omega
  have c2_1_0 : w2.cell? ⟨w0.heap.size + 1, 0, none⟩ = some (.int .i64 c) := by rw [hb2.cell (p := ⟨w0.heap.size + 1, 0, none⟩) (by simp; try omega)]; simp [go_sem, *]
  have f2_1_0 : w2.frozen? ⟨w0.heap.size + 1, 0, none⟩ = false := by rw [hb2.frozen (p := ⟨w0.heap.size + 1, 0, none⟩) (by simp; try omega)]; simp [go_sem, *]
  have c2_1_1 : w2.cell? ⟨w0.heap.size + 1, 1, none⟩ = some (.int .i64 d) := by rw [hb2.cell (p := ⟨w0.heap.size + 1, 1, none⟩) (by simp; try omega)]; simp [go_sem, *]
  have f2_1_1 : w2.frozen? ⟨w0.heap.size + 1, 1, none⟩ = false := by rw [hb2.frozen (p := ⟨w0.heap.size + 1, 1, none⟩) (by simp; try omega)]; simp [go_sem, *]
  have hl2_2 : w0.heap.size + 1 + 1 < w2.heap.size := by omega
  have hm2_2 : w0.heap.size + 1 + 1 ≤ w2.heap.size := by omega
  have c2_2_0 : w2.cell? ⟨w0.heap.size + 1 + 1, 0, none⟩ = some (.int .i64 0) := by rw [hb2.cell (p := ⟨w0.heap.size + 1 + 1, 0, none⟩) (by simp; try omega)]; simp [go_sem, *]
  have f2_2_0 : w2.frozen? ⟨w0.heap.size + 1 + 1, 0, none⟩ = false := by rw [hb2.frozen (p := ⟨w0.heap.size + 1 + 1, 0, none⟩) (by simp; try omega)]; simp [go_sem, *]
  have c2_2_1 : w2.cell? ⟨w0.heap.size + 1 + 1, 1, none⟩ = some (.int .i64 0) := by rw [hb2.cell (p := ⟨w0.heap.size + 1 + 1, 1, none⟩) (by simp; try omega)]; simp [go_sem, *]
  have f2_2_1 : w2.frozen? ⟨w0.heap.size + 1 + 1, 1, none⟩ = false := by rw [hb2.frozen (p := ⟨w0.heap.size + 1 + 1, 1, none⟩) (by simp; try omega)]; simp [go_sem, *]
  clear hb2
  go_wp2
  all_goals (refine bodyPost_ret (v := .tuple #[.agg #[.int .i64 0, .int .i64 0], .bool false]) ?_ rfl ?_; (focus (simp [results, Tryd.results25, go_sem, *]; done)); exact ⟨ret_ov (by have := HV.out.1; omega) (by have := HV.out.2.1; omega) HV.out.2.2.symm, Below.trans Q2.out (by repeat' (first | (with_reducible exact Below.refl _ _) | (with_reducible assumption) | (with_reducible refine below_drewN ?_ _) | (with_reducible refine Below.alloc ?_ ?_ _) | (with_reducible refine Below.drew ?_) | (with_reducible refine Below.setCell ?_ ?_ _) | go_size))⟩)

set_option maxHeartbeats 1000000 in
theorem overlap_3 (a b c d : Int) (w0 : World) (hB : 0 < w0.heap.size) (hP : 0 ≤ a ∧ a < b ∧ b ≤ 876600) (hQ : 0 ≤ c ∧ c < d ∧ d ≤ 876600) (q : ¬ max a c < min b d) : Calls Tryd.prog 25 #[.agg #[.int .i64 a, .int .i64 b], .agg #[.int .i64 c, .int .i64 d]] w0 fun e w' => e = .returned (.tuple #[.agg #[.int .i64 (Cal.ovA a b c d), .int .i64 (Cal.ovB a b c d)], .bool (Cal.ovOk a b c d)]) ∧ Below w0.heap.size w0 w' := by
  have HV := Lib.hid (Cal.ov_f (a := a) (b := b) (c := c) (d := d) (fun z => q z.2.2))
  go_enter Tryd.func25, Tryd.ntmps25
  have Q0 := Lib.hid (Below.refl w0.heap.size w0)
  have hB0 := hB
  go_wp2_with fail
  refine (valid_t a b _ hP.1 hP.2.1 hP.2.2).mono ?_
  rintro e w1 ⟨rfl, hb1⟩
  have Q1 := Lib.hid (chain Q0.out (by repeat' (first | (with_reducible exact Below.refl _ _) | (with_reducible assumption) | (with_reducible refine below_drewN ?_ _) | (with_reducible refine Below.alloc ?_ ?_ _) | (with_reducible refine Below.drew ?_) | (with_reducible refine Below.setCell ?_ ?_ _) | go_size)) hb1)
  have hq1 : w0.heap.size ≤ w1.heap.size := Q1.out.size
  have hz1 := hb1.size
  try simp only [World.size_alloc, World.size_setCell, World.size_drew] at hz1
  have hB1 : 0 < w1.heap.size := Nat.lt_of_lt_of_le hB (Q1.out.size)
  have hl1_0 : w0.heap.size < w1.heap.size := by omega
  have hm1_0 : w0.heap.size ≤ w1.heap.size := by omega
  have c1_0_0 : w1.cell? ⟨w0.heap.size, 0, none⟩ = some (.int .i64 a) := by rw [hb1.cell (p := ⟨w0.heap.size, 0, none⟩) (by simp; try omega)]; simp [go_sem, *]
  have f1_0_0 : w1.frozen? ⟨w0.heap.size, 0, none⟩ = false := by rw [hb1.frozen (p := ⟨w0.heap.size, 0, none⟩) (by simp; try omega)]; simp [go_sem, *]
  have c1_0_1 : w1.cell? ⟨w0.heap.size, 1, none⟩ = some (.int .i64 b) := by rw [hb1.cell (p := ⟨w0.heap.size, 1, none⟩) (by simp; try omega)]; simp [go_sem, *]
  have f1_0_1 : w1.frozen? ⟨w0.heap.size, 1, none⟩ = false := by rw [hb1.frozen (p := ⟨w0.heap.size, 1, none⟩) (by simp; try omega)]; simp [go_sem, *]
  have hl1_1 : w0.heap.size + 1 < w1.heap.size := by omega
  have hm1_1 : w0.heap.size + 1 ≤ w1.heap.size := by omega
  have c1_1_0 : w1.cell? ⟨w0.heap.size + 1, 0, none⟩ = some (.int .i64 c) := by rw [hb1.cell (p := ⟨w0.heap.size + 1, 0, none⟩) (by simp; try omega)]; simp [go_sem, *]
  have f1_1_0 : w1.frozen? ⟨w0.heap.size + 1, 0, none⟩ = false := by rw [hb1.frozen (p := ⟨w0.heap.size + 1, 0, none⟩) (by simp; try omega)]; simp [go_sem, *]
  have c1_1_1 : w1.cell? ⟨w0.heap.size + 1, 1, none⟩ = some (.int .i64 d) := by rw [hb1.cell (p := ⟨w0.heap.size + 1, 1, none⟩) (by simp; try omega)]; simp [go_sem, *]
  have f1_1_1 : w1.frozen? ⟨w0.heap.size + 1, 1, none⟩ = false := by rw [hb1.frozen (p := ⟨w0.heap.size + 1, 1, none⟩) (by simp; try omega)]; simp [go_sem, *]
  have hl1_2 : w0.heap.size + 1 + 1 < w1.heap.size := by omega
  have hm1_2 : w0.heap.size + 1 + 1 ≤ w1.heap.size := by omega
  have c1_2_0 : w1.cell? ⟨w0.heap.size + 1 + 1, 0, none⟩ = some (.int .i64 0) := by rw [hb1.cell (p := ⟨w0.heap.size + 1 + 1, 0, none⟩) (by simp; try omega)]; simp [go_sem, *]
  have f1_2_0 : w1.frozen? ⟨w0.heap.size + 1 + 1, 0, none⟩ = false := by rw [hb1.frozen (p := ⟨w0.heap.size + 1 + 1, 0, none⟩) (by simp; try omega)]; simp [go_sem, *]
  have c1_2_1 : w1.cell? ⟨w0.heap.size + 1 + 1, 1, none⟩ = some (.int .i64 0) := by rw [hb1.cell (p := ⟨w0.heap.size + 1 + 1, 1, none⟩) (by simp; try omega)]; simp [go_sem, *]
  have f1_2_1 : w1.frozen? ⟨w0.heap.size + 1 + 1, 1, none⟩ = false := by rw [hb1.frozen (p := ⟨w0.heap.size + 1 + 1, 1, none⟩) (by simp; try omega)]; simp [go_sem, *]
  clear hb1
  go_wp2_with fail
  refine (valid_t c d _ hQ.1 hQ.2.1 hQ.2.2).mono ?_
  rintro e w2 ⟨rfl, hb2⟩
  have Q2 := Lib.hid (chain Q1.out (by repeat' (first | (with_reducible exact Below.refl _ _) | (with_reducible assumption) | (with_reducible refine below_drewN ?_ _) | (with_reducible refine Below.alloc ?_ ?_ _) | (with_reducible refine Below.drew ?_) | (with_reducible refine Below.setCell ?_ ?_ _) | go_size)) hb2)
  have hq2 : w0.heap.size ≤ w2.heap.size := Q2.out.size
  have hz2 := hb2.size
  try simp only [World.size_alloc, World.size_setCell, World.size_drew] at hz2
  have hB2 : 0 < w2.heap.size := Nat.lt_of_lt_of_le hB (Q2.out.size)
  have hl2_0 : w0.heap.size < w2.heap.size := by omega
  have hm2_0 : w0.heap.size ≤ w2.heap.size := by omega
  have c2_0_0 : w2.cell? ⟨w0.heap.size, 0, none⟩ = some (.int .i64 a) := by rw [hb2.cell (p := ⟨w0.heap.size, 0, none⟩) (by simp; try omega)]; simp [go_sem, *]
  have f2_0_0 : w2.frozen? ⟨w0.heap.size, 0, none⟩ = false := by rw [hb2.frozen (p := ⟨w0.heap.size, 0, none⟩) (by simp; try omega)]; simp [go_sem, *]
  have c2_0_1 : w2.cell? ⟨w0.heap.size, 1, none⟩ = some (.int .i64 b) := by rw [hb2.cell (p := ⟨w0.heap.size, 1, none⟩) (by simp; try omega)]; simp [go_sem, *]
  have f2_0_1 : w2.frozen? ⟨w0.heap.size, 1, none⟩ = false := by rw [hb2.frozen (p := ⟨w0.heap.size, 1, none⟩) (by simp; try omega)]; simp [go_sem, *]
  have hl2_1 : w0.heap.size + 1 < w2.heap.size := by omega
  have hm2_1 : w0.heap.size + 1 ≤ w2.heap.size := by omega
  have c2_1_0 : w2.cell? ⟨w0.heap.size + 1, 0, none⟩ = some (.int .i64 c) := by rw [hb2.cell (p := ⟨w0.heap.size + 1, 0, none⟩) (by simp; try omega)]; simp [go_sem, *]
  have f2_1_0 : w2.frozen? ⟨w0.heap.size + 1, 0, none⟩ = false := by rw [hb2.frozen (p := ⟨w0.heap.size + 1, 0, none⟩) (by simp; try omega)]; simp [go_sem, *]
  have c2_1_1 : w2.cell? ⟨w0.heap.size + 1, 1, none⟩ = some (.int .i64 d) := by rw [hb2.cell (p := ⟨w0.heap.size + 1, 1, none⟩) (by simp; try omega)]; simp [go_sem, *]
  have f2_1_1 : w2.frozen? ⟨w0.heap.size + 1, 1, none⟩ = false := by rw [hb2.frozen (p := ⟨w0.heap.size + 1, 1, none⟩) (by simp; try omega)]; simp [go_sem, *]
  have hl2_2 : w0.heap.size + 1 + 1 < w2.heap.size := by omega
  have hm2_2 : w0.heap.size + 1 + 1 ≤ w2.heap.size := by omega
  have c2_2_0 : w2.cell? ⟨w0.heap.size + 1 + 1, 0, none⟩ = some (.int .i64 0) := by rw [hb2.cell (p := ⟨w0.heap.size + 1 + 1, 0, none⟩) (by simp; try omega)]; simp [go_sem, *]
  have f2_2_0 : w2.frozen? ⟨w0.heap.size + 1 + 1, 0, none⟩ = false := by rw [hb2.frozen (p := ⟨w0.heap.size + 1 + 1, 0, none⟩) (by simp; try omega)]; simp [go_sem, *]
  have c2_2_1 : w2.cell? ⟨w0.heap.size + 1 + 1, 1, none⟩ = some (.int .i64 0) := by rw [hb2.cell (p := ⟨w0.heap.size + 1 + 1, 1, none⟩) (by simp; try omega)]; simp [go_sem, *]
  have f2_2_1 : w2.frozen? ⟨w0.heap.size + 1 + 1, 1, none⟩ = false := by rw [hb2.frozen (p := ⟨w0.heap.size + 1 + 1, 1, none⟩) (by simp; try omega)]; simp [go_sem, *]
  clear hb2
  go_wp2
  all_goals (refine bodyPost_ret (v := .tuple #[.agg #[.int .i64 0, .int .i64 0], .bool false]) ?_ rfl ?_; (focus (simp [results, Tryd.results25, go_sem, *]; done)); exact ⟨ret_ov (by have := HV.out.1; omega) (by have := HV.out.2.1; omega) HV.out.2.2.symm, Below.trans Q2.out (by repeat' (first | (with_reducible exact Below.refl _ _) | (with_reducible assumption) | (with_reducible refine below_drewN ?_ _) | (with_reducible refine Below.alloc ?_ ?_ _) | (with_reducible refine Below.drew ?_) | (with_reducible refine Below.setCell ?_ ?_ _) | go_size))⟩)

set_option maxHeartbeats 1000000 in
theorem overlap_4 (a b c d : Int) (w0 : World) (hB : 0 < w0.heap.size) (hP : 0 ≤ a ∧ a < b ∧ b ≤ 876600) (hQ : 0 ≤ c ∧ c < d ∧ d ≤ 876600) (q : max a c < min b d) : Calls Tryd.prog 25 #[.agg #[.int .i64 a, .int .i64 b], .agg #[.int .i64 c, .int .i64 d]] w0 fun e w' => e = .returned (.tuple #[.agg #[.int .i64 (Cal.ovA a b c d), .int .i64 (Cal.ovB a b c d)], .bool (Cal.ovOk a b c d)]) ∧ Below w0.heap.size w0 w' := by
  have HV := Lib.hid (Cal.ov_t ⟨hP, hQ, q⟩)
  go_enter Tryd.func25, Tryd.ntmps25
  have Q0 := Lib.hid (Below.refl w0.heap.size w0)
  have hB0 := hB
  go_wp2_with fail
  refine (valid_t a b _ hP.1 hP.2.1 hP.2.2).mono ?_
  rintro e w1 ⟨rfl, hb1⟩
  have Q1 := Lib.hid (chain Q0.out (by repeat' (first | (with_reducible exact Below.refl _ _) | (with_reducible assumption) | (with_reducible refine below_drewN ?_ _) | (with_reducible refine Below.alloc ?_ ?_ _) | (with_reducible refine Below.drew ?_) | (with_reducible refine Below.setCell ?_ ?_ _) | go_size)) hb1)
  have hq1 : w0.heap.size ≤ w1.heap.size := Q1.out.size
  have hz1 := hb1.size
  try simp only [World.size_alloc, World.size_setCell, World.size_drew] at hz1
  have hB1 : 0 < w1.heap.size := Nat.lt_of_lt_of_le hB (Q1.out.size)
  have hl1_0 : w0.heap.size < w1.heap.size := by omega
  have hm1_0 : w0.heap.size ≤ w1.heap.size := by omega
  have c1_0_0 : w1.cell? ⟨w0.heap.size, 0, none⟩ = some (.int .i64 a) := by rw [hb1.cell (p := ⟨w0.heap.size, 0, none⟩) (by simp; try omega)]; simp [go_sem, *]
  have f1_0_0 : w1.frozen? ⟨w0.heap.size, 0, none⟩ = false := by rw [hb1.frozen (p := ⟨w0.heap.size, 0, none⟩) (by simp; try omega)]; simp [go_sem, *]
  have c1_0_1 : w1.cell? ⟨w0.heap.size, 1, none⟩ = some (.int .i64 b) := by rw [hb1.cell (p := ⟨w0.heap.size, 1, none⟩) (by simp; try omega)]; simp [go_sem, *]
  have f1_0_1 : w1.frozen? ⟨w0.heap.size, 1, none⟩ = false := by rw [hb1.frozen (p := ⟨w0.heap.size, 1, none⟩) (by simp; try omega)]; simp [go_sem, *]
  have hl1_1 : w0.heap.size + 1 < w1.heap.size := by omega
  have hm1_1 : w0.heap.size + 1 ≤ w1.heap.size := by omega
  have c1_1_0 : w1.cell? ⟨w0.heap.size + 1, 0, none⟩ = some (.int .i64 c) := by rw [hb1.cell (p := ⟨w0.heap.size + 1, 0, none⟩) (by simp; try omega)]; simp [go_sem, *]
  have f1_1_0 : w1.frozen? ⟨w0.heap.size + 1, 0, none⟩ = false := by rw [hb1.frozen (p := ⟨w0.heap.size + 1, 0, none⟩) (by simp; try omega)]; simp [go_sem, *]
  have c1_1_1 : w1.cell? ⟨w0.heap.size + 1, 1, none⟩ = some (.int .i64 d) := by rw [hb1.cell (p := ⟨w0.heap.size + 1, 1, none⟩) (by simp; try omega)]; simp [go_sem, *]
  have f1_1_1 : w1.frozen? ⟨w0.heap.size + 1, 1, none⟩ = false := by rw [hb1.frozen (p := ⟨w0.heap.size + 1, 1, none⟩) (by simp; try omega)]; simp [go_sem, *]
  have hl1_2 : w0.heap.size + 1 + 1 < w1.heap.size := by omega
  have hm1_2 : w0.heap.size + 1 + 1 ≤ w1.heap.size := by omega
  have c1_2_0 : w1.cell? ⟨w0.heap.size + 1 + 1, 0, none⟩ = some (.int .i64 0) := by rw [hb1.cell (p := ⟨w0.heap.size + 1 + 1, 0, none⟩) (by simp; try omega)]; simp [go_sem, *]
  have f1_2_0 : w1.frozen? ⟨w0.heap.size + 1 + 1, 0, none⟩ = false := by rw [hb1.frozen (p := ⟨w0.heap.size + 1 + 1, 0, none⟩) (by simp; try omega)]; simp [go_sem, *]
  have c1_2_1 : w1.cell? ⟨w0.heap.size + 1 + 1, 1, none⟩ = some (.int .i64 0) := by rw [hb1.cell (p := ⟨w0.heap.size + 1 + 1, 1, none⟩) (by simp; try omega)]; simp [go_sem, *]
  have f1_2_1 : w1.frozen? ⟨w0.heap.size + 1 + 1, 1, none⟩ = false := by rw [hb1.frozen (p := ⟨w0.heap.size + 1 + 1, 1, none⟩) (by simp; try omega)]; simp [go_sem, *]
  clear hb1
  go_wp2_with fail
  refine (valid_t c d _ hQ.1 hQ.2.1 hQ.2.2).mono ?_
  rintro e w2 ⟨rfl, hb2⟩
  have Q2 := Lib.hid (chain Q1.out (by repeat' (first | (with_reducible exact Below.refl _ _) | (with_reducible assumption) | (with_reducible refine below_drewN ?_ _) | (with_reducible refine Below.alloc ?_ ?_ _) | (with_reducible refine Below.drew ?_) | (with_reducible refine Below.setCell ?_ ?_ _) | go_size)) hb2)
  have hq2 : w0.heap.size ≤ w2.heap.size := Q2.out.size
  have hz2 := hb2.size
  try simp only [World.size_alloc, World.size_setCell, World.size_drew] at hz2
  have hB2 : 0 < w2.heap.size := Nat.lt_of_lt_of_le hB (Q2.out.size)
  have hl2_0 : w0.heap.size < w2.heap.size := by omega
  have hm2_0 : w0.heap.size ≤ w2.heap.size := by omega
  have c2_0_0 : w2.cell? ⟨w0.heap.size, 0, none⟩ = some (.int .i64 a) := by rw [hb2.cell (p := ⟨w0.heap.size, 0, none⟩) (by simp; try omega)]; simp [go_sem, *]
  have f2_0_0 : w2.frozen? ⟨w0.heap.size, 0, none⟩ = false := by rw [hb2.frozen (p := ⟨w0.heap.size, 0, none⟩) (by simp; try omega)]; simp [go_sem, *]
  have c2_0_1 : w2.cell? ⟨w0.heap.size, 1, none⟩ = some (.int .i64 b) := by rw [hb2.cell (p := ⟨w0.heap.size, 1, none⟩) (by simp; try omega)]; simp [go_sem, *]
  have f2_0_1 : w2.frozen? ⟨w0.heap.size, 1, none⟩ = false := by rw [hb2.frozen (p := ⟨w0.heap.size, 1, none⟩) (by simp; try omega)]; simp [go_sem, *]
  have hl2_1 : w0.heap.size + 1 < w2.heap.size := by omega
  have hm2_1 : w0.heap.size + 1 ≤ w2.heap.size := by omega
  have c2_1_0 : w2.cell? ⟨w0.heap.size + 1, 0, none⟩ = some (.int .i64 c) := by rw [hb2.cell (p := ⟨w0.heap.size + 1, 0, none⟩) (by simp; try omega)]; simp [go_sem, *]
  have f2_1_0 : w2.frozen? ⟨w0.heap.size + 1, 0, none⟩ = false := by rw [hb2.frozen (p := ⟨w0.heap.size + 1, 0, none⟩) (by simp; try omega)]; simp [go_sem, *]
  have c2_1_1 : w2.cell? ⟨w0.heap.size + 1, 1, none⟩ = some (.int .i64 d) := by rw [hb2.cell (p := ⟨w0.heap.size + 1, 1, none⟩) (by simp; try omega)]; simp [go_sem, *]
  have f2_1_1 : w2.frozen? ⟨w0.heap.size + 1, 1, none⟩ = false := by rw [hb2.frozen (p := ⟨w0.heap.size + 1, 1, none⟩) (by simp; try omega)]; simp [go_sem, *]
  have hl2_2 : w0.heap.size + 1 + 1 < w2.heap.size := by omega
  have hm2_2 : w0.heap.size + 1 + 1 ≤ w2.heap.size := by omega
  have c2_2_0 : w2.cell? ⟨w0.heap.size + 1 + 1, 0, none⟩ = some (.int .i64 0) := by rw [hb2.cell (p := ⟨w0.heap.size + 1 + 1, 0, none⟩) (by simp; try omega)]; simp [go_sem, *]
  have f2_2_0 : w2.frozen? ⟨w0.heap.size + 1 + 1, 0, none⟩ = false := by rw [hb2.frozen (p := ⟨w0.heap.size + 1 + 1, 0, none⟩) (by simp; try omega)]; simp [go_sem, *]
  have c2_2_1 : w2.cell? ⟨w0.heap.size + 1 + 1, 1, none⟩ = some (.int .i64 0) := by rw [hb2.cell (p := ⟨w0.heap.size + 1 + 1, 1, none⟩) (by simp; try omega)]; simp [go_sem, *]
  have f2_2_1 : w2.frozen? ⟨w0.heap.size + 1 + 1, 1, none⟩ = false := by rw [hb2.frozen (p := ⟨w0.heap.size + 1 + 1, 1, none⟩) (by simp; try omega)]; simp [go_sem, *]
  clear hb2
  go_wp2
  all_goals (first | (refine bodyPost_ret (v := .tuple #[.agg #[.int .i64 a, .int .i64 b], .bool true]) ?_ rfl ?_; (focus (simp [results, Tryd.results25, go_sem, *]; done)); exact ⟨ret_ov (by have := HV.out.1; omega) (by have := HV.out.2.1; omega) HV.out.2.2.symm, Below.trans Q2.out (by repeat' (first | (with_reducible exact Below.refl _ _) | (with_reducible assumption) | (with_reducible refine below_drewN ?_ _) | (with_reducible refine Below.alloc ?_ ?_ _) | (with_reducible refine Below.drew ?_) | (with_reducible refine Below.setCell ?_ ?_ _) | go_size))⟩) | (refine bodyPost_ret (v := .tuple #[.agg #[.int .i64 a, .int .i64 d], .bool true]) ?_ rfl ?_; (focus (simp [results, Tryd.results25, go_sem, *]; done)); exact ⟨ret_ov (by have := HV.out.1; omega) (by have := HV.out.2.1; omega) HV.out.2.2.symm, Below.trans Q2.out (by repeat' (first | (with_reducible exact Below.refl _ _) | (with_reducible assumption) | (with_reducible refine below_drewN ?_ _) | (with_reducible refine Below.alloc ?_ ?_ _) | (with_reducible refine Below.drew ?_) | (with_reducible refine Below.setCell ?_ ?_ _) | go_size))⟩) | (refine bodyPost_ret (v := .tuple #[.agg #[.int .i64 c, .int .i64 b], .bool true]) ?_ rfl ?_; (focus (simp [results, Tryd.results25, go_sem, *]; done)); exact ⟨ret_ov (by have := HV.out.1; omega) (by have := HV.out.2.1; omega) HV.out.2.2.symm, Below.trans Q2.out (by repeat' (first | (with_reducible exact Below.refl _ _) | (with_reducible assumption) | (with_reducible refine below_drewN ?_ _) | (with_reducible refine Below.alloc ?_ ?_ _) | (with_reducible refine Below.drew ?_) | (with_reducible refine Below.setCell ?_ ?_ _) | go_size))⟩) | (refine bodyPost_ret (v := .tuple #[.agg #[.int .i64 c, .int .i64 d], .bool true]) ?_ rfl ?_; (focus (simp [results, Tryd.results25, go_sem, *]; done)); exact ⟨ret_ov (by have := HV.out.1; omega) (by have := HV.out.2.1; omega) HV.out.2.2.symm, Below.trans Q2.out (by repeat' (first | (with_reducible exact Below.refl _ _) | (with_reducible assumption) | (with_reducible refine below_drewN ?_ _) | (with_reducible refine Below.alloc ?_ ?_ _) | (with_reducible refine Below.drew ?_) | (with_reducible refine Below.setCell ?_ ?_ _) | go_size))⟩))

theorem overlap_any (a b c d : Int) (w0 : World) (hB : 0 < w0.heap.size) : Calls Tryd.prog 25 #[.agg #[.int .i64 a, .int .i64 b], .agg #[.int .i64 c, .int .i64 d]] w0 fun e w' => e = .returned (.tuple #[.agg #[.int .i64 (Cal.ovA a b c d), .int .i64 (Cal.ovB a b c d)], .bool (Cal.ovOk a b c d)]) ∧ Below w0.heap.size w0 w' := by
  by_cases h : 0 ≤ a ∧ a < b ∧ b ≤ 876600
  · by_cases k : 0 ≤ c ∧ c < d ∧ d ≤ 876600
    · by_cases q : max a c < min b d
      · exact overlap_4 a b c d w0 hB h k q
      · exact overlap_3 a b c d w0 hB h k q
    · exact overlap_2 a b c d w0 hB h k
  · exact overlap_1 a b c d w0 hB h

set_option maxHeartbeats 1000000 in
theorem roverlap_1 (a b c d : Int) (w0 : World) (hB : 0 < w0.heap.size) (hP : ¬ (0 ≤ a ∧ a < b ∧ b ≤ 876600)) : Calls Tryd.prog 26 #[.agg #[.int .i64 a, .int .i64 b], .agg #[.int .i64 c, .int .i64 d]] w0 fun e w' => e = .returned (.tuple #[.agg #[.int .i64 (Cal.ovA a b c d), .int .i64 (Cal.ovB a b c d)], .bool (Cal.ovOk a b c d)]) ∧ Below w0.heap.size w0 w' := by
  have HV := Lib.hid (Cal.ov_f (a := a) (b := b) (c := c) (d := d) (fun q => hP q.1))
  go_enter Tryd.func26, Tryd.ntmps26
  have Q0 := Lib.hid (Below.refl w0.heap.size w0)
  have hB0 := hB
  go_wp2_with fail
  all_goals
    skip
    refine (rvalid_f a b _ hP).mono ?_
    rintro e w1 ⟨rfl, hb1⟩
    have Q1 := Lib.hid (chain Q0.out (by repeat' (first | (with_reducible exact Below.refl _ _) | (with_reducible assumption) | (with_reducible refine below_drewN ?_ _) | (with_reducible refine Below.alloc ?_ ?_ _) | (with_reducible refine Below.drew ?_) | (with_reducible refine Below.setCell ?_ ?_ _) | go_size)) hb1)
    have hq1 : w0.heap.size ≤ w1.heap.size := Q1.out.size
    have hz1 := hb1.size
    try simp only [World.size_alloc, World.size_setCell, World.size_drew] at hz1
    have hB1 : 0 < w1.heap.size := Nat.lt_of_lt_of_le hB (Q1.out.size)
    have hl1_0 : w0.heap.size < w1.heap.size := by omega
    have hm1_0 : w0.heap.size ≤ w1.heap.size := by omega
    have c1_0_0 : w1.cell? ⟨w0.heap.size, 0, none⟩ = some (.int .i64 a) := by rw [hb1.cell (p := ⟨w0.heap.size, 0, none⟩) (by simp; try omega)]; simp [go_sem, *]
    have f1_0_0 : w1.frozen? ⟨w0.heap.size, 0, none⟩ = false := by rw [hb1.frozen (p := ⟨w0.heap.size, 0, none⟩) (by simp; try omega)]; simp [go_sem, *]
    have c1_0_1 : w1.cell? ⟨w0.heap.size, 1, none⟩ = some (.int .i64 b) := by rw [hb1.cell (p := ⟨w0.heap.size, 1, none⟩) (by simp; try omega)]; simp [go_sem, *]
    have f1_0_1 : w1.frozen? ⟨w0.heap.size, 1, none⟩ = false := by rw [hb1.frozen (p := ⟨w0.heap.size, 1, none⟩) (by simp; try omega)]; simp [go_sem, *]
    have hl1_1 : w0.heap.size + 1 < w1.heap.size := by omega
    have hm1_1 : w0.heap.size + 1 ≤ w1.heap.size := by omega
    have c1_1_0 : w1.cell? ⟨w0.heap.size + 1, 0, none⟩ = some (.int .i64 c) := by rw [hb1.cell (p := ⟨w0.heap.size + 1, 0, none⟩) (by simp; try omega)]; simp [go_sem, *]
    have f1_1_0 : w1.frozen? ⟨w0.heap.size + 1, 0, none⟩ = false := by rw [hb1.frozen (p := ⟨w0.heap.size + 1, 0, none⟩) (by simp; try omega)]; simp [go_sem, *]
    have c1_1_1 : w1.cell? ⟨w0.heap.size + 1, 1, none⟩ = some (.int .i64 d) := by rw [hb1.cell (p := ⟨w0.heap.size + 1, 1, none⟩) (by simp; try omega)]; simp [go_sem, *]
    have f1_1_1 : w1.frozen? ⟨w0.heap.size + 1, 1, none⟩ = false := by rw [hb1.frozen (p := ⟨w0.heap.size + 1, 1, none⟩) (by simp; try omega)]; simp [go_sem, *]
    have hl1_2 : w0.heap.size + 1 + 1 < w1.heap.size := by omega
    have hm1_2 : w0.heap.size + 1 + 1 ≤ w1.heap.size := by omega
    have c1_2_0 : w1.cell? ⟨w0.heap.size + 1 + 1, 0, none⟩ = some (.int .i64 0) := by rw [hb1.cell (p := ⟨w0.heap.size + 1 + 1, 0, none⟩) (by simp; try omega)]; simp [go_sem, *]
    have f1_2_0 : w1.frozen? ⟨w0.heap.size + 1 + 1, 0, none⟩ = false := by rw [hb1.frozen (p := ⟨w0.heap.size + 1 + 1, 0, none⟩) (by simp; try omega)]; simp [go_sem, *]
    have c1_2_1 : w1.cell? ⟨w0.heap.size + 1 + 1, 1, none⟩ = some (.int .i64 0) := by rw [hb1.cell (p := ⟨w0.heap.size + 1 + 1, 1, none⟩) (by simp; try omega)]; simp [go_sem, *]
    have f1_2_1 : w1.frozen? ⟨w0.heap.size + 1 + 1, 1, none⟩ = false := by rw [hb1.frozen (p := ⟨w0.heap.size + 1 + 1, 1, none⟩) (by simp; try omega)]; simp [go_sem, *]
    have hl1_3 : w0.heap.size + 1 + 1 + 1 < w1.heap.size := by omega
    have hm1_3 : w0.heap.size + 1 + 1 + 1 ≤ w1.heap.size := by omega
    obtain ⟨hc1, hf1⟩ := bcell hb1
    try simp only [World.size_alloc, World.size_setCell, World.size_drew] at hc1
    clear hf1
    clear hb1
    go_wp2
    all_goals (refine bodyPost_ret (v := .tuple #[.agg #[.int .i64 0, .int .i64 0], .bool false]) ?_ rfl ?_; (focus (simp [results, Tryd.results26, go_sem, *]; done)); exact ⟨ret_ov (by have := HV.out.1; omega) (by have := HV.out.2.1; omega) HV.out.2.2.symm, Below.trans Q1.out (by repeat' (first | (with_reducible exact Below.refl _ _) | (with_reducible assumption) | (with_reducible refine below_drewN ?_ _) | (with_reducible refine Below.alloc ?_ ?_ _) | (with_reducible refine Below.drew ?_) | (with_reducible refine Below.setCell ?_ ?_ _) | go_size))⟩)

set_option maxHeartbeats 1000000 in
theorem roverlap_2 (a b c d : Int) (w0 : World) (hB : 0 < w0.heap.size) (hP : 0 ≤ a ∧ a < b ∧ b ≤ 876600) (hQ : ¬ (0 ≤ c ∧ c < d ∧ d ≤ 876600)) : Calls Tryd.prog 26 #[.agg #[.int .i64 a, .int .i64 b], .agg #[.int .i64 c, .int .i64 d]] w0 fun e w' => e = .returned (.tuple #[.agg #[.int .i64 (Cal.ovA a b c d), .int .i64 (Cal.ovB a b c d)], .bool (Cal.ovOk a b c d)]) ∧ Below w0.heap.size w0 w' := by
  have HV := Lib.hid (Cal.ov_f (a := a) (b := b) (c := c) (d := d) (fun q => hQ q.2.1))
  go_enter Tryd.func26, Tryd.ntmps26
  have Q0 := Lib.hid (Below.refl w0.heap.size w0)
  have hB0 := hB
  go_wp2_with fail
  all_goals
    skip
    refine (rvalid_t a b _ hP.1 hP.2.1 hP.2.2).mono ?_
    rintro e w1 ⟨rfl, hb1⟩
    have Q1 := Lib.hid (chain Q0.out (by repeat' (first | (with_reducible exact Below.refl _ _) | (with_reducible assumption) | (with_reducible refine below_drewN ?_ _) | (with_reducible refine Below.alloc ?_ ?_ _) | (with_reducible refine Below.drew ?_) | (with_reducible refine Below.setCell ?_ ?_ _) | go_size)) hb1)
    have hq1 : w0.heap.size ≤ w1.heap.size := Q1.out.size
    have hz1 := hb1.size
    try simp only [World.size_alloc, World.size_setCell, World.size_drew] at hz1
    have hB1 : 0 < w1.heap.size := Nat.lt_of_lt_of_le hB (Q1.out.size)
    have hl1_0 : w0.heap.size < w1.heap.size := by omega
    have hm1_0 : w0.heap.size ≤ w1.heap.size := by omega
    have c1_0_0 : w1.cell? ⟨w0.heap.size, 0, none⟩ = some (.int .i64 a) := by rw [hb1.cell (p := ⟨w0.heap.size, 0, none⟩) (by simp; try omega)]; simp [go_sem, *]
    have f1_0_0 : w1.frozen? ⟨w0.heap.size, 0, none⟩ = false := by rw [hb1.frozen (p := ⟨w0.heap.size, 0, none⟩) (by simp; try omega)]; simp [go_sem, *]
    have c1_0_1 : w1.cell? ⟨w0.heap.size, 1, none⟩ = some (.int .i64 b) := by rw [hb1.cell (p := ⟨w0.heap.size, 1, none⟩) (by simp; try omega)]; simp [go_sem, *]
    have f1_0_1 : w1.frozen? ⟨w0.heap.size, 1, none⟩ = false := by rw [hb1.frozen (p := ⟨w0.heap.size, 1, none⟩) (by simp; try omega)]; simp [go_sem, *]
    have hl1_1 : w0.heap.size + 1 < w1.heap.size := by omega
    have hm1_1 : w0.heap.size + 1 ≤ w1.heap.size := by omega
    have c1_1_0 : w1.cell? ⟨w0.heap.size + 1, 0, none⟩ = some (.int .i64 c) := by rw [hb1.cell (p := ⟨w0.heap.size + 1, 0, none⟩) (by simp; try omega)]; simp [go_sem, *]
    have f1_1_0 : w1.frozen? ⟨w0.heap.size + 1, 0, none⟩ = false := by rw [hb1.frozen (p := ⟨w0.heap.size + 1, 0, none⟩) (by simp; try omega)]; simp [go_sem, *]
    have c1_1_1 : w1.cell? ⟨w0.heap.size + 1, 1, none⟩ = some (.int .i64 d) := by rw [hb1.cell (p := ⟨w0.heap.size + 1, 1, none⟩) (by simp; try omega)]; simp [go_sem, *]
    have f1_1_1 : w1.frozen? ⟨w0.heap.size + 1, 1, none⟩ = false := by rw [hb1.frozen (p := ⟨w0.heap.size + 1, 1, none⟩) (by simp; try omega)]; simp [go_sem, *]
    have hl1_2 : w0.heap.size + 1 + 1 < w1.heap.size := by omega
    have hm1_2 : w0.heap.size + 1 + 1 ≤ w1.heap.size := by omega
    have c1_2_0 : w1.cell? ⟨w0.heap.size + 1 + 1, 0, none⟩ = some (.int .i64 0) := by rw [hb1.cell (p := ⟨w0.heap.size + 1 + 1, 0, none⟩) (by simp; try omega)]; simp [go_sem, *]
    have f1_2_0 : w1.frozen? ⟨w0.heap.size + 1 + 1, 0, none⟩ = false := by rw [hb1.frozen (p := ⟨w0.heap.size + 1 + 1, 0, none⟩) (by simp; try omega)]; simp [go_sem, *]
    have c1_2_1 : w1.cell? ⟨w0.heap.size + 1 + 1, 1, none⟩ = some (.int .i64 0) := by rw [hb1.cell (p := ⟨w0.heap.size + 1 + 1, 1, none⟩) (by simp; try omega)]; simp [go_sem, *]
    have f1_2_1 : w1.frozen? ⟨w0.heap.size + 1 + 1, 1, none⟩ = false := by rw [hb1.frozen (p := ⟨w0.heap.size + 1 + 1, 1, none⟩) (by simp; try omega)]; simp [go_sem, *]
    have hl1_3 : w0.heap.size + 1 + 1 + 1 < w1.heap.size := by omega
    have hm1_3 : w0.heap.size + 1 + 1 + 1 ≤ w1.heap.size := by omega
    obtain ⟨hc1, hf1⟩ := bcell hb1
    try simp only [World.size_alloc, World.size_setCell, World.size_drew] at hc1
    clear hf1
    clear hb1
    go_wp2_with fail
    refine (rvalid_f c d _ hQ).mono ?_
    rintro e w2 ⟨rfl, hb2⟩
    have Q2 := Lib.hid (chain Q1.out (by repeat' (first | (with_reducible exact Below.refl _ _) | (with_reducible assumption) | (with_reducible refine below_drewN ?_ _) | (with_reducible refine Below.alloc ?_ ?_ _) | (with_reducible refine Below.drew ?_) | (with_reducible refine Below.setCell ?_ ?_ _) | go_size)) hb2)
    have hq2 : w0.heap.size ≤ w2.heap.size := Q2.out.size
    have hz2 := hb2.size
    try simp only [World.size_alloc, World.size_setCell, World.size_drew] at hz2
    have hB2 : 0 < w2.heap.size := Nat.lt_of_lt_of_le hB (Q2.out.size)
    have hl2_0 : w0.heap.size < w2.heap.size := by omega
    have hm2_0 : w0.heap.size ≤ w2.heap.size := by omega
    have c2_0_0 : w2.cell? ⟨w0.heap.size, 0, none⟩ = some (.int .i64 a) := by rw [hb2.cell (p := ⟨w0.heap.size, 0, none⟩) (by simp; try omega)]; simp [go_sem, *]
    have f2_0_0 : w2.frozen? ⟨w0.heap.size, 0, none⟩ = false := by rw [hb2.frozen (p := ⟨w0.heap.size, 0, none⟩) (by simp; try omega)]; simp [go_sem, *]
    have c2_0_1 : w2.cell? ⟨w0.heap.size, 1, none⟩ = some (.int .i64 b) := by rw [hb2.cell (p := ⟨w0.heap.size, 1, none⟩) (by simp; try omega)]; simp [go_sem, *]
    have f2_0_1 : w2.frozen? ⟨w0.heap.size, 1, none⟩ = false := by rw [hb2.frozen (p := ⟨w0.heap.size, 1, none⟩) (by simp; try omega)]; simp [go_sem, *]
    have hl2_1 : w0.heap.size + 1 < w2.heap.size := by omega
    have hm2_1 : w0.heap.size + 1 ≤ w2.heap.size := by omega
    have c2_1_0 : w2.cell? ⟨w0.heap.size + 1, 0, none⟩ = some (.int .i64 c) := by rw [hb2.cell (p := ⟨w0.heap.size + 1, 0, none⟩) (by simp; try omega)]; simp [go_sem, *]
    have f2_1_0 : w2.frozen? ⟨w0.heap.size + 1, 0, none⟩ = false := by rw [hb2.frozen (p := ⟨w0.heap.size + 1, 0, none⟩) (by simp; try omega)]; simp [go_sem, *]
    have c2_1_1 : w2.cell? ⟨w0.heap.size + 1, 1, none⟩ = some (.int .i64 d) := by rw [hb2.cell (p := ⟨w0.heap.size + 1, 1, none⟩) (by simp; try omega)]; simp [go_sem, *]
    have f2_1_1 : w2.frozen? ⟨w0.heap.size + 1, 1, none⟩ = false := by rw [hb2.frozen (p := ⟨w0.heap.size + 1, 1, none⟩) (by simp; try omega)]; simp [go_sem, *]
    have hl2_2 : w0.heap.size + 1 + 1 < w2.heap.size := by omega
    have hm2_2 : w0.heap.size + 1 + 1 ≤ w2.heap.size := by omega
    have c2_2_0 : w2.cell? ⟨w0.heap.size + 1 + 1, 0, none⟩ = some (.int .i64 0) := by rw [hb2.cell (p := ⟨w0.heap.size + 1 + 1, 0, none⟩) (by simp; try omega)]; simp [go_sem, *]
    have f2_2_0 : w2.frozen? ⟨w0.heap.size + 1 + 1, 0, none⟩ = false := by rw [hb2.frozen (p := ⟨w0.heap.size + 1 + 1, 0, none⟩) (by simp; try omega)]; simp [go_sem, *]
    have c2_2_1 : w2.cell? ⟨w0.heap.size + 1 + 1, 1, none⟩ = some (.int .i64 0) := by rw [hb2.cell (p := ⟨w0.heap.size + 1 + 1, 1, none⟩) (by simp; try omega)]; simp [go_sem, *]
    have f2_2_1 : w2.frozen? ⟨w0.heap.size + 1 + 1, 1, none⟩ = false := by rw [hb2.frozen (p := ⟨w0.heap.size + 1 + 1, 1, none⟩) (by simp; try omega)]; simp [go_sem, *]
    have hl2_3 : w0.heap.size + 1 + 1 + 1 < w2.heap.size := by omega
    have hm2_3 : w0.heap.size + 1 + 1 + 1 ≤ w2.heap.size := by omega
    obtain ⟨hc2, hf2⟩ := bcell hb2
    try simp only [World.size_alloc, World.size_setCell, World.size_drew] at hc2
    clear hf2
    clear hb2
    go_wp2
    all_goals (refine bodyPost_ret (v := .tuple #[.agg #[.int .i64 0, .int .i64 0], .bool false]) ?_ rfl ?_; (focus (simp [results, Tryd.results26, go_sem, *]; done)); exact ⟨ret_ov (by have := HV.out.1; omega) (by have := HV.out.2.1; omega) HV.out.2.2.symm, Below.trans Q2.out (by repeat' (first | (with_reducible exact Below.refl _ _) | (with_reducible assumption) | (with_reducible refine below_drewN ?_ _) | (with_reducible refine Below.alloc ?_ ?_ _) | (with_reducible refine Below.drew ?_) | (with_reducible refine Below.setCell ?_ ?_ _) | go_size))⟩)

set_option maxHeartbeats 1000000 in
theorem roverlap_3 (a b c d : Int) (w0 : World) (hB : 0 < w0.heap.size) (hP : 0 ≤ a ∧ a < b ∧ b ≤ 876600) (hQ : 0 ≤ c ∧ c < d ∧ d ≤ 876600) (q : ¬ max a c < min b d) : Calls Tryd.prog 26 #[.agg #[.int .i64 a, .int .i64 b], .agg #[.int .i64 c, .int .i64 d]] w0 fun e w' => e = .returned (.tuple #[.agg #[.int .i64 (Cal.ovA a b c d), .int .i64 (Cal.ovB a b c d)], .bool (Cal.ovOk a b c d)]) ∧ Below w0.heap.size w0 w' := by
  have HV := Lib.hid (Cal.ov_f (a := a) (b := b) (c := c) (d := d) (fun z => q z.2.2))
  go_enter Tryd.func26, Tryd.ntmps26
  have Q0 := Lib.hid (Below.refl w0.heap.size w0)
  have hB0 := hB
  go_wp2_with fail
  all_goals
    skip
    refine (rvalid_t a b _ hP.1 hP.2.1 hP.2.2).mono ?_
    rintro e w1 ⟨rfl, hb1⟩
    have Q1 := Lib.hid (chain Q0.out (by repeat' (first | (with_reducible exact Below.refl _ _) | (with_reducible assumption) | (with_reducible refine below_drewN ?_ _) | (with_reducible refine Below.alloc ?_ ?_ _) | (with_reducible refine Below.drew ?_) | (with_reducible refine Below.setCell ?_ ?_ _) | go_size)) hb1)
    have hq1 : w0.heap.size ≤ w1.heap.size := Q1.out.size
    have hz1 := hb1.size
    try simp only [World.size_alloc, World.size_setCell, World.size_drew] at hz1
    have hB1 : 0 < w1.heap.size := Nat.lt_of_lt_of_le hB (Q1.out.size)
    have hl1_0 : w0.heap.size < w1.heap.size := by omega
    have hm1_0 : w0.heap.size ≤ w1.heap.size := by omega
    have c1_0_0 : w1.cell? ⟨w0.heap.size, 0, none⟩ = some (.int .i64 a) := by rw [hb1.cell (p := ⟨w0.heap.size, 0, none⟩) (by simp; try omega)]; simp [go_sem, *]
    have f1_0_0 : w1.frozen? ⟨w0.heap.size, 0, none⟩ = false := by rw [hb1.frozen (p := ⟨w0.heap.size, 0, none⟩) (by simp; try omega)]; simp [go_sem, *]
    have c1_0_1 : w1.cell? ⟨w0.heap.size, 1, none⟩ = some (.int .i64 b) := by rw [hb1.cell (p := ⟨w0.heap.size, 1, none⟩) (by simp; try omega)]; simp [go_sem, *]
    have f1_0_1 : w1.frozen? ⟨w0.heap.size, 1, none⟩ = false := by rw [hb1.frozen (p := ⟨w0.heap.size, 1, none⟩) (by simp; try omega)]; simp [go_sem, *]
    have hl1_1 : w0.heap.size + 1 < w1.heap.size := by omega
    have hm1_1 : w0.heap.size + 1 ≤ w1.heap.size := by omega
    have c1_1_0 : w1.cell? ⟨w0.heap.size + 1, 0, none⟩ = some (.int .i64 c) := by rw [hb1.cell (p := ⟨w0.heap.size + 1, 0, none⟩) (by simp; try omega)]; simp [go_sem, *]
    have f1_1_0 : w1.frozen? ⟨w0.heap.size + 1, 0, none⟩ = false := by rw [hb1.frozen (p := ⟨w0.heap.size + 1, 0, none⟩) (by simp; try omega)]; simp [go_sem, *]
    have c1_1_1 : w1.cell? ⟨w0.heap.size + 1, 1, none⟩ = some (.int .i64 d) := by rw [hb1.cell (p := ⟨w0.heap.size + 1, 1, none⟩) (by simp; try omega)]; simp [go_sem, *]
    have f1_1_1 : w1.frozen? ⟨w0.heap.size + 1, 1, none⟩ = false := by rw [hb1.frozen (p := ⟨w0.heap.size + 1, 1, none⟩) (by simp; try omega)]; simp [go_sem, *]
    have hl1_2 : w0.heap.size + 1 + 1 < w1.heap.size := by omega
    have hm1_2 : w0.heap.size + 1 + 1 ≤ w1.heap.size := by omega
    have c1_2_0 : w1.cell? ⟨w0.heap.size + 1 + 1, 0, none⟩ = some (.int .i64 0) := by rw [hb1.cell (p := ⟨w0.heap.size + 1 + 1, 0, none⟩) (by simp; try omega)]; simp [go_sem, *]
    have f1_2_0 : w1.frozen? ⟨w0.heap.size + 1 + 1, 0, none⟩ = false := by rw [hb1.frozen (p := ⟨w0.heap.size + 1 + 1, 0, none⟩) (by simp; try omega)]; simp [go_sem, *]
    have c1_2_1 : w1.cell? ⟨w0.heap.size + 1 + 1, 1, none⟩ = some (.int .i64 0) := by rw [hb1.cell (p := ⟨w0.heap.size + 1 + 1, 1, none⟩) (by simp; try omega)]; simp [go_sem, *]
    have f1_2_1 : w1.frozen? ⟨w0.heap.size + 1 + 1, 1, none⟩ = false := by rw [hb1.frozen (p := ⟨w0.heap.size + 1 + 1, 1, none⟩) (by simp; try omega)]; simp [go_sem, *]
    have hl1_3 : w0.heap.size + 1 + 1 + 1 < w1.heap.size := by omega
    have hm1_3 : w0.heap.size + 1 + 1 + 1 ≤ w1.heap.size := by omega
    obtain ⟨hc1, hf1⟩ := bcell hb1
    try simp only [World.size_alloc, World.size_setCell, World.size_drew] at hc1
    clear hf1
    clear hb1
    go_wp2_with fail
    refine (rvalid_t c d _ hQ.1 hQ.2.1 hQ.2.2).mono ?_
    rintro e w2 ⟨rfl, hb2⟩
    have Q2 := Lib.hid (chain Q1.out (by repeat' (first | (with_reducible exact Below.refl _ _) | (with_reducible assumption) | (with_reducible refine below_drewN ?_ _) | (with_reducible refine Below.alloc ?_ ?_ _) | (with_reducible refine Below.drew ?_) | (with_reducible refine Below.setCell ?_ ?_ _) | go_size)) hb2)
    have hq2 : w0.heap.size ≤ w2.heap.size := Q2.out.size
    have hz2 := hb2.size
    try simp only [World.size_alloc, World.size_setCell, World.size_drew] at hz2
    have hB2 : 0 < w2.heap.size := Nat.lt_of_lt_of_le hB (Q2.out.size)
    have hl2_0 : w0.heap.size < w2.heap.size := by omega
    have hm2_0 : w0.heap.size ≤ w2.heap.size := by omega
    have c2_0_0 : w2.cell? ⟨w0.heap.size, 0, none⟩ = some (.int .i64 a) := by rw [hb2.cell (p := ⟨w0.heap.size, 0, none⟩) (by simp; try omega)]; simp [go_sem, *]
    have f2_0_0 : w2.frozen? ⟨w0.heap.size, 0, none⟩ = false := by rw [hb2.frozen (p := ⟨w0.heap.size, 0, none⟩) (by simp; try omega)]; simp [go_sem, *]
    have c2_0_1 : w2.cell? ⟨w0.heap.size, 1, none⟩ = some (.int .i64 b) := by rw [hb2.cell (p := ⟨w0.heap.size, 1, none⟩) (by simp; try omega)]; simp [go_sem, *]
    have f2_0_1 : w2.frozen? ⟨w0.heap.size, 1, none⟩ = false := by rw [hb2.frozen (p := ⟨w0.heap.size, 1, none⟩) (by simp; try omega)]; simp [go_sem, *]
    have hl2_1 : w0.heap.size + 1 < w2.heap.size := by omega
    have hm2_1 : w0.heap.size + 1 ≤ w2.heap.size := by omega
    have c2_1_0 : w2.cell? ⟨w0.heap.size + 1, 0, none⟩ = some (.int .i64 c) := by rw [hb2.cell (p := ⟨w0.heap.size + 1, 0, none⟩) (by simp; try omega)]; simp [go_sem, *]
    have f2_1_0 : w2.frozen? ⟨w0.heap.size + 1, 0, none⟩ = false := by rw [hb2.frozen (p := ⟨w0.heap.size + 1, 0, none⟩) (by simp; try omega)]; simp [go_sem, *]
    have c2_1_1 : w2.cell? ⟨w0.heap.size + 1, 1, none⟩ = some (.int .i64 d) := by rw [hb2.cell (p := ⟨w0.heap.size + 1, 1, none⟩) (by simp; try omega)]; simp [go_sem, *]
    have f2_1_1 : w2.frozen? ⟨w0.heap.size + 1, 1, none⟩ = false := by rw [hb2.frozen (p := ⟨w0.heap.size + 1, 1, none⟩) (by simp; try omega)]; simp [go_sem, *]
    have hl2_2 : w0.heap.size + 1 + 1 < w2.heap.size := by omega
    have hm2_2 : w0.heap.size + 1 + 1 ≤ w2.heap.size := by omega
    have c2_2_0 : w2.cell? ⟨w0.heap.size + 1 + 1, 0, none⟩ = some (.int .i64 0) := by rw [hb2.cell (p := ⟨w0.heap.size + 1 + 1, 0, none⟩) (by simp; try omega)]; simp [go_sem, *]
    have f2_2_0 : w2.frozen? ⟨w0.heap.size + 1 + 1, 0, none⟩ = false := by rw [hb2.frozen (p := ⟨w0.heap.size + 1 + 1, 0, none⟩) (by simp; try omega)]; simp [go_sem, *]
    have c2_2_1 : w2.cell? ⟨w0.heap.size + 1 + 1, 1, none⟩ = some (.int .i64 0) := by rw [hb2.cell (p := ⟨w0.heap.size + 1 + 1, 1, none⟩) (by simp; try omega)]; simp [go_sem, *]
    have f2_2_1 : w2.frozen? ⟨w0.heap.size + 1 + 1, 1, none⟩ = false := by rw [hb2.frozen (p := ⟨w0.heap.size + 1 + 1, 1, none⟩) (by simp; try omega)]; simp [go_sem, *]
    have hl2_3 : w0.heap.size + 1 + 1 + 1 < w2.heap.size := by omega
    have hm2_3 : w0.heap.size + 1 + 1 + 1 ≤ w2.heap.size := by omega
    obtain ⟨hc2, hf2⟩ := bcell hb2
    try simp only [World.size_alloc, World.size_setCell, World.size_drew] at hc2
    clear hf2
    clear hb2
    go_wp2
    all_goals (refine bodyPost_ret (v := .tuple #[.agg #[.int .i64 0, .int .i64 0], .bool false]) ?_ rfl ?_; (focus (simp [results, Tryd.results26, go_sem, *]; done)); exact ⟨ret_ov (by have := HV.out.1; omega) (by have := HV.out.2.1; omega) HV.out.2.2.symm, Below.trans Q2.out (by repeat' (first | (with_reducible exact Below.refl _ _) | (with_reducible assumption) | (with_reducible refine below_drewN ?_ _) | (with_reducible refine Below.alloc ?_ ?_ _) | (with_reducible refine Below.drew ?_) | (with_reducible refine Below.setCell ?_ ?_ _) | go_size))⟩)

set_option maxHeartbeats 1000000 in
theorem roverlap_4 (a b c d : Int) (w0 : World) (hB : 0 < w0.heap.size) (hP : 0 ≤ a ∧ a < b ∧ b ≤ 876600) (hQ : 0 ≤ c ∧ c < d ∧ d ≤ 876600) (q : max a c < min b d) : Calls Tryd.prog 26 #[.agg #[.int .i64 a, .int .i64 b], .agg #[.int .i64 c, .int .i64 d]] w0 fun e w' => e = .returned (.tuple #[.agg #[.int .i64 (Cal.ovA a b c d), .int .i64 (Cal.ovB a b c d)], .bool (Cal.ovOk a b c d)]) ∧ Below w0.heap.size w0 w' := by
  have HV := Lib.hid (Cal.ov_t ⟨hP, hQ, q⟩)
  go_enter Tryd.func26, Tryd.ntmps26
  have Q0 := Lib.hid (Below.refl w0.heap.size w0)
  have hB0 := hB
  go_wp2_with fail
  all_goals
    skip
    refine (rvalid_t a b _ hP.1 hP.2.1 hP.2.2).mono ?_
    rintro e w1 ⟨rfl, hb1⟩
    have Q1 := Lib.hid (chain Q0.out (by repeat' (first | (with_reducible exact Below.refl _ _) | (with_reducible assumption) | (with_reducible refine below_drewN ?_ _) | (with_reducible refine Below.alloc ?_ ?_ _) | (with_reducible refine Below.drew ?_) | (with_reducible refine Below.setCell ?_ ?_ _) | go_size)) hb1)
    have hq1 : w0.heap.size ≤ w1.heap.size := Q1.out.size
    have hz1 := hb1.size
    try simp only [World.size_alloc, World.size_setCell, World.size_drew] at hz1
    have hB1 : 0 < w1.heap.size := Nat.lt_of_lt_of_le hB (Q1.out.size)
    have hl1_0 : w0.heap.size < w1.heap.size := by omega
    have hm1_0 : w0.heap.size ≤ w1.heap.size := by omega
    have c1_0_0 : w1.cell? ⟨w0.heap.size, 0, none⟩ = some (.int .i64 a) := by rw [hb1.cell (p := ⟨w0.heap.size, 0, none⟩) (by simp; try omega)]; simp [go_sem, *]
    have f1_0_0 : w1.frozen? ⟨w0.heap.size, 0, none⟩ = false := by rw [hb1.frozen (p := ⟨w0.heap.size, 0, none⟩) (by simp; try omega)]; simp [go_sem, *]
    have c1_0_1 : w1.cell? ⟨w0.heap.size, 1, none⟩ = some (.int .i64 b) := by rw [hb1.cell (p := ⟨w0.heap.size, 1, none⟩) (by simp; try omega)]; simp [go_sem, *]
    have f1_0_1 : w1.frozen? ⟨w0.heap.size, 1, none⟩ = false := by rw [hb1.frozen (p := ⟨w0.heap.size, 1, none⟩) (by simp; try omega)]; simp [go_sem, *]
    have hl1_1 : w0.heap.size + 1 < w1.heap.size := by omega
    have hm1_1 : w0.heap.size + 1 ≤ w1.heap.size := by omega
    have c1_1_0 : w1.cell? ⟨w0.heap.size + 1, 0, none⟩ = some (.int .i64 c) := by rw [hb1.cell (p := ⟨w0.heap.size + 1, 0, none⟩) (by simp; try omega)]; simp [go_sem, *]
    have f1_1_0 : w1.frozen? ⟨w0.heap.size + 1, 0, none⟩ = false := by rw [hb1.frozen (p := ⟨w0.heap.size + 1, 0, none⟩) (by simp; try omega)]; simp [go_sem, *]
    have c1_1_1 : w1.cell? ⟨w0.heap.size + 1, 1, none⟩ = some (.int .i64 d) := by rw [hb1.cell (p := ⟨w0.heap.size + 1, 1, none⟩) (by simp; try omega)]; simp [go_sem, *]
    have f1_1_1 : w1.frozen? ⟨w0.heap.size + 1, 1, none⟩ = false := by rw [hb1.frozen (p := ⟨w0.heap.size + 1, 1, none⟩) (by simp; try omega)]; simp [go_sem, *]
    have hl1_2 : w0.heap.size + 1 + 1 < w1.heap.size := by omega
    have hm1_2 : w0.heap.size + 1 + 1 ≤ w1.heap.size := by omega
    have c1_2_0 : w1.cell? ⟨w0.heap.size + 1 + 1, 0, none⟩ = some (.int .i64 0) := by rw [hb1.cell (p := ⟨w0.heap.size + 1 + 1, 0, none⟩) (by simp; try omega)]; simp [go_sem, *]
    have f1_2_0 : w1.frozen? ⟨w0.heap.size + 1 + 1, 0, none⟩ = false := by rw [hb1.frozen (p := ⟨w0.heap.size + 1 + 1, 0, none⟩) (by simp; try omega)]; simp [go_sem, *]
    have c1_2_1 : w1.cell? ⟨w0.heap.size + 1 + 1, 1, none⟩ = some (.int .i64 0) := by rw [hb1.cell (p := ⟨w0.heap.size + 1 + 1, 1, none⟩) (by simp; try omega)]; simp [go_sem, *]
    have f1_2_1 : w1.frozen? ⟨w0.heap.size + 1 + 1, 1, none⟩ = false := by rw [hb1.frozen (p := ⟨w0.heap.size + 1 + 1, 1, none⟩) (by simp; try omega)]; simp [go_sem, *]
    have hl1_3 : w0.heap.size + 1 + 1 + 1 < w1.heap.size := by omega
    have hm1_3 : w0.heap.size + 1 + 1 + 1 ≤ w1.heap.size := by omega
    obtain ⟨hc1, hf1⟩ := bcell hb1
    try simp only [World.size_alloc, World.size_setCell, World.size_drew] at hc1
    clear hf1
    clear hb1
    go_wp2_with fail
    refine (rvalid_t c d _ hQ.1 hQ.2.1 hQ.2.2).mono ?_
    rintro e w2 ⟨rfl, hb2⟩
    have Q2 := Lib.hid (chain Q1.out (by repeat' (first | (with_reducible exact Below.refl _ _) | (with_reducible assumption) | (with_reducible refine below_drewN ?_ _) | (with_reducible refine Below.alloc ?_ ?_ _) | (with_reducible refine Below.drew ?_) | (with_reducible refine Below.setCell ?_ ?_ _) | go_size)) hb2)
    have hq2 : w0.heap.size ≤ w2.heap.size := Q2.out.size
    have hz2 := hb2.size
    try simp only [World.size_alloc, World.size_setCell, World.size_drew] at hz2
    have hB2 : 0 < w2.heap.size := Nat.lt_of_lt_of_le hB (Q2.out.size)
    have hl2_0 : w0.heap.size < w2.heap.size := by omega
    have hm2_0 : w0.heap.size ≤ w2.heap.size := by omega
    have c2_0_0 : w2.cell? ⟨w0.heap.size, 0, none⟩ = some (.int .i64 a) := by rw [hb2.cell (p := ⟨w0.heap.size, 0, none⟩) (by simp; try omega)]; simp [go_sem, *]
    have f2_0_0 : w2.frozen? ⟨w0.heap.size, 0, none⟩ = false := by rw [hb2.frozen (p := ⟨w0.heap.size, 0, none⟩) (by simp; try omega)]; simp [go_sem, *]
    have c2_0_1 : w2.cell? ⟨w0.heap.size, 1, none⟩ = some (.int .i64 b) := by rw [hb2.cell (p := ⟨w0.heap.size, 1, none⟩) (by simp; try omega)]; simp [go_sem, *]
    have f2_0_1 : w2.frozen? ⟨w0.heap.size, 1, none⟩ = false := by rw [hb2.frozen (p := ⟨w0.heap.size, 1, none⟩) (by simp; try omega)]; simp [go_sem, *]
    have hl2_1 : w0.heap.size + 1 < w2.heap.size := by omega
    have hm2_1 : w0.heap.size + 1 ≤ w2.heap.size := by omega
    have c2_1_0 : w2.cell? ⟨w0.heap.size + 1, 0, none⟩ = some (.int .i64 c) := by rw [hb2.cell (p := ⟨w0.heap.size + 1, 0, none⟩) (by simp; try omega)]; simp [go_sem, *]
    have f2_1_0 : w2.frozen? ⟨w0.heap.size + 1, 0, none⟩ = false := by rw [hb2.frozen (p := ⟨w0.heap.size + 1, 0, none⟩) (by simp; try omega)]; simp [go_sem, *]
    have c2_1_1 : w2.cell? ⟨w0.heap.size + 1, 1, none⟩ = some (.int .i64 d) := by rw [hb2.cell (p := ⟨w0.heap.size + 1, 1, none⟩) (by simp; try omega)]; simp [go_sem, *]
    have f2_1_1 : w2.frozen? ⟨w0.heap.size + 1, 1, none⟩ = false := by rw [hb2.frozen (p := ⟨w0.heap.size + 1, 1, none⟩) (by simp; try omega)]; simp [go_sem, *]
    have hl2_2 : w0.heap.size + 1 + 1 < w2.heap.size := by omega
    have hm2_2 : w0.heap.size + 1 + 1 ≤ w2.heap.size := by omega
    have c2_2_0 : w2.cell? ⟨w0.heap.size + 1 + 1, 0, none⟩ = some (.int .i64 0) := by rw [hb2.cell (p := ⟨w0.heap.size + 1 + 1, 0, none⟩) (by simp; try omega)]; simp [go_sem, *]
    have f2_2_0 : w2.frozen? ⟨w0.heap.size + 1 + 1, 0, none⟩ = false := by rw [hb2.frozen (p := ⟨w0.heap.size + 1 + 1, 0, none⟩) (by simp; try omega)]; simp [go_sem, *]
    have c2_2_1 : w2.cell? ⟨w0.heap.size + 1 + 1, 1, none⟩ = some (.int .i64 0) := by rw [hb2.cell (p := ⟨w0.heap.size + 1 + 1, 1, none⟩) (by simp; try omega)]; simp [go_sem, *]
    have f2_2_1 : w2.frozen? ⟨w0.heap.size + 1 + 1, 1, none⟩ = false := by rw [hb2.frozen (p := ⟨w0.heap.size + 1 + 1, 1, none⟩) (by simp; try omega)]; simp [go_sem, *]
    have hl2_3 : w0.heap.size + 1 + 1 + 1 < w2.heap.size := by omega
    have hm2_3 : w0.heap.size + 1 + 1 + 1 ≤ w2.heap.size := by omega
    obtain ⟨hc2, hf2⟩ := bcell hb2
    try simp only [World.size_alloc, World.size_setCell, World.size_drew] at hc2
    clear hf2
    clear hb2
    go_wp2
    all_goals (first | (refine bodyPost_ret (v := .tuple #[.agg #[.int .i64 a, .int .i64 b], .bool true]) ?_ rfl ?_; (focus (simp [results, Tryd.results26, go_sem, *]; done)); exact ⟨ret_ov (by have := HV.out.1; omega) (by have := HV.out.2.1; omega) HV.out.2.2.symm, Below.trans Q2.out (by repeat' (first | (with_reducible exact Below.refl _ _) | (with_reducible assumption) | (with_reducible refine below_drewN ?_ _) | (with_reducible refine Below.alloc ?_ ?_ _) | (with_reducible refine Below.drew ?_) | (with_reducible refine Below.setCell ?_ ?_ _) | go_size))⟩) | (refine bodyPost_ret (v := .tuple #[.agg #[.int .i64 a, .int .i64 d], .bool true]) ?_ rfl ?_; (focus (simp [results, Tryd.results26, go_sem, *]; done)); exact ⟨ret_ov (by have := HV.out.1; omega) (by have := HV.out.2.1; omega) HV.out.2.2.symm, Below.trans Q2.out (by repeat' (first | (with_reducible exact Below.refl _ _) | (with_reducible assumption) | (with_reducible refine below_drewN ?_ _) | (with_reducible refine Below.alloc ?_ ?_ _) | (with_reducible refine Below.drew ?_) | (with_reducible refine Below.setCell ?_ ?_ _) | go_size))⟩) | (refine bodyPost_ret (v := .tuple #[.agg #[.int .i64 c, .int .i64 b], .bool true]) ?_ rfl ?_; (focus (simp [results, Tryd.results26, go_sem, *]; done)); exact ⟨ret_ov (by have := HV.out.1; omega) (by have := HV.out.2.1; omega) HV.out.2.2.symm, Below.trans Q2.out (by repeat' (first | (with_reducible exact Below.refl _ _) | (with_reducible assumption) | (with_reducible refine below_drewN ?_ _) | (with_reducible refine Below.alloc ?_ ?_ _) | (with_reducible refine Below.drew ?_) | (with_reducible refine Below.setCell ?_ ?_ _) | go_size))⟩) | (refine bodyPost_ret (v := .tuple #[.agg #[.int .i64 c, .int .i64 d], .bool true]) ?_ rfl ?_; (focus (simp [results, Tryd.results26, go_sem, *]; done)); exact ⟨ret_ov (by have := HV.out.1; omega) (by have := HV.out.2.1; omega) HV.out.2.2.symm, Below.trans Q2.out (by repeat' (first | (with_reducible exact Below.refl _ _) | (with_reducible assumption) | (with_reducible refine below_drewN ?_ _) | (with_reducible refine Below.alloc ?_ ?_ _) | (with_reducible refine Below.drew ?_) | (with_reducible refine Below.setCell ?_ ?_ _) | go_size))⟩))

theorem roverlap_any (a b c d : Int) (w0 : World) (hB : 0 < w0.heap.size) : Calls Tryd.prog 26 #[.agg #[.int .i64 a, .int .i64 b], .agg #[.int .i64 c, .int .i64 d]] w0 fun e w' => e = .returned (.tuple #[.agg #[.int .i64 (Cal.ovA a b c d), .int .i64 (Cal.ovB a b c d)], .bool (Cal.ovOk a b c d)]) ∧ Below w0.heap.size w0 w' := by
  by_cases h : 0 ≤ a ∧ a < b ∧ b ≤ 876600
  · by_cases k : 0 ≤ c ∧ c < d ∧ d ≤ 876600
    · by_cases q : max a c < min b d
      · exact roverlap_4 a b c d w0 hB h k q
      · exact roverlap_3 a b c d w0 hB h k q
    · exact roverlap_2 a b c d w0 hB h k
  · exact roverlap_1 a b c d w0 hB h
end Go.Proofs.YtnidojfnpmhjkaaDoor
