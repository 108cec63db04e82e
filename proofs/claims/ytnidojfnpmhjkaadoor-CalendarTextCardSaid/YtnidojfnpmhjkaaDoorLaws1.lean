/- The walks of the laws CalendarCivil and CalendarNext. -/
import Derived.Test.YtnidojfnpmhjkaaDoorLawHour
import Derived.Test.YtnidojfnpmhjkaaDoorCivil
namespace Go.Proofs.YtnidojfnpmhjkaaDoor
set_option linter.unusedVariables false
set_option linter.unusedSimpArgs false
open Go.RowKit

theorem chain {w a b c : World} (q : Below w.heap.size w a) (h : Below w.heap.size a b) (k : Below b.heap.size b c) : Below w.heap.size w c := (q.trans h).trans (k.mono (Nat.le_trans q.size h.size))

theorem civil_is {n y m d : Int} (h0 : 0 ≤ n) (h1 : n ≤ 876599) (h : Cal.IsCiv n y m d) (w : World) (hT : Tab w) (hB : 0 < w.heap.size) : Calls Tryd.prog 30 #[.int .i64 n] w fun e w' => e = .returned (.tuple #[.agg #[.int .i64 y, .int .i64 m, .int .i64 d], .int .i64 (n % 24), .int .i64 0]) ∧ Below w.heap.size w w' := by
  have := civil_any n w hT hB
  rw [(Cal.civ_eq h0 h1 h).1, (Cal.civ_eq h0 h1 h).2.1, (Cal.civ_eq h0 h1 h).2.2, (Cal.civ_good h0 h1).1, (Cal.civ_good h0 h1).2] at this
  exact this

set_option maxHeartbeats 1000000 in
theorem law_civil (n : Int) (w0 : World) (hT : Tab w0) (hB : 0 < w0.heap.size) : Calls Tryd.prog 6 #[.int .i64 n] w0 fun e w' => e = .returned (.bool true) ∧ Below w0.heap.size w0 w' := by
  have hw := Cal.within_bd n 876600 (by omega)
  have HC := Lib.hid (Cal.civ_spec hw.1 (show Cal.within n 876600 ≤ 876599 by omega))
  have HH := Lib.hid (Cal.hv_of_civ hw.1 HC.out)
  have HV := Lib.hid (fun w => hour_any (Cal.cvy (Cal.within n 876600)) (Cal.cvm (Cal.within n 876600)) (Cal.cvd (Cal.within n 876600)) (Cal.within n 876600 % 24) w)
  rw [HH.out.1, HH.out.2] at HV
  go_enter Tryd.func6, Tryd.ntmps6
  have Q0 := Lib.hid (Below.refl w0.heap.size w0)
  have hT0 := hT
  have hB0 := hB
  go_wp2_with fail
  refine (civil_any n _ (by exact hT.below (Below.trans Q0.out (by repeat' (first | (with_reducible exact Below.refl _ _) | (with_reducible assumption) | (with_reducible refine below_drewN ?_ _) | (with_reducible refine Below.alloc ?_ ?_ _) | (with_reducible refine Below.drew ?_) | (with_reducible refine Below.setCell ?_ ?_ _) | go_size))) hB) (by exact Nat.lt_of_lt_of_le hB (Below.size (Below.trans Q0.out (by repeat' (first | (with_reducible exact Below.refl _ _) | (with_reducible assumption) | (with_reducible refine below_drewN ?_ _) | (with_reducible refine Below.alloc ?_ ?_ _) | (with_reducible refine Below.drew ?_) | (with_reducible refine Below.setCell ?_ ?_ _) | go_size)))))).mono ?_
  rintro e w1 ⟨rfl, hb1⟩
  have Q1 := Lib.hid (chain Q0.out (by repeat' (first | (with_reducible exact Below.refl _ _) | (with_reducible assumption) | (with_reducible refine below_drewN ?_ _) | (with_reducible refine Below.alloc ?_ ?_ _) | (with_reducible refine Below.drew ?_) | (with_reducible refine Below.setCell ?_ ?_ _) | go_size)) hb1)
  have hq1 : w0.heap.size ≤ w1.heap.size := Q1.out.size
  have hz1 := hb1.size
  try simp only [World.size_alloc, World.size_setCell, World.size_drew] at hz1
  have hB1 : 0 < w1.heap.size := Nat.lt_of_lt_of_le hB (Q1.out.size)
  have hT1 : Tab w1 := hT.below Q1.out hB
  clear hb1
  go_wp2_with fail
  refine (rciv_any n _).mono ?_
  rintro e w2 ⟨rfl, hb2⟩
  have Q2 := Lib.hid (chain Q1.out (by repeat' (first | (with_reducible exact Below.refl _ _) | (with_reducible assumption) | (with_reducible refine below_drewN ?_ _) | (with_reducible refine Below.alloc ?_ ?_ _) | (with_reducible refine Below.drew ?_) | (with_reducible refine Below.setCell ?_ ?_ _) | go_size)) hb2)
  have hq2 : w0.heap.size ≤ w2.heap.size := Q2.out.size
  have hz2 := hb2.size
  try simp only [World.size_alloc, World.size_setCell, World.size_drew] at hz2
  have hB2 : 0 < w2.heap.size := Nat.lt_of_lt_of_le hB (Q2.out.size)
  have hT2 : Tab w2 := hT.below Q2.out hB
  have hl2_0 : w1.heap.size < w2.heap.size := by omega
  have hm2_0 : w1.heap.size ≤ w2.heap.size := by omega
  have c2_0_0 : w2.cell? ⟨w1.heap.size, 0, none⟩ = some (.int .i64 (Cal.cvy n)) := by rw [hb2.cell (p := ⟨w1.heap.size, 0, none⟩) (by simp; try omega)]; simp [go_sem, *]
  have f2_0_0 : w2.frozen? ⟨w1.heap.size, 0, none⟩ = false := by rw [hb2.frozen (p := ⟨w1.heap.size, 0, none⟩) (by simp; try omega)]; simp [go_sem, *]
  have c2_0_1 : w2.cell? ⟨w1.heap.size, 1, none⟩ = some (.int .i64 (Cal.cvm n)) := by rw [hb2.cell (p := ⟨w1.heap.size, 1, none⟩) (by simp; try omega)]; simp [go_sem, *]
  have f2_0_1 : w2.frozen? ⟨w1.heap.size, 1, none⟩ = false := by rw [hb2.frozen (p := ⟨w1.heap.size, 1, none⟩) (by simp; try omega)]; simp [go_sem, *]
  have c2_0_2 : w2.cell? ⟨w1.heap.size, 2, none⟩ = some (.int .i64 (Cal.cvd n)) := by rw [hb2.cell (p := ⟨w1.heap.size, 2, none⟩) (by simp; try omega)]; simp [go_sem, *]
  have f2_0_2 : w2.frozen? ⟨w1.heap.size, 2, none⟩ = false := by rw [hb2.frozen (p := ⟨w1.heap.size, 2, none⟩) (by simp; try omega)]; simp [go_sem, *]
  clear hb2
  go_wp2_with fail
  refine (lawhour_any n _).mono ?_
  rintro e w' ⟨rfl, rfl⟩
  go_wp2_with fail
  refine (civil_is hw.1 (by omega) HC.out _ (by exact hT.below (Below.trans Q2.out (by repeat' (first | (with_reducible exact Below.refl _ _) | (with_reducible assumption) | (with_reducible refine below_drewN ?_ _) | (with_reducible refine Below.alloc ?_ ?_ _) | (with_reducible refine Below.drew ?_) | (with_reducible refine Below.setCell ?_ ?_ _) | go_size))) hB) (by exact Nat.lt_of_lt_of_le hB (Below.size (Below.trans Q2.out (by repeat' (first | (with_reducible exact Below.refl _ _) | (with_reducible assumption) | (with_reducible refine below_drewN ?_ _) | (with_reducible refine Below.alloc ?_ ?_ _) | (with_reducible refine Below.drew ?_) | (with_reducible refine Below.setCell ?_ ?_ _) | go_size)))))).mono ?_
  rintro e w3 ⟨rfl, hb3⟩
  have Q3 := Lib.hid (chain Q2.out (by repeat' (first | (with_reducible exact Below.refl _ _) | (with_reducible assumption) | (with_reducible refine below_drewN ?_ _) | (with_reducible refine Below.alloc ?_ ?_ _) | (with_reducible refine Below.drew ?_) | (with_reducible refine Below.setCell ?_ ?_ _) | go_size)) hb3)
  have hq3 : w0.heap.size ≤ w3.heap.size := Q3.out.size
  have hz3 := hb3.size
  try simp only [World.size_alloc, World.size_setCell, World.size_drew] at hz3
  have hB3 : 0 < w3.heap.size := Nat.lt_of_lt_of_le hB (Q3.out.size)
  have hT3 : Tab w3 := hT.below Q3.out hB
  have hl3_0 : w1.heap.size < w3.heap.size := by omega
  have hm3_0 : w1.heap.size ≤ w3.heap.size := by omega
  have c3_0_0 : w3.cell? ⟨w1.heap.size, 0, none⟩ = some (.int .i64 (Cal.cvy n)) := by rw [hb3.cell (p := ⟨w1.heap.size, 0, none⟩) (by simp; try omega)]; simp [go_sem, *]
  have f3_0_0 : w3.frozen? ⟨w1.heap.size, 0, none⟩ = false := by rw [hb3.frozen (p := ⟨w1.heap.size, 0, none⟩) (by simp; try omega)]; simp [go_sem, *]
  have c3_0_1 : w3.cell? ⟨w1.heap.size, 1, none⟩ = some (.int .i64 (Cal.cvm n)) := by rw [hb3.cell (p := ⟨w1.heap.size, 1, none⟩) (by simp; try omega)]; simp [go_sem, *]
  have f3_0_1 : w3.frozen? ⟨w1.heap.size, 1, none⟩ = false := by rw [hb3.frozen (p := ⟨w1.heap.size, 1, none⟩) (by simp; try omega)]; simp [go_sem, *]
  have c3_0_2 : w3.cell? ⟨w1.heap.size, 2, none⟩ = some (.int .i64 (Cal.cvd n)) := by rw [hb3.cell (p := ⟨w1.heap.size, 2, none⟩) (by simp; try omega)]; simp [go_sem, *]
  have f3_0_2 : w3.frozen? ⟨w1.heap.size, 2, none⟩ = false := by rw [hb3.frozen (p := ⟨w1.heap.size, 2, none⟩) (by simp; try omega)]; simp [go_sem, *]
  clear hb3
  go_wp2_with fail
  refine (HV.out _ (by exact hT.below (Below.trans Q3.out (by repeat' (first | (with_reducible exact Below.refl _ _) | (with_reducible assumption) | (with_reducible refine below_drewN ?_ _) | (with_reducible refine Below.alloc ?_ ?_ _) | (with_reducible refine Below.drew ?_) | (with_reducible refine Below.setCell ?_ ?_ _) | go_size))) hB) (by exact Nat.lt_of_lt_of_le hB (Below.size (Below.trans Q3.out (by repeat' (first | (with_reducible exact Below.refl _ _) | (with_reducible assumption) | (with_reducible refine below_drewN ?_ _) | (with_reducible refine Below.alloc ?_ ?_ _) | (with_reducible refine Below.drew ?_) | (with_reducible refine Below.setCell ?_ ?_ _) | go_size)))))).mono ?_
  rintro e w4 ⟨rfl, hb4⟩
  have Q4 := Lib.hid (chain Q3.out (by repeat' (first | (with_reducible exact Below.refl _ _) | (with_reducible assumption) | (with_reducible refine below_drewN ?_ _) | (with_reducible refine Below.alloc ?_ ?_ _) | (with_reducible refine Below.drew ?_) | (with_reducible refine Below.setCell ?_ ?_ _) | go_size)) hb4)
  have hq4 : w0.heap.size ≤ w4.heap.size := Q4.out.size
  have hz4 := hb4.size
  try simp only [World.size_alloc, World.size_setCell, World.size_drew] at hz4
  have hB4 : 0 < w4.heap.size := Nat.lt_of_lt_of_le hB (Q4.out.size)
  have hT4 : Tab w4 := hT.below Q4.out hB
  clear hb4
  go_wp2_with fail
  refine (lawhour_any n _).mono ?_
  rintro e w' ⟨rfl, rfl⟩
  go_wp2_with fail
  refine (awake_any _ (by exact hT.below (Below.trans Q4.out (by repeat' (first | (with_reducible exact Below.refl _ _) | (with_reducible assumption) | (with_reducible refine below_drewN ?_ _) | (with_reducible refine Below.alloc ?_ ?_ _) | (with_reducible refine Below.drew ?_) | (with_reducible refine Below.setCell ?_ ?_ _) | go_size))) hB) (by exact Nat.lt_of_lt_of_le hB (Below.size (Below.trans Q4.out (by repeat' (first | (with_reducible exact Below.refl _ _) | (with_reducible assumption) | (with_reducible refine below_drewN ?_ _) | (with_reducible refine Below.alloc ?_ ?_ _) | (with_reducible refine Below.drew ?_) | (with_reducible refine Below.setCell ?_ ?_ _) | go_size)))))).mono ?_
  rintro e w5 ⟨rfl, hb5⟩
  have Q5 := Lib.hid (chain Q4.out (by repeat' (first | (with_reducible exact Below.refl _ _) | (with_reducible assumption) | (with_reducible refine below_drewN ?_ _) | (with_reducible refine Below.alloc ?_ ?_ _) | (with_reducible refine Below.drew ?_) | (with_reducible refine Below.setCell ?_ ?_ _) | go_size)) hb5)
  have hq5 : w0.heap.size ≤ w5.heap.size := Q5.out.size
  have hz5 := hb5.size
  try simp only [World.size_alloc, World.size_setCell, World.size_drew] at hz5
  have hB5 : 0 < w5.heap.size := Nat.lt_of_lt_of_le hB (Q5.out.size)
  have hT5 : Tab w5 := hT.below Q5.out hB
  clear hb5
  go_wp2
  go_ret
  exact ⟨rfl, Q5.out⟩

set_option maxHeartbeats 1000000 in
set_option maxRecDepth 100000 in
theorem next_a (n y m d : Int) (w0 : World) (hT : Tab w0) (hB : 0 < w0.heap.size) (k0 : 0 ≤ Cal.within n 876576) (k1 : Cal.within n 876576 < 876576) (hc : Cal.IsCiv (Cal.within n 876576) y m d) (hn : Cal.IsCiv (Cal.within n 876576 + 24) y m (d + 1))  : Calls Tryd.prog 7 #[.int .i64 n] w0 fun e w' => e = .returned (.bool true) ∧ Below w0.heap.size w0 w' := by
  have hy : 2000 ≤ y ∧ y ≤ 2099 := ⟨hc.1, hc.2.1⟩
  have hm : (1 : Int) ≤ m ∧ (m : Int) ≤ 12 := ⟨hc.2.2.1, hc.2.2.2.1⟩
  have hl := Cal.len_bd y m hm.1 hm.2
  have hd : (1 : Int) ≤ d ∧ (d : Int) ≤ 31 := by have h1 := hc.2.2.2.2.1; have h2 := hc.2.2.2.2.2.1; omega
  clear hl
  have HC := Lib.hid hc
  have HN := Lib.hid hn
  clear hc hn
  have h24 : (Cal.within n 876576 + 24) % 24 = Cal.within n 876576 % 24 := by omega
  have HV := Lib.hid (fun w hT hB => civil_is (by omega) (by omega) HN.out w hT hB)
  rw [h24] at HV
  clear h24
  have e1 : (m == m + 1) = false := beq_eq_false_iff_ne.2 (by omega)
  have e2 : (y == y + 1) = false := beq_eq_false_iff_ne.2 (by omega)
  have e3 : (m + 1 == m) = false := beq_eq_false_iff_ne.2 (by omega)
  have e4 : (y + 1 == y) = false := beq_eq_false_iff_ne.2 (by omega)
  go_enter Tryd.func7, Tryd.ntmps7
  have Q0 := Lib.hid (Below.refl w0.heap.size w0)
  have hT0 := hT
  have hB0 := hB
  go_wp2_with fail
  refine (within_any n 876576 _ (by omega) (by omega)).mono ?_
  rintro e w' ⟨rfl, rfl⟩
  go_wp2_with fail
  refine (civil_is k0 (by omega) HC.out _ (by exact hT.below (Below.trans Q0.out (by repeat' (first | (with_reducible exact Below.refl _ _) | (with_reducible assumption) | (with_reducible refine below_drewN ?_ _) | (with_reducible refine Below.alloc ?_ ?_ _) | (with_reducible refine Below.drew ?_) | (with_reducible refine Below.setCell ?_ ?_ _) | go_size))) hB) (by exact Nat.lt_of_lt_of_le hB (Below.size (Below.trans Q0.out (by repeat' (first | (with_reducible exact Below.refl _ _) | (with_reducible assumption) | (with_reducible refine below_drewN ?_ _) | (with_reducible refine Below.alloc ?_ ?_ _) | (with_reducible refine Below.drew ?_) | (with_reducible refine Below.setCell ?_ ?_ _) | go_size)))))).mono ?_
  rintro e w1 ⟨rfl, hb1⟩
  have Q1 := Lib.hid (chain Q0.out (by repeat' (first | (with_reducible exact Below.refl _ _) | (with_reducible assumption) | (with_reducible refine below_drewN ?_ _) | (with_reducible refine Below.alloc ?_ ?_ _) | (with_reducible refine Below.drew ?_) | (with_reducible refine Below.setCell ?_ ?_ _) | go_size)) hb1)
  have hq1 : w0.heap.size ≤ w1.heap.size := Q1.out.size
  have hz1 := hb1.size
  try simp only [World.size_alloc, World.size_setCell, World.size_drew] at hz1
  have hB1 : 0 < w1.heap.size := Nat.lt_of_lt_of_le hB (Q1.out.size)
  have hT1 : Tab w1 := hT.below Q1.out hB
  clear hb1
  go_wp2_with fail
  refine (HV.out _ (by exact hT.below (Below.trans Q1.out (by repeat' (first | (with_reducible exact Below.refl _ _) | (with_reducible assumption) | (with_reducible refine below_drewN ?_ _) | (with_reducible refine Below.alloc ?_ ?_ _) | (with_reducible refine Below.drew ?_) | (with_reducible refine Below.setCell ?_ ?_ _) | go_size))) hB) (by exact Nat.lt_of_lt_of_le hB (Below.size (Below.trans Q1.out (by repeat' (first | (with_reducible exact Below.refl _ _) | (with_reducible assumption) | (with_reducible refine below_drewN ?_ _) | (with_reducible refine Below.alloc ?_ ?_ _) | (with_reducible refine Below.drew ?_) | (with_reducible refine Below.setCell ?_ ?_ _) | go_size)))))).mono ?_
  rintro e w2 ⟨rfl, hb2⟩
  have Q2 := Lib.hid (chain Q1.out (by repeat' (first | (with_reducible exact Below.refl _ _) | (with_reducible assumption) | (with_reducible refine below_drewN ?_ _) | (with_reducible refine Below.alloc ?_ ?_ _) | (with_reducible refine Below.drew ?_) | (with_reducible refine Below.setCell ?_ ?_ _) | go_size)) hb2)
  have hq2 : w0.heap.size ≤ w2.heap.size := Q2.out.size
  have hz2 := hb2.size
  try simp only [World.size_alloc, World.size_setCell, World.size_drew] at hz2
  have hB2 : 0 < w2.heap.size := Nat.lt_of_lt_of_le hB (Q2.out.size)
  have hT2 : Tab w2 := hT.below Q2.out hB
  have hl2_0 : w1.heap.size < w2.heap.size := by omega
  have hm2_0 : w1.heap.size ≤ w2.heap.size := by omega
  have c2_0_0 : w2.cell? ⟨w1.heap.size, 0, none⟩ = some (.int .i64 y) := by rw [hb2.cell (p := ⟨w1.heap.size, 0, none⟩) (by simp; try omega)]; simp [go_sem, *]
  have f2_0_0 : w2.frozen? ⟨w1.heap.size, 0, none⟩ = false := by rw [hb2.frozen (p := ⟨w1.heap.size, 0, none⟩) (by simp; try omega)]; simp [go_sem, *]
  have c2_0_1 : w2.cell? ⟨w1.heap.size, 1, none⟩ = some (.int .i64 m) := by rw [hb2.cell (p := ⟨w1.heap.size, 1, none⟩) (by simp; try omega)]; simp [go_sem, *]
  have f2_0_1 : w2.frozen? ⟨w1.heap.size, 1, none⟩ = false := by rw [hb2.frozen (p := ⟨w1.heap.size, 1, none⟩) (by simp; try omega)]; simp [go_sem, *]
  have c2_0_2 : w2.cell? ⟨w1.heap.size, 2, none⟩ = some (.int .i64 d) := by rw [hb2.cell (p := ⟨w1.heap.size, 2, none⟩) (by simp; try omega)]; simp [go_sem, *]
  have f2_0_2 : w2.frozen? ⟨w1.heap.size, 2, none⟩ = false := by rw [hb2.frozen (p := ⟨w1.heap.size, 2, none⟩) (by simp; try omega)]; simp [go_sem, *]
  clear hb2
  go_wp2_with fail
  refine (awake_any _ (by exact hT.below (Below.trans Q2.out (by repeat' (first | (with_reducible exact Below.refl _ _) | (with_reducible assumption) | (with_reducible refine below_drewN ?_ _) | (with_reducible refine Below.alloc ?_ ?_ _) | (with_reducible refine Below.drew ?_) | (with_reducible refine Below.setCell ?_ ?_ _) | go_size))) hB) (by exact Nat.lt_of_lt_of_le hB (Below.size (Below.trans Q2.out (by repeat' (first | (with_reducible exact Below.refl _ _) | (with_reducible assumption) | (with_reducible refine below_drewN ?_ _) | (with_reducible refine Below.alloc ?_ ?_ _) | (with_reducible refine Below.drew ?_) | (with_reducible refine Below.setCell ?_ ?_ _) | go_size)))))).mono ?_
  rintro e w3 ⟨rfl, hb3⟩
  have Q3 := Lib.hid (chain Q2.out (by repeat' (first | (with_reducible exact Below.refl _ _) | (with_reducible assumption) | (with_reducible refine below_drewN ?_ _) | (with_reducible refine Below.alloc ?_ ?_ _) | (with_reducible refine Below.drew ?_) | (with_reducible refine Below.setCell ?_ ?_ _) | go_size)) hb3)
  have hq3 : w0.heap.size ≤ w3.heap.size := Q3.out.size
  have hz3 := hb3.size
  try simp only [World.size_alloc, World.size_setCell, World.size_drew] at hz3
  have hB3 : 0 < w3.heap.size := Nat.lt_of_lt_of_le hB (Q3.out.size)
  have hT3 : Tab w3 := hT.below Q3.out hB
  clear hb3
  go_wp2
  go_ret
  exact ⟨rfl, Q3.out⟩

set_option maxHeartbeats 1000000 in
set_option maxRecDepth 100000 in
theorem next_b (n y m d : Int) (w0 : World) (hT : Tab w0) (hB : 0 < w0.heap.size) (k0 : 0 ≤ Cal.within n 876576) (k1 : Cal.within n 876576 < 876576) (hc : Cal.IsCiv (Cal.within n 876576) y m d) (hn : Cal.IsCiv (Cal.within n 876576 + 24) y (m + 1) 1) (h28 : 28 ≤ d) : Calls Tryd.prog 7 #[.int .i64 n] w0 fun e w' => e = .returned (.bool true) ∧ Below w0.heap.size w0 w' := by
  have hy : 2000 ≤ y ∧ y ≤ 2099 := ⟨hc.1, hc.2.1⟩
  have hm : (1 : Int) ≤ m ∧ (m : Int) ≤ 12 := ⟨hc.2.2.1, hc.2.2.2.1⟩
  have hl := Cal.len_bd y m hm.1 hm.2
  have hd : (1 : Int) ≤ d ∧ (d : Int) ≤ 31 := by have h1 := hc.2.2.2.2.1; have h2 := hc.2.2.2.2.2.1; omega
  clear hl
  have HC := Lib.hid hc
  have HN := Lib.hid hn
  clear hc hn
  have h24 : (Cal.within n 876576 + 24) % 24 = Cal.within n 876576 % 24 := by omega
  have HV := Lib.hid (fun w hT hB => civil_is (by omega) (by omega) HN.out w hT hB)
  rw [h24] at HV
  clear h24
  have e1 : (m == m + 1) = false := beq_eq_false_iff_ne.2 (by omega)
  have e2 : (y == y + 1) = false := beq_eq_false_iff_ne.2 (by omega)
  have e3 : (m + 1 == m) = false := beq_eq_false_iff_ne.2 (by omega)
  have e4 : (y + 1 == y) = false := beq_eq_false_iff_ne.2 (by omega)
  have e5 : decide (28 ≤ d) = true := decide_eq_true h28
  go_enter Tryd.func7, Tryd.ntmps7
  have Q0 := Lib.hid (Below.refl w0.heap.size w0)
  have hT0 := hT
  have hB0 := hB
  go_wp2_with fail
  refine (within_any n 876576 _ (by omega) (by omega)).mono ?_
  rintro e w' ⟨rfl, rfl⟩
  go_wp2_with fail
  refine (civil_is k0 (by omega) HC.out _ (by exact hT.below (Below.trans Q0.out (by repeat' (first | (with_reducible exact Below.refl _ _) | (with_reducible assumption) | (with_reducible refine below_drewN ?_ _) | (with_reducible refine Below.alloc ?_ ?_ _) | (with_reducible refine Below.drew ?_) | (with_reducible refine Below.setCell ?_ ?_ _) | go_size))) hB) (by exact Nat.lt_of_lt_of_le hB (Below.size (Below.trans Q0.out (by repeat' (first | (with_reducible exact Below.refl _ _) | (with_reducible assumption) | (with_reducible refine below_drewN ?_ _) | (with_reducible refine Below.alloc ?_ ?_ _) | (with_reducible refine Below.drew ?_) | (with_reducible refine Below.setCell ?_ ?_ _) | go_size)))))).mono ?_
  rintro e w1 ⟨rfl, hb1⟩
  have Q1 := Lib.hid (chain Q0.out (by repeat' (first | (with_reducible exact Below.refl _ _) | (with_reducible assumption) | (with_reducible refine below_drewN ?_ _) | (with_reducible refine Below.alloc ?_ ?_ _) | (with_reducible refine Below.drew ?_) | (with_reducible refine Below.setCell ?_ ?_ _) | go_size)) hb1)
  have hq1 : w0.heap.size ≤ w1.heap.size := Q1.out.size
  have hz1 := hb1.size
  try simp only [World.size_alloc, World.size_setCell, World.size_drew] at hz1
  have hB1 : 0 < w1.heap.size := Nat.lt_of_lt_of_le hB (Q1.out.size)
  have hT1 : Tab w1 := hT.below Q1.out hB
  clear hb1
  go_wp2_with fail
  refine (HV.out _ (by exact hT.below (Below.trans Q1.out (by repeat' (first | (with_reducible exact Below.refl _ _) | (with_reducible assumption) | (with_reducible refine below_drewN ?_ _) | (with_reducible refine Below.alloc ?_ ?_ _) | (with_reducible refine Below.drew ?_) | (with_reducible refine Below.setCell ?_ ?_ _) | go_size))) hB) (by exact Nat.lt_of_lt_of_le hB (Below.size (Below.trans Q1.out (by repeat' (first | (with_reducible exact Below.refl _ _) | (with_reducible assumption) | (with_reducible refine below_drewN ?_ _) | (with_reducible refine Below.alloc ?_ ?_ _) | (with_reducible refine Below.drew ?_) | (with_reducible refine Below.setCell ?_ ?_ _) | go_size)))))).mono ?_
  rintro e w2 ⟨rfl, hb2⟩
  have Q2 := Lib.hid (chain Q1.out (by repeat' (first | (with_reducible exact Below.refl _ _) | (with_reducible assumption) | (with_reducible refine below_drewN ?_ _) | (with_reducible refine Below.alloc ?_ ?_ _) | (with_reducible refine Below.drew ?_) | (with_reducible refine Below.setCell ?_ ?_ _) | go_size)) hb2)
  have hq2 : w0.heap.size ≤ w2.heap.size := Q2.out.size
  have hz2 := hb2.size
  try simp only [World.size_alloc, World.size_setCell, World.size_drew] at hz2
  have hB2 : 0 < w2.heap.size := Nat.lt_of_lt_of_le hB (Q2.out.size)
  have hT2 : Tab w2 := hT.below Q2.out hB
  have hl2_0 : w1.heap.size < w2.heap.size := by omega
  have hm2_0 : w1.heap.size ≤ w2.heap.size := by omega
  have c2_0_0 : w2.cell? ⟨w1.heap.size, 0, none⟩ = some (.int .i64 y) := by rw [hb2.cell (p := ⟨w1.heap.size, 0, none⟩) (by simp; try omega)]; simp [go_sem, *]
  have f2_0_0 : w2.frozen? ⟨w1.heap.size, 0, none⟩ = false := by rw [hb2.frozen (p := ⟨w1.heap.size, 0, none⟩) (by simp; try omega)]; simp [go_sem, *]
  have c2_0_1 : w2.cell? ⟨w1.heap.size, 1, none⟩ = some (.int .i64 m) := by rw [hb2.cell (p := ⟨w1.heap.size, 1, none⟩) (by simp; try omega)]; simp [go_sem, *]
  have f2_0_1 : w2.frozen? ⟨w1.heap.size, 1, none⟩ = false := by rw [hb2.frozen (p := ⟨w1.heap.size, 1, none⟩) (by simp; try omega)]; simp [go_sem, *]
  have c2_0_2 : w2.cell? ⟨w1.heap.size, 2, none⟩ = some (.int .i64 d) := by rw [hb2.cell (p := ⟨w1.heap.size, 2, none⟩) (by simp; try omega)]; simp [go_sem, *]
  have f2_0_2 : w2.frozen? ⟨w1.heap.size, 2, none⟩ = false := by rw [hb2.frozen (p := ⟨w1.heap.size, 2, none⟩) (by simp; try omega)]; simp [go_sem, *]
  clear hb2
  go_wp2_with fail
  refine (awake_any _ (by exact hT.below (Below.trans Q2.out (by repeat' (first | (with_reducible exact Below.refl _ _) | (with_reducible assumption) | (with_reducible refine below_drewN ?_ _) | (with_reducible refine Below.alloc ?_ ?_ _) | (with_reducible refine Below.drew ?_) | (with_reducible refine Below.setCell ?_ ?_ _) | go_size))) hB) (by exact Nat.lt_of_lt_of_le hB (Below.size (Below.trans Q2.out (by repeat' (first | (with_reducible exact Below.refl _ _) | (with_reducible assumption) | (with_reducible refine below_drewN ?_ _) | (with_reducible refine Below.alloc ?_ ?_ _) | (with_reducible refine Below.drew ?_) | (with_reducible refine Below.setCell ?_ ?_ _) | go_size)))))).mono ?_
  rintro e w3 ⟨rfl, hb3⟩
  have Q3 := Lib.hid (chain Q2.out (by repeat' (first | (with_reducible exact Below.refl _ _) | (with_reducible assumption) | (with_reducible refine below_drewN ?_ _) | (with_reducible refine Below.alloc ?_ ?_ _) | (with_reducible refine Below.drew ?_) | (with_reducible refine Below.setCell ?_ ?_ _) | go_size)) hb3)
  have hq3 : w0.heap.size ≤ w3.heap.size := Q3.out.size
  have hz3 := hb3.size
  try simp only [World.size_alloc, World.size_setCell, World.size_drew] at hz3
  have hB3 : 0 < w3.heap.size := Nat.lt_of_lt_of_le hB (Q3.out.size)
  have hT3 : Tab w3 := hT.below Q3.out hB
  clear hb3
  go_wp2
  go_ret
  exact ⟨rfl, Q3.out⟩

set_option maxHeartbeats 1000000 in
set_option maxRecDepth 100000 in
theorem next_c (n y : Int) (w0 : World) (hT : Tab w0) (hB : 0 < w0.heap.size) (k0 : 0 ≤ Cal.within n 876576) (k1 : Cal.within n 876576 < 876576) (hc : Cal.IsCiv (Cal.within n 876576) y 12 31) (hn : Cal.IsCiv (Cal.within n 876576 + 24) (y + 1) 1 1)  : Calls Tryd.prog 7 #[.int .i64 n] w0 fun e w' => e = .returned (.bool true) ∧ Below w0.heap.size w0 w' := by
  have hy : 2000 ≤ y ∧ y ≤ 2099 := ⟨hc.1, hc.2.1⟩
  have hm : (1 : Int) ≤ 12 ∧ (12 : Int) ≤ 12 := ⟨hc.2.2.1, hc.2.2.2.1⟩
  have hl := Cal.len_bd y 12 hm.1 hm.2
  have hd : (1 : Int) ≤ 31 ∧ (31 : Int) ≤ 31 := by have h1 := hc.2.2.2.2.1; have h2 := hc.2.2.2.2.2.1; omega
  clear hl
  have HC := Lib.hid hc
  have HN := Lib.hid hn
  clear hc hn
  have h24 : (Cal.within n 876576 + 24) % 24 = Cal.within n 876576 % 24 := by omega
  have HV := Lib.hid (fun w hT hB => civil_is (by omega) (by omega) HN.out w hT hB)
  rw [h24] at HV
  clear h24
  have e2 : (y == y + 1) = false := beq_eq_false_iff_ne.2 (by omega)
  have e4 : (y + 1 == y) = false := beq_eq_false_iff_ne.2 (by omega)
  go_enter Tryd.func7, Tryd.ntmps7
  have Q0 := Lib.hid (Below.refl w0.heap.size w0)
  have hT0 := hT
  have hB0 := hB
  go_wp2_with fail
  refine (within_any n 876576 _ (by omega) (by omega)).mono ?_
  rintro e w' ⟨rfl, rfl⟩
  go_wp2_with fail
  refine (civil_is k0 (by omega) HC.out _ (by exact hT.below (Below.trans Q0.out (by repeat' (first | (with_reducible exact Below.refl _ _) | (with_reducible assumption) | (with_reducible refine below_drewN ?_ _) | (with_reducible refine Below.alloc ?_ ?_ _) | (with_reducible refine Below.drew ?_) | (with_reducible refine Below.setCell ?_ ?_ _) | go_size))) hB) (by exact Nat.lt_of_lt_of_le hB (Below.size (Below.trans Q0.out (by repeat' (first | (with_reducible exact Below.refl _ _) | (with_reducible assumption) | (with_reducible refine below_drewN ?_ _) | (with_reducible refine Below.alloc ?_ ?_ _) | (with_reducible refine Below.drew ?_) | (with_reducible refine Below.setCell ?_ ?_ _) | go_size)))))).mono ?_
  rintro e w1 ⟨rfl, hb1⟩
  have Q1 := Lib.hid (chain Q0.out (by repeat' (first | (with_reducible exact Below.refl _ _) | (with_reducible assumption) | (with_reducible refine below_drewN ?_ _) | (with_reducible refine Below.alloc ?_ ?_ _) | (with_reducible refine Below.drew ?_) | (with_reducible refine Below.setCell ?_ ?_ _) | go_size)) hb1)
  have hq1 : w0.heap.size ≤ w1.heap.size := Q1.out.size
  have hz1 := hb1.size
  try simp only [World.size_alloc, World.size_setCell, World.size_drew] at hz1
  have hB1 : 0 < w1.heap.size := Nat.lt_of_lt_of_le hB (Q1.out.size)
  have hT1 : Tab w1 := hT.below Q1.out hB
  clear hb1
  go_wp2_with fail
  refine (HV.out _ (by exact hT.below (Below.trans Q1.out (by repeat' (first | (with_reducible exact Below.refl _ _) | (with_reducible assumption) | (with_reducible refine below_drewN ?_ _) | (with_reducible refine Below.alloc ?_ ?_ _) | (with_reducible refine Below.drew ?_) | (with_reducible refine Below.setCell ?_ ?_ _) | go_size))) hB) (by exact Nat.lt_of_lt_of_le hB (Below.size (Below.trans Q1.out (by repeat' (first | (with_reducible exact Below.refl _ _) | (with_reducible assumption) | (with_reducible refine below_drewN ?_ _) | (with_reducible refine Below.alloc ?_ ?_ _) | (with_reducible refine Below.drew ?_) | (with_reducible refine Below.setCell ?_ ?_ _) | go_size)))))).mono ?_
  rintro e w2 ⟨rfl, hb2⟩
  have Q2 := Lib.hid (chain Q1.out (by repeat' (first | (with_reducible exact Below.refl _ _) | (with_reducible assumption) | (with_reducible refine below_drewN ?_ _) | (with_reducible refine Below.alloc ?_ ?_ _) | (with_reducible refine Below.drew ?_) | (with_reducible refine Below.setCell ?_ ?_ _) | go_size)) hb2)
  have hq2 : w0.heap.size ≤ w2.heap.size := Q2.out.size
  have hz2 := hb2.size
  try simp only [World.size_alloc, World.size_setCell, World.size_drew] at hz2
  have hB2 : 0 < w2.heap.size := Nat.lt_of_lt_of_le hB (Q2.out.size)
  have hT2 : Tab w2 := hT.below Q2.out hB
  have hl2_0 : w1.heap.size < w2.heap.size := by omega
  have hm2_0 : w1.heap.size ≤ w2.heap.size := by omega
  have c2_0_0 : w2.cell? ⟨w1.heap.size, 0, none⟩ = some (.int .i64 y) := by rw [hb2.cell (p := ⟨w1.heap.size, 0, none⟩) (by simp; try omega)]; simp [go_sem, *]
  have f2_0_0 : w2.frozen? ⟨w1.heap.size, 0, none⟩ = false := by rw [hb2.frozen (p := ⟨w1.heap.size, 0, none⟩) (by simp; try omega)]; simp [go_sem, *]
  have c2_0_1 : w2.cell? ⟨w1.heap.size, 1, none⟩ = some (.int .i64 12) := by rw [hb2.cell (p := ⟨w1.heap.size, 1, none⟩) (by simp; try omega)]; simp [go_sem, *]
  have f2_0_1 : w2.frozen? ⟨w1.heap.size, 1, none⟩ = false := by rw [hb2.frozen (p := ⟨w1.heap.size, 1, none⟩) (by simp; try omega)]; simp [go_sem, *]
  have c2_0_2 : w2.cell? ⟨w1.heap.size, 2, none⟩ = some (.int .i64 31) := by rw [hb2.cell (p := ⟨w1.heap.size, 2, none⟩) (by simp; try omega)]; simp [go_sem, *]
  have f2_0_2 : w2.frozen? ⟨w1.heap.size, 2, none⟩ = false := by rw [hb2.frozen (p := ⟨w1.heap.size, 2, none⟩) (by simp; try omega)]; simp [go_sem, *]
  clear hb2
  go_wp2_with fail
  refine (awake_any _ (by exact hT.below (Below.trans Q2.out (by repeat' (first | (with_reducible exact Below.refl _ _) | (with_reducible assumption) | (with_reducible refine below_drewN ?_ _) | (with_reducible refine Below.alloc ?_ ?_ _) | (with_reducible refine Below.drew ?_) | (with_reducible refine Below.setCell ?_ ?_ _) | go_size))) hB) (by exact Nat.lt_of_lt_of_le hB (Below.size (Below.trans Q2.out (by repeat' (first | (with_reducible exact Below.refl _ _) | (with_reducible assumption) | (with_reducible refine below_drewN ?_ _) | (with_reducible refine Below.alloc ?_ ?_ _) | (with_reducible refine Below.drew ?_) | (with_reducible refine Below.setCell ?_ ?_ _) | go_size)))))).mono ?_
  rintro e w3 ⟨rfl, hb3⟩
  have Q3 := Lib.hid (chain Q2.out (by repeat' (first | (with_reducible exact Below.refl _ _) | (with_reducible assumption) | (with_reducible refine below_drewN ?_ _) | (with_reducible refine Below.alloc ?_ ?_ _) | (with_reducible refine Below.drew ?_) | (with_reducible refine Below.setCell ?_ ?_ _) | go_size)) hb3)
  have hq3 : w0.heap.size ≤ w3.heap.size := Q3.out.size
  have hz3 := hb3.size
  try simp only [World.size_alloc, World.size_setCell, World.size_drew] at hz3
  have hB3 : 0 < w3.heap.size := Nat.lt_of_lt_of_le hB (Q3.out.size)
  have hT3 : Tab w3 := hT.below Q3.out hB
  clear hb3
  go_wp2
  go_ret
  exact ⟨rfl, Q3.out⟩

theorem law_next (n : Int) (w0 : World) (hT : Tab w0) (hB : 0 < w0.heap.size) : Calls Tryd.prog 7 #[.int .i64 n] w0 fun e w' => e = .returned (.bool true) ∧ Below w0.heap.size w0 w' := by
  have hw := Cal.within_bd n 876576 (by omega)
  have hc := Cal.civ_spec hw.1 (show Cal.within n 876576 ≤ 876599 by omega)
  rcases Cal.next_civ hc hw.1 (by omega) with h | ⟨h28, h⟩ | ⟨h12, h31, h⟩
  · exact next_a n _ _ _ w0 hT hB hw.1 hw.2 hc h
  · exact next_b n _ _ _ w0 hT hB hw.1 hw.2 hc h h28
  · rw [h12, h31] at hc
    exact next_c n _ w0 hT hB hw.1 hw.2 hc h
end Go.Proofs.YtnidojfnpmhjkaaDoor
