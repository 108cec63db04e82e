/- The walks of the laws CalendarMonths and CalendarSteps. -/
import Derived.Test.YtnidojfnpmhjkaaDoorMonths
namespace Go.Proofs.YtnidojfnpmhjkaaDoor
set_option linter.unusedVariables false
set_option linter.unusedSimpArgs false
open Go.RowKit

set_option maxHeartbeats 1000000 in
theorem law_months (n k m : Int) (w0 : World) (hT : Tab w0) (hB : 0 < w0.heap.size) (m0 : -32768 ≤ m) (m1 : m ≤ 32767) : Calls Tryd.prog 9 #[.int .i64 n, .int .i64 k, .int .i16 m] w0 fun e w' => e = .returned (.bool true) ∧ Below w0.heap.size w0 w' := by
  go_enter Tryd.func9, Tryd.ntmps9
  have Q0 := Lib.hid (Below.refl w0.heap.size w0)
  have hT0 := hT
  have hB0 := hB
  go_wp2_with fail
  refine (am_any n k _ (by exact hT.below (Below.trans Q0.out (by repeat' (first | (with_reducible exact Below.refl _ _) | (with_reducible assumption) | (with_reducible refine below_drewN ?_ _) | (with_reducible refine Below.alloc ?_ ?_ _) | (with_reducible refine Below.drew ?_) | (with_reducible refine Below.setCell ?_ ?_ _) | go_size))) hB) (by exact Nat.lt_of_lt_of_le hB (Below.size (Below.trans Q0.out (by repeat' (first | (with_reducible exact Below.refl _ _) | (with_reducible assumption) | (with_reducible refine below_drewN ?_ _) | (with_reducible refine Below.alloc ?_ ?_ _) | (with_reducible refine Below.drew ?_) | (with_reducible refine Below.setCell ?_ ?_ _) | go_size)))))).mono ?_
  rintro e w1 ⟨rfl, hb1⟩
  have Q1 := Lib.hid (chain Q0.out (by repeat' (first | (with_reducible exact Below.refl _ _) | (with_reducible assumption) | (with_reducible refine below_drewN ?_ _) | (with_reducible refine Below.alloc ?_ ?_ _) | (with_reducible refine Below.drew ?_) | (with_reducible refine Below.setCell ?_ ?_ _) | go_size)) hb1)
  have hq1 : w0.heap.size ≤ w1.heap.size := Q1.out.size
  have hz1 := hb1.size
  try simp only [World.size_alloc, World.size_setCell, World.size_drew] at hz1
  have hB1 : 0 < w1.heap.size := Nat.lt_of_lt_of_le hB (Q1.out.size)
  have hT1 : Tab w1 := hT.below Q1.out hB
  clear hb1
  go_wp2_with fail
  refine (ram_any n k _ (by exact Nat.lt_of_lt_of_le hB (Below.size (Below.trans Q1.out (by repeat' (first | (with_reducible exact Below.refl _ _) | (with_reducible assumption) | (with_reducible refine below_drewN ?_ _) | (with_reducible refine Below.alloc ?_ ?_ _) | (with_reducible refine Below.drew ?_) | (with_reducible refine Below.setCell ?_ ?_ _) | go_size)))))).mono ?_
  rintro e w2 ⟨rfl, hb2⟩
  have Q2 := Lib.hid (chain Q1.out (by repeat' (first | (with_reducible exact Below.refl _ _) | (with_reducible assumption) | (with_reducible refine below_drewN ?_ _) | (with_reducible refine Below.alloc ?_ ?_ _) | (with_reducible refine Below.drew ?_) | (with_reducible refine Below.setCell ?_ ?_ _) | go_size)) hb2)
  have hq2 : w0.heap.size ≤ w2.heap.size := Q2.out.size
  have hz2 := hb2.size
  try simp only [World.size_alloc, World.size_setCell, World.size_drew] at hz2
  have hB2 : 0 < w2.heap.size := Nat.lt_of_lt_of_le hB (Q2.out.size)
  have hT2 : Tab w2 := hT.below Q2.out hB
  clear hb2
  go_wp2_with fail
  refine (lawhour_any n _).mono ?_
  rintro e w' ⟨rfl, rfl⟩
  go_wp2_with fail
  refine (am_any _ _ _ (by exact hT.below (Below.trans Q2.out (by repeat' (first | (with_reducible exact Below.refl _ _) | (with_reducible assumption) | (with_reducible refine below_drewN ?_ _) | (with_reducible refine Below.alloc ?_ ?_ _) | (with_reducible refine Below.drew ?_) | (with_reducible refine Below.setCell ?_ ?_ _) | go_size))) hB) (by exact Nat.lt_of_lt_of_le hB (Below.size (Below.trans Q2.out (by repeat' (first | (with_reducible exact Below.refl _ _) | (with_reducible assumption) | (with_reducible refine below_drewN ?_ _) | (with_reducible refine Below.alloc ?_ ?_ _) | (with_reducible refine Below.drew ?_) | (with_reducible refine Below.setCell ?_ ?_ _) | go_size)))))).mono ?_
  rintro e w3 ⟨rfl, hb3⟩
  have Q3 := Lib.hid (chain Q2.out (by repeat' (first | (with_reducible exact Below.refl _ _) | (with_reducible assumption) | (with_reducible refine below_drewN ?_ _) | (with_reducible refine Below.alloc ?_ ?_ _) | (with_reducible refine Below.drew ?_) | (with_reducible refine Below.setCell ?_ ?_ _) | go_size)) hb3)
  have hq3 : w0.heap.size ≤ w3.heap.size := Q3.out.size
  have hz3 := hb3.size
  try simp only [World.size_alloc, World.size_setCell, World.size_drew] at hz3
  have hB3 : 0 < w3.heap.size := Nat.lt_of_lt_of_le hB (Q3.out.size)
  have hT3 : Tab w3 := hT.below Q3.out hB
  clear hb3
  go_wp2_with fail
  refine (lawhour_any n _).mono ?_
  rintro e w' ⟨rfl, rfl⟩
  go_wp2_with fail
  refine (ram_any _ _ _ (by exact Nat.lt_of_lt_of_le hB (Below.size (Below.trans Q3.out (by repeat' (first | (with_reducible exact Below.refl _ _) | (with_reducible assumption) | (with_reducible refine below_drewN ?_ _) | (with_reducible refine Below.alloc ?_ ?_ _) | (with_reducible refine Below.drew ?_) | (with_reducible refine Below.setCell ?_ ?_ _) | go_size)))))).mono ?_
  rintro e w4 ⟨rfl, hb4⟩
  have Q4 := Lib.hid (chain Q3.out (by repeat' (first | (with_reducible exact Below.refl _ _) | (with_reducible assumption) | (with_reducible refine below_drewN ?_ _) | (with_reducible refine Below.alloc ?_ ?_ _) | (with_reducible refine Below.drew ?_) | (with_reducible refine Below.setCell ?_ ?_ _) | go_size)) hb4)
  have hq4 : w0.heap.size ≤ w4.heap.size := Q4.out.size
  have hz4 := hb4.size
  try simp only [World.size_alloc, World.size_setCell, World.size_drew] at hz4
  have hB4 : 0 < w4.heap.size := Nat.lt_of_lt_of_le hB (Q4.out.size)
  have hT4 : Tab w4 := hT.below Q4.out hB
  clear hb4
  go_wp2_with fail
  refine (awake_any _ (by exact hT.below (Below.trans Q4.out (by repeat' (first | (with_reducible exact Below.refl _ _) | (with_reducible assumption) | (with_reducible refine below_drewN ?_ _) | (with_reducible refine Below.alloc ?_ ?_ _) | (with_reducible refine Below.drew ?_) | (with_reducible refine Below.setCell ?_ ?_ _) | go_size))) hB) (by exact Nat.lt_of_lt_of_le hB (Below.size (Below.trans Q4.out (by repeat' (first | (with_reducible exact Below.refl _ _) | (with_reducible assumption) | (with_reducible refine below_drewN ?_ _) | (with_reducible refine Below.alloc ?_ ?_ _) | (with_reducible refine Below.drew ?_) | (with_reducible refine Below.setCell ?_ ?_ _) | go_size)))))).mono ?_
  rintro e w5 ⟨rfl, hb5⟩
  have Q5 := Lib.hid (chain Q4.out (by repeat' (first | (with_reducible exact Below.refl _ _) | (with_reducible assumption) | (with_reducible refine below_drewN ?_ _) | (with_reducible refine Below.alloc ?_ ?_ _) | (with_reducible refine Below.drew ?_) | (with_reducible refine Below.setCell ?_ ?_ _) | go_size)) hb5)
  have hq5 : w0.heap.size ≤ w5.heap.size := Q5.out.size
  have hz5 := hb5.size
  try simp only [World.size_alloc, World.size_setCell, World.size_drew] at hz5
  have hB5 : 0 < w5.heap.size := Nat.lt_of_lt_of_le hB (Q5.out.size)
  have hT5 : Tab w5 := hT.below Q5.out hB
  clear hb5
  go_wp2
  go_ret
  exact ⟨rfl, Q5.out⟩

namespace Cal
theorem civ_of_hv {y m d h : Int} (a : 2000 ≤ y ∧ y ≤ 2099 ∧ 1 ≤ m ∧ m ≤ 12 ∧ 1 ≤ d ∧ d ≤ len y m ∧ 0 ≤ h ∧ h ≤ 23) : IsCiv (hv y m d h) y m d ∧ hv y m d h % 24 = h ∧ 0 ≤ hv y m d h ∧ hv y m d h ≤ 876599 := by
  obtain ⟨a1, a2, a3, a4, a5, a6, a7, a8⟩ := a
  have e := (hv_good ⟨a1, a2, a3, a4, a5, a6, a7, a8⟩).1
  have b := year_bd a3 a4 a5 a6
  have c := cumY_eq (y - 2000).toNat
  have c3 : yl y ≤ 366 := (yl_bd y).2
  have c5 : y % 4 ≠ 0 → yl y = 365 := fun h => by simp [yl, h]
  refine ⟨⟨a1, a2, a3, a4, a5, a6, ?_⟩, ?_, ?_, ?_⟩ <;> rw [e] <;> omega
theorem am_val {x y m d k : Int} (h0 : 0 ≤ x) (h1 : x ≤ 876599) (hc : IsCiv x y m d) (hd : d ≤ 28) (k0 : 0 ≤ mon y m k) (k1 : mon y m k < 1200) :
    ame x k = 0 ∧ 0 ≤ amv x k ∧ amv x k ≤ 876599 ∧ IsCiv (amv x k) (2000 + mon y m k / 12) (mon y m k % 12 + 1) d ∧ amv x k % 24 = x % 24 := by
  have g := am_good h0 h1 hc k0 k1
  have l := len_bd (2000 + mon y m k / 12) (mon y m k % 12 + 1) (by omega) (by omega)
  have e : amd y m d k = d := by unfold amd; omega
  rw [e] at g
  have ok : 2000 ≤ 2000 + mon y m k / 12 ∧ 2000 + mon y m k / 12 ≤ 2099 ∧ 1 ≤ mon y m k % 12 + 1 ∧ mon y m k % 12 + 1 ≤ 12 ∧ 1 ≤ d ∧ d ≤ len (2000 + mon y m k / 12) (mon y m k % 12 + 1) ∧ 0 ≤ x % 24 ∧ x % 24 ≤ 23 := ⟨by omega, by omega, by omega, by omega, hc.2.2.2.2.1, by omega, by omega, by omega⟩
  have v := civ_of_hv ok
  rw [g.1, g.2]
  exact ⟨(hv_good ok).2, v.2.2.1, v.2.2.2, v.1, v.2.1⟩
theorem am_err {x y m d k : Int} (h0 : 0 ≤ x) (h1 : x ≤ 876599) (hc : IsCiv x y m d) (hd : d ≤ 28) (h : ame x k = 0) : 0 ≤ mon y m k ∧ mon y m k < 1200 := by
  rcases Classical.em (0 ≤ mon y m k ∧ mon y m k < 1200) with q | q
  · exact q
  · rw [(am_bad h0 h1 hc q).2] at h; omega
theorem am_steps {x y m d a b : Int} (h0 : 0 ≤ x) (h1 : x ≤ 876599) (hc : IsCiv x y m d) (hd : d ≤ 28) (ha : ame x a = 0) (hb : ame (amv x a) b = 0) : ame x (a + b) = 0 ∧ amv (amv x a) b = amv x (a + b) := by
  have qa := am_err h0 h1 hc hd ha
  obtain ⟨_, p0, p1, pc, ph⟩ := am_val h0 h1 hc hd qa.1 qa.2
  have qb := am_err p0 p1 pc hd hb
  have em : mon (2000 + mon y m a / 12) (mon y m a % 12 + 1) b = mon y m (a + b) := by unfold mon; omega
  have g2 := am_good p0 p1 pc qb.1 qb.2
  have v := am_val h0 h1 hc hd (k := a + b) (by omega) (by omega)
  have g3 := am_good h0 h1 hc (k := a + b) (by omega) (by omega)
  refine ⟨v.1, ?_⟩
  rw [g2.1, g3.1, em, ph]
  have l := len_bd (2000 + mon y m (a + b) / 12) (mon y m (a + b) % 12 + 1) (by omega) (by omega)
  have e1 : amd (2000 + mon y m a / 12) (mon y m a % 12 + 1) d b = d := by unfold amd; rw [em]; omega
  have e2 : amd y m d (a + b) = d := by unfold amd; omega
  rw [e1, e2]
end Cal

set_option maxHeartbeats 1000000 in
set_option maxRecDepth 100000 in
theorem steps_i (n a b y m d0 d x : Int) (w0 : World) (hT : Tab w0) (hB : 0 < w0.heap.size) (a0 : -128 ≤ a) (a1 : a ≤ 127) (b0 : -128 ≤ b) (b1 : b ≤ 127) (n0 : 0 ≤ Cal.within n 876600) (n1 : Cal.within n 876600 ≤ 876599)
    (HC : Hid (Cal.IsCiv (Cal.within n 876600) y m d0)) (HX : Hid (Cal.hv y m d (Cal.within n 876600 % 24) = x ∧ Cal.he y m d (Cal.within n 876600 % 24) = 0)) (HD : Hid (d = d0)) (hd : d0 ≤ 28) (he : (Cal.ame x a != 0) = true) :
    Calls Tryd.prog 10 #[.int .i64 n, .int .i8 a, .int .i8 b] w0 fun e w' => e = .returned (.bool true) ∧ Below w0.heap.size w0 w' := by
  have HR := Lib.hid (fun w => rhour_any y m d (Cal.within n 876600 % 24) w)
  rw [HX.out.1, HX.out.2, HD.out] at HR
  go_enter Tryd.func10, Tryd.ntmps10
  have Q0 := Lib.hid (Below.refl w0.heap.size w0)
  have hT0 := hT
  have hB0 := hB
  go_wp2_with fail
  refine (lawhour_any n _).mono ?_
  rintro e w' ⟨rfl, rfl⟩
  go_wp2_with fail
  refine (rciv_is n0 n1 HC.out _).mono ?_
  rintro e w1 ⟨rfl, hb1⟩
  have Q1 := Lib.hid (chain Q0.out (by repeat' (first | (with_reducible exact Below.refl _ _) | (with_reducible assumption) | (with_reducible refine below_drewN ?_ _) | (with_reducible refine Below.alloc ?_ ?_ _) | (with_reducible refine Below.drew ?_) | (with_reducible refine Below.setCell ?_ ?_ _) | go_size)) hb1)
  have hq1 : w0.heap.size ≤ w1.heap.size := Q1.out.size
  have hz1 := hb1.size
  try simp only [World.size_alloc, World.size_setCell, World.size_drew] at hz1
  have hB1 : 0 < w1.heap.size := Nat.lt_of_lt_of_le hB (Q1.out.size)
  have hT1 : Tab w1 := hT.below Q1.out hB
  clear hb1
  go_wp2_with fail
  refine (HR.out _).mono ?_
  rintro e w2 ⟨rfl, hb2⟩
  have Q2 := Lib.hid (chain Q1.out (by repeat' (first | (with_reducible exact Below.refl _ _) | (with_reducible assumption) | (with_reducible refine below_drewN ?_ _) | (with_reducible refine Below.alloc ?_ ?_ _) | (with_reducible refine Below.drew ?_) | (with_reducible refine Below.setCell ?_ ?_ _) | go_size)) hb2)
  have hq2 : w0.heap.size ≤ w2.heap.size := Q2.out.size
  have hz2 := hb2.size
  try simp only [World.size_alloc, World.size_setCell, World.size_drew] at hz2
  have hB2 : 0 < w2.heap.size := Nat.lt_of_lt_of_le hB (Q2.out.size)
  have hT2 : Tab w2 := hT.below Q2.out hB
  clear hb2
  go_wp2_with fail
  refine (am_any x a _ (by exact hT.below (Below.trans Q2.out (by repeat' (first | (with_reducible exact Below.refl _ _) | (with_reducible assumption) | (with_reducible refine below_drewN ?_ _) | (with_reducible refine Below.alloc ?_ ?_ _) | (with_reducible refine Below.drew ?_) | (with_reducible refine Below.setCell ?_ ?_ _) | go_size))) hB) (by exact Nat.lt_of_lt_of_le hB (Below.size (Below.trans Q2.out (by repeat' (first | (with_reducible exact Below.refl _ _) | (with_reducible assumption) | (with_reducible refine below_drewN ?_ _) | (with_reducible refine Below.alloc ?_ ?_ _) | (with_reducible refine Below.drew ?_) | (with_reducible refine Below.setCell ?_ ?_ _) | go_size)))))).mono ?_
  rintro e w3 ⟨rfl, hb3⟩
  have Q3 := Lib.hid (chain Q2.out (by repeat' (first | (with_reducible exact Below.refl _ _) | (with_reducible assumption) | (with_reducible refine below_drewN ?_ _) | (with_reducible refine Below.alloc ?_ ?_ _) | (with_reducible refine Below.drew ?_) | (with_reducible refine Below.setCell ?_ ?_ _) | go_size)) hb3)
  have hq3 : w0.heap.size ≤ w3.heap.size := Q3.out.size
  have hz3 := hb3.size
  try simp only [World.size_alloc, World.size_setCell, World.size_drew] at hz3
  have hB3 : 0 < w3.heap.size := Nat.lt_of_lt_of_le hB (Q3.out.size)
  have hT3 : Tab w3 := hT.below Q3.out hB
  clear hb3
  go_wp2_with fail
  refine (am_any (Cal.amv x a) b _ (by exact hT.below (Below.trans Q3.out (by repeat' (first | (with_reducible exact Below.refl _ _) | (with_reducible assumption) | (with_reducible refine below_drewN ?_ _) | (with_reducible refine Below.alloc ?_ ?_ _) | (with_reducible refine Below.drew ?_) | (with_reducible refine Below.setCell ?_ ?_ _) | go_size))) hB) (by exact Nat.lt_of_lt_of_le hB (Below.size (Below.trans Q3.out (by repeat' (first | (with_reducible exact Below.refl _ _) | (with_reducible assumption) | (with_reducible refine below_drewN ?_ _) | (with_reducible refine Below.alloc ?_ ?_ _) | (with_reducible refine Below.drew ?_) | (with_reducible refine Below.setCell ?_ ?_ _) | go_size)))))).mono ?_
  rintro e w4 ⟨rfl, hb4⟩
  have Q4 := Lib.hid (chain Q3.out (by repeat' (first | (with_reducible exact Below.refl _ _) | (with_reducible assumption) | (with_reducible refine below_drewN ?_ _) | (with_reducible refine Below.alloc ?_ ?_ _) | (with_reducible refine Below.drew ?_) | (with_reducible refine Below.setCell ?_ ?_ _) | go_size)) hb4)
  have hq4 : w0.heap.size ≤ w4.heap.size := Q4.out.size
  have hz4 := hb4.size
  try simp only [World.size_alloc, World.size_setCell, World.size_drew] at hz4
  have hB4 : 0 < w4.heap.size := Nat.lt_of_lt_of_le hB (Q4.out.size)
  have hT4 : Tab w4 := hT.below Q4.out hB
  clear hb4
  go_wp2_with fail
  refine (am_any x (a + b) _ (by exact hT.below (Below.trans Q4.out (by repeat' (first | (with_reducible exact Below.refl _ _) | (with_reducible assumption) | (with_reducible refine below_drewN ?_ _) | (with_reducible refine Below.alloc ?_ ?_ _) | (with_reducible refine Below.drew ?_) | (with_reducible refine Below.setCell ?_ ?_ _) | go_size))) hB) (by exact Nat.lt_of_lt_of_le hB (Below.size (Below.trans Q4.out (by repeat' (first | (with_reducible exact Below.refl _ _) | (with_reducible assumption) | (with_reducible refine below_drewN ?_ _) | (with_reducible refine Below.alloc ?_ ?_ _) | (with_reducible refine Below.drew ?_) | (with_reducible refine Below.setCell ?_ ?_ _) | go_size)))))).mono ?_
  rintro e w5 ⟨rfl, hb5⟩
  have Q5 := Lib.hid (chain Q4.out (by repeat' (first | (with_reducible exact Below.refl _ _) | (with_reducible assumption) | (with_reducible refine below_drewN ?_ _) | (with_reducible refine Below.alloc ?_ ?_ _) | (with_reducible refine Below.drew ?_) | (with_reducible refine Below.setCell ?_ ?_ _) | go_size)) hb5)
  have hq5 : w0.heap.size ≤ w5.heap.size := Q5.out.size
  have hz5 := hb5.size
  try simp only [World.size_alloc, World.size_setCell, World.size_drew] at hz5
  have hB5 : 0 < w5.heap.size := Nat.lt_of_lt_of_le hB (Q5.out.size)
  have hT5 : Tab w5 := hT.below Q5.out hB
  clear hb5
  go_wp2_with fail
  refine (awake_any _ (by exact hT.below (Below.trans Q5.out (by repeat' (first | (with_reducible exact Below.refl _ _) | (with_reducible assumption) | (with_reducible refine below_drewN ?_ _) | (with_reducible refine Below.alloc ?_ ?_ _) | (with_reducible refine Below.drew ?_) | (with_reducible refine Below.setCell ?_ ?_ _) | go_size))) hB) (by exact Nat.lt_of_lt_of_le hB (Below.size (Below.trans Q5.out (by repeat' (first | (with_reducible exact Below.refl _ _) | (with_reducible assumption) | (with_reducible refine below_drewN ?_ _) | (with_reducible refine Below.alloc ?_ ?_ _) | (with_reducible refine Below.drew ?_) | (with_reducible refine Below.setCell ?_ ?_ _) | go_size)))))).mono ?_
  rintro e w6 ⟨rfl, hb6⟩
  have Q6 := Lib.hid (chain Q5.out (by repeat' (first | (with_reducible exact Below.refl _ _) | (with_reducible assumption) | (with_reducible refine below_drewN ?_ _) | (with_reducible refine Below.alloc ?_ ?_ _) | (with_reducible refine Below.drew ?_) | (with_reducible refine Below.setCell ?_ ?_ _) | go_size)) hb6)
  have hq6 : w0.heap.size ≤ w6.heap.size := Q6.out.size
  have hz6 := hb6.size
  try simp only [World.size_alloc, World.size_setCell, World.size_drew] at hz6
  have hB6 : 0 < w6.heap.size := Nat.lt_of_lt_of_le hB (Q6.out.size)
  have hT6 : Tab w6 := hT.below Q6.out hB
  clear hb6
  go_wp2
  go_ret
  exact ⟨rfl, Q6.out⟩

set_option maxHeartbeats 1000000 in
set_option maxRecDepth 100000 in
theorem steps_ii (n a b y m d0 d x : Int) (w0 : World) (hT : Tab w0) (hB : 0 < w0.heap.size) (a0 : -128 ≤ a) (a1 : a ≤ 127) (b0 : -128 ≤ b) (b1 : b ≤ 127) (n0 : 0 ≤ Cal.within n 876600) (n1 : Cal.within n 876600 ≤ 876599)
    (HC : Hid (Cal.IsCiv (Cal.within n 876600) y m d0)) (HX : Hid (Cal.hv y m d (Cal.within n 876600 % 24) = x ∧ Cal.he y m d (Cal.within n 876600 % 24) = 0)) (HD : Hid (d = d0)) (hd : d0 ≤ 28) (he : (Cal.ame x a != 0) = false) (hf : (Cal.ame (Cal.amv x a) b != 0) = true) :
    Calls Tryd.prog 10 #[.int .i64 n, .int .i8 a, .int .i8 b] w0 fun e w' => e = .returned (.bool true) ∧ Below w0.heap.size w0 w' := by
  have HR := Lib.hid (fun w => rhour_any y m d (Cal.within n 876600 % 24) w)
  rw [HX.out.1, HX.out.2, HD.out] at HR
  go_enter Tryd.func10, Tryd.ntmps10
  have Q0 := Lib.hid (Below.refl w0.heap.size w0)
  have hT0 := hT
  have hB0 := hB
  go_wp2_with fail
  refine (lawhour_any n _).mono ?_
  rintro e w' ⟨rfl, rfl⟩
  go_wp2_with fail
  refine (rciv_is n0 n1 HC.out _).mono ?_
  rintro e w1 ⟨rfl, hb1⟩
  have Q1 := Lib.hid (chain Q0.out (by repeat' (first | (with_reducible exact Below.refl _ _) | (with_reducible assumption) | (with_reducible refine below_drewN ?_ _) | (with_reducible refine Below.alloc ?_ ?_ _) | (with_reducible refine Below.drew ?_) | (with_reducible refine Below.setCell ?_ ?_ _) | go_size)) hb1)
  have hq1 : w0.heap.size ≤ w1.heap.size := Q1.out.size
  have hz1 := hb1.size
  try simp only [World.size_alloc, World.size_setCell, World.size_drew] at hz1
  have hB1 : 0 < w1.heap.size := Nat.lt_of_lt_of_le hB (Q1.out.size)
  have hT1 : Tab w1 := hT.below Q1.out hB
  clear hb1
  go_wp2_with fail
  refine (HR.out _).mono ?_
  rintro e w2 ⟨rfl, hb2⟩
  have Q2 := Lib.hid (chain Q1.out (by repeat' (first | (with_reducible exact Below.refl _ _) | (with_reducible assumption) | (with_reducible refine below_drewN ?_ _) | (with_reducible refine Below.alloc ?_ ?_ _) | (with_reducible refine Below.drew ?_) | (with_reducible refine Below.setCell ?_ ?_ _) | go_size)) hb2)
  have hq2 : w0.heap.size ≤ w2.heap.size := Q2.out.size
  have hz2 := hb2.size
  try simp only [World.size_alloc, World.size_setCell, World.size_drew] at hz2
  have hB2 : 0 < w2.heap.size := Nat.lt_of_lt_of_le hB (Q2.out.size)
  have hT2 : Tab w2 := hT.below Q2.out hB
  clear hb2
  go_wp2_with fail
  refine (am_any x a _ (by exact hT.below (Below.trans Q2.out (by repeat' (first | (with_reducible exact Below.refl _ _) | (with_reducible assumption) | (with_reducible refine below_drewN ?_ _) | (with_reducible refine Below.alloc ?_ ?_ _) | (with_reducible refine Below.drew ?_) | (with_reducible refine Below.setCell ?_ ?_ _) | go_size))) hB) (by exact Nat.lt_of_lt_of_le hB (Below.size (Below.trans Q2.out (by repeat' (first | (with_reducible exact Below.refl _ _) | (with_reducible assumption) | (with_reducible refine below_drewN ?_ _) | (with_reducible refine Below.alloc ?_ ?_ _) | (with_reducible refine Below.drew ?_) | (with_reducible refine Below.setCell ?_ ?_ _) | go_size)))))).mono ?_
  rintro e w3 ⟨rfl, hb3⟩
  have Q3 := Lib.hid (chain Q2.out (by repeat' (first | (with_reducible exact Below.refl _ _) | (with_reducible assumption) | (with_reducible refine below_drewN ?_ _) | (with_reducible refine Below.alloc ?_ ?_ _) | (with_reducible refine Below.drew ?_) | (with_reducible refine Below.setCell ?_ ?_ _) | go_size)) hb3)
  have hq3 : w0.heap.size ≤ w3.heap.size := Q3.out.size
  have hz3 := hb3.size
  try simp only [World.size_alloc, World.size_setCell, World.size_drew] at hz3
  have hB3 : 0 < w3.heap.size := Nat.lt_of_lt_of_le hB (Q3.out.size)
  have hT3 : Tab w3 := hT.below Q3.out hB
  clear hb3
  go_wp2_with fail
  refine (am_any (Cal.amv x a) b _ (by exact hT.below (Below.trans Q3.out (by repeat' (first | (with_reducible exact Below.refl _ _) | (with_reducible assumption) | (with_reducible refine below_drewN ?_ _) | (with_reducible refine Below.alloc ?_ ?_ _) | (with_reducible refine Below.drew ?_) | (with_reducible refine Below.setCell ?_ ?_ _) | go_size))) hB) (by exact Nat.lt_of_lt_of_le hB (Below.size (Below.trans Q3.out (by repeat' (first | (with_reducible exact Below.refl _ _) | (with_reducible assumption) | (with_reducible refine below_drewN ?_ _) | (with_reducible refine Below.alloc ?_ ?_ _) | (with_reducible refine Below.drew ?_) | (with_reducible refine Below.setCell ?_ ?_ _) | go_size)))))).mono ?_
  rintro e w4 ⟨rfl, hb4⟩
  have Q4 := Lib.hid (chain Q3.out (by repeat' (first | (with_reducible exact Below.refl _ _) | (with_reducible assumption) | (with_reducible refine below_drewN ?_ _) | (with_reducible refine Below.alloc ?_ ?_ _) | (with_reducible refine Below.drew ?_) | (with_reducible refine Below.setCell ?_ ?_ _) | go_size)) hb4)
  have hq4 : w0.heap.size ≤ w4.heap.size := Q4.out.size
  have hz4 := hb4.size
  try simp only [World.size_alloc, World.size_setCell, World.size_drew] at hz4
  have hB4 : 0 < w4.heap.size := Nat.lt_of_lt_of_le hB (Q4.out.size)
  have hT4 : Tab w4 := hT.below Q4.out hB
  clear hb4
  go_wp2_with fail
  refine (am_any x (a + b) _ (by exact hT.below (Below.trans Q4.out (by repeat' (first | (with_reducible exact Below.refl _ _) | (with_reducible assumption) | (with_reducible refine below_drewN ?_ _) | (with_reducible refine Below.alloc ?_ ?_ _) | (with_reducible refine Below.drew ?_) | (with_reducible refine Below.setCell ?_ ?_ _) | go_size))) hB) (by exact Nat.lt_of_lt_of_le hB (Below.size (Below.trans Q4.out (by repeat' (first | (with_reducible exact Below.refl _ _) | (with_reducible assumption) | (with_reducible refine below_drewN ?_ _) | (with_reducible refine Below.alloc ?_ ?_ _) | (with_reducible refine Below.drew ?_) | (with_reducible refine Below.setCell ?_ ?_ _) | go_size)))))).mono ?_
  rintro e w5 ⟨rfl, hb5⟩
  have Q5 := Lib.hid (chain Q4.out (by repeat' (first | (with_reducible exact Below.refl _ _) | (with_reducible assumption) | (with_reducible refine below_drewN ?_ _) | (with_reducible refine Below.alloc ?_ ?_ _) | (with_reducible refine Below.drew ?_) | (with_reducible refine Below.setCell ?_ ?_ _) | go_size)) hb5)
  have hq5 : w0.heap.size ≤ w5.heap.size := Q5.out.size
  have hz5 := hb5.size
  try simp only [World.size_alloc, World.size_setCell, World.size_drew] at hz5
  have hB5 : 0 < w5.heap.size := Nat.lt_of_lt_of_le hB (Q5.out.size)
  have hT5 : Tab w5 := hT.below Q5.out hB
  clear hb5
  go_wp2_with fail
  refine (awake_any _ (by exact hT.below (Below.trans Q5.out (by repeat' (first | (with_reducible exact Below.refl _ _) | (with_reducible assumption) | (with_reducible refine below_drewN ?_ _) | (with_reducible refine Below.alloc ?_ ?_ _) | (with_reducible refine Below.drew ?_) | (with_reducible refine Below.setCell ?_ ?_ _) | go_size))) hB) (by exact Nat.lt_of_lt_of_le hB (Below.size (Below.trans Q5.out (by repeat' (first | (with_reducible exact Below.refl _ _) | (with_reducible assumption) | (with_reducible refine below_drewN ?_ _) | (with_reducible refine Below.alloc ?_ ?_ _) | (with_reducible refine Below.drew ?_) | (with_reducible refine Below.setCell ?_ ?_ _) | go_size)))))).mono ?_
  rintro e w6 ⟨rfl, hb6⟩
  have Q6 := Lib.hid (chain Q5.out (by repeat' (first | (with_reducible exact Below.refl _ _) | (with_reducible assumption) | (with_reducible refine below_drewN ?_ _) | (with_reducible refine Below.alloc ?_ ?_ _) | (with_reducible refine Below.drew ?_) | (with_reducible refine Below.setCell ?_ ?_ _) | go_size)) hb6)
  have hq6 : w0.heap.size ≤ w6.heap.size := Q6.out.size
  have hz6 := hb6.size
  try simp only [World.size_alloc, World.size_setCell, World.size_drew] at hz6
  have hB6 : 0 < w6.heap.size := Nat.lt_of_lt_of_le hB (Q6.out.size)
  have hT6 : Tab w6 := hT.below Q6.out hB
  clear hb6
  go_wp2
  go_ret
  exact ⟨rfl, Q6.out⟩

set_option maxHeartbeats 1000000 in
set_option maxRecDepth 100000 in
theorem steps_iii (n a b y m d0 d x : Int) (w0 : World) (hT : Tab w0) (hB : 0 < w0.heap.size) (a0 : -128 ≤ a) (a1 : a ≤ 127) (b0 : -128 ≤ b) (b1 : b ≤ 127) (n0 : 0 ≤ Cal.within n 876600) (n1 : Cal.within n 876600 ≤ 876599)
    (HC : Hid (Cal.IsCiv (Cal.within n 876600) y m d0)) (HX : Hid (Cal.hv y m d (Cal.within n 876600 % 24) = x ∧ Cal.he y m d (Cal.within n 876600 % 24) = 0)) (HD : Hid (d = d0)) (hd : d0 ≤ 28) (he : (Cal.ame x a != 0) = false) (hf : (Cal.ame (Cal.amv x a) b != 0) = false) (hg : (Cal.ame x (a + b) == 0) = true) (hq : (Cal.amv (Cal.amv x a) b == Cal.amv x (a + b)) = true) :
    Calls Tryd.prog 10 #[.int .i64 n, .int .i8 a, .int .i8 b] w0 fun e w' => e = .returned (.bool true) ∧ Below w0.heap.size w0 w' := by
  have HR := Lib.hid (fun w => rhour_any y m d (Cal.within n 876600 % 24) w)
  rw [HX.out.1, HX.out.2, HD.out] at HR
  go_enter Tryd.func10, Tryd.ntmps10
  have Q0 := Lib.hid (Below.refl w0.heap.size w0)
  have hT0 := hT
  have hB0 := hB
  go_wp2_with fail
  refine (lawhour_any n _).mono ?_
  rintro e w' ⟨rfl, rfl⟩
  go_wp2_with fail
  refine (rciv_is n0 n1 HC.out _).mono ?_
  rintro e w1 ⟨rfl, hb1⟩
  have Q1 := Lib.hid (chain Q0.out (by repeat' (first | (with_reducible exact Below.refl _ _) | (with_reducible assumption) | (with_reducible refine below_drewN ?_ _) | (with_reducible refine Below.alloc ?_ ?_ _) | (with_reducible refine Below.drew ?_) | (with_reducible refine Below.setCell ?_ ?_ _) | go_size)) hb1)
  have hq1 : w0.heap.size ≤ w1.heap.size := Q1.out.size
  have hz1 := hb1.size
  try simp only [World.size_alloc, World.size_setCell, World.size_drew] at hz1
  have hB1 : 0 < w1.heap.size := Nat.lt_of_lt_of_le hB (Q1.out.size)
  have hT1 : Tab w1 := hT.below Q1.out hB
  clear hb1
  go_wp2_with fail
  refine (HR.out _).mono ?_
  rintro e w2 ⟨rfl, hb2⟩
  have Q2 := Lib.hid (chain Q1.out (by repeat' (first | (with_reducible exact Below.refl _ _) | (with_reducible assumption) | (with_reducible refine below_drewN ?_ _) | (with_reducible refine Below.alloc ?_ ?_ _) | (with_reducible refine Below.drew ?_) | (with_reducible refine Below.setCell ?_ ?_ _) | go_size)) hb2)
  have hq2 : w0.heap.size ≤ w2.heap.size := Q2.out.size
  have hz2 := hb2.size
  try simp only [World.size_alloc, World.size_setCell, World.size_drew] at hz2
  have hB2 : 0 < w2.heap.size := Nat.lt_of_lt_of_le hB (Q2.out.size)
  have hT2 : Tab w2 := hT.below Q2.out hB
  clear hb2
  go_wp2_with fail
  refine (am_any x a _ (by exact hT.below (Below.trans Q2.out (by repeat' (first | (with_reducible exact Below.refl _ _) | (with_reducible assumption) | (with_reducible refine below_drewN ?_ _) | (with_reducible refine Below.alloc ?_ ?_ _) | (with_reducible refine Below.drew ?_) | (with_reducible refine Below.setCell ?_ ?_ _) | go_size))) hB) (by exact Nat.lt_of_lt_of_le hB (Below.size (Below.trans Q2.out (by repeat' (first | (with_reducible exact Below.refl _ _) | (with_reducible assumption) | (with_reducible refine below_drewN ?_ _) | (with_reducible refine Below.alloc ?_ ?_ _) | (with_reducible refine Below.drew ?_) | (with_reducible refine Below.setCell ?_ ?_ _) | go_size)))))).mono ?_
  rintro e w3 ⟨rfl, hb3⟩
  have Q3 := Lib.hid (chain Q2.out (by repeat' (first | (with_reducible exact Below.refl _ _) | (with_reducible assumption) | (with_reducible refine below_drewN ?_ _) | (with_reducible refine Below.alloc ?_ ?_ _) | (with_reducible refine Below.drew ?_) | (with_reducible refine Below.setCell ?_ ?_ _) | go_size)) hb3)
  have hq3 : w0.heap.size ≤ w3.heap.size := Q3.out.size
  have hz3 := hb3.size
  try simp only [World.size_alloc, World.size_setCell, World.size_drew] at hz3
  have hB3 : 0 < w3.heap.size := Nat.lt_of_lt_of_le hB (Q3.out.size)
  have hT3 : Tab w3 := hT.below Q3.out hB
  clear hb3
  go_wp2_with fail
  refine (am_any (Cal.amv x a) b _ (by exact hT.below (Below.trans Q3.out (by repeat' (first | (with_reducible exact Below.refl _ _) | (with_reducible assumption) | (with_reducible refine below_drewN ?_ _) | (with_reducible refine Below.alloc ?_ ?_ _) | (with_reducible refine Below.drew ?_) | (with_reducible refine Below.setCell ?_ ?_ _) | go_size))) hB) (by exact Nat.lt_of_lt_of_le hB (Below.size (Below.trans Q3.out (by repeat' (first | (with_reducible exact Below.refl _ _) | (with_reducible assumption) | (with_reducible refine below_drewN ?_ _) | (with_reducible refine Below.alloc ?_ ?_ _) | (with_reducible refine Below.drew ?_) | (with_reducible refine Below.setCell ?_ ?_ _) | go_size)))))).mono ?_
  rintro e w4 ⟨rfl, hb4⟩
  have Q4 := Lib.hid (chain Q3.out (by repeat' (first | (with_reducible exact Below.refl _ _) | (with_reducible assumption) | (with_reducible refine below_drewN ?_ _) | (with_reducible refine Below.alloc ?_ ?_ _) | (with_reducible refine Below.drew ?_) | (with_reducible refine Below.setCell ?_ ?_ _) | go_size)) hb4)
  have hq4 : w0.heap.size ≤ w4.heap.size := Q4.out.size
  have hz4 := hb4.size
  try simp only [World.size_alloc, World.size_setCell, World.size_drew] at hz4
  have hB4 : 0 < w4.heap.size := Nat.lt_of_lt_of_le hB (Q4.out.size)
  have hT4 : Tab w4 := hT.below Q4.out hB
  clear hb4
  go_wp2_with fail
  refine (am_any x (a + b) _ (by exact hT.below (Below.trans Q4.out (by repeat' (first | (with_reducible exact Below.refl _ _) | (with_reducible assumption) | (with_reducible refine below_drewN ?_ _) | (with_reducible refine Below.alloc ?_ ?_ _) | (with_reducible refine Below.drew ?_) | (with_reducible refine Below.setCell ?_ ?_ _) | go_size))) hB) (by exact Nat.lt_of_lt_of_le hB (Below.size (Below.trans Q4.out (by repeat' (first | (with_reducible exact Below.refl _ _) | (with_reducible assumption) | (with_reducible refine below_drewN ?_ _) | (with_reducible refine Below.alloc ?_ ?_ _) | (with_reducible refine Below.drew ?_) | (with_reducible refine Below.setCell ?_ ?_ _) | go_size)))))).mono ?_
  rintro e w5 ⟨rfl, hb5⟩
  have Q5 := Lib.hid (chain Q4.out (by repeat' (first | (with_reducible exact Below.refl _ _) | (with_reducible assumption) | (with_reducible refine below_drewN ?_ _) | (with_reducible refine Below.alloc ?_ ?_ _) | (with_reducible refine Below.drew ?_) | (with_reducible refine Below.setCell ?_ ?_ _) | go_size)) hb5)
  have hq5 : w0.heap.size ≤ w5.heap.size := Q5.out.size
  have hz5 := hb5.size
  try simp only [World.size_alloc, World.size_setCell, World.size_drew] at hz5
  have hB5 : 0 < w5.heap.size := Nat.lt_of_lt_of_le hB (Q5.out.size)
  have hT5 : Tab w5 := hT.below Q5.out hB
  clear hb5
  go_wp2_with fail
  refine (awake_any _ (by exact hT.below (Below.trans Q5.out (by repeat' (first | (with_reducible exact Below.refl _ _) | (with_reducible assumption) | (with_reducible refine below_drewN ?_ _) | (with_reducible refine Below.alloc ?_ ?_ _) | (with_reducible refine Below.drew ?_) | (with_reducible refine Below.setCell ?_ ?_ _) | go_size))) hB) (by exact Nat.lt_of_lt_of_le hB (Below.size (Below.trans Q5.out (by repeat' (first | (with_reducible exact Below.refl _ _) | (with_reducible assumption) | (with_reducible refine below_drewN ?_ _) | (with_reducible refine Below.alloc ?_ ?_ _) | (with_reducible refine Below.drew ?_) | (with_reducible refine Below.setCell ?_ ?_ _) | go_size)))))).mono ?_
  rintro e w6 ⟨rfl, hb6⟩
  have Q6 := Lib.hid (chain Q5.out (by repeat' (first | (with_reducible exact Below.refl _ _) | (with_reducible assumption) | (with_reducible refine below_drewN ?_ _) | (with_reducible refine Below.alloc ?_ ?_ _) | (with_reducible refine Below.drew ?_) | (with_reducible refine Below.setCell ?_ ?_ _) | go_size)) hb6)
  have hq6 : w0.heap.size ≤ w6.heap.size := Q6.out.size
  have hz6 := hb6.size
  try simp only [World.size_alloc, World.size_setCell, World.size_drew] at hz6
  have hB6 : 0 < w6.heap.size := Nat.lt_of_lt_of_le hB (Q6.out.size)
  have hT6 : Tab w6 := hT.below Q6.out hB
  clear hb6
  go_wp2
  go_ret
  exact ⟨rfl, Q6.out⟩

set_option maxHeartbeats 1000000 in
set_option maxRecDepth 100000 in
theorem steps_ix (n a b y m d0 d x : Int) (w0 : World) (hT : Tab w0) (hB : 0 < w0.heap.size) (a0 : -128 ≤ a) (a1 : a ≤ 127) (b0 : -128 ≤ b) (b1 : b ≤ 127) (n0 : 0 ≤ Cal.within n 876600) (n1 : Cal.within n 876600 ≤ 876599)
    (HC : Hid (Cal.IsCiv (Cal.within n 876600) y m d0)) (HX : Hid (Cal.hv y m d (Cal.within n 876600 % 24) = x ∧ Cal.he y m d (Cal.within n 876600 % 24) = 0)) (HD : Hid (d = 28)) (hd : 28 < d0) (he : (Cal.ame x a != 0) = true) :
    Calls Tryd.prog 10 #[.int .i64 n, .int .i8 a, .int .i8 b] w0 fun e w' => e = .returned (.bool true) ∧ Below w0.heap.size w0 w' := by
  have HR := Lib.hid (fun w => rhour_any y m d (Cal.within n 876600 % 24) w)
  rw [HX.out.1, HX.out.2, HD.out] at HR
  go_enter Tryd.func10, Tryd.ntmps10
  have Q0 := Lib.hid (Below.refl w0.heap.size w0)
  have hT0 := hT
  have hB0 := hB
  go_wp2_with fail
  refine (lawhour_any n _).mono ?_
  rintro e w' ⟨rfl, rfl⟩
  go_wp2_with fail
  refine (rciv_is n0 n1 HC.out _).mono ?_
  rintro e w1 ⟨rfl, hb1⟩
  have Q1 := Lib.hid (chain Q0.out (by repeat' (first | (with_reducible exact Below.refl _ _) | (with_reducible assumption) | (with_reducible refine below_drewN ?_ _) | (with_reducible refine Below.alloc ?_ ?_ _) | (with_reducible refine Below.drew ?_) | (with_reducible refine Below.setCell ?_ ?_ _) | go_size)) hb1)
  have hq1 : w0.heap.size ≤ w1.heap.size := Q1.out.size
  have hz1 := hb1.size
  try simp only [World.size_alloc, World.size_setCell, World.size_drew] at hz1
  have hB1 : 0 < w1.heap.size := Nat.lt_of_lt_of_le hB (Q1.out.size)
  have hT1 : Tab w1 := hT.below Q1.out hB
  clear hb1
  go_wp2_with fail
  refine (HR.out _).mono ?_
  rintro e w2 ⟨rfl, hb2⟩
  have Q2 := Lib.hid (chain Q1.out (by repeat' (first | (with_reducible exact Below.refl _ _) | (with_reducible assumption) | (with_reducible refine below_drewN ?_ _) | (with_reducible refine Below.alloc ?_ ?_ _) | (with_reducible refine Below.drew ?_) | (with_reducible refine Below.setCell ?_ ?_ _) | go_size)) hb2)
  have hq2 : w0.heap.size ≤ w2.heap.size := Q2.out.size
  have hz2 := hb2.size
  try simp only [World.size_alloc, World.size_setCell, World.size_drew] at hz2
  have hB2 : 0 < w2.heap.size := Nat.lt_of_lt_of_le hB (Q2.out.size)
  have hT2 : Tab w2 := hT.below Q2.out hB
  clear hb2
  go_wp2_with fail
  refine (am_any x a _ (by exact hT.below (Below.trans Q2.out (by repeat' (first | (with_reducible exact Below.refl _ _) | (with_reducible assumption) | (with_reducible refine below_drewN ?_ _) | (with_reducible refine Below.alloc ?_ ?_ _) | (with_reducible refine Below.drew ?_) | (with_reducible refine Below.setCell ?_ ?_ _) | go_size))) hB) (by exact Nat.lt_of_lt_of_le hB (Below.size (Below.trans Q2.out (by repeat' (first | (with_reducible exact Below.refl _ _) | (with_reducible assumption) | (with_reducible refine below_drewN ?_ _) | (with_reducible refine Below.alloc ?_ ?_ _) | (with_reducible refine Below.drew ?_) | (with_reducible refine Below.setCell ?_ ?_ _) | go_size)))))).mono ?_
  rintro e w3 ⟨rfl, hb3⟩
  have Q3 := Lib.hid (chain Q2.out (by repeat' (first | (with_reducible exact Below.refl _ _) | (with_reducible assumption) | (with_reducible refine below_drewN ?_ _) | (with_reducible refine Below.alloc ?_ ?_ _) | (with_reducible refine Below.drew ?_) | (with_reducible refine Below.setCell ?_ ?_ _) | go_size)) hb3)
  have hq3 : w0.heap.size ≤ w3.heap.size := Q3.out.size
  have hz3 := hb3.size
  try simp only [World.size_alloc, World.size_setCell, World.size_drew] at hz3
  have hB3 : 0 < w3.heap.size := Nat.lt_of_lt_of_le hB (Q3.out.size)
  have hT3 : Tab w3 := hT.below Q3.out hB
  clear hb3
  go_wp2_with fail
  refine (am_any (Cal.amv x a) b _ (by exact hT.below (Below.trans Q3.out (by repeat' (first | (with_reducible exact Below.refl _ _) | (with_reducible assumption) | (with_reducible refine below_drewN ?_ _) | (with_reducible refine Below.alloc ?_ ?_ _) | (with_reducible refine Below.drew ?_) | (with_reducible refine Below.setCell ?_ ?_ _) | go_size))) hB) (by exact Nat.lt_of_lt_of_le hB (Below.size (Below.trans Q3.out (by repeat' (first | (with_reducible exact Below.refl _ _) | (with_reducible assumption) | (with_reducible refine below_drewN ?_ _) | (with_reducible refine Below.alloc ?_ ?_ _) | (with_reducible refine Below.drew ?_) | (with_reducible refine Below.setCell ?_ ?_ _) | go_size)))))).mono ?_
  rintro e w4 ⟨rfl, hb4⟩
  have Q4 := Lib.hid (chain Q3.out (by repeat' (first | (with_reducible exact Below.refl _ _) | (with_reducible assumption) | (with_reducible refine below_drewN ?_ _) | (with_reducible refine Below.alloc ?_ ?_ _) | (with_reducible refine Below.drew ?_) | (with_reducible refine Below.setCell ?_ ?_ _) | go_size)) hb4)
  have hq4 : w0.heap.size ≤ w4.heap.size := Q4.out.size
  have hz4 := hb4.size
  try simp only [World.size_alloc, World.size_setCell, World.size_drew] at hz4
  have hB4 : 0 < w4.heap.size := Nat.lt_of_lt_of_le hB (Q4.out.size)
  have hT4 : Tab w4 := hT.below Q4.out hB
  clear hb4
  go_wp2_with fail
  refine (am_any x (a + b) _ (by exact hT.below (Below.trans Q4.out (by repeat' (first | (with_reducible exact Below.refl _ _) | (with_reducible assumption) | (with_reducible refine below_drewN ?_ _) | (with_reducible refine Below.alloc ?_ ?_ _) | (with_reducible refine Below.drew ?_) | (with_reducible refine Below.setCell ?_ ?_ _) | go_size))) hB) (by exact Nat.lt_of_lt_of_le hB (Below.size (Below.trans Q4.out (by repeat' (first | (with_reducible exact Below.refl _ _) | (with_reducible assumption) | (with_reducible refine below_drewN ?_ _) | (with_reducible refine Below.alloc ?_ ?_ _) | (with_reducible refine Below.drew ?_) | (with_reducible refine Below.setCell ?_ ?_ _) | go_size)))))).mono ?_
  rintro e w5 ⟨rfl, hb5⟩
  have Q5 := Lib.hid (chain Q4.out (by repeat' (first | (with_reducible exact Below.refl _ _) | (with_reducible assumption) | (with_reducible refine below_drewN ?_ _) | (with_reducible refine Below.alloc ?_ ?_ _) | (with_reducible refine Below.drew ?_) | (with_reducible refine Below.setCell ?_ ?_ _) | go_size)) hb5)
  have hq5 : w0.heap.size ≤ w5.heap.size := Q5.out.size
  have hz5 := hb5.size
  try simp only [World.size_alloc, World.size_setCell, World.size_drew] at hz5
  have hB5 : 0 < w5.heap.size := Nat.lt_of_lt_of_le hB (Q5.out.size)
  have hT5 : Tab w5 := hT.below Q5.out hB
  clear hb5
  go_wp2_with fail
  refine (awake_any _ (by exact hT.below (Below.trans Q5.out (by repeat' (first | (with_reducible exact Below.refl _ _) | (with_reducible assumption) | (with_reducible refine below_drewN ?_ _) | (with_reducible refine Below.alloc ?_ ?_ _) | (with_reducible refine Below.drew ?_) | (with_reducible refine Below.setCell ?_ ?_ _) | go_size))) hB) (by exact Nat.lt_of_lt_of_le hB (Below.size (Below.trans Q5.out (by repeat' (first | (with_reducible exact Below.refl _ _) | (with_reducible assumption) | (with_reducible refine below_drewN ?_ _) | (with_reducible refine Below.alloc ?_ ?_ _) | (with_reducible refine Below.drew ?_) | (with_reducible refine Below.setCell ?_ ?_ _) | go_size)))))).mono ?_
  rintro e w6 ⟨rfl, hb6⟩
  have Q6 := Lib.hid (chain Q5.out (by repeat' (first | (with_reducible exact Below.refl _ _) | (with_reducible assumption) | (with_reducible refine below_drewN ?_ _) | (with_reducible refine Below.alloc ?_ ?_ _) | (with_reducible refine Below.drew ?_) | (with_reducible refine Below.setCell ?_ ?_ _) | go_size)) hb6)
  have hq6 : w0.heap.size ≤ w6.heap.size := Q6.out.size
  have hz6 := hb6.size
  try simp only [World.size_alloc, World.size_setCell, World.size_drew] at hz6
  have hB6 : 0 < w6.heap.size := Nat.lt_of_lt_of_le hB (Q6.out.size)
  have hT6 : Tab w6 := hT.below Q6.out hB
  clear hb6
  go_wp2
  go_ret
  exact ⟨rfl, Q6.out⟩

set_option maxHeartbeats 1000000 in
set_option maxRecDepth 100000 in
theorem steps_iix (n a b y m d0 d x : Int) (w0 : World) (hT : Tab w0) (hB : 0 < w0.heap.size) (a0 : -128 ≤ a) (a1 : a ≤ 127) (b0 : -128 ≤ b) (b1 : b ≤ 127) (n0 : 0 ≤ Cal.within n 876600) (n1 : Cal.within n 876600 ≤ 876599)
    (HC : Hid (Cal.IsCiv (Cal.within n 876600) y m d0)) (HX : Hid (Cal.hv y m d (Cal.within n 876600 % 24) = x ∧ Cal.he y m d (Cal.within n 876600 % 24) = 0)) (HD : Hid (d = 28)) (hd : 28 < d0) (he : (Cal.ame x a != 0) = false) (hf : (Cal.ame (Cal.amv x a) b != 0) = true) :
    Calls Tryd.prog 10 #[.int .i64 n, .int .i8 a, .int .i8 b] w0 fun e w' => e = .returned (.bool true) ∧ Below w0.heap.size w0 w' := by
  have HR := Lib.hid (fun w => rhour_any y m d (Cal.within n 876600 % 24) w)
  rw [HX.out.1, HX.out.2, HD.out] at HR
  go_enter Tryd.func10, Tryd.ntmps10
  have Q0 := Lib.hid (Below.refl w0.heap.size w0)
  have hT0 := hT
  have hB0 := hB
  go_wp2_with fail
  refine (lawhour_any n _).mono ?_
  rintro e w' ⟨rfl, rfl⟩
  go_wp2_with fail
  refine (rciv_is n0 n1 HC.out _).mono ?_
  rintro e w1 ⟨rfl, hb1⟩
  have Q1 := Lib.hid (chain Q0.out (by repeat' (first | (with_reducible exact Below.refl _ _) | (with_reducible assumption) | (with_reducible refine below_drewN ?_ _) | (with_reducible refine Below.alloc ?_ ?_ _) | (with_reducible refine Below.drew ?_) | (with_reducible refine Below.setCell ?_ ?_ _) | go_size)) hb1)
  have hq1 : w0.heap.size ≤ w1.heap.size := Q1.out.size
  have hz1 := hb1.size
  try simp only [World.size_alloc, World.size_setCell, World.size_drew] at hz1
  have hB1 : 0 < w1.heap.size := Nat.lt_of_lt_of_le hB (Q1.out.size)
  have hT1 : Tab w1 := hT.below Q1.out hB
  clear hb1
  go_wp2_with fail
  refine (HR.out _).mono ?_
  rintro e w2 ⟨rfl, hb2⟩
  have Q2 := Lib.hid (chain Q1.out (by repeat' (first | (with_reducible exact Below.refl _ _) | (with_reducible assumption) | (with_reducible refine below_drewN ?_ _) | (with_reducible refine Below.alloc ?_ ?_ _) | (with_reducible refine Below.drew ?_) | (with_reducible refine Below.setCell ?_ ?_ _) | go_size)) hb2)
  have hq2 : w0.heap.size ≤ w2.heap.size := Q2.out.size
  have hz2 := hb2.size
  try simp only [World.size_alloc, World.size_setCell, World.size_drew] at hz2
  have hB2 : 0 < w2.heap.size := Nat.lt_of_lt_of_le hB (Q2.out.size)
  have hT2 : Tab w2 := hT.below Q2.out hB
  clear hb2
  go_wp2_with fail
  refine (am_any x a _ (by exact hT.below (Below.trans Q2.out (by repeat' (first | (with_reducible exact Below.refl _ _) | (with_reducible assumption) | (with_reducible refine below_drewN ?_ _) | (with_reducible refine Below.alloc ?_ ?_ _) | (with_reducible refine Below.drew ?_) | (with_reducible refine Below.setCell ?_ ?_ _) | go_size))) hB) (by exact Nat.lt_of_lt_of_le hB (Below.size (Below.trans Q2.out (by repeat' (first | (with_reducible exact Below.refl _ _) | (with_reducible assumption) | (with_reducible refine below_drewN ?_ _) | (with_reducible refine Below.alloc ?_ ?_ _) | (with_reducible refine Below.drew ?_) | (with_reducible refine Below.setCell ?_ ?_ _) | go_size)))))).mono ?_
  rintro e w3 ⟨rfl, hb3⟩
  have Q3 := Lib.hid (chain Q2.out (by repeat' (first | (with_reducible exact Below.refl _ _) | (with_reducible assumption) | (with_reducible refine below_drewN ?_ _) | (with_reducible refine Below.alloc ?_ ?_ _) | (with_reducible refine Below.drew ?_) | (with_reducible refine Below.setCell ?_ ?_ _) | go_size)) hb3)
  have hq3 : w0.heap.size ≤ w3.heap.size := Q3.out.size
  have hz3 := hb3.size
  try simp only [World.size_alloc, World.size_setCell, World.size_drew] at hz3
  have hB3 : 0 < w3.heap.size := Nat.lt_of_lt_of_le hB (Q3.out.size)
  have hT3 : Tab w3 := hT.below Q3.out hB
  clear hb3
  go_wp2_with fail
  refine (am_any (Cal.amv x a) b _ (by exact hT.below (Below.trans Q3.out (by repeat' (first | (with_reducible exact Below.refl _ _) | (with_reducible assumption) | (with_reducible refine below_drewN ?_ _) | (with_reducible refine Below.alloc ?_ ?_ _) | (with_reducible refine Below.drew ?_) | (with_reducible refine Below.setCell ?_ ?_ _) | go_size))) hB) (by exact Nat.lt_of_lt_of_le hB (Below.size (Below.trans Q3.out (by repeat' (first | (with_reducible exact Below.refl _ _) | (with_reducible assumption) | (with_reducible refine below_drewN ?_ _) | (with_reducible refine Below.alloc ?_ ?_ _) | (with_reducible refine Below.drew ?_) | (with_reducible refine Below.setCell ?_ ?_ _) | go_size)))))).mono ?_
  rintro e w4 ⟨rfl, hb4⟩
  have Q4 := Lib.hid (chain Q3.out (by repeat' (first | (with_reducible exact Below.refl _ _) | (with_reducible assumption) | (with_reducible refine below_drewN ?_ _) | (with_reducible refine Below.alloc ?_ ?_ _) | (with_reducible refine Below.drew ?_) | (with_reducible refine Below.setCell ?_ ?_ _) | go_size)) hb4)
  have hq4 : w0.heap.size ≤ w4.heap.size := Q4.out.size
  have hz4 := hb4.size
  try simp only [World.size_alloc, World.size_setCell, World.size_drew] at hz4
  have hB4 : 0 < w4.heap.size := Nat.lt_of_lt_of_le hB (Q4.out.size)
  have hT4 : Tab w4 := hT.below Q4.out hB
  clear hb4
  go_wp2_with fail
  refine (am_any x (a + b) _ (by exact hT.below (Below.trans Q4.out (by repeat' (first | (with_reducible exact Below.refl _ _) | (with_reducible assumption) | (with_reducible refine below_drewN ?_ _) | (with_reducible refine Below.alloc ?_ ?_ _) | (with_reducible refine Below.drew ?_) | (with_reducible refine Below.setCell ?_ ?_ _) | go_size))) hB) (by exact Nat.lt_of_lt_of_le hB (Below.size (Below.trans Q4.out (by repeat' (first | (with_reducible exact Below.refl _ _) | (with_reducible assumption) | (with_reducible refine below_drewN ?_ _) | (with_reducible refine Below.alloc ?_ ?_ _) | (with_reducible refine Below.drew ?_) | (with_reducible refine Below.setCell ?_ ?_ _) | go_size)))))).mono ?_
  rintro e w5 ⟨rfl, hb5⟩
  have Q5 := Lib.hid (chain Q4.out (by repeat' (first | (with_reducible exact Below.refl _ _) | (with_reducible assumption) | (with_reducible refine below_drewN ?_ _) | (with_reducible refine Below.alloc ?_ ?_ _) | (with_reducible refine Below.drew ?_) | (with_reducible refine Below.setCell ?_ ?_ _) | go_size)) hb5)
  have hq5 : w0.heap.size ≤ w5.heap.size := Q5.out.size
  have hz5 := hb5.size
  try simp only [World.size_alloc, World.size_setCell, World.size_drew] at hz5
  have hB5 : 0 < w5.heap.size := Nat.lt_of_lt_of_le hB (Q5.out.size)
  have hT5 : Tab w5 := hT.below Q5.out hB
  clear hb5
  go_wp2_with fail
  refine (awake_any _ (by exact hT.below (Below.trans Q5.out (by repeat' (first | (with_reducible exact Below.refl _ _) | (with_reducible assumption) | (with_reducible refine below_drewN ?_ _) | (with_reducible refine Below.alloc ?_ ?_ _) | (with_reducible refine Below.drew ?_) | (with_reducible refine Below.setCell ?_ ?_ _) | go_size))) hB) (by exact Nat.lt_of_lt_of_le hB (Below.size (Below.trans Q5.out (by repeat' (first | (with_reducible exact Below.refl _ _) | (with_reducible assumption) | (with_reducible refine below_drewN ?_ _) | (with_reducible refine Below.alloc ?_ ?_ _) | (with_reducible refine Below.drew ?_) | (with_reducible refine Below.setCell ?_ ?_ _) | go_size)))))).mono ?_
  rintro e w6 ⟨rfl, hb6⟩
  have Q6 := Lib.hid (chain Q5.out (by repeat' (first | (with_reducible exact Below.refl _ _) | (with_reducible assumption) | (with_reducible refine below_drewN ?_ _) | (with_reducible refine Below.alloc ?_ ?_ _) | (with_reducible refine Below.drew ?_) | (with_reducible refine Below.setCell ?_ ?_ _) | go_size)) hb6)
  have hq6 : w0.heap.size ≤ w6.heap.size := Q6.out.size
  have hz6 := hb6.size
  try simp only [World.size_alloc, World.size_setCell, World.size_drew] at hz6
  have hB6 : 0 < w6.heap.size := Nat.lt_of_lt_of_le hB (Q6.out.size)
  have hT6 : Tab w6 := hT.below Q6.out hB
  clear hb6
  go_wp2
  go_ret
  exact ⟨rfl, Q6.out⟩

set_option maxHeartbeats 1000000 in
set_option maxRecDepth 100000 in
theorem steps_iiix (n a b y m d0 d x : Int) (w0 : World) (hT : Tab w0) (hB : 0 < w0.heap.size) (a0 : -128 ≤ a) (a1 : a ≤ 127) (b0 : -128 ≤ b) (b1 : b ≤ 127) (n0 : 0 ≤ Cal.within n 876600) (n1 : Cal.within n 876600 ≤ 876599)
    (HC : Hid (Cal.IsCiv (Cal.within n 876600) y m d0)) (HX : Hid (Cal.hv y m d (Cal.within n 876600 % 24) = x ∧ Cal.he y m d (Cal.within n 876600 % 24) = 0)) (HD : Hid (d = 28)) (hd : 28 < d0) (he : (Cal.ame x a != 0) = false) (hf : (Cal.ame (Cal.amv x a) b != 0) = false) (hg : (Cal.ame x (a + b) == 0) = true) (hq : (Cal.amv (Cal.amv x a) b == Cal.amv x (a + b)) = true) :
    Calls Tryd.prog 10 #[.int .i64 n, .int .i8 a, .int .i8 b] w0 fun e w' => e = .returned (.bool true) ∧ Below w0.heap.size w0 w' := by
  have HR := Lib.hid (fun w => rhour_any y m d (Cal.within n 876600 % 24) w)
  rw [HX.out.1, HX.out.2, HD.out] at HR
  go_enter Tryd.func10, Tryd.ntmps10
  have Q0 := Lib.hid (Below.refl w0.heap.size w0)
  have hT0 := hT
  have hB0 := hB
  go_wp2_with fail
  refine (lawhour_any n _).mono ?_
  rintro e w' ⟨rfl, rfl⟩
  go_wp2_with fail
  refine (rciv_is n0 n1 HC.out _).mono ?_
  rintro e w1 ⟨rfl, hb1⟩
  have Q1 := Lib.hid (chain Q0.out (by repeat' (first | (with_reducible exact Below.refl _ _) | (with_reducible assumption) | (with_reducible refine below_drewN ?_ _) | (with_reducible refine Below.alloc ?_ ?_ _) | (with_reducible refine Below.drew ?_) | (with_reducible refine Below.setCell ?_ ?_ _) | go_size)) hb1)
  have hq1 : w0.heap.size ≤ w1.heap.size := Q1.out.size
  have hz1 := hb1.size
  try simp only [World.size_alloc, World.size_setCell, World.size_drew] at hz1
  have hB1 : 0 < w1.heap.size := Nat.lt_of_lt_of_le hB (Q1.out.size)
  have hT1 : Tab w1 := hT.below Q1.out hB
  clear hb1
  go_wp2_with fail
  refine (HR.out _).mono ?_
  rintro e w2 ⟨rfl, hb2⟩
  have Q2 := Lib.hid (chain Q1.out (by repeat' (first | (with_reducible exact Below.refl _ _) | (with_reducible assumption) | (with_reducible refine below_drewN ?_ _) | (with_reducible refine Below.alloc ?_ ?_ _) | (with_reducible refine Below.drew ?_) | (with_reducible refine Below.setCell ?_ ?_ _) | go_size)) hb2)
  have hq2 : w0.heap.size ≤ w2.heap.size := Q2.out.size
  have hz2 := hb2.size
  try simp only [World.size_alloc, World.size_setCell, World.size_drew] at hz2
  have hB2 : 0 < w2.heap.size := Nat.lt_of_lt_of_le hB (Q2.out.size)
  have hT2 : Tab w2 := hT.below Q2.out hB
  clear hb2
  go_wp2_with fail
  refine (am_any x a _ (by exact hT.below (Below.trans Q2.out (by repeat' (first | (with_reducible exact Below.refl _ _) | (with_reducible assumption) | (with_reducible refine below_drewN ?_ _) | (with_reducible refine Below.alloc ?_ ?_ _) | (with_reducible refine Below.drew ?_) | (with_reducible refine Below.setCell ?_ ?_ _) | go_size))) hB) (by exact Nat.lt_of_lt_of_le hB (Below.size (Below.trans Q2.out (by repeat' (first | (with_reducible exact Below.refl _ _) | (with_reducible assumption) | (with_reducible refine below_drewN ?_ _) | (with_reducible refine Below.alloc ?_ ?_ _) | (with_reducible refine Below.drew ?_) | (with_reducible refine Below.setCell ?_ ?_ _) | go_size)))))).mono ?_
  rintro e w3 ⟨rfl, hb3⟩
  have Q3 := Lib.hid (chain Q2.out (by repeat' (first | (with_reducible exact Below.refl _ _) | (with_reducible assumption) | (with_reducible refine below_drewN ?_ _) | (with_reducible refine Below.alloc ?_ ?_ _) | (with_reducible refine Below.drew ?_) | (with_reducible refine Below.setCell ?_ ?_ _) | go_size)) hb3)
  have hq3 : w0.heap.size ≤ w3.heap.size := Q3.out.size
  have hz3 := hb3.size
  try simp only [World.size_alloc, World.size_setCell, World.size_drew] at hz3
  have hB3 : 0 < w3.heap.size := Nat.lt_of_lt_of_le hB (Q3.out.size)
  have hT3 : Tab w3 := hT.below Q3.out hB
  clear hb3
  go_wp2_with fail
  refine (am_any (Cal.amv x a) b _ (by exact hT.below (Below.trans Q3.out (by repeat' (first | (with_reducible exact Below.refl _ _) | (with_reducible assumption) | (with_reducible refine below_drewN ?_ _) | (with_reducible refine Below.alloc ?_ ?_ _) | (with_reducible refine Below.drew ?_) | (with_reducible refine Below.setCell ?_ ?_ _) | go_size))) hB) (by exact Nat.lt_of_lt_of_le hB (Below.size (Below.trans Q3.out (by repeat' (first | (with_reducible exact Below.refl _ _) | (with_reducible assumption) | (with_reducible refine below_drewN ?_ _) | (with_reducible refine Below.alloc ?_ ?_ _) | (with_reducible refine Below.drew ?_) | (with_reducible refine Below.setCell ?_ ?_ _) | go_size)))))).mono ?_
  rintro e w4 ⟨rfl, hb4⟩
  have Q4 := Lib.hid (chain Q3.out (by repeat' (first | (with_reducible exact Below.refl _ _) | (with_reducible assumption) | (with_reducible refine below_drewN ?_ _) | (with_reducible refine Below.alloc ?_ ?_ _) | (with_reducible refine Below.drew ?_) | (with_reducible refine Below.setCell ?_ ?_ _) | go_size)) hb4)
  have hq4 : w0.heap.size ≤ w4.heap.size := Q4.out.size
  have hz4 := hb4.size
  try simp only [World.size_alloc, World.size_setCell, World.size_drew] at hz4
  have hB4 : 0 < w4.heap.size := Nat.lt_of_lt_of_le hB (Q4.out.size)
  have hT4 : Tab w4 := hT.below Q4.out hB
  clear hb4
  go_wp2_with fail
  refine (am_any x (a + b) _ (by exact hT.below (Below.trans Q4.out (by repeat' (first | (with_reducible exact Below.refl _ _) | (with_reducible assumption) | (with_reducible refine below_drewN ?_ _) | (with_reducible refine Below.alloc ?_ ?_ _) | (with_reducible refine Below.drew ?_) | (with_reducible refine Below.setCell ?_ ?_ _) | go_size))) hB) (by exact Nat.lt_of_lt_of_le hB (Below.size (Below.trans Q4.out (by repeat' (first | (with_reducible exact Below.refl _ _) | (with_reducible assumption) | (with_reducible refine below_drewN ?_ _) | (with_reducible refine Below.alloc ?_ ?_ _) | (with_reducible refine Below.drew ?_) | (with_reducible refine Below.setCell ?_ ?_ _) | go_size)))))).mono ?_
  rintro e w5 ⟨rfl, hb5⟩
  have Q5 := Lib.hid (chain Q4.out (by repeat' (first | (with_reducible exact Below.refl _ _) | (with_reducible assumption) | (with_reducible refine below_drewN ?_ _) | (with_reducible refine Below.alloc ?_ ?_ _) | (with_reducible refine Below.drew ?_) | (with_reducible refine Below.setCell ?_ ?_ _) | go_size)) hb5)
  have hq5 : w0.heap.size ≤ w5.heap.size := Q5.out.size
  have hz5 := hb5.size
  try simp only [World.size_alloc, World.size_setCell, World.size_drew] at hz5
  have hB5 : 0 < w5.heap.size := Nat.lt_of_lt_of_le hB (Q5.out.size)
  have hT5 : Tab w5 := hT.below Q5.out hB
  clear hb5
  go_wp2_with fail
  refine (awake_any _ (by exact hT.below (Below.trans Q5.out (by repeat' (first | (with_reducible exact Below.refl _ _) | (with_reducible assumption) | (with_reducible refine below_drewN ?_ _) | (with_reducible refine Below.alloc ?_ ?_ _) | (with_reducible refine Below.drew ?_) | (with_reducible refine Below.setCell ?_ ?_ _) | go_size))) hB) (by exact Nat.lt_of_lt_of_le hB (Below.size (Below.trans Q5.out (by repeat' (first | (with_reducible exact Below.refl _ _) | (with_reducible assumption) | (with_reducible refine below_drewN ?_ _) | (with_reducible refine Below.alloc ?_ ?_ _) | (with_reducible refine Below.drew ?_) | (with_reducible refine Below.setCell ?_ ?_ _) | go_size)))))).mono ?_
  rintro e w6 ⟨rfl, hb6⟩
  have Q6 := Lib.hid (chain Q5.out (by repeat' (first | (with_reducible exact Below.refl _ _) | (with_reducible assumption) | (with_reducible refine below_drewN ?_ _) | (with_reducible refine Below.alloc ?_ ?_ _) | (with_reducible refine Below.drew ?_) | (with_reducible refine Below.setCell ?_ ?_ _) | go_size)) hb6)
  have hq6 : w0.heap.size ≤ w6.heap.size := Q6.out.size
  have hz6 := hb6.size
  try simp only [World.size_alloc, World.size_setCell, World.size_drew] at hz6
  have hB6 : 0 < w6.heap.size := Nat.lt_of_lt_of_le hB (Q6.out.size)
  have hT6 : Tab w6 := hT.below Q6.out hB
  clear hb6
  go_wp2
  go_ret
  exact ⟨rfl, Q6.out⟩

theorem law_steps (n a b : Int) (w0 : World) (hT : Tab w0) (hB : 0 < w0.heap.size) (a0 : -128 ≤ a) (a1 : a ≤ 127) (b0 : -128 ≤ b) (b1 : b ≤ 127) :
    Calls Tryd.prog 10 #[.int .i64 n, .int .i8 a, .int .i8 b] w0 fun e w' => e = .returned (.bool true) ∧ Below w0.heap.size w0 w' := by
  have hw := Cal.within_bd n 876600 (by omega)
  have n1 : Cal.within n 876600 ≤ 876599 := by omega
  have hc := Cal.civ_spec hw.1 n1
  obtain ⟨c1, c2, c3, c4, c5, c6, c7⟩ := id hc
  generalize Cal.cvy (Cal.within n 876600) = y at *
  generalize Cal.cvm (Cal.within n 876600) = m at *
  generalize Cal.cvd (Cal.within n 876600) = d0 at *
  have hl := Cal.len_bd y m c3 c4
  have main : ∀ d, 1 ≤ d → d ≤ 28 → (28 < d0 ∧ d = 28 ∨ d0 ≤ 28 ∧ d = d0) → Calls Tryd.prog 10 #[.int .i64 n, .int .i8 a, .int .i8 b] w0 fun e w' => e = .returned (.bool true) ∧ Below w0.heap.size w0 w' := by
    intro d d1 d2 hd
    have ok : 2000 ≤ y ∧ y ≤ 2099 ∧ 1 ≤ m ∧ m ≤ 12 ∧ 1 ≤ d ∧ d ≤ Cal.len y m ∧ 0 ≤ Cal.within n 876600 % 24 ∧ Cal.within n 876600 % 24 ≤ 23 := ⟨c1, c2, c3, c4, d1, by omega, by omega, by omega⟩
    obtain ⟨v1, v2, v3, v4⟩ := Cal.civ_of_hv ok
    have hx : Cal.hv y m d (Cal.within n 876600 % 24) = Cal.hv y m d (Cal.within n 876600 % 24) ∧ Cal.he y m d (Cal.within n 876600 % 24) = 0 := ⟨rfl, (Cal.hv_good ok).2⟩
    generalize hxx : Cal.hv y m d (Cal.within n 876600 % 24) = x at v1 v2 v3 v4
    have hx' : Cal.hv y m d (Cal.within n 876600 % 24) = x ∧ Cal.he y m d (Cal.within n 876600 % 24) = 0 := ⟨hxx, hx.2⟩
    clear hx hxx
    by_cases he : Cal.ame x a = 0
    · by_cases hf : Cal.ame (Cal.amv x a) b = 0
      · have st := Cal.am_steps v3 v4 v1 d2 he hf
        rcases hd with ⟨h, rfl⟩ | ⟨h, rfl⟩
        · exact steps_iiix n a b y m d0 28 x w0 hT hB a0 a1 b0 b1 hw.1 n1 hc hx' rfl h (by simp [he]) (by simp [hf]) (by simp [st.1]) (by simp [st.2])
        · exact steps_iii n a b y m d d x w0 hT hB a0 a1 b0 b1 hw.1 n1 hc hx' rfl h (by simp [he]) (by simp [hf]) (by simp [st.1]) (by simp [st.2])
      · rcases hd with ⟨h, rfl⟩ | ⟨h, rfl⟩
        · exact steps_iix n a b y m d0 28 x w0 hT hB a0 a1 b0 b1 hw.1 n1 hc hx' rfl h (by simp [he]) (by simp [hf])
        · exact steps_ii n a b y m d d x w0 hT hB a0 a1 b0 b1 hw.1 n1 hc hx' rfl h (by simp [he]) (by simp [hf])
    · rcases hd with ⟨h, rfl⟩ | ⟨h, rfl⟩
      · exact steps_ix n a b y m d0 28 x w0 hT hB a0 a1 b0 b1 hw.1 n1 hc hx' rfl h (by simp [he])
      · exact steps_i n a b y m d d x w0 hT hB a0 a1 b0 b1 hw.1 n1 hc hx' rfl h (by simp [he])
  rcases Int.lt_or_le 28 d0 with h | h
  · exact main 28 (by omega) (by omega) (.inl ⟨h, rfl⟩)
  · exact main d0 (by omega) (by omega) (.inr ⟨h, rfl⟩)
end Go.Proofs.YtnidojfnpmhjkaaDoor
