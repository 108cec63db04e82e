/- The walks of AddMonths, the program's and the reference's. -/
import Derived.Test.YtnidojfnpmhjkaaDoorMonP
import Derived.Test.YtnidojfnpmhjkaaDoorLaws1
namespace Go.Proofs.YtnidojfnpmhjkaaDoor
set_option linter.unusedVariables false
set_option linter.unusedSimpArgs false
open Go.RowKit

theorem rciv_is {n y m d : Int} (h0 : 0 ≤ n) (h1 : n ≤ 876599) (h : Cal.IsCiv n y m d) (w : World) : Calls Tryd.prog 31 #[.int .i64 n] w fun e w' => e = .returned (.tuple #[.agg #[.int .i64 y, .int .i64 m, .int .i64 d], .int .i64 (n % 24), .int .i64 0]) ∧ Below w.heap.size w w' := by
  have := rciv_any n w
  rw [(Cal.civ_eq h0 h1 h).1, (Cal.civ_eq h0 h1 h).2.1, (Cal.civ_eq h0 h1 h).2.2, (Cal.civ_good h0 h1).1, (Cal.civ_good h0 h1).2] at this
  exact this
theorem civil_out {n : Int} (h : ¬ (0 ≤ n ∧ n ≤ 876599)) (w : World) (hT : Tab w) (hB : 0 < w.heap.size) : Calls Tryd.prog 30 #[.int .i64 n] w fun e w' => e = .returned (.tuple #[.agg #[.int .i64 0, .int .i64 0, .int .i64 0], .int .i64 0, .int .i64 1]) ∧ Below w.heap.size w w' := by
  have := civil_any n w hT hB
  rw [(Cal.civ_bad h).1, (Cal.civ_bad h).2.1, (Cal.civ_bad h).2.2.1, (Cal.civ_bad h).2.2.2.1, (Cal.civ_bad h).2.2.2.2] at this
  exact this
theorem rciv_out {n : Int} (h : ¬ (0 ≤ n ∧ n ≤ 876599)) (w : World) : Calls Tryd.prog 31 #[.int .i64 n] w fun e w' => e = .returned (.tuple #[.agg #[.int .i64 0, .int .i64 0, .int .i64 0], .int .i64 0, .int .i64 1]) ∧ Below w.heap.size w w' := by
  have := rciv_any n w
  rw [(Cal.civ_bad h).1, (Cal.civ_bad h).2.1, (Cal.civ_bad h).2.2.1, (Cal.civ_bad h).2.2.2.1, (Cal.civ_bad h).2.2.2.2] at this
  exact this

set_option maxHeartbeats 1000000 in
set_option maxRecDepth 100000 in
theorem am_out (n k : Int) (w0 : World) (hT : Tab w0) (hB : 0 < w0.heap.size) (h : ¬ (0 ≤ n ∧ n ≤ 876599)) : Calls Tryd.prog 36 #[.int .i64 n, .int .i64 k] w0 fun e w' => e = .returned (.tuple #[.int .i64 (Cal.amv n k), .int .i64 (Cal.ame n k)]) ∧ Below w0.heap.size w0 w' := by
  have HV := Lib.hid (Cal.am_out (k := k) h)
  go_enter Tryd.func36, Tryd.ntmps36
  have Q0 := Lib.hid (Below.refl w0.heap.size w0)
  have hT0 := hT
  have hB0 := hB
  go_wp2_with fail
  refine (civil_out h _ (by exact hT.below (Below.trans Q0.out (by repeat' (first | (with_reducible exact Below.refl _ _) | (with_reducible assumption) | (with_reducible refine below_drewN ?_ _) | (with_reducible refine Below.alloc ?_ ?_ _) | (with_reducible refine Below.drew ?_) | (with_reducible refine Below.setCell ?_ ?_ _) | go_size))) hB) (by exact Nat.lt_of_lt_of_le hB (Below.size (Below.trans Q0.out (by repeat' (first | (with_reducible exact Below.refl _ _) | (with_reducible assumption) | (with_reducible refine below_drewN ?_ _) | (with_reducible refine Below.alloc ?_ ?_ _) | (with_reducible refine Below.drew ?_) | (with_reducible refine Below.setCell ?_ ?_ _) | go_size)))))).mono ?_
  rintro e w1 ⟨rfl, hb1⟩
  have Q1 := Lib.hid (chain Q0.out (by repeat' (first | (with_reducible exact Below.refl _ _) | (with_reducible assumption) | (with_reducible refine below_drewN ?_ _) | (with_reducible refine Below.alloc ?_ ?_ _) | (with_reducible refine Below.drew ?_) | (with_reducible refine Below.setCell ?_ ?_ _) | go_size)) hb1)
  have hq1 : w0.heap.size ≤ w1.heap.size := Q1.out.size
  have hz1 := hb1.size
  try simp only [World.size_alloc, World.size_setCell, World.size_drew] at hz1
  have hB1 : 0 < w1.heap.size := Nat.lt_of_lt_of_le hB (Q1.out.size)
  have hT1 : Tab w1 := hT.below Q1.out hB
  clear hb1
  go_wp2
  go_ret2
  exact ⟨ret_two HV.out.1.symm HV.out.2.symm, Below.trans Q1.out (by repeat' (first | (with_reducible exact Below.refl _ _) | (with_reducible assumption) | (with_reducible refine below_drewN ?_ _) | (with_reducible refine Below.alloc ?_ ?_ _) | (with_reducible refine Below.drew ?_) | (with_reducible refine Below.setCell ?_ ?_ _) | go_size))⟩

set_option maxHeartbeats 1000000 in
set_option maxRecDepth 100000 in
theorem am_k1 (n k y m d : Int) (w0 : World) (hT : Tab w0) (hB : 0 < w0.heap.size) (h0 : 0 ≤ n) (h1 : n ≤ 876599) (hc : Cal.IsCiv n y m d) (hk : k ≤ -1200) : Calls Tryd.prog 36 #[.int .i64 n, .int .i64 k] w0 fun e w' => e = .returned (.tuple #[.int .i64 (Cal.amv n k), .int .i64 (Cal.ame n k)]) ∧ Below w0.heap.size w0 w' := by
  have hy : 2000 ≤ y ∧ y ≤ 2099 := ⟨hc.1, hc.2.1⟩
  have hm : 1 ≤ m ∧ m ≤ 12 := ⟨hc.2.2.1, hc.2.2.2.1⟩
  have hd : 1 ≤ d ∧ d ≤ 31 := by have hl := Cal.len_bd y m hm.1 hm.2; have h1 := hc.2.2.2.2.1; have h2 := hc.2.2.2.2.2.1; omega
  have hmon : Cal.mon y m k = (y - 2000) * 12 + m - 1 + k := rfl
  have HV := Lib.hid (Cal.am_bad h0 h1 hc (k := k) (by omega))
  have HC := Lib.hid hc
  clear hc
  clear hmon
  have _ : decide (k ≤ -1200) = true := decide_eq_true (by omega)
  go_enter Tryd.func36, Tryd.ntmps36
  have Q0 := Lib.hid (Below.refl w0.heap.size w0)
  have hT0 := hT
  have hB0 := hB
  go_wp2_with fail
  refine (civil_is h0 h1 HC.out _ (by exact hT.below (Below.trans Q0.out (by repeat' (first | (with_reducible exact Below.refl _ _) | (with_reducible assumption) | (with_reducible refine below_drewN ?_ _) | (with_reducible refine Below.alloc ?_ ?_ _) | (with_reducible refine Below.drew ?_) | (with_reducible refine Below.setCell ?_ ?_ _) | go_size))) hB) (by exact Nat.lt_of_lt_of_le hB (Below.size (Below.trans Q0.out (by repeat' (first | (with_reducible exact Below.refl _ _) | (with_reducible assumption) | (with_reducible refine below_drewN ?_ _) | (with_reducible refine Below.alloc ?_ ?_ _) | (with_reducible refine Below.drew ?_) | (with_reducible refine Below.setCell ?_ ?_ _) | go_size)))))).mono ?_
  rintro e w1 ⟨rfl, hb1⟩
  have Q1 := Lib.hid (chain Q0.out (by repeat' (first | (with_reducible exact Below.refl _ _) | (with_reducible assumption) | (with_reducible refine below_drewN ?_ _) | (with_reducible refine Below.alloc ?_ ?_ _) | (with_reducible refine Below.drew ?_) | (with_reducible refine Below.setCell ?_ ?_ _) | go_size)) hb1)
  have hq1 : w0.heap.size ≤ w1.heap.size := Q1.out.size
  have hz1 := hb1.size
  try simp only [World.size_alloc, World.size_setCell, World.size_drew] at hz1
  have hB1 : 0 < w1.heap.size := Nat.lt_of_lt_of_le hB (Q1.out.size)
  have hT1 : Tab w1 := hT.below Q1.out hB
  clear hb1
  go_wp2
  go_ret2
  exact ⟨ret_two HV.out.1.symm HV.out.2.symm, Below.trans Q1.out (by repeat' (first | (with_reducible exact Below.refl _ _) | (with_reducible assumption) | (with_reducible refine below_drewN ?_ _) | (with_reducible refine Below.alloc ?_ ?_ _) | (with_reducible refine Below.drew ?_) | (with_reducible refine Below.setCell ?_ ?_ _) | go_size))⟩

set_option maxHeartbeats 1000000 in
set_option maxRecDepth 100000 in
theorem am_k2 (n k y m d : Int) (w0 : World) (hT : Tab w0) (hB : 0 < w0.heap.size) (h0 : 0 ≤ n) (h1 : n ≤ 876599) (hc : Cal.IsCiv n y m d) (hk : 1200 ≤ k) : Calls Tryd.prog 36 #[.int .i64 n, .int .i64 k] w0 fun e w' => e = .returned (.tuple #[.int .i64 (Cal.amv n k), .int .i64 (Cal.ame n k)]) ∧ Below w0.heap.size w0 w' := by
  have hy : 2000 ≤ y ∧ y ≤ 2099 := ⟨hc.1, hc.2.1⟩
  have hm : 1 ≤ m ∧ m ≤ 12 := ⟨hc.2.2.1, hc.2.2.2.1⟩
  have hd : 1 ≤ d ∧ d ≤ 31 := by have hl := Cal.len_bd y m hm.1 hm.2; have h1 := hc.2.2.2.2.1; have h2 := hc.2.2.2.2.2.1; omega
  have hmon : Cal.mon y m k = (y - 2000) * 12 + m - 1 + k := rfl
  have HV := Lib.hid (Cal.am_bad h0 h1 hc (k := k) (by omega))
  have HC := Lib.hid hc
  clear hc
  clear hmon
  have _ : decide (k ≤ -1200) = false := decide_eq_false (by omega)
  have _ : decide (1200 ≤ k) = true := decide_eq_true (by omega)
  go_enter Tryd.func36, Tryd.ntmps36
  have Q0 := Lib.hid (Below.refl w0.heap.size w0)
  have hT0 := hT
  have hB0 := hB
  go_wp2_with fail
  refine (civil_is h0 h1 HC.out _ (by exact hT.below (Below.trans Q0.out (by repeat' (first | (with_reducible exact Below.refl _ _) | (with_reducible assumption) | (with_reducible refine below_drewN ?_ _) | (with_reducible refine Below.alloc ?_ ?_ _) | (with_reducible refine Below.drew ?_) | (with_reducible refine Below.setCell ?_ ?_ _) | go_size))) hB) (by exact Nat.lt_of_lt_of_le hB (Below.size (Below.trans Q0.out (by repeat' (first | (with_reducible exact Below.refl _ _) | (with_reducible assumption) | (with_reducible refine below_drewN ?_ _) | (with_reducible refine Below.alloc ?_ ?_ _) | (with_reducible refine Below.drew ?_) | (with_reducible refine Below.setCell ?_ ?_ _) | go_size)))))).mono ?_
  rintro e w1 ⟨rfl, hb1⟩
  have Q1 := Lib.hid (chain Q0.out (by repeat' (first | (with_reducible exact Below.refl _ _) | (with_reducible assumption) | (with_reducible refine below_drewN ?_ _) | (with_reducible refine Below.alloc ?_ ?_ _) | (with_reducible refine Below.drew ?_) | (with_reducible refine Below.setCell ?_ ?_ _) | go_size)) hb1)
  have hq1 : w0.heap.size ≤ w1.heap.size := Q1.out.size
  have hz1 := hb1.size
  try simp only [World.size_alloc, World.size_setCell, World.size_drew] at hz1
  have hB1 : 0 < w1.heap.size := Nat.lt_of_lt_of_le hB (Q1.out.size)
  have hT1 : Tab w1 := hT.below Q1.out hB
  clear hb1
  go_wp2
  go_ret2
  exact ⟨ret_two HV.out.1.symm HV.out.2.symm, Below.trans Q1.out (by repeat' (first | (with_reducible exact Below.refl _ _) | (with_reducible assumption) | (with_reducible refine below_drewN ?_ _) | (with_reducible refine Below.alloc ?_ ?_ _) | (with_reducible refine Below.drew ?_) | (with_reducible refine Below.setCell ?_ ?_ _) | go_size))⟩

set_option maxHeartbeats 1000000 in
set_option maxRecDepth 100000 in
theorem am_m1 (n k y m d : Int) (w0 : World) (hT : Tab w0) (hB : 0 < w0.heap.size) (h0 : 0 ≤ n) (h1 : n ≤ 876599) (hc : Cal.IsCiv n y m d) (hk1 : -1200 < k) (hk2 : k < 1200) (hm1 : (y - 2000) * 12 + m - 1 + k < 0) : Calls Tryd.prog 36 #[.int .i64 n, .int .i64 k] w0 fun e w' => e = .returned (.tuple #[.int .i64 (Cal.amv n k), .int .i64 (Cal.ame n k)]) ∧ Below w0.heap.size w0 w' := by
  have hy : 2000 ≤ y ∧ y ≤ 2099 := ⟨hc.1, hc.2.1⟩
  have hm : 1 ≤ m ∧ m ≤ 12 := ⟨hc.2.2.1, hc.2.2.2.1⟩
  have hd : 1 ≤ d ∧ d ≤ 31 := by have hl := Cal.len_bd y m hm.1 hm.2; have h1 := hc.2.2.2.2.1; have h2 := hc.2.2.2.2.2.1; omega
  have hmon : Cal.mon y m k = (y - 2000) * 12 + m - 1 + k := rfl
  have HV := Lib.hid (Cal.am_bad h0 h1 hc (k := k) (by omega))
  have HC := Lib.hid hc
  clear hc
  clear hmon
  have _ : decide (k ≤ -1200) = false := decide_eq_false (by omega)
  have _ : decide (1200 ≤ k) = false := decide_eq_false (by omega)
  have _ : decide ((y - 2000) * 12 + m - 1 + k < 0) = true := decide_eq_true (by omega)
  go_enter Tryd.func36, Tryd.ntmps36
  have Q0 := Lib.hid (Below.refl w0.heap.size w0)
  have hT0 := hT
  have hB0 := hB
  go_wp2_with fail
  refine (civil_is h0 h1 HC.out _ (by exact hT.below (Below.trans Q0.out (by repeat' (first | (with_reducible exact Below.refl _ _) | (with_reducible assumption) | (with_reducible refine below_drewN ?_ _) | (with_reducible refine Below.alloc ?_ ?_ _) | (with_reducible refine Below.drew ?_) | (with_reducible refine Below.setCell ?_ ?_ _) | go_size))) hB) (by exact Nat.lt_of_lt_of_le hB (Below.size (Below.trans Q0.out (by repeat' (first | (with_reducible exact Below.refl _ _) | (with_reducible assumption) | (with_reducible refine below_drewN ?_ _) | (with_reducible refine Below.alloc ?_ ?_ _) | (with_reducible refine Below.drew ?_) | (with_reducible refine Below.setCell ?_ ?_ _) | go_size)))))).mono ?_
  rintro e w1 ⟨rfl, hb1⟩
  have Q1 := Lib.hid (chain Q0.out (by repeat' (first | (with_reducible exact Below.refl _ _) | (with_reducible assumption) | (with_reducible refine below_drewN ?_ _) | (with_reducible refine Below.alloc ?_ ?_ _) | (with_reducible refine Below.drew ?_) | (with_reducible refine Below.setCell ?_ ?_ _) | go_size)) hb1)
  have hq1 : w0.heap.size ≤ w1.heap.size := Q1.out.size
  have hz1 := hb1.size
  try simp only [World.size_alloc, World.size_setCell, World.size_drew] at hz1
  have hB1 : 0 < w1.heap.size := Nat.lt_of_lt_of_le hB (Q1.out.size)
  have hT1 : Tab w1 := hT.below Q1.out hB
  clear hb1
  go_wp2
  go_ret2
  exact ⟨ret_two HV.out.1.symm HV.out.2.symm, Below.trans Q1.out (by repeat' (first | (with_reducible exact Below.refl _ _) | (with_reducible assumption) | (with_reducible refine below_drewN ?_ _) | (with_reducible refine Below.alloc ?_ ?_ _) | (with_reducible refine Below.drew ?_) | (with_reducible refine Below.setCell ?_ ?_ _) | go_size))⟩

set_option maxHeartbeats 1000000 in
set_option maxRecDepth 100000 in
theorem am_m2 (n k y m d : Int) (w0 : World) (hT : Tab w0) (hB : 0 < w0.heap.size) (h0 : 0 ≤ n) (h1 : n ≤ 876599) (hc : Cal.IsCiv n y m d) (hk1 : -1200 < k) (hk2 : k < 1200) (hm1 : 1200 ≤ (y - 2000) * 12 + m - 1 + k) : Calls Tryd.prog 36 #[.int .i64 n, .int .i64 k] w0 fun e w' => e = .returned (.tuple #[.int .i64 (Cal.amv n k), .int .i64 (Cal.ame n k)]) ∧ Below w0.heap.size w0 w' := by
  have hy : 2000 ≤ y ∧ y ≤ 2099 := ⟨hc.1, hc.2.1⟩
  have hm : 1 ≤ m ∧ m ≤ 12 := ⟨hc.2.2.1, hc.2.2.2.1⟩
  have hd : 1 ≤ d ∧ d ≤ 31 := by have hl := Cal.len_bd y m hm.1 hm.2; have h1 := hc.2.2.2.2.1; have h2 := hc.2.2.2.2.2.1; omega
  have hmon : Cal.mon y m k = (y - 2000) * 12 + m - 1 + k := rfl
  have HV := Lib.hid (Cal.am_bad h0 h1 hc (k := k) (by omega))
  have HC := Lib.hid hc
  clear hc
  clear hmon
  have _ : decide (k ≤ -1200) = false := decide_eq_false (by omega)
  have _ : decide (1200 ≤ k) = false := decide_eq_false (by omega)
  have _ : decide ((y - 2000) * 12 + m - 1 + k < 0) = false := decide_eq_false (by omega)
  have _ : decide (1200 ≤ (y - 2000) * 12 + m - 1 + k) = true := decide_eq_true (by omega)
  go_enter Tryd.func36, Tryd.ntmps36
  have Q0 := Lib.hid (Below.refl w0.heap.size w0)
  have hT0 := hT
  have hB0 := hB
  go_wp2_with fail
  refine (civil_is h0 h1 HC.out _ (by exact hT.below (Below.trans Q0.out (by repeat' (first | (with_reducible exact Below.refl _ _) | (with_reducible assumption) | (with_reducible refine below_drewN ?_ _) | (with_reducible refine Below.alloc ?_ ?_ _) | (with_reducible refine Below.drew ?_) | (with_reducible refine Below.setCell ?_ ?_ _) | go_size))) hB) (by exact Nat.lt_of_lt_of_le hB (Below.size (Below.trans Q0.out (by repeat' (first | (with_reducible exact Below.refl _ _) | (with_reducible assumption) | (with_reducible refine below_drewN ?_ _) | (with_reducible refine Below.alloc ?_ ?_ _) | (with_reducible refine Below.drew ?_) | (with_reducible refine Below.setCell ?_ ?_ _) | go_size)))))).mono ?_
  rintro e w1 ⟨rfl, hb1⟩
  have Q1 := Lib.hid (chain Q0.out (by repeat' (first | (with_reducible exact Below.refl _ _) | (with_reducible assumption) | (with_reducible refine below_drewN ?_ _) | (with_reducible refine Below.alloc ?_ ?_ _) | (with_reducible refine Below.drew ?_) | (with_reducible refine Below.setCell ?_ ?_ _) | go_size)) hb1)
  have hq1 : w0.heap.size ≤ w1.heap.size := Q1.out.size
  have hz1 := hb1.size
  try simp only [World.size_alloc, World.size_setCell, World.size_drew] at hz1
  have hB1 : 0 < w1.heap.size := Nat.lt_of_lt_of_le hB (Q1.out.size)
  have hT1 : Tab w1 := hT.below Q1.out hB
  clear hb1
  go_wp2
  go_ret2
  exact ⟨ret_two HV.out.1.symm HV.out.2.symm, Below.trans Q1.out (by repeat' (first | (with_reducible exact Below.refl _ _) | (with_reducible assumption) | (with_reducible refine below_drewN ?_ _) | (with_reducible refine Below.alloc ?_ ?_ _) | (with_reducible refine Below.drew ?_) | (with_reducible refine Below.setCell ?_ ?_ _) | go_size))⟩

set_option maxHeartbeats 1000000 in
set_option maxRecDepth 100000 in
theorem am_good1 (n k y m d : Int) (w0 : World) (hT : Tab w0) (hB : 0 < w0.heap.size) (h0 : 0 ≤ n) (h1 : n ≤ 876599) (hc : Cal.IsCiv n y m d) (hk1 : -1200 < k) (hk2 : k < 1200) (hm1 : 0 ≤ (y - 2000) * 12 + m - 1 + k) (hm2 : (y - 2000) * 12 + m - 1 + k < 1200) (hmn : Cal.len (2000 + ((y - 2000) * 12 + m - 1 + k) / 12) (((y - 2000) * 12 + m - 1 + k) % 12 + 1) < d) : Calls Tryd.prog 36 #[.int .i64 n, .int .i64 k] w0 fun e w' => e = .returned (.tuple #[.int .i64 (Cal.amv n k), .int .i64 (Cal.ame n k)]) ∧ Below w0.heap.size w0 w' := by
  have hy : 2000 ≤ y ∧ y ≤ 2099 := ⟨hc.1, hc.2.1⟩
  have hm : 1 ≤ m ∧ m ≤ 12 := ⟨hc.2.2.1, hc.2.2.2.1⟩
  have hd : 1 ≤ d ∧ d ≤ 31 := by have hl := Cal.len_bd y m hm.1 hm.2; have h1 := hc.2.2.2.2.1; have h2 := hc.2.2.2.2.2.1; omega
  have hmon : Cal.mon y m k = (y - 2000) * 12 + m - 1 + k := rfl
  have hg := Cal.am_good h0 h1 hc (k := k) (by omega) (by omega)
  have ey : 2000 + Cal.mon y m k / 12 = 2000 + ((y - 2000) * 12 + m - 1 + k) / 12 := by omega
  have em : Cal.mon y m k % 12 + 1 = ((y - 2000) * 12 + m - 1 + k) % 12 + 1 := by omega
  have ed : Cal.amd y m d k = Cal.len (2000 + ((y - 2000) * 12 + m - 1 + k) / 12) (((y - 2000) * 12 + m - 1 + k) % 12 + 1) := by unfold Cal.amd; rw [ey, em]; omega
  rw [ey, em, ed] at hg
  have HV := Lib.hid hg
  clear ey em ed hg
  have HC := Lib.hid hc
  clear hc
  clear hmon
  have _ : decide (k ≤ -1200) = false := decide_eq_false (by omega)
  have _ : decide (1200 ≤ k) = false := decide_eq_false (by omega)
  have _ : decide ((y - 2000) * 12 + m - 1 + k < 0) = false := decide_eq_false (by omega)
  have _ : decide (1200 ≤ (y - 2000) * 12 + m - 1 + k) = false := decide_eq_false (by omega)
  go_enter Tryd.func36, Tryd.ntmps36
  have Q0 := Lib.hid (Below.refl w0.heap.size w0)
  have hT0 := hT
  have hB0 := hB
  go_wp2_with fail
  refine (civil_is h0 h1 HC.out _ (by exact hT.below (Below.trans Q0.out (by repeat' (first | (with_reducible exact Below.refl _ _) | (with_reducible assumption) | (with_reducible refine below_drewN ?_ _) | (with_reducible refine Below.alloc ?_ ?_ _) | (with_reducible refine Below.drew ?_) | (with_reducible refine Below.setCell ?_ ?_ _) | go_size))) hB) (by exact Nat.lt_of_lt_of_le hB (Below.size (Below.trans Q0.out (by repeat' (first | (with_reducible exact Below.refl _ _) | (with_reducible assumption) | (with_reducible refine below_drewN ?_ _) | (with_reducible refine Below.alloc ?_ ?_ _) | (with_reducible refine Below.drew ?_) | (with_reducible refine Below.setCell ?_ ?_ _) | go_size)))))).mono ?_
  rintro e w1 ⟨rfl, hb1⟩
  have Q1 := Lib.hid (chain Q0.out (by repeat' (first | (with_reducible exact Below.refl _ _) | (with_reducible assumption) | (with_reducible refine below_drewN ?_ _) | (with_reducible refine Below.alloc ?_ ?_ _) | (with_reducible refine Below.drew ?_) | (with_reducible refine Below.setCell ?_ ?_ _) | go_size)) hb1)
  have hq1 : w0.heap.size ≤ w1.heap.size := Q1.out.size
  have hz1 := hb1.size
  try simp only [World.size_alloc, World.size_setCell, World.size_drew] at hz1
  have hB1 : 0 < w1.heap.size := Nat.lt_of_lt_of_le hB (Q1.out.size)
  have hT1 : Tab w1 := hT.below Q1.out hB
  clear hb1
  go_wp2
  go_region_held3 (fun w' => w'.cell? ⟨w1.heap.size, 2, none⟩ = some (.int .i64 d)) (first | (simp [go_sem]; done) | (rw [hb.cell (p := ⟨w1.heap.size, 2, none⟩) (by simp)]; simp [go_sem])) (first | (go_at_call 41; ((with_reducible refine (length_any _ _ _ (by exact hT.below (Below.trans Q1.out (by repeat' (first | (with_reducible exact Below.refl _ _) | (with_reducible assumption) | (with_reducible refine below_drewN ?_ _) | (with_reducible refine Below.alloc ?_ ?_ _) | (with_reducible refine Below.drew ?_) | (with_reducible refine Below.setCell ?_ ?_ _) | go_size))) hB) (by omega) (by omega) (by omega)).mono ?_); rintro e w' ⟨rfl, rfl⟩)) | (go_at_call 13; ((with_reducible refine (hour_any _ _ _ _ _ (by exact hT.below (Below.trans Q1.out (by repeat' (first | (with_reducible exact Below.refl _ _) | (with_reducible assumption) | (with_reducible refine below_drewN ?_ _) | (with_reducible refine Below.alloc ?_ ?_ _) | (with_reducible refine Below.drew ?_) | (with_reducible refine Below.setCell ?_ ?_ _) | go_size))) hB) (by exact Nat.lt_of_lt_of_le hB (Below.size (Below.trans Q1.out (by repeat' (first | (with_reducible exact Below.refl _ _) | (with_reducible assumption) | (with_reducible refine below_drewN ?_ _) | (with_reducible refine Below.alloc ?_ ?_ _) | (with_reducible refine Below.drew ?_) | (with_reducible refine Below.setCell ?_ ?_ _) | go_size)))))).mono ?_); rintro e w' ⟨rfl, hb⟩)))
  go_wp2
  go_ret2
  refine ⟨?_, chain Q1.out (by repeat' (first | (with_reducible exact Below.refl _ _) | (with_reducible assumption) | (with_reducible refine below_drewN ?_ _) | (with_reducible refine Below.alloc ?_ ?_ _) | (with_reducible refine Below.drew ?_) | (with_reducible refine Below.setCell ?_ ?_ _) | go_size)) hb⟩
  exact ret_two HV.out.1.symm HV.out.2.symm

set_option maxHeartbeats 1000000 in
set_option maxRecDepth 100000 in
theorem am_good2 (n k y m d : Int) (w0 : World) (hT : Tab w0) (hB : 0 < w0.heap.size) (h0 : 0 ≤ n) (h1 : n ≤ 876599) (hc : Cal.IsCiv n y m d) (hk1 : -1200 < k) (hk2 : k < 1200) (hm1 : 0 ≤ (y - 2000) * 12 + m - 1 + k) (hm2 : (y - 2000) * 12 + m - 1 + k < 1200) (hmn : d ≤ Cal.len (2000 + ((y - 2000) * 12 + m - 1 + k) / 12) (((y - 2000) * 12 + m - 1 + k) % 12 + 1)) : Calls Tryd.prog 36 #[.int .i64 n, .int .i64 k] w0 fun e w' => e = .returned (.tuple #[.int .i64 (Cal.amv n k), .int .i64 (Cal.ame n k)]) ∧ Below w0.heap.size w0 w' := by
  have hy : 2000 ≤ y ∧ y ≤ 2099 := ⟨hc.1, hc.2.1⟩
  have hm : 1 ≤ m ∧ m ≤ 12 := ⟨hc.2.2.1, hc.2.2.2.1⟩
  have hd : 1 ≤ d ∧ d ≤ 31 := by have hl := Cal.len_bd y m hm.1 hm.2; have h1 := hc.2.2.2.2.1; have h2 := hc.2.2.2.2.2.1; omega
  have hmon : Cal.mon y m k = (y - 2000) * 12 + m - 1 + k := rfl
  have hg := Cal.am_good h0 h1 hc (k := k) (by omega) (by omega)
  have ey : 2000 + Cal.mon y m k / 12 = 2000 + ((y - 2000) * 12 + m - 1 + k) / 12 := by omega
  have em : Cal.mon y m k % 12 + 1 = ((y - 2000) * 12 + m - 1 + k) % 12 + 1 := by omega
  have ed : Cal.amd y m d k = d := by unfold Cal.amd; rw [ey, em]; omega
  rw [ey, em, ed] at hg
  have HV := Lib.hid hg
  clear ey em ed hg
  have HC := Lib.hid hc
  clear hc
  clear hmon
  have _ : decide (k ≤ -1200) = false := decide_eq_false (by omega)
  have _ : decide (1200 ≤ k) = false := decide_eq_false (by omega)
  have _ : decide ((y - 2000) * 12 + m - 1 + k < 0) = false := decide_eq_false (by omega)
  have _ : decide (1200 ≤ (y - 2000) * 12 + m - 1 + k) = false := decide_eq_false (by omega)
  go_enter Tryd.func36, Tryd.ntmps36
  have Q0 := Lib.hid (Below.refl w0.heap.size w0)
  have hT0 := hT
  have hB0 := hB
  go_wp2_with fail
  refine (civil_is h0 h1 HC.out _ (by exact hT.below (Below.trans Q0.out (by repeat' (first | (with_reducible exact Below.refl _ _) | (with_reducible assumption) | (with_reducible refine below_drewN ?_ _) | (with_reducible refine Below.alloc ?_ ?_ _) | (with_reducible refine Below.drew ?_) | (with_reducible refine Below.setCell ?_ ?_ _) | go_size))) hB) (by exact Nat.lt_of_lt_of_le hB (Below.size (Below.trans Q0.out (by repeat' (first | (with_reducible exact Below.refl _ _) | (with_reducible assumption) | (with_reducible refine below_drewN ?_ _) | (with_reducible refine Below.alloc ?_ ?_ _) | (with_reducible refine Below.drew ?_) | (with_reducible refine Below.setCell ?_ ?_ _) | go_size)))))).mono ?_
  rintro e w1 ⟨rfl, hb1⟩
  have Q1 := Lib.hid (chain Q0.out (by repeat' (first | (with_reducible exact Below.refl _ _) | (with_reducible assumption) | (with_reducible refine below_drewN ?_ _) | (with_reducible refine Below.alloc ?_ ?_ _) | (with_reducible refine Below.drew ?_) | (with_reducible refine Below.setCell ?_ ?_ _) | go_size)) hb1)
  have hq1 : w0.heap.size ≤ w1.heap.size := Q1.out.size
  have hz1 := hb1.size
  try simp only [World.size_alloc, World.size_setCell, World.size_drew] at hz1
  have hB1 : 0 < w1.heap.size := Nat.lt_of_lt_of_le hB (Q1.out.size)
  have hT1 : Tab w1 := hT.below Q1.out hB
  clear hb1
  go_wp2
  go_region_held3 (fun w' => w'.cell? ⟨w1.heap.size, 2, none⟩ = some (.int .i64 d)) (first | (simp [go_sem]; done) | (rw [hb.cell (p := ⟨w1.heap.size, 2, none⟩) (by simp)]; simp [go_sem])) (first | (go_at_call 41; ((with_reducible refine (length_any _ _ _ (by exact hT.below (Below.trans Q1.out (by repeat' (first | (with_reducible exact Below.refl _ _) | (with_reducible assumption) | (with_reducible refine below_drewN ?_ _) | (with_reducible refine Below.alloc ?_ ?_ _) | (with_reducible refine Below.drew ?_) | (with_reducible refine Below.setCell ?_ ?_ _) | go_size))) hB) (by omega) (by omega) (by omega)).mono ?_); rintro e w' ⟨rfl, rfl⟩)) | (go_at_call 13; ((with_reducible refine (hour_any _ _ _ _ _ (by exact hT.below (Below.trans Q1.out (by repeat' (first | (with_reducible exact Below.refl _ _) | (with_reducible assumption) | (with_reducible refine below_drewN ?_ _) | (with_reducible refine Below.alloc ?_ ?_ _) | (with_reducible refine Below.drew ?_) | (with_reducible refine Below.setCell ?_ ?_ _) | go_size))) hB) (by exact Nat.lt_of_lt_of_le hB (Below.size (Below.trans Q1.out (by repeat' (first | (with_reducible exact Below.refl _ _) | (with_reducible assumption) | (with_reducible refine below_drewN ?_ _) | (with_reducible refine Below.alloc ?_ ?_ _) | (with_reducible refine Below.drew ?_) | (with_reducible refine Below.setCell ?_ ?_ _) | go_size)))))).mono ?_); rintro e w' ⟨rfl, hb⟩)))
  go_wp2
  go_ret2
  refine ⟨?_, chain Q1.out (by repeat' (first | (with_reducible exact Below.refl _ _) | (with_reducible assumption) | (with_reducible refine below_drewN ?_ _) | (with_reducible refine Below.alloc ?_ ?_ _) | (with_reducible refine Below.drew ?_) | (with_reducible refine Below.setCell ?_ ?_ _) | go_size)) hb⟩
  exact ret_two HV.out.1.symm HV.out.2.symm

theorem am_any (n k : Int) (w0 : World) (hT : Tab w0) (hB : 0 < w0.heap.size) : Calls Tryd.prog 36 #[.int .i64 n, .int .i64 k] w0 fun e w' => e = .returned (.tuple #[.int .i64 (Cal.amv n k), .int .i64 (Cal.ame n k)]) ∧ Below w0.heap.size w0 w' := by
  by_cases h : 0 ≤ n ∧ n ≤ 876599
  · have hc := Cal.civ_spec h.1 h.2
    have hb := hc
    obtain ⟨b1, b2, b3, b4, _, _, _⟩ := hb
    generalize Cal.cvy n = y at *
    generalize Cal.cvm n = m at *
    generalize Cal.cvd n = d at *
    rcases Int.lt_or_le ((y - 2000) * 12 + m - 1 + k) 0 with q | q
    · rcases Int.lt_or_le (-1200) k with a | a
      · exact am_m1 n k y m d w0 hT hB h.1 h.2 hc (by omega) (by omega) q
      · skip
        exact am_k1 n k y m d w0 hT hB h.1 h.2 hc a
        
    rcases Int.lt_or_le ((y - 2000) * 12 + m - 1 + k) 1200 with p | p
    · rcases Int.lt_or_le (Cal.len (2000 + ((y - 2000) * 12 + m - 1 + k) / 12) (((y - 2000) * 12 + m - 1 + k) % 12 + 1)) d with hmn | hmn
      · exact am_good1 n k y m d w0 hT hB h.1 h.2 hc (by omega) (by omega) q p hmn
      · exact am_good2 n k y m d w0 hT hB h.1 h.2 hc (by omega) (by omega) q p hmn
    · rcases Int.lt_or_le k 1200 with a | a
      · exact am_m2 n k y m d w0 hT hB h.1 h.2 hc (by omega) (by omega) p
      · skip
        exact am_k2 n k y m d w0 hT hB h.1 h.2 hc a
        
  · exact am_out n k w0 hT hB h

set_option maxHeartbeats 1000000 in
set_option maxRecDepth 100000 in
theorem ram_out (n k : Int) (w0 : World) (hB : 0 < w0.heap.size) (h : ¬ (0 ≤ n ∧ n ≤ 876599)) : Calls Tryd.prog 37 #[.int .i64 n, .int .i64 k] w0 fun e w' => e = .returned (.tuple #[.int .i64 (Cal.amv n k), .int .i64 (Cal.ame n k)]) ∧ Below w0.heap.size w0 w' := by
  have HV := Lib.hid (Cal.am_out (k := k) h)
  go_enter Tryd.func37, Tryd.ntmps37
  have Q0 := Lib.hid (Below.refl w0.heap.size w0)
  have hB0 := hB
  go_wp2_with fail
  refine (rciv_out h _).mono ?_
  rintro e w1 ⟨rfl, hb1⟩
  have Q1 := Lib.hid (chain Q0.out (by repeat' (first | (with_reducible exact Below.refl _ _) | (with_reducible assumption) | (with_reducible refine below_drewN ?_ _) | (with_reducible refine Below.alloc ?_ ?_ _) | (with_reducible refine Below.drew ?_) | (with_reducible refine Below.setCell ?_ ?_ _) | go_size)) hb1)
  have hq1 : w0.heap.size ≤ w1.heap.size := Q1.out.size
  have hz1 := hb1.size
  try simp only [World.size_alloc, World.size_setCell, World.size_drew] at hz1
  have hB1 : 0 < w1.heap.size := Nat.lt_of_lt_of_le hB (Q1.out.size)
  clear hb1
  go_wp2
  go_ret2
  exact ⟨ret_two HV.out.1.symm HV.out.2.symm, Below.trans Q1.out (by repeat' (first | (with_reducible exact Below.refl _ _) | (with_reducible assumption) | (with_reducible refine below_drewN ?_ _) | (with_reducible refine Below.alloc ?_ ?_ _) | (with_reducible refine Below.drew ?_) | (with_reducible refine Below.setCell ?_ ?_ _) | go_size))⟩

set_option maxHeartbeats 1000000 in
set_option maxRecDepth 100000 in
theorem ram_k1 (n k y m d : Int) (w0 : World) (hB : 0 < w0.heap.size) (h0 : 0 ≤ n) (h1 : n ≤ 876599) (hc : Cal.IsCiv n y m d) (hk : k < -1200) : Calls Tryd.prog 37 #[.int .i64 n, .int .i64 k] w0 fun e w' => e = .returned (.tuple #[.int .i64 (Cal.amv n k), .int .i64 (Cal.ame n k)]) ∧ Below w0.heap.size w0 w' := by
  have hy : 2000 ≤ y ∧ y ≤ 2099 := ⟨hc.1, hc.2.1⟩
  have hm : 1 ≤ m ∧ m ≤ 12 := ⟨hc.2.2.1, hc.2.2.2.1⟩
  have hd : 1 ≤ d ∧ d ≤ 31 := by have hl := Cal.len_bd y m hm.1 hm.2; have h1 := hc.2.2.2.2.1; have h2 := hc.2.2.2.2.2.1; omega
  have hmon : Cal.mon y m k = (y - 2000) * 12 + m - 1 + k := rfl
  have HV := Lib.hid (Cal.am_bad h0 h1 hc (k := k) (by omega))
  have HC := Lib.hid hc
  clear hc
  clear hmon
  have _ : decide (1200 < k) = false := decide_eq_false (by omega)
  have _ : decide (k < -1200) = true := decide_eq_true (by omega)
  go_enter Tryd.func37, Tryd.ntmps37
  have Q0 := Lib.hid (Below.refl w0.heap.size w0)
  have hB0 := hB
  go_wp2_with fail
  refine (rciv_is h0 h1 HC.out _).mono ?_
  rintro e w1 ⟨rfl, hb1⟩
  have Q1 := Lib.hid (chain Q0.out (by repeat' (first | (with_reducible exact Below.refl _ _) | (with_reducible assumption) | (with_reducible refine below_drewN ?_ _) | (with_reducible refine Below.alloc ?_ ?_ _) | (with_reducible refine Below.drew ?_) | (with_reducible refine Below.setCell ?_ ?_ _) | go_size)) hb1)
  have hq1 : w0.heap.size ≤ w1.heap.size := Q1.out.size
  have hz1 := hb1.size
  try simp only [World.size_alloc, World.size_setCell, World.size_drew] at hz1
  have hB1 : 0 < w1.heap.size := Nat.lt_of_lt_of_le hB (Q1.out.size)
  clear hb1
  go_wp2
  go_ret2
  exact ⟨ret_two HV.out.1.symm HV.out.2.symm, Below.trans Q1.out (by repeat' (first | (with_reducible exact Below.refl _ _) | (with_reducible assumption) | (with_reducible refine below_drewN ?_ _) | (with_reducible refine Below.alloc ?_ ?_ _) | (with_reducible refine Below.drew ?_) | (with_reducible refine Below.setCell ?_ ?_ _) | go_size))⟩

set_option maxHeartbeats 1000000 in
set_option maxRecDepth 100000 in
theorem ram_k2 (n k y m d : Int) (w0 : World) (hB : 0 < w0.heap.size) (h0 : 0 ≤ n) (h1 : n ≤ 876599) (hc : Cal.IsCiv n y m d) (hk : 1200 < k) : Calls Tryd.prog 37 #[.int .i64 n, .int .i64 k] w0 fun e w' => e = .returned (.tuple #[.int .i64 (Cal.amv n k), .int .i64 (Cal.ame n k)]) ∧ Below w0.heap.size w0 w' := by
  have hy : 2000 ≤ y ∧ y ≤ 2099 := ⟨hc.1, hc.2.1⟩
  have hm : 1 ≤ m ∧ m ≤ 12 := ⟨hc.2.2.1, hc.2.2.2.1⟩
  have hd : 1 ≤ d ∧ d ≤ 31 := by have hl := Cal.len_bd y m hm.1 hm.2; have h1 := hc.2.2.2.2.1; have h2 := hc.2.2.2.2.2.1; omega
  have hmon : Cal.mon y m k = (y - 2000) * 12 + m - 1 + k := rfl
  have HV := Lib.hid (Cal.am_bad h0 h1 hc (k := k) (by omega))
  have HC := Lib.hid hc
  clear hc
  clear hmon
  have _ : decide (1200 < k) = true := decide_eq_true (by omega)
  go_enter Tryd.func37, Tryd.ntmps37
  have Q0 := Lib.hid (Below.refl w0.heap.size w0)
  have hB0 := hB
  go_wp2_with fail
  refine (rciv_is h0 h1 HC.out _).mono ?_
  rintro e w1 ⟨rfl, hb1⟩
  have Q1 := Lib.hid (chain Q0.out (by repeat' (first | (with_reducible exact Below.refl _ _) | (with_reducible assumption) | (with_reducible refine below_drewN ?_ _) | (with_reducible refine Below.alloc ?_ ?_ _) | (with_reducible refine Below.drew ?_) | (with_reducible refine Below.setCell ?_ ?_ _) | go_size)) hb1)
  have hq1 : w0.heap.size ≤ w1.heap.size := Q1.out.size
  have hz1 := hb1.size
  try simp only [World.size_alloc, World.size_setCell, World.size_drew] at hz1
  have hB1 : 0 < w1.heap.size := Nat.lt_of_lt_of_le hB (Q1.out.size)
  clear hb1
  go_wp2
  go_ret2
  exact ⟨ret_two HV.out.1.symm HV.out.2.symm, Below.trans Q1.out (by repeat' (first | (with_reducible exact Below.refl _ _) | (with_reducible assumption) | (with_reducible refine below_drewN ?_ _) | (with_reducible refine Below.alloc ?_ ?_ _) | (with_reducible refine Below.drew ?_) | (with_reducible refine Below.setCell ?_ ?_ _) | go_size))⟩

set_option maxHeartbeats 1000000 in
set_option maxRecDepth 100000 in
theorem ram_m1 (n k y m d : Int) (w0 : World) (hB : 0 < w0.heap.size) (h0 : 0 ≤ n) (h1 : n ≤ 876599) (hc : Cal.IsCiv n y m d) (hk1 : -1200 ≤ k) (hk2 : k ≤ 1200) (hm1 : (y - 2000) * 12 + m - 1 + k < 0) : Calls Tryd.prog 37 #[.int .i64 n, .int .i64 k] w0 fun e w' => e = .returned (.tuple #[.int .i64 (Cal.amv n k), .int .i64 (Cal.ame n k)]) ∧ Below w0.heap.size w0 w' := by
  have hy : 2000 ≤ y ∧ y ≤ 2099 := ⟨hc.1, hc.2.1⟩
  have hm : 1 ≤ m ∧ m ≤ 12 := ⟨hc.2.2.1, hc.2.2.2.1⟩
  have hd : 1 ≤ d ∧ d ≤ 31 := by have hl := Cal.len_bd y m hm.1 hm.2; have h1 := hc.2.2.2.2.1; have h2 := hc.2.2.2.2.2.1; omega
  have hmon : Cal.mon y m k = (y - 2000) * 12 + m - 1 + k := rfl
  have HV := Lib.hid (Cal.am_bad h0 h1 hc (k := k) (by omega))
  have HC := Lib.hid hc
  clear hc
  clear hmon
  have _ : decide (1200 < k) = false := decide_eq_false (by omega)
  have _ : decide (k < -1200) = false := decide_eq_false (by omega)
  have _ : decide ((12 * y + m - 1 + k) / 12 < 2000) = true := decide_eq_true (by omega)
  go_enter Tryd.func37, Tryd.ntmps37
  have Q0 := Lib.hid (Below.refl w0.heap.size w0)
  have hB0 := hB
  go_wp2_with fail
  refine (rciv_is h0 h1 HC.out _).mono ?_
  rintro e w1 ⟨rfl, hb1⟩
  have Q1 := Lib.hid (chain Q0.out (by repeat' (first | (with_reducible exact Below.refl _ _) | (with_reducible assumption) | (with_reducible refine below_drewN ?_ _) | (with_reducible refine Below.alloc ?_ ?_ _) | (with_reducible refine Below.drew ?_) | (with_reducible refine Below.setCell ?_ ?_ _) | go_size)) hb1)
  have hq1 : w0.heap.size ≤ w1.heap.size := Q1.out.size
  have hz1 := hb1.size
  try simp only [World.size_alloc, World.size_setCell, World.size_drew] at hz1
  have hB1 : 0 < w1.heap.size := Nat.lt_of_lt_of_le hB (Q1.out.size)
  clear hb1
  go_wp2
  go_ret2
  exact ⟨ret_two HV.out.1.symm HV.out.2.symm, Below.trans Q1.out (by repeat' (first | (with_reducible exact Below.refl _ _) | (with_reducible assumption) | (with_reducible refine below_drewN ?_ _) | (with_reducible refine Below.alloc ?_ ?_ _) | (with_reducible refine Below.drew ?_) | (with_reducible refine Below.setCell ?_ ?_ _) | go_size))⟩

set_option maxHeartbeats 1000000 in
set_option maxRecDepth 100000 in
theorem ram_m2 (n k y m d : Int) (w0 : World) (hB : 0 < w0.heap.size) (h0 : 0 ≤ n) (h1 : n ≤ 876599) (hc : Cal.IsCiv n y m d) (hk1 : -1200 ≤ k) (hk2 : k ≤ 1200) (hm1 : 1200 ≤ (y - 2000) * 12 + m - 1 + k) : Calls Tryd.prog 37 #[.int .i64 n, .int .i64 k] w0 fun e w' => e = .returned (.tuple #[.int .i64 (Cal.amv n k), .int .i64 (Cal.ame n k)]) ∧ Below w0.heap.size w0 w' := by
  have hy : 2000 ≤ y ∧ y ≤ 2099 := ⟨hc.1, hc.2.1⟩
  have hm : 1 ≤ m ∧ m ≤ 12 := ⟨hc.2.2.1, hc.2.2.2.1⟩
  have hd : 1 ≤ d ∧ d ≤ 31 := by have hl := Cal.len_bd y m hm.1 hm.2; have h1 := hc.2.2.2.2.1; have h2 := hc.2.2.2.2.2.1; omega
  have hmon : Cal.mon y m k = (y - 2000) * 12 + m - 1 + k := rfl
  have HV := Lib.hid (Cal.am_bad h0 h1 hc (k := k) (by omega))
  have HC := Lib.hid hc
  clear hc
  clear hmon
  have _ : decide (1200 < k) = false := decide_eq_false (by omega)
  have _ : decide (k < -1200) = false := decide_eq_false (by omega)
  have _ : decide ((12 * y + m - 1 + k) / 12 < 2000) = false := decide_eq_false (by omega)
  have _ : decide (2099 < (12 * y + m - 1 + k) / 12) = true := decide_eq_true (by omega)
  go_enter Tryd.func37, Tryd.ntmps37
  have Q0 := Lib.hid (Below.refl w0.heap.size w0)
  have hB0 := hB
  go_wp2_with fail
  refine (rciv_is h0 h1 HC.out _).mono ?_
  rintro e w1 ⟨rfl, hb1⟩
  have Q1 := Lib.hid (chain Q0.out (by repeat' (first | (with_reducible exact Below.refl _ _) | (with_reducible assumption) | (with_reducible refine below_drewN ?_ _) | (with_reducible refine Below.alloc ?_ ?_ _) | (with_reducible refine Below.drew ?_) | (with_reducible refine Below.setCell ?_ ?_ _) | go_size)) hb1)
  have hq1 : w0.heap.size ≤ w1.heap.size := Q1.out.size
  have hz1 := hb1.size
  try simp only [World.size_alloc, World.size_setCell, World.size_drew] at hz1
  have hB1 : 0 < w1.heap.size := Nat.lt_of_lt_of_le hB (Q1.out.size)
  clear hb1
  go_wp2
  go_ret2
  exact ⟨ret_two HV.out.1.symm HV.out.2.symm, Below.trans Q1.out (by repeat' (first | (with_reducible exact Below.refl _ _) | (with_reducible assumption) | (with_reducible refine below_drewN ?_ _) | (with_reducible refine Below.alloc ?_ ?_ _) | (with_reducible refine Below.drew ?_) | (with_reducible refine Below.setCell ?_ ?_ _) | go_size))⟩

set_option maxHeartbeats 1000000 in
set_option maxRecDepth 100000 in
theorem ram_good1 (n k y m d : Int) (w0 : World) (hB : 0 < w0.heap.size) (h0 : 0 ≤ n) (h1 : n ≤ 876599) (hc : Cal.IsCiv n y m d) (hk1 : -1200 < k) (hk2 : k < 1200) (hm1 : 0 ≤ (y - 2000) * 12 + m - 1 + k) (hm2 : (y - 2000) * 12 + m - 1 + k < 1200) (hmn : Cal.len ((12 * y + m - 1 + k) / 12) ((12 * y + m - 1 + k) % 12 + 1) < d) : Calls Tryd.prog 37 #[.int .i64 n, .int .i64 k] w0 fun e w' => e = .returned (.tuple #[.int .i64 (Cal.amv n k), .int .i64 (Cal.ame n k)]) ∧ Below w0.heap.size w0 w' := by
  have hy : 2000 ≤ y ∧ y ≤ 2099 := ⟨hc.1, hc.2.1⟩
  have hm : 1 ≤ m ∧ m ≤ 12 := ⟨hc.2.2.1, hc.2.2.2.1⟩
  have hd : 1 ≤ d ∧ d ≤ 31 := by have hl := Cal.len_bd y m hm.1 hm.2; have h1 := hc.2.2.2.2.1; have h2 := hc.2.2.2.2.2.1; omega
  have hmon : Cal.mon y m k = (y - 2000) * 12 + m - 1 + k := rfl
  have hg := Cal.am_good h0 h1 hc (k := k) (by omega) (by omega)
  have ey : 2000 + Cal.mon y m k / 12 = (12 * y + m - 1 + k) / 12 := by omega
  have em : Cal.mon y m k % 12 + 1 = (12 * y + m - 1 + k) % 12 + 1 := by omega
  have ed : Cal.amd y m d k = Cal.len ((12 * y + m - 1 + k) / 12) ((12 * y + m - 1 + k) % 12 + 1) := by unfold Cal.amd; rw [ey, em]; omega
  rw [ey, em, ed] at hg
  have HV := Lib.hid hg
  clear ey em ed hg
  have HC := Lib.hid hc
  clear hc
  clear hmon
  have _ : decide (1200 < k) = false := decide_eq_false (by omega)
  have _ : decide (k < -1200) = false := decide_eq_false (by omega)
  have _ : decide ((12 * y + m - 1 + k) / 12 < 2000) = false := decide_eq_false (by omega)
  have _ : decide (2099 < (12 * y + m - 1 + k) / 12) = false := decide_eq_false (by omega)
  go_enter Tryd.func37, Tryd.ntmps37
  have Q0 := Lib.hid (Below.refl w0.heap.size w0)
  have hB0 := hB
  go_wp2_with fail
  refine (rciv_is h0 h1 HC.out _).mono ?_
  rintro e w1 ⟨rfl, hb1⟩
  have Q1 := Lib.hid (chain Q0.out (by repeat' (first | (with_reducible exact Below.refl _ _) | (with_reducible assumption) | (with_reducible refine below_drewN ?_ _) | (with_reducible refine Below.alloc ?_ ?_ _) | (with_reducible refine Below.drew ?_) | (with_reducible refine Below.setCell ?_ ?_ _) | go_size)) hb1)
  have hq1 : w0.heap.size ≤ w1.heap.size := Q1.out.size
  have hz1 := hb1.size
  try simp only [World.size_alloc, World.size_setCell, World.size_drew] at hz1
  have hB1 : 0 < w1.heap.size := Nat.lt_of_lt_of_le hB (Q1.out.size)
  clear hb1
  go_wp2
  go_region_held3 (fun w' => w'.cell? ⟨w1.heap.size, 2, none⟩ = some (.int .i64 d)) (first | (simp [go_sem]; done) | (rw [hb.cell (p := ⟨w1.heap.size, 2, none⟩) (by simp)]; simp [go_sem])) (first | (go_at_call 43; ((with_reducible refine (days_any _ _ _ (by omega) (by omega) (by omega) (by omega)).mono ?_); rintro e w' ⟨rfl, rfl⟩)) | (go_at_call 14; ((with_reducible refine (rhour_any _ _ _ _ _).mono ?_); rintro e w' ⟨rfl, hb⟩)))
  go_wp2
  go_ret2
  refine ⟨?_, chain Q1.out (by repeat' (first | (with_reducible exact Below.refl _ _) | (with_reducible assumption) | (with_reducible refine below_drewN ?_ _) | (with_reducible refine Below.alloc ?_ ?_ _) | (with_reducible refine Below.drew ?_) | (with_reducible refine Below.setCell ?_ ?_ _) | go_size)) hb⟩
  exact ret_two HV.out.1.symm HV.out.2.symm

set_option maxHeartbeats 1000000 in
set_option maxRecDepth 100000 in
theorem ram_good2 (n k y m d : Int) (w0 : World) (hB : 0 < w0.heap.size) (h0 : 0 ≤ n) (h1 : n ≤ 876599) (hc : Cal.IsCiv n y m d) (hk1 : -1200 < k) (hk2 : k < 1200) (hm1 : 0 ≤ (y - 2000) * 12 + m - 1 + k) (hm2 : (y - 2000) * 12 + m - 1 + k < 1200) (hmn : d ≤ Cal.len ((12 * y + m - 1 + k) / 12) ((12 * y + m - 1 + k) % 12 + 1)) : Calls Tryd.prog 37 #[.int .i64 n, .int .i64 k] w0 fun e w' => e = .returned (.tuple #[.int .i64 (Cal.amv n k), .int .i64 (Cal.ame n k)]) ∧ Below w0.heap.size w0 w' := by
  have hy : 2000 ≤ y ∧ y ≤ 2099 := ⟨hc.1, hc.2.1⟩
  have hm : 1 ≤ m ∧ m ≤ 12 := ⟨hc.2.2.1, hc.2.2.2.1⟩
  have hd : 1 ≤ d ∧ d ≤ 31 := by have hl := Cal.len_bd y m hm.1 hm.2; have h1 := hc.2.2.2.2.1; have h2 := hc.2.2.2.2.2.1; omega
  have hmon : Cal.mon y m k = (y - 2000) * 12 + m - 1 + k := rfl
  have hg := Cal.am_good h0 h1 hc (k := k) (by omega) (by omega)
  have ey : 2000 + Cal.mon y m k / 12 = (12 * y + m - 1 + k) / 12 := by omega
  have em : Cal.mon y m k % 12 + 1 = (12 * y + m - 1 + k) % 12 + 1 := by omega
  have ed : Cal.amd y m d k = d := by unfold Cal.amd; rw [ey, em]; omega
  rw [ey, em, ed] at hg
  have HV := Lib.hid hg
  clear ey em ed hg
  have HC := Lib.hid hc
  clear hc
  clear hmon
  have _ : decide (1200 < k) = false := decide_eq_false (by omega)
  have _ : decide (k < -1200) = false := decide_eq_false (by omega)
  have _ : decide ((12 * y + m - 1 + k) / 12 < 2000) = false := decide_eq_false (by omega)
  have _ : decide (2099 < (12 * y + m - 1 + k) / 12) = false := decide_eq_false (by omega)
  go_enter Tryd.func37, Tryd.ntmps37
  have Q0 := Lib.hid (Below.refl w0.heap.size w0)
  have hB0 := hB
  go_wp2_with fail
  refine (rciv_is h0 h1 HC.out _).mono ?_
  rintro e w1 ⟨rfl, hb1⟩
  have Q1 := Lib.hid (chain Q0.out (by repeat' (first | (with_reducible exact Below.refl _ _) | (with_reducible assumption) | (with_reducible refine below_drewN ?_ _) | (with_reducible refine Below.alloc ?_ ?_ _) | (with_reducible refine Below.drew ?_) | (with_reducible refine Below.setCell ?_ ?_ _) | go_size)) hb1)
  have hq1 : w0.heap.size ≤ w1.heap.size := Q1.out.size
  have hz1 := hb1.size
  try simp only [World.size_alloc, World.size_setCell, World.size_drew] at hz1
  have hB1 : 0 < w1.heap.size := Nat.lt_of_lt_of_le hB (Q1.out.size)
  clear hb1
  go_wp2
  go_region_held3 (fun w' => w'.cell? ⟨w1.heap.size, 2, none⟩ = some (.int .i64 d)) (first | (simp [go_sem]; done) | (rw [hb.cell (p := ⟨w1.heap.size, 2, none⟩) (by simp)]; simp [go_sem])) (first | (go_at_call 43; ((with_reducible refine (days_any _ _ _ (by omega) (by omega) (by omega) (by omega)).mono ?_); rintro e w' ⟨rfl, rfl⟩)) | (go_at_call 14; ((with_reducible refine (rhour_any _ _ _ _ _).mono ?_); rintro e w' ⟨rfl, hb⟩)))
  go_wp2
  go_ret2
  refine ⟨?_, chain Q1.out (by repeat' (first | (with_reducible exact Below.refl _ _) | (with_reducible assumption) | (with_reducible refine below_drewN ?_ _) | (with_reducible refine Below.alloc ?_ ?_ _) | (with_reducible refine Below.drew ?_) | (with_reducible refine Below.setCell ?_ ?_ _) | go_size)) hb⟩
  exact ret_two HV.out.1.symm HV.out.2.symm

theorem ram_any (n k : Int) (w0 : World) (hB : 0 < w0.heap.size) : Calls Tryd.prog 37 #[.int .i64 n, .int .i64 k] w0 fun e w' => e = .returned (.tuple #[.int .i64 (Cal.amv n k), .int .i64 (Cal.ame n k)]) ∧ Below w0.heap.size w0 w' := by
  by_cases h : 0 ≤ n ∧ n ≤ 876599
  · have hc := Cal.civ_spec h.1 h.2
    have hb := hc
    obtain ⟨b1, b2, b3, b4, _, _, _⟩ := hb
    generalize Cal.cvy n = y at *
    generalize Cal.cvm n = m at *
    generalize Cal.cvd n = d at *
    rcases Int.lt_or_le ((y - 2000) * 12 + m - 1 + k) 0 with q | q
    · rcases Int.lt_or_le (-1200) k with a | a
      · exact ram_m1 n k y m d w0 hB h.1 h.2 hc (by omega) (by omega) q
      · rcases Int.lt_or_le k (-1200) with c | c
        · exact ram_k1 n k y m d w0 hB h.1 h.2 hc c
        · exact ram_m1 n k y m d w0 hB h.1 h.2 hc (by omega) (by omega) q
    rcases Int.lt_or_le ((y - 2000) * 12 + m - 1 + k) 1200 with p | p
    · rcases Int.lt_or_le (Cal.len ((12 * y + m - 1 + k) / 12) ((12 * y + m - 1 + k) % 12 + 1)) d with hmn | hmn
      · exact ram_good1 n k y m d w0 hB h.1 h.2 hc (by omega) (by omega) q p hmn
      · exact ram_good2 n k y m d w0 hB h.1 h.2 hc (by omega) (by omega) q p hmn
    · rcases Int.lt_or_le k 1200 with a | a
      · exact ram_m2 n k y m d w0 hB h.1 h.2 hc (by omega) (by omega) p
      · rcases Int.lt_or_le 1200 k with c | c
        · exact ram_k2 n k y m d w0 hB h.1 h.2 hc c
        · exact ram_m2 n k y m d w0 hB h.1 h.2 hc (by omega) (by omega) p
  · exact ram_out n k w0 hB h
end Go.Proofs.YtnidojfnpmhjkaaDoor
