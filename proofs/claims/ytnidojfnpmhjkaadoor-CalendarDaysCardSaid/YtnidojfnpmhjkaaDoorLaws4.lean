/- The walk of the law CalendarDays. -/
import Derived.Test.YtnidojfnpmhjkaaDoorDays
import Derived.Test.YtnidojfnpmhjkaaDoorLaws3
namespace Go.Proofs.YtnidojfnpmhjkaaDoor
set_option linter.unusedVariables false
set_option linter.unusedSimpArgs false
open Go.RowKit
namespace Cal
theorem days_law {a b : Int} (hp : 0 ≤ a ∧ a < b ∧ b ≤ 876600) : elp a b b = dys a b ∧ 0 < dys a b ∧ ∀ lo hi, lo ≤ hi → elp a b lo ≤ elp a b hi := by
  have d : dys a b = (b - a + 23) / 24 := by simp [dys, vp_t hp]
  have e : ∀ n, elp a b n = if n ≤ a then 0 else if b ≤ n then (b - a + 23) / 24 else (n - a + 23) / 24 := fun n => by simp only [elp, vp_t hp, if_true, d]
  refine ⟨?_, by omega, fun lo hi h => ?_⟩
  · rw [e, d, if_neg (by omega), if_pos (by omega)]
  · rw [e, e]
    split <;> split <;> (try split) <;> (try split) <;> omega
end Cal
set_option maxHeartbeats 2000000 in
set_option maxRecDepth 100000 in
theorem law_days (a b n : Int) (al : Option Addr) (len cap : Nat) (w0 : World) (hT : Tab w0) (hB : 0 < w0.heap.size) (hD : ∀ (w : World) (t : TypeId), w0.heap.size ≤ w.heap.size → (∀ k, k < w0.heap.size → w.heap[k]? = w0.heap[k]?) → DeckOk (w.alloc (.cells #[.slice al len cap, .int .i64 0] t)) w.heap.size) :
    Calls Tryd.prog 8 #[.agg #[.int .i64 a, .int .i64 b], .int .i64 n, .slice al len cap] w0 fun e w' => e = .returned (.bool true) ∧ Below w0.heap.size w0 w' := by
  have HD := Lib.hid hD
  clear hD
  go_enter Tryd.func8, Tryd.ntmps8
  have Q0 := Lib.hid (Below.refl w0.heap.size w0)
  have hT0 := hT
  have hB0 := hB
  go_wp2_with fail
  refine (elapsed_any a b n _ (by exact Nat.lt_of_lt_of_le hB (Below.size (Below.trans Q0.out (by repeat' (first | (with_reducible exact Below.refl _ _) | (with_reducible assumption) | (with_reducible refine below_drewN ?_ _) | (with_reducible refine Below.alloc ?_ ?_ _) | (with_reducible refine Below.drew ?_) | (with_reducible refine Below.setCell ?_ ?_ _) | go_size)))))).mono ?_
  rintro e w1 ⟨rfl, hb1⟩
  have Q1 := Lib.hid (chain Q0.out (by repeat' (first | (with_reducible exact Below.refl _ _) | (with_reducible assumption) | (with_reducible refine below_drewN ?_ _) | (with_reducible refine Below.alloc ?_ ?_ _) | (with_reducible refine Below.drew ?_) | (with_reducible refine Below.setCell ?_ ?_ _) | go_size)) hb1)
  have hq1 : w0.heap.size ≤ w1.heap.size := Q1.out.size
  have hz1 := hb1.size
  try simp only [World.size_alloc, World.size_setCell, World.size_drew] at hz1
  have hB1 : 0 < w1.heap.size := Nat.lt_of_lt_of_le hB (Q1.out.size)
  have hT1 : Tab w1 := hT.below Q1.out hB
  have hl1_0 : w0.heap.size < w1.heap.size := by omega
  have hm1_0 : w0.heap.size ≤ w1.heap.size := by omega
  have c1_0_0 : w1.cell? ⟨w0.heap.size, 0, none⟩ = some (.int .i64 a) := by rw [hb1.cell (p := ⟨w0.heap.size, 0, none⟩) (by simp; try omega)]; simp [go_sem, *]
  have f1_0_0 : w1.frozen? ⟨w0.heap.size, 0, none⟩ = false := by rw [hb1.frozen (p := ⟨w0.heap.size, 0, none⟩) (by simp; try omega)]; simp [go_sem, *]
  have c1_0_1 : w1.cell? ⟨w0.heap.size, 1, none⟩ = some (.int .i64 b) := by rw [hb1.cell (p := ⟨w0.heap.size, 1, none⟩) (by simp; try omega)]; simp [go_sem, *]
  have f1_0_1 : w1.frozen? ⟨w0.heap.size, 1, none⟩ = false := by rw [hb1.frozen (p := ⟨w0.heap.size, 1, none⟩) (by simp; try omega)]; simp [go_sem, *]
  clear hb1
  go_wp2_with fail
  refine (relapsed_any a b n _ (by exact Nat.lt_of_lt_of_le hB (Below.size (Below.trans Q1.out (by repeat' (first | (with_reducible exact Below.refl _ _) | (with_reducible assumption) | (with_reducible refine below_drewN ?_ _) | (with_reducible refine Below.alloc ?_ ?_ _) | (with_reducible refine Below.drew ?_) | (with_reducible refine Below.setCell ?_ ?_ _) | go_size)))))).mono ?_
  rintro e w2 ⟨rfl, hb2⟩
  have Q2 := Lib.hid (chain Q1.out (by repeat' (first | (with_reducible exact Below.refl _ _) | (with_reducible assumption) | (with_reducible refine below_drewN ?_ _) | (with_reducible refine Below.alloc ?_ ?_ _) | (with_reducible refine Below.drew ?_) | (with_reducible refine Below.setCell ?_ ?_ _) | go_size)) hb2)
  have hq2 : w0.heap.size ≤ w2.heap.size := Q2.out.size
  have hz2 := hb2.size
  try simp only [World.size_alloc, World.size_setCell, World.size_drew] at hz2
  have hB2 : 0 < w2.heap.size := Nat.lt_of_lt_of_le hB (Q2.out.size)
  have hT2 : Tab w2 := hT.below Q2.out hB
  have hl2_0 : w0.heap.size < w2.heap.size := by omega
  have hm2_0 : w0.heap.size ≤ w2.heap.size := by omega
  have c2_0_0 : w2.cell? ⟨w0.heap.size, 0, none⟩ = some (.int .i64 a) := by rw [hb2.cell (p := ⟨w0.heap.size, 0, none⟩) (by simp; try omega)]; simp [go_sem, *]
  have f2_0_0 : w2.frozen? ⟨w0.heap.size, 0, none⟩ = false := by rw [hb2.frozen (p := ⟨w0.heap.size, 0, none⟩) (by simp; try omega)]; simp [go_sem, *]
  have c2_0_1 : w2.cell? ⟨w0.heap.size, 1, none⟩ = some (.int .i64 b) := by rw [hb2.cell (p := ⟨w0.heap.size, 1, none⟩) (by simp; try omega)]; simp [go_sem, *]
  have f2_0_1 : w2.frozen? ⟨w0.heap.size, 1, none⟩ = false := by rw [hb2.frozen (p := ⟨w0.heap.size, 1, none⟩) (by simp; try omega)]; simp [go_sem, *]
  clear hb2
  go_wp2
  go_region_held3 (fun w' => w'.cell? ⟨w0.heap.size, 0, none⟩ = some (.int .i64 a) ∧ w'.cell? ⟨w0.heap.size, 1, none⟩ = some (.int .i64 b) ∧ Below w2.heap.size w2 w') (first | exact ⟨c2_0_0, c2_0_1, (Below.refl _ _).drew⟩ | exact keepTwo hl2_0 hl2_0 (by assumption) hb4 | exact keepTwo hl2_0 hl2_0 (by assumption) hb3) (first | (go_at_call 34; ((with_reducible refine (days0_any a b _ (by simp only [World.size_drew]; omega)).mono ?_); rintro e w3 ⟨rfl, hb3⟩)) | (go_at_call 35; ((with_reducible refine (rdays0_any a b _ (by have hs := Below.size hb3; simp only [World.size_drew] at hs; omega)).mono ?_); rintro e w4 ⟨rfl, hb4⟩)))
  have g3 : Below w2.heap.size w2 w3 := (Below.refl _ _).drew.trans hb3
  have g4 := g3.trans (hb4.mono g3.size)
  have Q4 := Lib.hid (Q2.out.trans (g4.mono hq2))
  have hq4 : w0.heap.size ≤ w4.heap.size := Q4.out.size
  have hz4 : w2.heap.size ≤ w4.heap.size := g4.size
  have hB4 : 0 < w4.heap.size := Nat.lt_of_lt_of_le hB Q4.out.size
  have hT4 : Tab w4 := hT.below Q4.out hB
  clear g3 g4 hb3 hb4
  go_wp2_with fail
  refine (new_any al len cap _).mono ?_
  rintro e w' ⟨rfl, rfl⟩
  go_wp2_with fail
  have HD5 := Lib.hid (HD.out w4 71 hq4 (fun k hk => Q4.out.block k hk))
  have hz5 : w4.heap.size < (w4.alloc (.cells #[.slice al len cap, .int .i64 0] 71)).heap.size := by simp
  have Q5 := Lib.hid (Below.trans Q4.out (show Below w0.heap.size w4 (w4.alloc (.cells #[.slice al len cap, .int .i64 0] 71)) from (by repeat' (first | (with_reducible exact Below.refl _ _) | (with_reducible assumption) | (with_reducible refine below_drewN ?_ _) | (with_reducible refine Below.alloc ?_ ?_ _) | (with_reducible refine Below.drew ?_) | (with_reducible refine Below.setCell ?_ ?_ _) | go_size))))
  have hq5 : w0.heap.size ≤ (w4.alloc (.cells #[.slice al len cap, .int .i64 0] 71)).heap.size := Q5.out.size
  have hB5 : 0 < (w4.alloc (.cells #[.slice al len cap, .int .i64 0] 71)).heap.size := Nat.lt_of_lt_of_le hB Q5.out.size
  have hT5 : Tab (w4.alloc (.cells #[.slice al len cap, .int .i64 0] 71)) := hT.below Q5.out hB
  generalize w4.alloc (.cells #[.slice al len cap, .int .i64 0] 71) = w5 at *
  go_wp2_with fail
  refine (dperiod_any _ _ HD5.out).mono ?_
  rintro e w6 ⟨x0, x1, rfl, x00, x01, x02, hd6, hg6⟩
  have HD6 := Lib.hid hd6
  have Q6 := Lib.hid (Below.grown Q5.out hg6 hq5 (fun k hk => by cases hk; omega))
  have hq6 : w0.heap.size ≤ w6.heap.size := Q6.out.size
  have hz6 := hg6.size
  have hB6 : 0 < w6.heap.size := Nat.lt_of_lt_of_le hB Q6.out.size
  have hT6 : Tab w6 := hT.below Q6.out hB
  clear hd6 hg6
  go_wp2_with fail
  refine (dhour_any _ _ HD6.out).mono ?_
  rintro e w7 ⟨h, rfl, h00, h01, hd7, hg7⟩
  have HD7 := Lib.hid hd7
  have Q7 := Lib.hid (Below.grown Q6.out hg7 hq6 (fun k hk => by cases hk; omega))
  have hq7 : w0.heap.size ≤ w7.heap.size := Q7.out.size
  have hz7 := hg7.size
  have hB7 : 0 < w7.heap.size := Nat.lt_of_lt_of_le hB Q7.out.size
  have hT7 : Tab w7 := hT.below Q7.out hB
  clear hd7 hg7
  go_wp2_with fail
  refine (dhour_any _ _ HD7.out).mono ?_
  rintro e w8 ⟨k, rfl, k00, k01, hd8, hg8⟩
  have HD8 := Lib.hid hd8
  have Q8 := Lib.hid (Below.grown Q7.out hg8 hq7 (fun k hk => by cases hk; omega))
  have hq8 : w0.heap.size ≤ w8.heap.size := Q8.out.size
  have hz8 := hg8.size
  have hB8 : 0 < w8.heap.size := Nat.lt_of_lt_of_le hB Q8.out.size
  have hT8 : Tab w8 := hT.below Q8.out hB
  clear hd8 hg8
  obtain ⟨l1, l2, l3⟩ := Cal.days_law ⟨x00, x01, x02⟩
  have q1 : (Cal.elp x0 x1 x1 == Cal.dys x0 x1) = true := by simp [l1]
  have q2 : decide (0 < Cal.dys x0 x1) = true := decide_eq_true l2
  have HL := Lib.hid l3
  clear l1 l2 l3
  rcases Int.lt_trichotomy h k with hk | hk | hk
  · have q3 : decide (Cal.elp x0 x1 h ≤ Cal.elp x0 x1 k) = true := decide_eq_true (HL.out _ _ (by omega))
    go_wp2_with fail
    refine (elapsed_any x0 x1 h _ (by exact Nat.lt_of_lt_of_le hB (Below.size (Below.trans Q8.out (by repeat' (first | (with_reducible exact Below.refl _ _) | (with_reducible assumption) | (with_reducible refine below_drewN ?_ _) | (with_reducible refine Below.alloc ?_ ?_ _) | (with_reducible refine Below.drew ?_) | (with_reducible refine Below.setCell ?_ ?_ _) | go_size)))))).mono ?_
    rintro e w9 ⟨rfl, hb9⟩
    have Q9 := Lib.hid (chain Q8.out (by repeat' (first | (with_reducible exact Below.refl _ _) | (with_reducible assumption) | (with_reducible refine below_drewN ?_ _) | (with_reducible refine Below.alloc ?_ ?_ _) | (with_reducible refine Below.drew ?_) | (with_reducible refine Below.setCell ?_ ?_ _) | go_size)) hb9)
    have hq9 : w0.heap.size ≤ w9.heap.size := Q9.out.size
    have hz9 := hb9.size
    try simp only [World.size_alloc, World.size_setCell, World.size_drew] at hz9
    have hB9 : 0 < w9.heap.size := Nat.lt_of_lt_of_le hB (Q9.out.size)
    have hT9 : Tab w9 := hT.below Q9.out hB
    have hl9_0 : w8.heap.size < w9.heap.size := by omega
    have hm9_0 : w8.heap.size ≤ w9.heap.size := by omega
    have c9_0_0 : w9.cell? ⟨w8.heap.size, 0, none⟩ = some (.int .i64 x0) := by rw [hb9.cell (p := ⟨w8.heap.size, 0, none⟩) (by simp; try omega)]; simp [go_sem, *]
    have f9_0_0 : w9.frozen? ⟨w8.heap.size, 0, none⟩ = false := by rw [hb9.frozen (p := ⟨w8.heap.size, 0, none⟩) (by simp; try omega)]; simp [go_sem, *]
    have c9_0_1 : w9.cell? ⟨w8.heap.size, 1, none⟩ = some (.int .i64 x1) := by rw [hb9.cell (p := ⟨w8.heap.size, 1, none⟩) (by simp; try omega)]; simp [go_sem, *]
    have f9_0_1 : w9.frozen? ⟨w8.heap.size, 1, none⟩ = false := by rw [hb9.frozen (p := ⟨w8.heap.size, 1, none⟩) (by simp; try omega)]; simp [go_sem, *]
    clear hb9
    go_wp2_with fail
    refine (elapsed_any x0 x1 k _ (by exact Nat.lt_of_lt_of_le hB (Below.size (Below.trans Q9.out (by repeat' (first | (with_reducible exact Below.refl _ _) | (with_reducible assumption) | (with_reducible refine below_drewN ?_ _) | (with_reducible refine Below.alloc ?_ ?_ _) | (with_reducible refine Below.drew ?_) | (with_reducible refine Below.setCell ?_ ?_ _) | go_size)))))).mono ?_
    rintro e w10 ⟨rfl, hb10⟩
    have Q10 := Lib.hid (chain Q9.out (by repeat' (first | (with_reducible exact Below.refl _ _) | (with_reducible assumption) | (with_reducible refine below_drewN ?_ _) | (with_reducible refine Below.alloc ?_ ?_ _) | (with_reducible refine Below.drew ?_) | (with_reducible refine Below.setCell ?_ ?_ _) | go_size)) hb10)
    have hq10 : w0.heap.size ≤ w10.heap.size := Q10.out.size
    have hz10 := hb10.size
    try simp only [World.size_alloc, World.size_setCell, World.size_drew] at hz10
    have hB10 : 0 < w10.heap.size := Nat.lt_of_lt_of_le hB (Q10.out.size)
    have hT10 : Tab w10 := hT.below Q10.out hB
    have hl10_0 : w8.heap.size < w10.heap.size := by omega
    have hm10_0 : w8.heap.size ≤ w10.heap.size := by omega
    have c10_0_0 : w10.cell? ⟨w8.heap.size, 0, none⟩ = some (.int .i64 x0) := by rw [hb10.cell (p := ⟨w8.heap.size, 0, none⟩) (by simp; try omega)]; simp [go_sem, *]
    have f10_0_0 : w10.frozen? ⟨w8.heap.size, 0, none⟩ = false := by rw [hb10.frozen (p := ⟨w8.heap.size, 0, none⟩) (by simp; try omega)]; simp [go_sem, *]
    have c10_0_1 : w10.cell? ⟨w8.heap.size, 1, none⟩ = some (.int .i64 x1) := by rw [hb10.cell (p := ⟨w8.heap.size, 1, none⟩) (by simp; try omega)]; simp [go_sem, *]
    have f10_0_1 : w10.frozen? ⟨w8.heap.size, 1, none⟩ = false := by rw [hb10.frozen (p := ⟨w8.heap.size, 1, none⟩) (by simp; try omega)]; simp [go_sem, *]
    clear hb10
    go_wp2_with fail
    refine (elapsed_any x0 x1 x1 _ (by exact Nat.lt_of_lt_of_le hB (Below.size (Below.trans Q10.out (by repeat' (first | (with_reducible exact Below.refl _ _) | (with_reducible assumption) | (with_reducible refine below_drewN ?_ _) | (with_reducible refine Below.alloc ?_ ?_ _) | (with_reducible refine Below.drew ?_) | (with_reducible refine Below.setCell ?_ ?_ _) | go_size)))))).mono ?_
    rintro e w11 ⟨rfl, hb11⟩
    have Q11 := Lib.hid (chain Q10.out (by repeat' (first | (with_reducible exact Below.refl _ _) | (with_reducible assumption) | (with_reducible refine below_drewN ?_ _) | (with_reducible refine Below.alloc ?_ ?_ _) | (with_reducible refine Below.drew ?_) | (with_reducible refine Below.setCell ?_ ?_ _) | go_size)) hb11)
    have hq11 : w0.heap.size ≤ w11.heap.size := Q11.out.size
    have hz11 := hb11.size
    try simp only [World.size_alloc, World.size_setCell, World.size_drew] at hz11
    have hB11 : 0 < w11.heap.size := Nat.lt_of_lt_of_le hB (Q11.out.size)
    have hT11 : Tab w11 := hT.below Q11.out hB
    have hl11_0 : w8.heap.size < w11.heap.size := by omega
    have hm11_0 : w8.heap.size ≤ w11.heap.size := by omega
    have c11_0_0 : w11.cell? ⟨w8.heap.size, 0, none⟩ = some (.int .i64 x0) := by rw [hb11.cell (p := ⟨w8.heap.size, 0, none⟩) (by simp; try omega)]; simp [go_sem, *]
    have f11_0_0 : w11.frozen? ⟨w8.heap.size, 0, none⟩ = false := by rw [hb11.frozen (p := ⟨w8.heap.size, 0, none⟩) (by simp; try omega)]; simp [go_sem, *]
    have c11_0_1 : w11.cell? ⟨w8.heap.size, 1, none⟩ = some (.int .i64 x1) := by rw [hb11.cell (p := ⟨w8.heap.size, 1, none⟩) (by simp; try omega)]; simp [go_sem, *]
    have f11_0_1 : w11.frozen? ⟨w8.heap.size, 1, none⟩ = false := by rw [hb11.frozen (p := ⟨w8.heap.size, 1, none⟩) (by simp; try omega)]; simp [go_sem, *]
    clear hb11
    go_wp2_with fail
    refine (elapsed_any x0 x1 h _ (by exact Nat.lt_of_lt_of_le hB (Below.size (Below.trans Q11.out (by repeat' (first | (with_reducible exact Below.refl _ _) | (with_reducible assumption) | (with_reducible refine below_drewN ?_ _) | (with_reducible refine Below.alloc ?_ ?_ _) | (with_reducible refine Below.drew ?_) | (with_reducible refine Below.setCell ?_ ?_ _) | go_size)))))).mono ?_
    rintro e w12 ⟨rfl, hb12⟩
    have Q12 := Lib.hid (chain Q11.out (by repeat' (first | (with_reducible exact Below.refl _ _) | (with_reducible assumption) | (with_reducible refine below_drewN ?_ _) | (with_reducible refine Below.alloc ?_ ?_ _) | (with_reducible refine Below.drew ?_) | (with_reducible refine Below.setCell ?_ ?_ _) | go_size)) hb12)
    have hq12 : w0.heap.size ≤ w12.heap.size := Q12.out.size
    have hz12 := hb12.size
    try simp only [World.size_alloc, World.size_setCell, World.size_drew] at hz12
    have hB12 : 0 < w12.heap.size := Nat.lt_of_lt_of_le hB (Q12.out.size)
    have hT12 : Tab w12 := hT.below Q12.out hB
    have hl12_0 : w8.heap.size < w12.heap.size := by omega
    have hm12_0 : w8.heap.size ≤ w12.heap.size := by omega
    have c12_0_0 : w12.cell? ⟨w8.heap.size, 0, none⟩ = some (.int .i64 x0) := by rw [hb12.cell (p := ⟨w8.heap.size, 0, none⟩) (by simp; try omega)]; simp [go_sem, *]
    have f12_0_0 : w12.frozen? ⟨w8.heap.size, 0, none⟩ = false := by rw [hb12.frozen (p := ⟨w8.heap.size, 0, none⟩) (by simp; try omega)]; simp [go_sem, *]
    have c12_0_1 : w12.cell? ⟨w8.heap.size, 1, none⟩ = some (.int .i64 x1) := by rw [hb12.cell (p := ⟨w8.heap.size, 1, none⟩) (by simp; try omega)]; simp [go_sem, *]
    have f12_0_1 : w12.frozen? ⟨w8.heap.size, 1, none⟩ = false := by rw [hb12.frozen (p := ⟨w8.heap.size, 1, none⟩) (by simp; try omega)]; simp [go_sem, *]
    clear hb12
    go_wp2_with fail
    refine (relapsed_any x0 x1 h _ (by exact Nat.lt_of_lt_of_le hB (Below.size (Below.trans Q12.out (by repeat' (first | (with_reducible exact Below.refl _ _) | (with_reducible assumption) | (with_reducible refine below_drewN ?_ _) | (with_reducible refine Below.alloc ?_ ?_ _) | (with_reducible refine Below.drew ?_) | (with_reducible refine Below.setCell ?_ ?_ _) | go_size)))))).mono ?_
    rintro e w13 ⟨rfl, hb13⟩
    have Q13 := Lib.hid (chain Q12.out (by repeat' (first | (with_reducible exact Below.refl _ _) | (with_reducible assumption) | (with_reducible refine below_drewN ?_ _) | (with_reducible refine Below.alloc ?_ ?_ _) | (with_reducible refine Below.drew ?_) | (with_reducible refine Below.setCell ?_ ?_ _) | go_size)) hb13)
    have hq13 : w0.heap.size ≤ w13.heap.size := Q13.out.size
    have hz13 := hb13.size
    try simp only [World.size_alloc, World.size_setCell, World.size_drew] at hz13
    have hB13 : 0 < w13.heap.size := Nat.lt_of_lt_of_le hB (Q13.out.size)
    have hT13 : Tab w13 := hT.below Q13.out hB
    have hl13_0 : w8.heap.size < w13.heap.size := by omega
    have hm13_0 : w8.heap.size ≤ w13.heap.size := by omega
    have c13_0_0 : w13.cell? ⟨w8.heap.size, 0, none⟩ = some (.int .i64 x0) := by rw [hb13.cell (p := ⟨w8.heap.size, 0, none⟩) (by simp; try omega)]; simp [go_sem, *]
    have f13_0_0 : w13.frozen? ⟨w8.heap.size, 0, none⟩ = false := by rw [hb13.frozen (p := ⟨w8.heap.size, 0, none⟩) (by simp; try omega)]; simp [go_sem, *]
    have c13_0_1 : w13.cell? ⟨w8.heap.size, 1, none⟩ = some (.int .i64 x1) := by rw [hb13.cell (p := ⟨w8.heap.size, 1, none⟩) (by simp; try omega)]; simp [go_sem, *]
    have f13_0_1 : w13.frozen? ⟨w8.heap.size, 1, none⟩ = false := by rw [hb13.frozen (p := ⟨w8.heap.size, 1, none⟩) (by simp; try omega)]; simp [go_sem, *]
    clear hb13
    go_wp2_with fail
    refine (awake_any _ (by exact hT.below (Below.trans Q13.out (by repeat' (first | (with_reducible exact Below.refl _ _) | (with_reducible assumption) | (with_reducible refine below_drewN ?_ _) | (with_reducible refine Below.alloc ?_ ?_ _) | (with_reducible refine Below.drew ?_) | (with_reducible refine Below.setCell ?_ ?_ _) | go_size))) hB) (by exact Nat.lt_of_lt_of_le hB (Below.size (Below.trans Q13.out (by repeat' (first | (with_reducible exact Below.refl _ _) | (with_reducible assumption) | (with_reducible refine below_drewN ?_ _) | (with_reducible refine Below.alloc ?_ ?_ _) | (with_reducible refine Below.drew ?_) | (with_reducible refine Below.setCell ?_ ?_ _) | go_size)))))).mono ?_
    rintro e w14 ⟨rfl, hb14⟩
    have Q14 := Lib.hid (chain Q13.out (by repeat' (first | (with_reducible exact Below.refl _ _) | (with_reducible assumption) | (with_reducible refine below_drewN ?_ _) | (with_reducible refine Below.alloc ?_ ?_ _) | (with_reducible refine Below.drew ?_) | (with_reducible refine Below.setCell ?_ ?_ _) | go_size)) hb14)
    have hq14 : w0.heap.size ≤ w14.heap.size := Q14.out.size
    have hz14 := hb14.size
    try simp only [World.size_alloc, World.size_setCell, World.size_drew] at hz14
    have hB14 : 0 < w14.heap.size := Nat.lt_of_lt_of_le hB (Q14.out.size)
    have hT14 : Tab w14 := hT.below Q14.out hB
    have hl14_0 : w8.heap.size < w14.heap.size := by omega
    have hm14_0 : w8.heap.size ≤ w14.heap.size := by omega
    have c14_0_0 : w14.cell? ⟨w8.heap.size, 0, none⟩ = some (.int .i64 x0) := by rw [hb14.cell (p := ⟨w8.heap.size, 0, none⟩) (by simp; try omega)]; simp [go_sem, *]
    have f14_0_0 : w14.frozen? ⟨w8.heap.size, 0, none⟩ = false := by rw [hb14.frozen (p := ⟨w8.heap.size, 0, none⟩) (by simp; try omega)]; simp [go_sem, *]
    have c14_0_1 : w14.cell? ⟨w8.heap.size, 1, none⟩ = some (.int .i64 x1) := by rw [hb14.cell (p := ⟨w8.heap.size, 1, none⟩) (by simp; try omega)]; simp [go_sem, *]
    have f14_0_1 : w14.frozen? ⟨w8.heap.size, 1, none⟩ = false := by rw [hb14.frozen (p := ⟨w8.heap.size, 1, none⟩) (by simp; try omega)]; simp [go_sem, *]
    clear hb14
    go_wp2
    go_ret
    exact ⟨rfl, Q14.out⟩
  · subst hk
    have q3 : decide (Cal.elp x0 x1 h ≤ Cal.elp x0 x1 h) = true := decide_eq_true (HL.out _ _ (by omega))
    go_wp2_with fail
    refine (elapsed_any x0 x1 h _ (by exact Nat.lt_of_lt_of_le hB (Below.size (Below.trans Q8.out (by repeat' (first | (with_reducible exact Below.refl _ _) | (with_reducible assumption) | (with_reducible refine below_drewN ?_ _) | (with_reducible refine Below.alloc ?_ ?_ _) | (with_reducible refine Below.drew ?_) | (with_reducible refine Below.setCell ?_ ?_ _) | go_size)))))).mono ?_
    rintro e w9 ⟨rfl, hb9⟩
    have Q9 := Lib.hid (chain Q8.out (by repeat' (first | (with_reducible exact Below.refl _ _) | (with_reducible assumption) | (with_reducible refine below_drewN ?_ _) | (with_reducible refine Below.alloc ?_ ?_ _) | (with_reducible refine Below.drew ?_) | (with_reducible refine Below.setCell ?_ ?_ _) | go_size)) hb9)
    have hq9 : w0.heap.size ≤ w9.heap.size := Q9.out.size
    have hz9 := hb9.size
    try simp only [World.size_alloc, World.size_setCell, World.size_drew] at hz9
    have hB9 : 0 < w9.heap.size := Nat.lt_of_lt_of_le hB (Q9.out.size)
    have hT9 : Tab w9 := hT.below Q9.out hB
    have hl9_0 : w8.heap.size < w9.heap.size := by omega
    have hm9_0 : w8.heap.size ≤ w9.heap.size := by omega
    have c9_0_0 : w9.cell? ⟨w8.heap.size, 0, none⟩ = some (.int .i64 x0) := by rw [hb9.cell (p := ⟨w8.heap.size, 0, none⟩) (by simp; try omega)]; simp [go_sem, *]
    have f9_0_0 : w9.frozen? ⟨w8.heap.size, 0, none⟩ = false := by rw [hb9.frozen (p := ⟨w8.heap.size, 0, none⟩) (by simp; try omega)]; simp [go_sem, *]
    have c9_0_1 : w9.cell? ⟨w8.heap.size, 1, none⟩ = some (.int .i64 x1) := by rw [hb9.cell (p := ⟨w8.heap.size, 1, none⟩) (by simp; try omega)]; simp [go_sem, *]
    have f9_0_1 : w9.frozen? ⟨w8.heap.size, 1, none⟩ = false := by rw [hb9.frozen (p := ⟨w8.heap.size, 1, none⟩) (by simp; try omega)]; simp [go_sem, *]
    clear hb9
    go_wp2_with fail
    refine (elapsed_any x0 x1 h _ (by exact Nat.lt_of_lt_of_le hB (Below.size (Below.trans Q9.out (by repeat' (first | (with_reducible exact Below.refl _ _) | (with_reducible assumption) | (with_reducible refine below_drewN ?_ _) | (with_reducible refine Below.alloc ?_ ?_ _) | (with_reducible refine Below.drew ?_) | (with_reducible refine Below.setCell ?_ ?_ _) | go_size)))))).mono ?_
    rintro e w10 ⟨rfl, hb10⟩
    have Q10 := Lib.hid (chain Q9.out (by repeat' (first | (with_reducible exact Below.refl _ _) | (with_reducible assumption) | (with_reducible refine below_drewN ?_ _) | (with_reducible refine Below.alloc ?_ ?_ _) | (with_reducible refine Below.drew ?_) | (with_reducible refine Below.setCell ?_ ?_ _) | go_size)) hb10)
    have hq10 : w0.heap.size ≤ w10.heap.size := Q10.out.size
    have hz10 := hb10.size
    try simp only [World.size_alloc, World.size_setCell, World.size_drew] at hz10
    have hB10 : 0 < w10.heap.size := Nat.lt_of_lt_of_le hB (Q10.out.size)
    have hT10 : Tab w10 := hT.below Q10.out hB
    have hl10_0 : w8.heap.size < w10.heap.size := by omega
    have hm10_0 : w8.heap.size ≤ w10.heap.size := by omega
    have c10_0_0 : w10.cell? ⟨w8.heap.size, 0, none⟩ = some (.int .i64 x0) := by rw [hb10.cell (p := ⟨w8.heap.size, 0, none⟩) (by simp; try omega)]; simp [go_sem, *]
    have f10_0_0 : w10.frozen? ⟨w8.heap.size, 0, none⟩ = false := by rw [hb10.frozen (p := ⟨w8.heap.size, 0, none⟩) (by simp; try omega)]; simp [go_sem, *]
    have c10_0_1 : w10.cell? ⟨w8.heap.size, 1, none⟩ = some (.int .i64 x1) := by rw [hb10.cell (p := ⟨w8.heap.size, 1, none⟩) (by simp; try omega)]; simp [go_sem, *]
    have f10_0_1 : w10.frozen? ⟨w8.heap.size, 1, none⟩ = false := by rw [hb10.frozen (p := ⟨w8.heap.size, 1, none⟩) (by simp; try omega)]; simp [go_sem, *]
    clear hb10
    go_wp2_with fail
    refine (elapsed_any x0 x1 x1 _ (by exact Nat.lt_of_lt_of_le hB (Below.size (Below.trans Q10.out (by repeat' (first | (with_reducible exact Below.refl _ _) | (with_reducible assumption) | (with_reducible refine below_drewN ?_ _) | (with_reducible refine Below.alloc ?_ ?_ _) | (with_reducible refine Below.drew ?_) | (with_reducible refine Below.setCell ?_ ?_ _) | go_size)))))).mono ?_
    rintro e w11 ⟨rfl, hb11⟩
    have Q11 := Lib.hid (chain Q10.out (by repeat' (first | (with_reducible exact Below.refl _ _) | (with_reducible assumption) | (with_reducible refine below_drewN ?_ _) | (with_reducible refine Below.alloc ?_ ?_ _) | (with_reducible refine Below.drew ?_) | (with_reducible refine Below.setCell ?_ ?_ _) | go_size)) hb11)
    have hq11 : w0.heap.size ≤ w11.heap.size := Q11.out.size
    have hz11 := hb11.size
    try simp only [World.size_alloc, World.size_setCell, World.size_drew] at hz11
    have hB11 : 0 < w11.heap.size := Nat.lt_of_lt_of_le hB (Q11.out.size)
    have hT11 : Tab w11 := hT.below Q11.out hB
    have hl11_0 : w8.heap.size < w11.heap.size := by omega
    have hm11_0 : w8.heap.size ≤ w11.heap.size := by omega
    have c11_0_0 : w11.cell? ⟨w8.heap.size, 0, none⟩ = some (.int .i64 x0) := by rw [hb11.cell (p := ⟨w8.heap.size, 0, none⟩) (by simp; try omega)]; simp [go_sem, *]
    have f11_0_0 : w11.frozen? ⟨w8.heap.size, 0, none⟩ = false := by rw [hb11.frozen (p := ⟨w8.heap.size, 0, none⟩) (by simp; try omega)]; simp [go_sem, *]
    have c11_0_1 : w11.cell? ⟨w8.heap.size, 1, none⟩ = some (.int .i64 x1) := by rw [hb11.cell (p := ⟨w8.heap.size, 1, none⟩) (by simp; try omega)]; simp [go_sem, *]
    have f11_0_1 : w11.frozen? ⟨w8.heap.size, 1, none⟩ = false := by rw [hb11.frozen (p := ⟨w8.heap.size, 1, none⟩) (by simp; try omega)]; simp [go_sem, *]
    clear hb11
    go_wp2_with fail
    refine (elapsed_any x0 x1 h _ (by exact Nat.lt_of_lt_of_le hB (Below.size (Below.trans Q11.out (by repeat' (first | (with_reducible exact Below.refl _ _) | (with_reducible assumption) | (with_reducible refine below_drewN ?_ _) | (with_reducible refine Below.alloc ?_ ?_ _) | (with_reducible refine Below.drew ?_) | (with_reducible refine Below.setCell ?_ ?_ _) | go_size)))))).mono ?_
    rintro e w12 ⟨rfl, hb12⟩
    have Q12 := Lib.hid (chain Q11.out (by repeat' (first | (with_reducible exact Below.refl _ _) | (with_reducible assumption) | (with_reducible refine below_drewN ?_ _) | (with_reducible refine Below.alloc ?_ ?_ _) | (with_reducible refine Below.drew ?_) | (with_reducible refine Below.setCell ?_ ?_ _) | go_size)) hb12)
    have hq12 : w0.heap.size ≤ w12.heap.size := Q12.out.size
    have hz12 := hb12.size
    try simp only [World.size_alloc, World.size_setCell, World.size_drew] at hz12
    have hB12 : 0 < w12.heap.size := Nat.lt_of_lt_of_le hB (Q12.out.size)
    have hT12 : Tab w12 := hT.below Q12.out hB
    have hl12_0 : w8.heap.size < w12.heap.size := by omega
    have hm12_0 : w8.heap.size ≤ w12.heap.size := by omega
    have c12_0_0 : w12.cell? ⟨w8.heap.size, 0, none⟩ = some (.int .i64 x0) := by rw [hb12.cell (p := ⟨w8.heap.size, 0, none⟩) (by simp; try omega)]; simp [go_sem, *]
    have f12_0_0 : w12.frozen? ⟨w8.heap.size, 0, none⟩ = false := by rw [hb12.frozen (p := ⟨w8.heap.size, 0, none⟩) (by simp; try omega)]; simp [go_sem, *]
    have c12_0_1 : w12.cell? ⟨w8.heap.size, 1, none⟩ = some (.int .i64 x1) := by rw [hb12.cell (p := ⟨w8.heap.size, 1, none⟩) (by simp; try omega)]; simp [go_sem, *]
    have f12_0_1 : w12.frozen? ⟨w8.heap.size, 1, none⟩ = false := by rw [hb12.frozen (p := ⟨w8.heap.size, 1, none⟩) (by simp; try omega)]; simp [go_sem, *]
    clear hb12
    go_wp2_with fail
    refine (relapsed_any x0 x1 h _ (by exact Nat.lt_of_lt_of_le hB (Below.size (Below.trans Q12.out (by repeat' (first | (with_reducible exact Below.refl _ _) | (with_reducible assumption) | (with_reducible refine below_drewN ?_ _) | (with_reducible refine Below.alloc ?_ ?_ _) | (with_reducible refine Below.drew ?_) | (with_reducible refine Below.setCell ?_ ?_ _) | go_size)))))).mono ?_
    rintro e w13 ⟨rfl, hb13⟩
    have Q13 := Lib.hid (chain Q12.out (by repeat' (first | (with_reducible exact Below.refl _ _) | (with_reducible assumption) | (with_reducible refine below_drewN ?_ _) | (with_reducible refine Below.alloc ?_ ?_ _) | (with_reducible refine Below.drew ?_) | (with_reducible refine Below.setCell ?_ ?_ _) | go_size)) hb13)
    have hq13 : w0.heap.size ≤ w13.heap.size := Q13.out.size
    have hz13 := hb13.size
    try simp only [World.size_alloc, World.size_setCell, World.size_drew] at hz13
    have hB13 : 0 < w13.heap.size := Nat.lt_of_lt_of_le hB (Q13.out.size)
    have hT13 : Tab w13 := hT.below Q13.out hB
    have hl13_0 : w8.heap.size < w13.heap.size := by omega
    have hm13_0 : w8.heap.size ≤ w13.heap.size := by omega
    have c13_0_0 : w13.cell? ⟨w8.heap.size, 0, none⟩ = some (.int .i64 x0) := by rw [hb13.cell (p := ⟨w8.heap.size, 0, none⟩) (by simp; try omega)]; simp [go_sem, *]
    have f13_0_0 : w13.frozen? ⟨w8.heap.size, 0, none⟩ = false := by rw [hb13.frozen (p := ⟨w8.heap.size, 0, none⟩) (by simp; try omega)]; simp [go_sem, *]
    have c13_0_1 : w13.cell? ⟨w8.heap.size, 1, none⟩ = some (.int .i64 x1) := by rw [hb13.cell (p := ⟨w8.heap.size, 1, none⟩) (by simp; try omega)]; simp [go_sem, *]
    have f13_0_1 : w13.frozen? ⟨w8.heap.size, 1, none⟩ = false := by rw [hb13.frozen (p := ⟨w8.heap.size, 1, none⟩) (by simp; try omega)]; simp [go_sem, *]
    clear hb13
    go_wp2_with fail
    refine (awake_any _ (by exact hT.below (Below.trans Q13.out (by repeat' (first | (with_reducible exact Below.refl _ _) | (with_reducible assumption) | (with_reducible refine below_drewN ?_ _) | (with_reducible refine Below.alloc ?_ ?_ _) | (with_reducible refine Below.drew ?_) | (with_reducible refine Below.setCell ?_ ?_ _) | go_size))) hB) (by exact Nat.lt_of_lt_of_le hB (Below.size (Below.trans Q13.out (by repeat' (first | (with_reducible exact Below.refl _ _) | (with_reducible assumption) | (with_reducible refine below_drewN ?_ _) | (with_reducible refine Below.alloc ?_ ?_ _) | (with_reducible refine Below.drew ?_) | (with_reducible refine Below.setCell ?_ ?_ _) | go_size)))))).mono ?_
    rintro e w14 ⟨rfl, hb14⟩
    have Q14 := Lib.hid (chain Q13.out (by repeat' (first | (with_reducible exact Below.refl _ _) | (with_reducible assumption) | (with_reducible refine below_drewN ?_ _) | (with_reducible refine Below.alloc ?_ ?_ _) | (with_reducible refine Below.drew ?_) | (with_reducible refine Below.setCell ?_ ?_ _) | go_size)) hb14)
    have hq14 : w0.heap.size ≤ w14.heap.size := Q14.out.size
    have hz14 := hb14.size
    try simp only [World.size_alloc, World.size_setCell, World.size_drew] at hz14
    have hB14 : 0 < w14.heap.size := Nat.lt_of_lt_of_le hB (Q14.out.size)
    have hT14 : Tab w14 := hT.below Q14.out hB
    have hl14_0 : w8.heap.size < w14.heap.size := by omega
    have hm14_0 : w8.heap.size ≤ w14.heap.size := by omega
    have c14_0_0 : w14.cell? ⟨w8.heap.size, 0, none⟩ = some (.int .i64 x0) := by rw [hb14.cell (p := ⟨w8.heap.size, 0, none⟩) (by simp; try omega)]; simp [go_sem, *]
    have f14_0_0 : w14.frozen? ⟨w8.heap.size, 0, none⟩ = false := by rw [hb14.frozen (p := ⟨w8.heap.size, 0, none⟩) (by simp; try omega)]; simp [go_sem, *]
    have c14_0_1 : w14.cell? ⟨w8.heap.size, 1, none⟩ = some (.int .i64 x1) := by rw [hb14.cell (p := ⟨w8.heap.size, 1, none⟩) (by simp; try omega)]; simp [go_sem, *]
    have f14_0_1 : w14.frozen? ⟨w8.heap.size, 1, none⟩ = false := by rw [hb14.frozen (p := ⟨w8.heap.size, 1, none⟩) (by simp; try omega)]; simp [go_sem, *]
    clear hb14
    go_wp2
    go_ret
    exact ⟨rfl, Q14.out⟩
  · have q3 : decide (Cal.elp x0 x1 k ≤ Cal.elp x0 x1 h) = true := decide_eq_true (HL.out _ _ (by omega))
    go_wp2_with fail
    refine (elapsed_any x0 x1 k _ (by exact Nat.lt_of_lt_of_le hB (Below.size (Below.trans Q8.out (by repeat' (first | (with_reducible exact Below.refl _ _) | (with_reducible assumption) | (with_reducible refine below_drewN ?_ _) | (with_reducible refine Below.alloc ?_ ?_ _) | (with_reducible refine Below.drew ?_) | (with_reducible refine Below.setCell ?_ ?_ _) | go_size)))))).mono ?_
    rintro e w9 ⟨rfl, hb9⟩
    have Q9 := Lib.hid (chain Q8.out (by repeat' (first | (with_reducible exact Below.refl _ _) | (with_reducible assumption) | (with_reducible refine below_drewN ?_ _) | (with_reducible refine Below.alloc ?_ ?_ _) | (with_reducible refine Below.drew ?_) | (with_reducible refine Below.setCell ?_ ?_ _) | go_size)) hb9)
    have hq9 : w0.heap.size ≤ w9.heap.size := Q9.out.size
    have hz9 := hb9.size
    try simp only [World.size_alloc, World.size_setCell, World.size_drew] at hz9
    have hB9 : 0 < w9.heap.size := Nat.lt_of_lt_of_le hB (Q9.out.size)
    have hT9 : Tab w9 := hT.below Q9.out hB
    have hl9_0 : w8.heap.size < w9.heap.size := by omega
    have hm9_0 : w8.heap.size ≤ w9.heap.size := by omega
    have c9_0_0 : w9.cell? ⟨w8.heap.size, 0, none⟩ = some (.int .i64 x0) := by rw [hb9.cell (p := ⟨w8.heap.size, 0, none⟩) (by simp; try omega)]; simp [go_sem, *]
    have f9_0_0 : w9.frozen? ⟨w8.heap.size, 0, none⟩ = false := by rw [hb9.frozen (p := ⟨w8.heap.size, 0, none⟩) (by simp; try omega)]; simp [go_sem, *]
    have c9_0_1 : w9.cell? ⟨w8.heap.size, 1, none⟩ = some (.int .i64 x1) := by rw [hb9.cell (p := ⟨w8.heap.size, 1, none⟩) (by simp; try omega)]; simp [go_sem, *]
    have f9_0_1 : w9.frozen? ⟨w8.heap.size, 1, none⟩ = false := by rw [hb9.frozen (p := ⟨w8.heap.size, 1, none⟩) (by simp; try omega)]; simp [go_sem, *]
    clear hb9
    go_wp2_with fail
    refine (elapsed_any x0 x1 h _ (by exact Nat.lt_of_lt_of_le hB (Below.size (Below.trans Q9.out (by repeat' (first | (with_reducible exact Below.refl _ _) | (with_reducible assumption) | (with_reducible refine below_drewN ?_ _) | (with_reducible refine Below.alloc ?_ ?_ _) | (with_reducible refine Below.drew ?_) | (with_reducible refine Below.setCell ?_ ?_ _) | go_size)))))).mono ?_
    rintro e w10 ⟨rfl, hb10⟩
    have Q10 := Lib.hid (chain Q9.out (by repeat' (first | (with_reducible exact Below.refl _ _) | (with_reducible assumption) | (with_reducible refine below_drewN ?_ _) | (with_reducible refine Below.alloc ?_ ?_ _) | (with_reducible refine Below.drew ?_) | (with_reducible refine Below.setCell ?_ ?_ _) | go_size)) hb10)
    have hq10 : w0.heap.size ≤ w10.heap.size := Q10.out.size
    have hz10 := hb10.size
    try simp only [World.size_alloc, World.size_setCell, World.size_drew] at hz10
    have hB10 : 0 < w10.heap.size := Nat.lt_of_lt_of_le hB (Q10.out.size)
    have hT10 : Tab w10 := hT.below Q10.out hB
    have hl10_0 : w8.heap.size < w10.heap.size := by omega
    have hm10_0 : w8.heap.size ≤ w10.heap.size := by omega
    have c10_0_0 : w10.cell? ⟨w8.heap.size, 0, none⟩ = some (.int .i64 x0) := by rw [hb10.cell (p := ⟨w8.heap.size, 0, none⟩) (by simp; try omega)]; simp [go_sem, *]
    have f10_0_0 : w10.frozen? ⟨w8.heap.size, 0, none⟩ = false := by rw [hb10.frozen (p := ⟨w8.heap.size, 0, none⟩) (by simp; try omega)]; simp [go_sem, *]
    have c10_0_1 : w10.cell? ⟨w8.heap.size, 1, none⟩ = some (.int .i64 x1) := by rw [hb10.cell (p := ⟨w8.heap.size, 1, none⟩) (by simp; try omega)]; simp [go_sem, *]
    have f10_0_1 : w10.frozen? ⟨w8.heap.size, 1, none⟩ = false := by rw [hb10.frozen (p := ⟨w8.heap.size, 1, none⟩) (by simp; try omega)]; simp [go_sem, *]
    clear hb10
    go_wp2_with fail
    refine (elapsed_any x0 x1 x1 _ (by exact Nat.lt_of_lt_of_le hB (Below.size (Below.trans Q10.out (by repeat' (first | (with_reducible exact Below.refl _ _) | (with_reducible assumption) | (with_reducible refine below_drewN ?_ _) | (with_reducible refine Below.alloc ?_ ?_ _) | (with_reducible refine Below.drew ?_) | (with_reducible refine Below.setCell ?_ ?_ _) | go_size)))))).mono ?_
    rintro e w11 ⟨rfl, hb11⟩
    have Q11 := Lib.hid (chain Q10.out (by repeat' (first | (with_reducible exact Below.refl _ _) | (with_reducible assumption) | (with_reducible refine below_drewN ?_ _) | (with_reducible refine Below.alloc ?_ ?_ _) | (with_reducible refine Below.drew ?_) | (with_reducible refine Below.setCell ?_ ?_ _) | go_size)) hb11)
    have hq11 : w0.heap.size ≤ w11.heap.size := Q11.out.size
    have hz11 := hb11.size
    try simp only [World.size_alloc, World.size_setCell, World.size_drew] at hz11
    have hB11 : 0 < w11.heap.size := Nat.lt_of_lt_of_le hB (Q11.out.size)
    have hT11 : Tab w11 := hT.below Q11.out hB
    have hl11_0 : w8.heap.size < w11.heap.size := by omega
    have hm11_0 : w8.heap.size ≤ w11.heap.size := by omega
    have c11_0_0 : w11.cell? ⟨w8.heap.size, 0, none⟩ = some (.int .i64 x0) := by rw [hb11.cell (p := ⟨w8.heap.size, 0, none⟩) (by simp; try omega)]; simp [go_sem, *]
    have f11_0_0 : w11.frozen? ⟨w8.heap.size, 0, none⟩ = false := by rw [hb11.frozen (p := ⟨w8.heap.size, 0, none⟩) (by simp; try omega)]; simp [go_sem, *]
    have c11_0_1 : w11.cell? ⟨w8.heap.size, 1, none⟩ = some (.int .i64 x1) := by rw [hb11.cell (p := ⟨w8.heap.size, 1, none⟩) (by simp; try omega)]; simp [go_sem, *]
    have f11_0_1 : w11.frozen? ⟨w8.heap.size, 1, none⟩ = false := by rw [hb11.frozen (p := ⟨w8.heap.size, 1, none⟩) (by simp; try omega)]; simp [go_sem, *]
    clear hb11
    go_wp2_with fail
    refine (elapsed_any x0 x1 k _ (by exact Nat.lt_of_lt_of_le hB (Below.size (Below.trans Q11.out (by repeat' (first | (with_reducible exact Below.refl _ _) | (with_reducible assumption) | (with_reducible refine below_drewN ?_ _) | (with_reducible refine Below.alloc ?_ ?_ _) | (with_reducible refine Below.drew ?_) | (with_reducible refine Below.setCell ?_ ?_ _) | go_size)))))).mono ?_
    rintro e w12 ⟨rfl, hb12⟩
    have Q12 := Lib.hid (chain Q11.out (by repeat' (first | (with_reducible exact Below.refl _ _) | (with_reducible assumption) | (with_reducible refine below_drewN ?_ _) | (with_reducible refine Below.alloc ?_ ?_ _) | (with_reducible refine Below.drew ?_) | (with_reducible refine Below.setCell ?_ ?_ _) | go_size)) hb12)
    have hq12 : w0.heap.size ≤ w12.heap.size := Q12.out.size
    have hz12 := hb12.size
    try simp only [World.size_alloc, World.size_setCell, World.size_drew] at hz12
    have hB12 : 0 < w12.heap.size := Nat.lt_of_lt_of_le hB (Q12.out.size)
    have hT12 : Tab w12 := hT.below Q12.out hB
    have hl12_0 : w8.heap.size < w12.heap.size := by omega
    have hm12_0 : w8.heap.size ≤ w12.heap.size := by omega
    have c12_0_0 : w12.cell? ⟨w8.heap.size, 0, none⟩ = some (.int .i64 x0) := by rw [hb12.cell (p := ⟨w8.heap.size, 0, none⟩) (by simp; try omega)]; simp [go_sem, *]
    have f12_0_0 : w12.frozen? ⟨w8.heap.size, 0, none⟩ = false := by rw [hb12.frozen (p := ⟨w8.heap.size, 0, none⟩) (by simp; try omega)]; simp [go_sem, *]
    have c12_0_1 : w12.cell? ⟨w8.heap.size, 1, none⟩ = some (.int .i64 x1) := by rw [hb12.cell (p := ⟨w8.heap.size, 1, none⟩) (by simp; try omega)]; simp [go_sem, *]
    have f12_0_1 : w12.frozen? ⟨w8.heap.size, 1, none⟩ = false := by rw [hb12.frozen (p := ⟨w8.heap.size, 1, none⟩) (by simp; try omega)]; simp [go_sem, *]
    clear hb12
    go_wp2_with fail
    refine (relapsed_any x0 x1 k _ (by exact Nat.lt_of_lt_of_le hB (Below.size (Below.trans Q12.out (by repeat' (first | (with_reducible exact Below.refl _ _) | (with_reducible assumption) | (with_reducible refine below_drewN ?_ _) | (with_reducible refine Below.alloc ?_ ?_ _) | (with_reducible refine Below.drew ?_) | (with_reducible refine Below.setCell ?_ ?_ _) | go_size)))))).mono ?_
    rintro e w13 ⟨rfl, hb13⟩
    have Q13 := Lib.hid (chain Q12.out (by repeat' (first | (with_reducible exact Below.refl _ _) | (with_reducible assumption) | (with_reducible refine below_drewN ?_ _) | (with_reducible refine Below.alloc ?_ ?_ _) | (with_reducible refine Below.drew ?_) | (with_reducible refine Below.setCell ?_ ?_ _) | go_size)) hb13)
    have hq13 : w0.heap.size ≤ w13.heap.size := Q13.out.size
    have hz13 := hb13.size
    try simp only [World.size_alloc, World.size_setCell, World.size_drew] at hz13
    have hB13 : 0 < w13.heap.size := Nat.lt_of_lt_of_le hB (Q13.out.size)
    have hT13 : Tab w13 := hT.below Q13.out hB
    have hl13_0 : w8.heap.size < w13.heap.size := by omega
    have hm13_0 : w8.heap.size ≤ w13.heap.size := by omega
    have c13_0_0 : w13.cell? ⟨w8.heap.size, 0, none⟩ = some (.int .i64 x0) := by rw [hb13.cell (p := ⟨w8.heap.size, 0, none⟩) (by simp; try omega)]; simp [go_sem, *]
    have f13_0_0 : w13.frozen? ⟨w8.heap.size, 0, none⟩ = false := by rw [hb13.frozen (p := ⟨w8.heap.size, 0, none⟩) (by simp; try omega)]; simp [go_sem, *]
    have c13_0_1 : w13.cell? ⟨w8.heap.size, 1, none⟩ = some (.int .i64 x1) := by rw [hb13.cell (p := ⟨w8.heap.size, 1, none⟩) (by simp; try omega)]; simp [go_sem, *]
    have f13_0_1 : w13.frozen? ⟨w8.heap.size, 1, none⟩ = false := by rw [hb13.frozen (p := ⟨w8.heap.size, 1, none⟩) (by simp; try omega)]; simp [go_sem, *]
    clear hb13
    go_wp2_with fail
    refine (awake_any _ (by exact hT.below (Below.trans Q13.out (by repeat' (first | (with_reducible exact Below.refl _ _) | (with_reducible assumption) | (with_reducible refine below_drewN ?_ _) | (with_reducible refine Below.alloc ?_ ?_ _) | (with_reducible refine Below.drew ?_) | (with_reducible refine Below.setCell ?_ ?_ _) | go_size))) hB) (by exact Nat.lt_of_lt_of_le hB (Below.size (Below.trans Q13.out (by repeat' (first | (with_reducible exact Below.refl _ _) | (with_reducible assumption) | (with_reducible refine below_drewN ?_ _) | (with_reducible refine Below.alloc ?_ ?_ _) | (with_reducible refine Below.drew ?_) | (with_reducible refine Below.setCell ?_ ?_ _) | go_size)))))).mono ?_
    rintro e w14 ⟨rfl, hb14⟩
    have Q14 := Lib.hid (chain Q13.out (by repeat' (first | (with_reducible exact Below.refl _ _) | (with_reducible assumption) | (with_reducible refine below_drewN ?_ _) | (with_reducible refine Below.alloc ?_ ?_ _) | (with_reducible refine Below.drew ?_) | (with_reducible refine Below.setCell ?_ ?_ _) | go_size)) hb14)
    have hq14 : w0.heap.size ≤ w14.heap.size := Q14.out.size
    have hz14 := hb14.size
    try simp only [World.size_alloc, World.size_setCell, World.size_drew] at hz14
    have hB14 : 0 < w14.heap.size := Nat.lt_of_lt_of_le hB (Q14.out.size)
    have hT14 : Tab w14 := hT.below Q14.out hB
    have hl14_0 : w8.heap.size < w14.heap.size := by omega
    have hm14_0 : w8.heap.size ≤ w14.heap.size := by omega
    have c14_0_0 : w14.cell? ⟨w8.heap.size, 0, none⟩ = some (.int .i64 x0) := by rw [hb14.cell (p := ⟨w8.heap.size, 0, none⟩) (by simp; try omega)]; simp [go_sem, *]
    have f14_0_0 : w14.frozen? ⟨w8.heap.size, 0, none⟩ = false := by rw [hb14.frozen (p := ⟨w8.heap.size, 0, none⟩) (by simp; try omega)]; simp [go_sem, *]
    have c14_0_1 : w14.cell? ⟨w8.heap.size, 1, none⟩ = some (.int .i64 x1) := by rw [hb14.cell (p := ⟨w8.heap.size, 1, none⟩) (by simp; try omega)]; simp [go_sem, *]
    have f14_0_1 : w14.frozen? ⟨w8.heap.size, 1, none⟩ = false := by rw [hb14.frozen (p := ⟨w8.heap.size, 1, none⟩) (by simp; try omega)]; simp [go_sem, *]
    clear hb14
    go_wp2
    go_ret
    exact ⟨rfl, Q14.out⟩
end Go.Proofs.YtnidojfnpmhjkaaDoor
