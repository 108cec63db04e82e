/- The walk of the reference's FormatHour. -/
import Derived.Test.YtnidojfnpmhjkaaDoorDigits
import Derived.Test.YtnidojfnpmhjkaaDoorMonths
import Derived.Deep.RegionHeld3
namespace Go.Proofs.YtnidojfnpmhjkaaDoor
set_option linter.unusedVariables false
set_option linter.unusedSimpArgs false
open Go.RowKit
namespace Cal
def ft10 (y m d : Int) : ByteArray := dgs y 4 ++ ⟨#[45]⟩ ++ dgs m 2 ++ ⟨#[45]⟩ ++ dgs d 2
def ft (y m d h : Int) : ByteArray := if 0 < h then ft10 y m d ++ ⟨#[84]⟩ ++ dgs h 2 else ft10 y m d
theorem ft10_size (y m d : Int) : (ft10 y m d).size = 10 := by
  unfold ft10
  simp only [ByteArray.size_append, dgs_size]
  rfl
theorem ft_size (y m d h : Int) : (ft y m d h).size = 10 ∨ (ft y m d h).size = 13 := by
  unfold ft
  split
  · right; simp only [ByteArray.size_append, dgs_size, ft10_size]; rfl
  · left; exact ft10_size y m d
end Cal
theorem digits4 (n : Int) (w : World) (h0 : 0 ≤ n) (h1 : n ≤ 9999) : Calls Tryd.prog 48 #[.int .i64 n, .int .i64 4] w fun e w' => e = .returned (.string (Cal.dgs n 4)) ∧ Below w.heap.size w w' := digits_any n 4 w h0 h1 (by omega) (Int.lt_of_le_of_lt h1 (by decide))
theorem digits2 (n : Int) (w : World) (h0 : 0 ≤ n) (h1 : n ≤ 99) : Calls Tryd.prog 48 #[.int .i64 n, .int .i64 2] w fun e w' => e = .returned (.string (Cal.dgs n 2)) ∧ Below w.heap.size w w' := digits_any n 2 w h0 (by omega) (by omega) (Int.lt_of_le_of_lt h1 (by decide))
theorem keepThree {W Wc w' : World} {u v x : Value} {p0 p1 p2 : Addr} (h0 : p0.block < W.heap.size) (h1 : p1.block < W.heap.size) (h2 : p2.block < W.heap.size) (h : Wc.cell? p0 = some u ∧ Wc.cell? p1 = some v ∧ Wc.cell? p2 = some x ∧ Below W.heap.size W Wc) (hb : Below Wc.heap.size Wc w') : w'.cell? p0 = some u ∧ w'.cell? p1 = some v ∧ w'.cell? p2 = some x ∧ Below W.heap.size W w' :=
  ⟨(hb.cell (Nat.lt_of_lt_of_le h0 h.2.2.2.size)).trans h.1, (hb.cell (Nat.lt_of_lt_of_le h1 h.2.2.2.size)).trans h.2.1, (hb.cell (Nat.lt_of_lt_of_le h2 h.2.2.2.size)).trans h.2.2.1, h.2.2.2.trans (hb.mono h.2.2.2.size)⟩

set_option maxHeartbeats 1000000 in
set_option maxRecDepth 100000 in
theorem fmt_t (n y m d : Int) (w0 : World) (hB : 0 < w0.heap.size) (h0 : 0 ≤ n) (h1 : n ≤ 876599) (hc : Cal.IsCiv n y m d) (ht : 0 < n % 24) : Calls Tryd.prog 18 #[.int .i64 n] w0 fun e w' => e = .returned (.tuple #[.string (Cal.ft y m d (n % 24)), .int .i64 0]) ∧ Below w0.heap.size w0 w' := by
  have hy : 2000 ≤ y ∧ y ≤ 2099 := ⟨hc.1, hc.2.1⟩
  have hm : 1 ≤ m ∧ m ≤ 12 := ⟨hc.2.2.1, hc.2.2.2.1⟩
  have hd : 1 ≤ d ∧ d ≤ 31 := by have hl := Cal.len_bd y m hm.1 hm.2; have h1 := hc.2.2.2.2.1; have h2 := hc.2.2.2.2.2.1; omega
  have hh : 0 ≤ n % 24 ∧ n % 24 ≤ 23 := by omega
  have HC := Lib.hid hc
  clear hc
  have HV := Lib.hid (show Ending.returned (.tuple #[.string (Cal.dgs y 4 ++ ⟨#[45]⟩ ++ Cal.dgs m 2 ++ ⟨#[45]⟩ ++ Cal.dgs d 2 ++ ⟨#[84]⟩ ++ Cal.dgs (n % 24) 2), .int .i64 0]) = .returned (.tuple #[.string (Cal.ft y m d (n % 24)), .int .i64 0]) by simp only [Cal.ft, ht, if_true, Cal.ft10])
  have s1 := Cal.dgs_size y 4
  have s2 := Cal.dgs_size m 2
  have s3 := Cal.dgs_size d 2
  have s4 := Cal.dgs_size (n % 24) 2
  go_enter Tryd.func18, Tryd.ntmps18
  have Q0 := Lib.hid (Below.refl w0.heap.size w0)
  have hB0 := hB
  go_wp2_with fail
  refine (rciv_is h0 h1 HC.out _).mono ?_
  rintro e w1 ⟨rfl, hb1⟩
  have Q1 := Lib.hid (chain Q0.out (by repeat' (first | (with_reducible exact Below.refl _ _) | (with_reducible assumption) | (with_reducible refine below_drewN ?_ _) | (with_reducible refine Below.alloc ?_ ?_ _) | (with_reducible refine Below.drew ?_) | (with_reducible refine Below.setCell ?_ ?_ _) | go_size)) hb1)
  have hq1 : w0.heap.size ≤ w1.heap.size := Q1.out.size
  have hz1 := hb1.size
  try simp only [World.size_alloc, World.size_setCell, World.size_drew] at hz1
  have hB1 : 0 < w1.heap.size := Nat.lt_of_lt_of_le hB (Q1.out.size)
  clear hb1
  go_wp2
  have Q2 := Lib.hid (Below.trans Q1.out (show Below w0.heap.size w1 (w1.alloc (.cells #[.int .i64 y, .int .i64 m, .int .i64 d] 23)) from (by repeat' (first | (with_reducible exact Below.refl _ _) | (with_reducible assumption) | (with_reducible refine below_drewN ?_ _) | (with_reducible refine Below.alloc ?_ ?_ _) | (with_reducible refine Below.drew ?_) | (with_reducible refine Below.setCell ?_ ?_ _) | go_size))))
  have hq2 : w0.heap.size ≤ (w1.alloc (.cells #[.int .i64 y, .int .i64 m, .int .i64 d] 23)).heap.size := Q2.out.size
  have hB2 : 0 < (w1.alloc (.cells #[.int .i64 y, .int .i64 m, .int .i64 d] 23)).heap.size := Nat.lt_of_lt_of_le hB Q2.out.size
  have hl2_0 : w1.heap.size < (w1.alloc (.cells #[.int .i64 y, .int .i64 m, .int .i64 d] 23)).heap.size := by simp; try omega
  have hm2_0 : w1.heap.size ≤ (w1.alloc (.cells #[.int .i64 y, .int .i64 m, .int .i64 d] 23)).heap.size := Nat.le_of_lt hl2_0
  have c2_0_0 : (w1.alloc (.cells #[.int .i64 y, .int .i64 m, .int .i64 d] 23)).cell? ⟨w1.heap.size, 0, none⟩ = some (.int .i64 y) := by simp [go_sem, *]
  have f2_0_0 : (w1.alloc (.cells #[.int .i64 y, .int .i64 m, .int .i64 d] 23)).frozen? ⟨w1.heap.size, 0, none⟩ = false := by simp [go_sem, *]
  have c2_0_1 : (w1.alloc (.cells #[.int .i64 y, .int .i64 m, .int .i64 d] 23)).cell? ⟨w1.heap.size, 1, none⟩ = some (.int .i64 m) := by simp [go_sem, *]
  have f2_0_1 : (w1.alloc (.cells #[.int .i64 y, .int .i64 m, .int .i64 d] 23)).frozen? ⟨w1.heap.size, 1, none⟩ = false := by simp [go_sem, *]
  have c2_0_2 : (w1.alloc (.cells #[.int .i64 y, .int .i64 m, .int .i64 d] 23)).cell? ⟨w1.heap.size, 2, none⟩ = some (.int .i64 d) := by simp [go_sem, *]
  have f2_0_2 : (w1.alloc (.cells #[.int .i64 y, .int .i64 m, .int .i64 d] 23)).frozen? ⟨w1.heap.size, 2, none⟩ = false := by simp [go_sem, *]
  generalize w1.alloc (.cells #[.int .i64 y, .int .i64 m, .int .i64 d] 23) = w2 at *
  go_region_held3 (fun w' => w'.cell? ⟨w1.heap.size, 0, none⟩ = some (.int .i64 y) ∧ w'.cell? ⟨w1.heap.size, 1, none⟩ = some (.int .i64 m) ∧ w'.cell? ⟨w1.heap.size, 2, none⟩ = some (.int .i64 d) ∧ Below w2.heap.size w2 w') (first | exact ⟨c2_0_0, c2_0_1, c2_0_2, (Below.refl _ _).drew⟩ | exact keepThree hl2_0 hl2_0 hl2_0 (by assumption) hb5 | exact keepThree hl2_0 hl2_0 hl2_0 (by assumption) hb4 | exact keepThree hl2_0 hl2_0 hl2_0 (by assumption) hb3) (first | (go_at_call 48; ((with_reducible refine (digits4 y _ (by omega) (by omega)).mono ?_); rintro e w3 ⟨rfl, hb3⟩)) | (go_at_call 48; ((with_reducible refine (digits2 m _ (by omega) (by omega)).mono ?_); rintro e w4 ⟨rfl, hb4⟩)) | (go_at_call 48; ((with_reducible refine (digits2 d _ (by omega) (by omega)).mono ?_); rintro e w5 ⟨rfl, hb5⟩)))
  have g3 : Below w2.heap.size w2 w3 := (Below.refl _ _).drew.trans hb3
  have g4 := g3.trans (hb4.mono g3.size)
  have g5 := g4.trans (hb5.mono g4.size)
  have Q5 := Lib.hid (Q2.out.trans (g5.mono hq2))
  have hq5 : w0.heap.size ≤ w5.heap.size := Q5.out.size
  have hz5 : w2.heap.size ≤ w5.heap.size := g5.size
  have hB5 : 0 < w5.heap.size := Nat.lt_of_lt_of_le hB Q5.out.size
  clear g3 g4 g5 hb3 hb4 hb5
  go_wp2_with fail
  refine (digits2 (n % 24) _ (by omega) (by omega)).mono ?_
  rintro e w6 ⟨rfl, hb6⟩
  have Q6 := Lib.hid (chain Q5.out (by repeat' (first | (with_reducible exact Below.refl _ _) | (with_reducible assumption) | (with_reducible refine below_drewN ?_ _) | (with_reducible refine Below.alloc ?_ ?_ _) | (with_reducible refine Below.drew ?_) | (with_reducible refine Below.setCell ?_ ?_ _) | go_size)) hb6)
  have hq6 : w0.heap.size ≤ w6.heap.size := Q6.out.size
  have hz6 := hb6.size
  try simp only [World.size_alloc, World.size_setCell, World.size_drew] at hz6
  have hB6 : 0 < w6.heap.size := Nat.lt_of_lt_of_le hB (Q6.out.size)
  clear hb6
  go_wp2
  go_ret2
  exact ⟨HV.out, Below.trans Q6.out (by repeat' (first | (with_reducible exact Below.refl _ _) | (with_reducible assumption) | (with_reducible refine below_drewN ?_ _) | (with_reducible refine Below.alloc ?_ ?_ _) | (with_reducible refine Below.drew ?_) | (with_reducible refine Below.setCell ?_ ?_ _) | go_size))⟩

set_option maxHeartbeats 1000000 in
set_option maxRecDepth 100000 in
theorem fmt_f (n y m d : Int) (w0 : World) (hB : 0 < w0.heap.size) (h0 : 0 ≤ n) (h1 : n ≤ 876599) (hc : Cal.IsCiv n y m d) (ht : n % 24 ≤ 0) : Calls Tryd.prog 18 #[.int .i64 n] w0 fun e w' => e = .returned (.tuple #[.string (Cal.ft y m d (n % 24)), .int .i64 0]) ∧ Below w0.heap.size w0 w' := by
  have hy : 2000 ≤ y ∧ y ≤ 2099 := ⟨hc.1, hc.2.1⟩
  have hm : 1 ≤ m ∧ m ≤ 12 := ⟨hc.2.2.1, hc.2.2.2.1⟩
  have hd : 1 ≤ d ∧ d ≤ 31 := by have hl := Cal.len_bd y m hm.1 hm.2; have h1 := hc.2.2.2.2.1; have h2 := hc.2.2.2.2.2.1; omega
  have hh : 0 ≤ n % 24 ∧ n % 24 ≤ 23 := by omega
  have HC := Lib.hid hc
  clear hc
  have HV := Lib.hid (show Ending.returned (.tuple #[.string (Cal.dgs y 4 ++ ⟨#[45]⟩ ++ Cal.dgs m 2 ++ ⟨#[45]⟩ ++ Cal.dgs d 2), .int .i64 0]) = .returned (.tuple #[.string (Cal.ft y m d (n % 24)), .int .i64 0]) by simp only [Cal.ft]; rw [if_neg (by omega)]; rfl)
  have s1 := Cal.dgs_size y 4
  have s2 := Cal.dgs_size m 2
  have s3 := Cal.dgs_size d 2
  have s4 := Cal.dgs_size (n % 24) 2
  go_enter Tryd.func18, Tryd.ntmps18
  have Q0 := Lib.hid (Below.refl w0.heap.size w0)
  have hB0 := hB
  go_wp2_with fail
  refine (rciv_is h0 h1 HC.out _).mono ?_
  rintro e w1 ⟨rfl, hb1⟩
  have Q1 := Lib.hid (chain Q0.out (by repeat' (first | (with_reducible exact Below.refl _ _) | (with_reducible assumption) | (with_reducible refine below_drewN ?_ _) | (with_reducible refine Below.alloc ?_ ?_ _) | (with_reducible refine Below.drew ?_) | (with_reducible refine Below.setCell ?_ ?_ _) | go_size)) hb1)
  have hq1 : w0.heap.size ≤ w1.heap.size := Q1.out.size
  have hz1 := hb1.size
  try simp only [World.size_alloc, World.size_setCell, World.size_drew] at hz1
  have hB1 : 0 < w1.heap.size := Nat.lt_of_lt_of_le hB (Q1.out.size)
  clear hb1
  go_wp2
  have Q2 := Lib.hid (Below.trans Q1.out (show Below w0.heap.size w1 (w1.alloc (.cells #[.int .i64 y, .int .i64 m, .int .i64 d] 23)) from (by repeat' (first | (with_reducible exact Below.refl _ _) | (with_reducible assumption) | (with_reducible refine below_drewN ?_ _) | (with_reducible refine Below.alloc ?_ ?_ _) | (with_reducible refine Below.drew ?_) | (with_reducible refine Below.setCell ?_ ?_ _) | go_size))))
  have hq2 : w0.heap.size ≤ (w1.alloc (.cells #[.int .i64 y, .int .i64 m, .int .i64 d] 23)).heap.size := Q2.out.size
  have hB2 : 0 < (w1.alloc (.cells #[.int .i64 y, .int .i64 m, .int .i64 d] 23)).heap.size := Nat.lt_of_lt_of_le hB Q2.out.size
  have hl2_0 : w1.heap.size < (w1.alloc (.cells #[.int .i64 y, .int .i64 m, .int .i64 d] 23)).heap.size := by simp; try omega
  have hm2_0 : w1.heap.size ≤ (w1.alloc (.cells #[.int .i64 y, .int .i64 m, .int .i64 d] 23)).heap.size := Nat.le_of_lt hl2_0
  have c2_0_0 : (w1.alloc (.cells #[.int .i64 y, .int .i64 m, .int .i64 d] 23)).cell? ⟨w1.heap.size, 0, none⟩ = some (.int .i64 y) := by simp [go_sem, *]
  have f2_0_0 : (w1.alloc (.cells #[.int .i64 y, .int .i64 m, .int .i64 d] 23)).frozen? ⟨w1.heap.size, 0, none⟩ = false := by simp [go_sem, *]
  have c2_0_1 : (w1.alloc (.cells #[.int .i64 y, .int .i64 m, .int .i64 d] 23)).cell? ⟨w1.heap.size, 1, none⟩ = some (.int .i64 m) := by simp [go_sem, *]
  have f2_0_1 : (w1.alloc (.cells #[.int .i64 y, .int .i64 m, .int .i64 d] 23)).frozen? ⟨w1.heap.size, 1, none⟩ = false := by simp [go_sem, *]
  have c2_0_2 : (w1.alloc (.cells #[.int .i64 y, .int .i64 m, .int .i64 d] 23)).cell? ⟨w1.heap.size, 2, none⟩ = some (.int .i64 d) := by simp [go_sem, *]
  have f2_0_2 : (w1.alloc (.cells #[.int .i64 y, .int .i64 m, .int .i64 d] 23)).frozen? ⟨w1.heap.size, 2, none⟩ = false := by simp [go_sem, *]
  generalize w1.alloc (.cells #[.int .i64 y, .int .i64 m, .int .i64 d] 23) = w2 at *
  go_region_held3 (fun w' => w'.cell? ⟨w1.heap.size, 0, none⟩ = some (.int .i64 y) ∧ w'.cell? ⟨w1.heap.size, 1, none⟩ = some (.int .i64 m) ∧ w'.cell? ⟨w1.heap.size, 2, none⟩ = some (.int .i64 d) ∧ Below w2.heap.size w2 w') (first | exact ⟨c2_0_0, c2_0_1, c2_0_2, (Below.refl _ _).drew⟩ | exact keepThree hl2_0 hl2_0 hl2_0 (by assumption) hb5 | exact keepThree hl2_0 hl2_0 hl2_0 (by assumption) hb4 | exact keepThree hl2_0 hl2_0 hl2_0 (by assumption) hb3) (first | (go_at_call 48; ((with_reducible refine (digits4 y _ (by omega) (by omega)).mono ?_); rintro e w3 ⟨rfl, hb3⟩)) | (go_at_call 48; ((with_reducible refine (digits2 m _ (by omega) (by omega)).mono ?_); rintro e w4 ⟨rfl, hb4⟩)) | (go_at_call 48; ((with_reducible refine (digits2 d _ (by omega) (by omega)).mono ?_); rintro e w5 ⟨rfl, hb5⟩)))
  have g3 : Below w2.heap.size w2 w3 := (Below.refl _ _).drew.trans hb3
  have g4 := g3.trans (hb4.mono g3.size)
  have g5 := g4.trans (hb5.mono g4.size)
  have Q5 := Lib.hid (Q2.out.trans (g5.mono hq2))
  have hq5 : w0.heap.size ≤ w5.heap.size := Q5.out.size
  have hz5 : w2.heap.size ≤ w5.heap.size := g5.size
  have hB5 : 0 < w5.heap.size := Nat.lt_of_lt_of_le hB Q5.out.size
  clear g3 g4 g5 hb3 hb4 hb5
  go_wp2
  go_ret2
  exact ⟨HV.out, Below.trans Q5.out (by repeat' (first | (with_reducible exact Below.refl _ _) | (with_reducible assumption) | (with_reducible refine below_drewN ?_ _) | (with_reducible refine Below.alloc ?_ ?_ _) | (with_reducible refine Below.drew ?_) | (with_reducible refine Below.setCell ?_ ?_ _) | go_size))⟩

theorem fmt_is (n y m d : Int) (w0 : World) (hB : 0 < w0.heap.size) (h0 : 0 ≤ n) (h1 : n ≤ 876599) (hc : Cal.IsCiv n y m d) : Calls Tryd.prog 18 #[.int .i64 n] w0 fun e w' => e = .returned (.tuple #[.string (Cal.ft y m d (n % 24)), .int .i64 0]) ∧ Below w0.heap.size w0 w' := by
  rcases Int.lt_or_le 0 (n % 24) with h | h
  · exact fmt_t n y m d w0 hB h0 h1 hc h
  · exact fmt_f n y m d w0 hB h0 h1 hc h
end Go.Proofs.YtnidojfnpmhjkaaDoor
