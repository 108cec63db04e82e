/- The walks of calendar.padded, calendar.Format and the law CalendarText. -/
import Derived.Test.YtnidojfnpmhjkaaDoorTextP
import Derived.Test.YtnidojfnpmhjkaaDoorShelf
import Derived.Lib.AppendIntMem
import Derived.WalkSmall
namespace Go.Proofs.YtnidojfnpmhjkaaDoor
set_option linter.unusedVariables false
set_option linter.unusedSimpArgs false
open Go.RowKit
/-- The library's table of the powers of ten lies in its variable. -/
def Pow (w : World) : Prop := Lib.TabIs Tryd.prog w "internal/strconv.uint64pow10" .u64 Lib.pow10Tab
theorem gPow : Tryd.prog.globalNamed "internal/strconv.uint64pow10" = some 1 := by kernel_rfl
theorem Pow.below {B : Nat} {w w' : World} (h : Pow w) (hb : Below B w w') (h0 : 1 < B) : Pow w' := var?_below hb gPow h0 h
theorem rep0 : Lib.repeatL (ByteArray.mk #[48]).data.toList 0 = [] := rfl
theorem padded4 (y : Int) (w : World) (hp : Pow w) (h0 : 2000 ≤ y) (h1 : y ≤ 2099) : Calls Tryd.prog 53 #[.int .i64 y, .int .i64 4] w fun e w' => e = .returned (.string (Cal.dgs y 4)) ∧ Below w.heap.size w w' := by
  have HI := Lib.hid ((Tryd.strconv_Itoa y (by omega) (by omega) w hp).mono (R' := fun e w' => e = .returned (.string (Cal.dgs y 4)) ∧ Below w.heap.size w w') (fun e w' ⟨he, k, os, hw⟩ => ⟨by rw [he, Cal.itoa4 y (by omega) (by omega)], by rw [hw]; exact Lib.below_grow _ w (Nat.le_refl _) k os⟩))
  have hz := Cal.dgs_size y 4
  have HR := Lib.hid (fun w => Tryd.strings_Repeat_zero ⟨#[48]⟩ w)
  have HE := Lib.hid (show (⟨#[]⟩ ++ Cal.dgs y 4 : ByteArray) = Cal.dgs y 4 by apply ByteArray.ext; simp [ByteArray.data_append])
  go_enter Tryd.func53, Tryd.ntmps53
  go_wp2_with fail
  refine HI.out.mono ?_
  rintro e w1 ⟨rfl, hb1⟩
  have HB := Lib.hid hb1
  clear hb1
  go_wp2_with fail
  refine (HR.out _).same.mono ?_
  rintro e w' ⟨rfl, rfl⟩
  go_wp2
  go_ret
  exact ⟨congrArg (fun x => Ending.returned (.string x)) HE.out, HB.out⟩
theorem padded2a (u : Nat) (w : World) (h0 : 10 ≤ u) (h1 : u < 100) : Calls Tryd.prog 53 #[.int .i64 u, .int .i64 2] w fun e w' => e = .returned (.string (Cal.dgs u 2)) ∧ Below w.heap.size w w' := by
  have HI := Lib.hid ((Tryd.strconv_Itoa_small u h1 w).mono (R' := fun e w' => e = .returned (.string (Cal.dgs u 2)) ∧ w = w') (fun e w' ⟨he, hw⟩ => ⟨by rw [he, Cal.itoa2 u h0 h1], hw.symm⟩))
  have hz := Cal.dgs_size u 2
  have HR := Lib.hid (fun w => Tryd.strings_Repeat_zero ⟨#[48]⟩ w)
  have HE := Lib.hid (show (⟨#[]⟩ ++ Cal.dgs u 2 : ByteArray) = Cal.dgs u 2 by apply ByteArray.ext; simp [ByteArray.data_append])
  go_enter Tryd.func53, Tryd.ntmps53
  go_wp2_with fail
  refine HI.out.mono ?_
  rintro e w1 ⟨rfl, rfl⟩
  go_wp2_with fail
  refine (HR.out _).same.mono ?_
  rintro e w' ⟨rfl, rfl⟩
  go_wp2
  go_ret
  exact ⟨congrArg (fun x => Ending.returned (.string x)) HE.out, Below.refl _ _⟩
theorem padded2b (u : Nat) (w : World) (h1 : u < 10) : Calls Tryd.prog 53 #[.int .i64 u, .int .i64 2] w fun e w' => e = .returned (.string (Cal.dgs u 2)) ∧ Below w.heap.size w w' := by
  have hi := Tryd.strconv_Itoa_small u (by omega) w
  have HE := Lib.hid (Cal.itoa1 u h1)
  have hz : (⟨(Lib.decDigits u).toArray⟩ : ByteArray).size = 1 := by rw [Lib.decDigits, dif_pos h1]; rfl
  generalize (⟨(Lib.decDigits u).toArray⟩ : ByteArray) = t at hi HE hz
  have HI := Lib.hid hi.same
  clear hi
  have HR := Lib.hid (fun w => Tryd.strings_Repeat_one ⟨#[48]⟩ w)
  go_enter Tryd.func53, Tryd.ntmps53
  go_wp2_with fail
  refine HI.out.mono ?_
  rintro e w1 ⟨rfl, rfl⟩
  go_wp2_with fail
  refine (HR.out _).same.mono ?_
  rintro e w' ⟨rfl, rfl⟩
  go_wp2
  go_ret
  exact ⟨congrArg (fun x => Ending.returned (.string x)) HE.out, Below.refl _ _⟩
theorem padded2 (n : Int) (w : World) (h0 : 0 ≤ n) (h1 : n ≤ 99) : Calls Tryd.prog 53 #[.int .i64 n, .int .i64 2] w fun e w' => e = .returned (.string (Cal.dgs n 2)) ∧ Below w.heap.size w w' := by
  obtain ⟨u, rfl⟩ : ∃ u : Nat, n = u := ⟨n.toNat, by omega⟩
  rcases Nat.lt_or_ge u 10 with h | h
  · exact padded2b u w h
  · exact padded2a u w h (by omega)

set_option maxHeartbeats 1000000 in
set_option maxRecDepth 100000 in
theorem pfmt_t (n y m d : Int) (w0 : World) (hT : Tab w0) (hP : Pow w0) (hB : 0 < w0.heap.size) (hBp : 1 < w0.heap.size) (h0 : 0 ≤ n) (h1 : n ≤ 876599) (hc : Cal.IsCiv n y m d) (ht : 0 < n % 24) : Calls Tryd.prog 40 #[.int .i64 n] w0 fun e w' => e = .returned (.tuple #[.string (Cal.ft y m d (n % 24)), .int .i64 0]) ∧ Below w0.heap.size w0 w' := by
  have hy : 2000 ≤ y ∧ y ≤ 2099 := ⟨hc.1, hc.2.1⟩
  have hm : 1 ≤ m ∧ m ≤ 12 := ⟨hc.2.2.1, hc.2.2.2.1⟩
  have hd : 1 ≤ d ∧ d ≤ 31 := by have hl := Cal.len_bd y m hm.1 hm.2; have h1 := hc.2.2.2.2.1; have h2 := hc.2.2.2.2.2.1; omega
  have hh : 0 ≤ n % 24 ∧ n % 24 ≤ 23 := by omega
  have HC := Lib.hid hc
  clear hc
  have HV := Lib.hid (show Ending.returned (.tuple #[.string (Cal.dgs y 4 ++ ⟨#[45]⟩ ++ Cal.dgs m 2 ++ ⟨#[45]⟩ ++ Cal.dgs d 2 ++ (⟨#[84]⟩ ++ Cal.dgs (n % 24) 2)), .int .i64 0]) = .returned (.tuple #[.string (Cal.ft y m d (n % 24)), .int .i64 0]) by simp only [Cal.ft, ht, if_true, Cal.ft10, ByteArray.append_assoc])
  have hne : (n % 24 != 0) = true := bne_iff_ne.2 (by omega)
  have s1 := Cal.dgs_size y 4
  have s2 := Cal.dgs_size m 2
  have s3 := Cal.dgs_size d 2
  have s4 := Cal.dgs_size (n % 24) 2
  go_enter Tryd.func40, Tryd.ntmps40
  have Q0 := Lib.hid (Below.refl w0.heap.size w0)
  have hT0 := hT
  have hB0 := hB
  go_wp2_with fail
  refine (civil_is h0 h1 HC.out _ (by exact hT.below (Below.trans Q0.out (by repeat' (first | (with_reducible exact Below.refl _ _) | (with_reducible assumption) | (with_reducible refine below_drewN ?_ _) | (with_reducible refine Below.alloc ?_ ?_ _) | (with_reducible refine Below.drew ?_) | (with_reducible refine Below.setCell ?_ ?_ _) | go_size))) hB) (by exact Nat.lt_of_lt_of_le hB (Below.size (Below.trans Q0.out (by repeat' (first | (with_reducible exact Below.refl _ _) | (with_reducible assumption) | (with_reducible refine below_drewN ?_ _) | (with_reducible refine Below.alloc ?_ ?_ _) | (with_reducible refine Below.drew ?_) | (with_reducible refine Below.setCell ?_ ?_ _) | go_size)))))).mono ?_
  rintro e w1 ⟨rfl, hb1⟩
  have Q1 := Lib.hid (chain Q0.out (by repeat' (first | (with_reducible exact Below.refl _ _) | (with_reducible assumption) | (with_reducible refine below_drewN ?_ _) | (with_reducible refine Below.alloc ?_ ?_ _) | (with_reducible refine Below.drew ?_) | (with_reducible refine Below.setCell ?_ ?_ _) | go_size)) hb1)
  have hq1 : w0.heap.size ≤ w1.heap.size := Q1.out.size
  have hz1 := hb1.size
  try simp only [World.size_alloc, World.size_setCell, World.size_drew] at hz1
  have hB1 : 0 < w1.heap.size := Nat.lt_of_lt_of_le hB (Q1.out.size)
  have hT1 : Tab w1 := hT.below Q1.out hB
  clear hb1
  go_wp2
  have Q2 := Lib.hid (Below.trans Q1.out (show Below w0.heap.size w1 (w1.alloc (.cells #[.int .i64 y, .int .i64 m, .int .i64 d] 23)) from (by repeat' (first | (with_reducible exact Below.refl _ _) | (with_reducible assumption) | (with_reducible refine below_drewN ?_ _) | (with_reducible refine Below.alloc ?_ ?_ _) | (with_reducible refine Below.drew ?_) | (with_reducible refine Below.setCell ?_ ?_ _) | go_size))))
  have hq2 : w0.heap.size ≤ (w1.alloc (.cells #[.int .i64 y, .int .i64 m, .int .i64 d] 23)).heap.size := Q2.out.size
  have hB2 : 0 < (w1.alloc (.cells #[.int .i64 y, .int .i64 m, .int .i64 d] 23)).heap.size := Nat.lt_of_lt_of_le hB Q2.out.size
  have hT2 : Tab (w1.alloc (.cells #[.int .i64 y, .int .i64 m, .int .i64 d] 23)) := hT.below Q2.out hB
  have hl2_0 : w1.heap.size < (w1.alloc (.cells #[.int .i64 y, .int .i64 m, .int .i64 d] 23)).heap.size := by simp; try omega
  have hm2_0 : w1.heap.size ≤ (w1.alloc (.cells #[.int .i64 y, .int .i64 m, .int .i64 d] 23)).heap.size := Nat.le_of_lt hl2_0
  have c2_0_0 : (w1.alloc (.cells #[.int .i64 y, .int .i64 m, .int .i64 d] 23)).cell? ⟨w1.heap.size, 0, none⟩ = some (.int .i64 y) := by simp [go_sem, *]
  have f2_0_0 : (w1.alloc (.cells #[.int .i64 y, .int .i64 m, .int .i64 d] 23)).frozen? ⟨w1.heap.size, 0, none⟩ = false := by simp [go_sem, *]
  have c2_0_1 : (w1.alloc (.cells #[.int .i64 y, .int .i64 m, .int .i64 d] 23)).cell? ⟨w1.heap.size, 1, none⟩ = some (.int .i64 m) := by simp [go_sem, *]
  have f2_0_1 : (w1.alloc (.cells #[.int .i64 y, .int .i64 m, .int .i64 d] 23)).frozen? ⟨w1.heap.size, 1, none⟩ = false := by simp [go_sem, *]
  have c2_0_2 : (w1.alloc (.cells #[.int .i64 y, .int .i64 m, .int .i64 d] 23)).cell? ⟨w1.heap.size, 2, none⟩ = some (.int .i64 d) := by simp [go_sem, *]
  have f2_0_2 : (w1.alloc (.cells #[.int .i64 y, .int .i64 m, .int .i64 d] 23)).frozen? ⟨w1.heap.size, 2, none⟩ = false := by simp [go_sem, *]
  generalize w1.alloc (.cells #[.int .i64 y, .int .i64 m, .int .i64 d] 23) = w2 at *
  have hp2 : Pow w2.drew := hP.below (Below.trans Q2.out ((Below.refl _ _).drew)) hBp
  go_region_held3 (fun w' => w'.cell? ⟨w1.heap.size, 0, none⟩ = some (.int .i64 y) ∧ w'.cell? ⟨w1.heap.size, 1, none⟩ = some (.int .i64 m) ∧ w'.cell? ⟨w1.heap.size, 2, none⟩ = some (.int .i64 d) ∧ Below w2.heap.size w2 w') (first | exact ⟨c2_0_0, c2_0_1, c2_0_2, (Below.refl _ _).drew⟩ | exact keepThree hl2_0 hl2_0 hl2_0 (by assumption) hb5 | exact keepThree hl2_0 hl2_0 hl2_0 (by assumption) hb4 | exact keepThree hl2_0 hl2_0 hl2_0 (by assumption) hb3) (first | (go_at_call 53; ((with_reducible refine (padded4 y _ hp2 (by omega) (by omega)).mono ?_); rintro e w3 ⟨rfl, hb3⟩)) | (go_at_call 53; ((with_reducible refine (padded2 m _ (by omega) (by omega)).mono ?_); rintro e w4 ⟨rfl, hb4⟩)) | (go_at_call 53; ((with_reducible refine (padded2 d _ (by omega) (by omega)).mono ?_); rintro e w5 ⟨rfl, hb5⟩)))
  have g3 : Below w2.heap.size w2 w3 := (Below.refl _ _).drew.trans hb3
  have g4 := g3.trans (hb4.mono g3.size)
  have g5 := g4.trans (hb5.mono g4.size)
  have Q5 := Lib.hid (Q2.out.trans (g5.mono hq2))
  have hq5 : w0.heap.size ≤ w5.heap.size := Q5.out.size
  have hz5 : w2.heap.size ≤ w5.heap.size := g5.size
  have hB5 : 0 < w5.heap.size := Nat.lt_of_lt_of_le hB Q5.out.size
  have hT5 : Tab w5 := hT.below Q5.out hB
  clear g3 g4 g5 hb3 hb4 hb5 hp2
  go_wp2_with fail
  refine (padded2 (n % 24) _ (by omega) (by omega)).mono ?_
  rintro e w6 ⟨rfl, hb6⟩
  have Q6 := Lib.hid (chain Q5.out (by repeat' (first | (with_reducible exact Below.refl _ _) | (with_reducible assumption) | (with_reducible refine below_drewN ?_ _) | (with_reducible refine Below.alloc ?_ ?_ _) | (with_reducible refine Below.drew ?_) | (with_reducible refine Below.setCell ?_ ?_ _) | go_size)) hb6)
  have hq6 : w0.heap.size ≤ w6.heap.size := Q6.out.size
  have hz6 := hb6.size
  try simp only [World.size_alloc, World.size_setCell, World.size_drew] at hz6
  have hB6 : 0 < w6.heap.size := Nat.lt_of_lt_of_le hB (Q6.out.size)
  have hT6 : Tab w6 := hT.below Q6.out hB
  clear hb6
  go_wp2
  go_ret2
  exact ⟨HV.out, Below.trans Q6.out (by repeat' (first | (with_reducible exact Below.refl _ _) | (with_reducible assumption) | (with_reducible refine below_drewN ?_ _) | (with_reducible refine Below.alloc ?_ ?_ _) | (with_reducible refine Below.drew ?_) | (with_reducible refine Below.setCell ?_ ?_ _) | go_size))⟩

set_option maxHeartbeats 1000000 in
set_option maxRecDepth 100000 in
theorem pfmt_f (n y m d : Int) (w0 : World) (hT : Tab w0) (hP : Pow w0) (hB : 0 < w0.heap.size) (hBp : 1 < w0.heap.size) (h0 : 0 ≤ n) (h1 : n ≤ 876599) (hc : Cal.IsCiv n y m d) (ht : n % 24 ≤ 0) : Calls Tryd.prog 40 #[.int .i64 n] w0 fun e w' => e = .returned (.tuple #[.string (Cal.ft y m d (n % 24)), .int .i64 0]) ∧ Below w0.heap.size w0 w' := by
  have hy : 2000 ≤ y ∧ y ≤ 2099 := ⟨hc.1, hc.2.1⟩
  have hm : 1 ≤ m ∧ m ≤ 12 := ⟨hc.2.2.1, hc.2.2.2.1⟩
  have hd : 1 ≤ d ∧ d ≤ 31 := by have hl := Cal.len_bd y m hm.1 hm.2; have h1 := hc.2.2.2.2.1; have h2 := hc.2.2.2.2.2.1; omega
  have hh : 0 ≤ n % 24 ∧ n % 24 ≤ 23 := by omega
  have HC := Lib.hid hc
  clear hc
  have HV := Lib.hid (show Ending.returned (.tuple #[.string (Cal.dgs y 4 ++ ⟨#[45]⟩ ++ Cal.dgs m 2 ++ ⟨#[45]⟩ ++ Cal.dgs d 2), .int .i64 0]) = .returned (.tuple #[.string (Cal.ft y m d (n % 24)), .int .i64 0]) by simp only [Cal.ft]; rw [if_neg (by omega)]; rfl)
  have hne : (n % 24 != 0) = false := by rw [bne_eq_false_iff_eq]; omega
  have s1 := Cal.dgs_size y 4
  have s2 := Cal.dgs_size m 2
  have s3 := Cal.dgs_size d 2
  have s4 := Cal.dgs_size (n % 24) 2
  go_enter Tryd.func40, Tryd.ntmps40
  have Q0 := Lib.hid (Below.refl w0.heap.size w0)
  have hT0 := hT
  have hB0 := hB
  go_wp2_with fail
  refine (civil_is h0 h1 HC.out _ (by exact hT.below (Below.trans Q0.out (by repeat' (first | (with_reducible exact Below.refl _ _) | (with_reducible assumption) | (with_reducible refine below_drewN ?_ _) | (with_reducible refine Below.alloc ?_ ?_ _) | (with_reducible refine Below.drew ?_) | (with_reducible refine Below.setCell ?_ ?_ _) | go_size))) hB) (by exact Nat.lt_of_lt_of_le hB (Below.size (Below.trans Q0.out (by repeat' (first | (with_reducible exact Below.refl _ _) | (with_reducible assumption) | (with_reducible refine below_drewN ?_ _) | (with_reducible refine Below.alloc ?_ ?_ _) | (with_reducible refine Below.drew ?_) | (with_reducible refine Below.setCell ?_ ?_ _) | go_size)))))).mono ?_
  rintro e w1 ⟨rfl, hb1⟩
  have Q1 := Lib.hid (chain Q0.out (by repeat' (first | (with_reducible exact Below.refl _ _) | (with_reducible assumption) | (with_reducible refine below_drewN ?_ _) | (with_reducible refine Below.alloc ?_ ?_ _) | (with_reducible refine Below.drew ?_) | (with_reducible refine Below.setCell ?_ ?_ _) | go_size)) hb1)
  have hq1 : w0.heap.size ≤ w1.heap.size := Q1.out.size
  have hz1 := hb1.size
  try simp only [World.size_alloc, World.size_setCell, World.size_drew] at hz1
  have hB1 : 0 < w1.heap.size := Nat.lt_of_lt_of_le hB (Q1.out.size)
  have hT1 : Tab w1 := hT.below Q1.out hB
  clear hb1
  go_wp2
  have Q2 := Lib.hid (Below.trans Q1.out (show Below w0.heap.size w1 (w1.alloc (.cells #[.int .i64 y, .int .i64 m, .int .i64 d] 23)) from (by repeat' (first | (with_reducible exact Below.refl _ _) | (with_reducible assumption) | (with_reducible refine below_drewN ?_ _) | (with_reducible refine Below.alloc ?_ ?_ _) | (with_reducible refine Below.drew ?_) | (with_reducible refine Below.setCell ?_ ?_ _) | go_size))))
  have hq2 : w0.heap.size ≤ (w1.alloc (.cells #[.int .i64 y, .int .i64 m, .int .i64 d] 23)).heap.size := Q2.out.size
  have hB2 : 0 < (w1.alloc (.cells #[.int .i64 y, .int .i64 m, .int .i64 d] 23)).heap.size := Nat.lt_of_lt_of_le hB Q2.out.size
  have hT2 : Tab (w1.alloc (.cells #[.int .i64 y, .int .i64 m, .int .i64 d] 23)) := hT.below Q2.out hB
  have hl2_0 : w1.heap.size < (w1.alloc (.cells #[.int .i64 y, .int .i64 m, .int .i64 d] 23)).heap.size := by simp; try omega
  have hm2_0 : w1.heap.size ≤ (w1.alloc (.cells #[.int .i64 y, .int .i64 m, .int .i64 d] 23)).heap.size := Nat.le_of_lt hl2_0
  have c2_0_0 : (w1.alloc (.cells #[.int .i64 y, .int .i64 m, .int .i64 d] 23)).cell? ⟨w1.heap.size, 0, none⟩ = some (.int .i64 y) := by simp [go_sem, *]
  have f2_0_0 : (w1.alloc (.cells #[.int .i64 y, .int .i64 m, .int .i64 d] 23)).frozen? ⟨w1.heap.size, 0, none⟩ = false := by simp [go_sem, *]
  have c2_0_1 : (w1.alloc (.cells #[.int .i64 y, .int .i64 m, .int .i64 d] 23)).cell? ⟨w1.heap.size, 1, none⟩ = some (.int .i64 m) := by simp [go_sem, *]
  have f2_0_1 : (w1.alloc (.cells #[.int .i64 y, .int .i64 m, .int .i64 d] 23)).frozen? ⟨w1.heap.size, 1, none⟩ = false := by simp [go_sem, *]
  have c2_0_2 : (w1.alloc (.cells #[.int .i64 y, .int .i64 m, .int .i64 d] 23)).cell? ⟨w1.heap.size, 2, none⟩ = some (.int .i64 d) := by simp [go_sem, *]
  have f2_0_2 : (w1.alloc (.cells #[.int .i64 y, .int .i64 m, .int .i64 d] 23)).frozen? ⟨w1.heap.size, 2, none⟩ = false := by simp [go_sem, *]
  generalize w1.alloc (.cells #[.int .i64 y, .int .i64 m, .int .i64 d] 23) = w2 at *
  have hp2 : Pow w2.drew := hP.below (Below.trans Q2.out ((Below.refl _ _).drew)) hBp
  go_region_held3 (fun w' => w'.cell? ⟨w1.heap.size, 0, none⟩ = some (.int .i64 y) ∧ w'.cell? ⟨w1.heap.size, 1, none⟩ = some (.int .i64 m) ∧ w'.cell? ⟨w1.heap.size, 2, none⟩ = some (.int .i64 d) ∧ Below w2.heap.size w2 w') (first | exact ⟨c2_0_0, c2_0_1, c2_0_2, (Below.refl _ _).drew⟩ | exact keepThree hl2_0 hl2_0 hl2_0 (by assumption) hb5 | exact keepThree hl2_0 hl2_0 hl2_0 (by assumption) hb4 | exact keepThree hl2_0 hl2_0 hl2_0 (by assumption) hb3) (first | (go_at_call 53; ((with_reducible refine (padded4 y _ hp2 (by omega) (by omega)).mono ?_); rintro e w3 ⟨rfl, hb3⟩)) | (go_at_call 53; ((with_reducible refine (padded2 m _ (by omega) (by omega)).mono ?_); rintro e w4 ⟨rfl, hb4⟩)) | (go_at_call 53; ((with_reducible refine (padded2 d _ (by omega) (by omega)).mono ?_); rintro e w5 ⟨rfl, hb5⟩)))
  have g3 : Below w2.heap.size w2 w3 := (Below.refl _ _).drew.trans hb3
  have g4 := g3.trans (hb4.mono g3.size)
  have g5 := g4.trans (hb5.mono g4.size)
  have Q5 := Lib.hid (Q2.out.trans (g5.mono hq2))
  have hq5 : w0.heap.size ≤ w5.heap.size := Q5.out.size
  have hz5 : w2.heap.size ≤ w5.heap.size := g5.size
  have hB5 : 0 < w5.heap.size := Nat.lt_of_lt_of_le hB Q5.out.size
  have hT5 : Tab w5 := hT.below Q5.out hB
  clear g3 g4 g5 hb3 hb4 hb5 hp2
  go_wp2
  go_ret2
  exact ⟨HV.out, Below.trans Q5.out (by repeat' (first | (with_reducible exact Below.refl _ _) | (with_reducible assumption) | (with_reducible refine below_drewN ?_ _) | (with_reducible refine Below.alloc ?_ ?_ _) | (with_reducible refine Below.drew ?_) | (with_reducible refine Below.setCell ?_ ?_ _) | go_size))⟩

theorem pfmt_is (n y m d : Int) (w0 : World) (hT : Tab w0) (hP : Pow w0) (hB : 0 < w0.heap.size) (hBp : 1 < w0.heap.size) (h0 : 0 ≤ n) (h1 : n ≤ 876599) (hc : Cal.IsCiv n y m d) : Calls Tryd.prog 40 #[.int .i64 n] w0 fun e w' => e = .returned (.tuple #[.string (Cal.ft y m d (n % 24)), .int .i64 0]) ∧ Below w0.heap.size w0 w' := by
  rcases Int.lt_or_le 0 (n % 24) with h | h
  · exact pfmt_t n y m d w0 hT hP hB hBp h0 h1 hc h
  · exact pfmt_f n y m d w0 hT hP hB hBp h0 h1 hc h

theorem pfmt_out (n : Int) (w0 : World) (hT : Tab w0) (hB : 0 < w0.heap.size) (h : ¬ (0 ≤ n ∧ n ≤ 876599)) : Calls Tryd.prog 40 #[.int .i64 n] w0 fun e w' => e = .returned (.tuple #[.string ⟨#[]⟩, .int .i64 1]) ∧ Below w0.heap.size w0 w' := by
  go_enter Tryd.func40, Tryd.ntmps40
  have Q0 := Lib.hid (Below.refl w0.heap.size w0)
  have hT0 := hT
  have hB0 := hB
  go_wp2_with fail
  refine (civil_out h _ (by exact hT.below (Below.trans Q0.out (by repeat' (first | (with_reducible exact Below.refl _ _) | (with_reducible assumption) | (with_reducible refine below_drewN ?_ _) | (with_reducible refine Below.alloc ?_ ?_ _) | (with_reducible refine Below.drew ?_) | (with_reducible refine Below.setCell ?_ ?_ _) | go_size))) hB) (by exact Nat.lt_of_lt_of_le hB (Below.size (Below.trans Q0.out (by repeat' (first | (with_reducible exact Below.refl _ _) | (with_reducible assumption) | (with_reducible refine below_drewN ?_ _) | (with_reducible refine Below.alloc ?_ ?_ _) | (with_reducible refine Below.drew ?_) | (with_reducible refine Below.setCell ?_ ?_ _) | go_size)))))).mono ?_
  rintro e w1 ⟨rfl, hb1⟩
  have Q1 := Lib.hid (chain Q0.out (by repeat' (first | (with_reducible exact Below.refl _ _) | (with_reducible assumption) | (with_reducible refine below_drewN ?_ _) | (with_reducible refine Below.alloc ?_ ?_ _) | (with_reducible refine Below.drew ?_) | (with_reducible refine Below.setCell ?_ ?_ _) | go_size)) hb1)
  have hq1 : w0.heap.size ≤ w1.heap.size := Q1.out.size
  have hz1 := hb1.size
  try simp only [World.size_alloc, World.size_setCell, World.size_drew] at hz1
  have hB1 : 0 < w1.heap.size := Nat.lt_of_lt_of_le hB (Q1.out.size)
  have hT1 : Tab w1 := hT.below Q1.out hB
  clear hb1
  go_wp2
  go_ret2
  exact ⟨rfl, Below.trans Q1.out (by repeat' (first | (with_reducible exact Below.refl _ _) | (with_reducible assumption) | (with_reducible refine below_drewN ?_ _) | (with_reducible refine Below.alloc ?_ ?_ _) | (with_reducible refine Below.drew ?_) | (with_reducible refine Below.setCell ?_ ?_ _) | go_size))⟩

theorem rfmt_out (n : Int) (w0 : World) (hB : 0 < w0.heap.size) (h : ¬ (0 ≤ n ∧ n ≤ 876599)) : Calls Tryd.prog 18 #[.int .i64 n] w0 fun e w' => e = .returned (.tuple #[.string ⟨#[]⟩, .int .i64 1]) ∧ Below w0.heap.size w0 w' := by
  go_enter Tryd.func18, Tryd.ntmps18
  have Q0 := Lib.hid (Below.refl w0.heap.size w0)
  have hB0 := hB
  go_wp2_with fail
  refine (rciv_out h _).mono ?_
  rintro e w1 ⟨rfl, hb1⟩
  have Q1 := Lib.hid (chain Q0.out (by repeat' (first | (with_reducible exact Below.refl _ _) | (with_reducible assumption) | (with_reducible refine below_drewN ?_ _) | (with_reducible refine Below.alloc ?_ ?_ _) | (with_reducible refine Below.drew ?_) | (with_reducible refine Below.setCell ?_ ?_ _) | go_size)) hb1)
  have hq1 : w0.heap.size ≤ w1.heap.size := Q1.out.size
  have hz1 := hb1.size
  try simp only [World.size_alloc, World.size_setCell, World.size_drew] at hz1
  have hB1 : 0 < w1.heap.size := Nat.lt_of_lt_of_le hB (Q1.out.size)
  clear hb1
  go_wp2
  go_ret2
  exact ⟨rfl, Below.trans Q1.out (by repeat' (first | (with_reducible exact Below.refl _ _) | (with_reducible assumption) | (with_reducible refine below_drewN ?_ _) | (with_reducible refine Below.alloc ?_ ?_ _) | (with_reducible refine Below.drew ?_) | (with_reducible refine Below.setCell ?_ ?_ _) | go_size))⟩

/-- What Format gives: the text and the error, by both. -/
theorem both_fmt (n : Int) : ∃ (t : ByteArray) (e : Int), (∀ (w : World), Tab w → Pow w → 0 < w.heap.size → 1 < w.heap.size → Calls Tryd.prog 40 #[.int .i64 n] w fun r w' => r = .returned (.tuple #[.string t, .int .i64 e]) ∧ Below w.heap.size w w') ∧
    (∀ (w : World), 0 < w.heap.size → Calls Tryd.prog 18 #[.int .i64 n] w fun r w' => r = .returned (.tuple #[.string t, .int .i64 e]) ∧ Below w.heap.size w w') ∧ (0 ≤ n → n ≤ 876599 → e = 0 ∧ Cal.pv t = n ∧ Cal.pe t = 0) := by
  by_cases h : 0 ≤ n ∧ n ≤ 876599
  · have hc := Cal.civ_spec h.1 h.2
    refine ⟨_, 0, fun w a b c d => pfmt_is n _ _ _ w a b c d h.1 h.2 hc, fun w a => fmt_is n _ _ _ w a h.1 h.2 hc, fun _ _ => ⟨rfl, ?_⟩⟩
    have hv := Cal.hv_of_civ h.1 hc
    have hl := Cal.len_bd (Cal.cvy n) (Cal.cvm n) hc.2.2.1 hc.2.2.2.1
    exact Cal.text_back ⟨hc.1, hc.2.1⟩ ⟨hc.2.2.1, hc.2.2.2.1⟩ ⟨hc.2.2.2.2.1, by have := hc.2.2.2.2.2.1; omega⟩ ⟨by omega, by omega⟩ hv.1 hv.2
  · exact ⟨⟨#[]⟩, 1, fun w a b c d => pfmt_out n w a c h, fun w a => rfmt_out n w a h, fun a b => absurd ⟨a, b⟩ h⟩
set_option maxHeartbeats 1000000 in
set_option maxRecDepth 100000 in
theorem law_text (n : Int) (w0 : World) (hT : Tab w0) (hP : Pow w0) (hB : 0 < w0.heap.size) (hBp : 1 < w0.heap.size) : Calls Tryd.prog 12 #[.int .i64 n] w0 fun e w' => e = .returned (.bool true) ∧ Below w0.heap.size w0 w' := by
  have hw := Cal.within_bd n 876600 (by omega)
  obtain ⟨t, e, a1, a2, _⟩ := both_fmt n
  obtain ⟨u, e', b1, b2, b3⟩ := both_fmt (Cal.within n 876600)
  obtain ⟨rfl, b4, b5⟩ := b3 hw.1 (by omega)
  have A1 := Lib.hid a1
  have A2 := Lib.hid a2
  have B1 := Lib.hid b1
  have B2 := Lib.hid b2
  have hp := fun w hT hB => parse_any u w hT hB
  rw [b4, b5] at hp
  have HP := Lib.hid hp
  clear a1 a2 b1 b2 b3 b4 b5 hp
  go_enter Tryd.func12, Tryd.ntmps12
  have Q0 := Lib.hid (Below.refl w0.heap.size w0)
  have hT0 := hT
  have hB0 := hB
  go_wp2_with fail
  refine (A1.out _ (by exact hT.below (Below.trans Q0.out (by repeat' (first | (with_reducible exact Below.refl _ _) | (with_reducible assumption) | (with_reducible refine below_drewN ?_ _) | (with_reducible refine Below.alloc ?_ ?_ _) | (with_reducible refine Below.drew ?_) | (with_reducible refine Below.setCell ?_ ?_ _) | go_size))) hB) (by exact hP.below (Below.trans Q0.out (by repeat' (first | (with_reducible exact Below.refl _ _) | (with_reducible assumption) | (with_reducible refine below_drewN ?_ _) | (with_reducible refine Below.alloc ?_ ?_ _) | (with_reducible refine Below.drew ?_) | (with_reducible refine Below.setCell ?_ ?_ _) | go_size))) hBp) (by exact Nat.lt_of_lt_of_le hB (Below.size (Below.trans Q0.out (by repeat' (first | (with_reducible exact Below.refl _ _) | (with_reducible assumption) | (with_reducible refine below_drewN ?_ _) | (with_reducible refine Below.alloc ?_ ?_ _) | (with_reducible refine Below.drew ?_) | (with_reducible refine Below.setCell ?_ ?_ _) | go_size))))) (by exact Nat.lt_of_lt_of_le hBp (Below.size (Below.trans Q0.out (by repeat' (first | (with_reducible exact Below.refl _ _) | (with_reducible assumption) | (with_reducible refine below_drewN ?_ _) | (with_reducible refine Below.alloc ?_ ?_ _) | (with_reducible refine Below.drew ?_) | (with_reducible refine Below.setCell ?_ ?_ _) | go_size)))))).mono ?_
  rintro e w1 ⟨rfl, hb1⟩
  have Q1 := Lib.hid (chain Q0.out (by repeat' (first | (with_reducible exact Below.refl _ _) | (with_reducible assumption) | (with_reducible refine below_drewN ?_ _) | (with_reducible refine Below.alloc ?_ ?_ _) | (with_reducible refine Below.drew ?_) | (with_reducible refine Below.setCell ?_ ?_ _) | go_size)) hb1)
  have hq1 : w0.heap.size ≤ w1.heap.size := Q1.out.size
  have hz1 := hb1.size
  try simp only [World.size_alloc, World.size_setCell, World.size_drew] at hz1
  have hB1 : 0 < w1.heap.size := Nat.lt_of_lt_of_le hB (Q1.out.size)
  have hT1 : Tab w1 := hT.below Q1.out hB
  clear hb1
  go_wp2_with fail
  refine (A2.out _ (by exact Nat.lt_of_lt_of_le hB (Below.size (Below.trans Q1.out (by repeat' (first | (with_reducible exact Below.refl _ _) | (with_reducible assumption) | (with_reducible refine below_drewN ?_ _) | (with_reducible refine Below.alloc ?_ ?_ _) | (with_reducible refine Below.drew ?_) | (with_reducible refine Below.setCell ?_ ?_ _) | go_size)))))).mono ?_
  rintro e w2 ⟨rfl, hb2⟩
  have Q2 := Lib.hid (chain Q1.out (by repeat' (first | (with_reducible exact Below.refl _ _) | (with_reducible assumption) | (with_reducible refine below_drewN ?_ _) | (with_reducible refine Below.alloc ?_ ?_ _) | (with_reducible refine Below.drew ?_) | (with_reducible refine Below.setCell ?_ ?_ _) | go_size)) hb2)
  have hq2 : w0.heap.size ≤ w2.heap.size := Q2.out.size
  have hz2 := hb2.size
  try simp only [World.size_alloc, World.size_setCell, World.size_drew] at hz2
  have hB2 : 0 < w2.heap.size := Nat.lt_of_lt_of_le hB (Q2.out.size)
  have hT2 : Tab w2 := hT.below Q2.out hB
  clear hb2
  go_wp2_with fail
  refine (lawhour_any n _).mono ?_
  rintro e w' ⟨rfl, rfl⟩
  go_wp2_with fail
  refine (B1.out _ (by exact hT.below (Below.trans Q2.out (by repeat' (first | (with_reducible exact Below.refl _ _) | (with_reducible assumption) | (with_reducible refine below_drewN ?_ _) | (with_reducible refine Below.alloc ?_ ?_ _) | (with_reducible refine Below.drew ?_) | (with_reducible refine Below.setCell ?_ ?_ _) | go_size))) hB) (by exact hP.below (Below.trans Q2.out (by repeat' (first | (with_reducible exact Below.refl _ _) | (with_reducible assumption) | (with_reducible refine below_drewN ?_ _) | (with_reducible refine Below.alloc ?_ ?_ _) | (with_reducible refine Below.drew ?_) | (with_reducible refine Below.setCell ?_ ?_ _) | go_size))) hBp) (by exact Nat.lt_of_lt_of_le hB (Below.size (Below.trans Q2.out (by repeat' (first | (with_reducible exact Below.refl _ _) | (with_reducible assumption) | (with_reducible refine below_drewN ?_ _) | (with_reducible refine Below.alloc ?_ ?_ _) | (with_reducible refine Below.drew ?_) | (with_reducible refine Below.setCell ?_ ?_ _) | go_size))))) (by exact Nat.lt_of_lt_of_le hBp (Below.size (Below.trans Q2.out (by repeat' (first | (with_reducible exact Below.refl _ _) | (with_reducible assumption) | (with_reducible refine below_drewN ?_ _) | (with_reducible refine Below.alloc ?_ ?_ _) | (with_reducible refine Below.drew ?_) | (with_reducible refine Below.setCell ?_ ?_ _) | go_size)))))).mono ?_
  rintro e w3 ⟨rfl, hb3⟩
  have Q3 := Lib.hid (chain Q2.out (by repeat' (first | (with_reducible exact Below.refl _ _) | (with_reducible assumption) | (with_reducible refine below_drewN ?_ _) | (with_reducible refine Below.alloc ?_ ?_ _) | (with_reducible refine Below.drew ?_) | (with_reducible refine Below.setCell ?_ ?_ _) | go_size)) hb3)
  have hq3 : w0.heap.size ≤ w3.heap.size := Q3.out.size
  have hz3 := hb3.size
  try simp only [World.size_alloc, World.size_setCell, World.size_drew] at hz3
  have hB3 : 0 < w3.heap.size := Nat.lt_of_lt_of_le hB (Q3.out.size)
  have hT3 : Tab w3 := hT.below Q3.out hB
  clear hb3
  go_wp2_with fail
  refine (HP.out _ (by exact hT.below (Below.trans Q3.out (by repeat' (first | (with_reducible exact Below.refl _ _) | (with_reducible assumption) | (with_reducible refine below_drewN ?_ _) | (with_reducible refine Below.alloc ?_ ?_ _) | (with_reducible refine Below.drew ?_) | (with_reducible refine Below.setCell ?_ ?_ _) | go_size))) hB) (by exact Nat.lt_of_lt_of_le hB (Below.size (Below.trans Q3.out (by repeat' (first | (with_reducible exact Below.refl _ _) | (with_reducible assumption) | (with_reducible refine below_drewN ?_ _) | (with_reducible refine Below.alloc ?_ ?_ _) | (with_reducible refine Below.drew ?_) | (with_reducible refine Below.setCell ?_ ?_ _) | go_size)))))).mono ?_
  rintro e w4 ⟨rfl, hb4⟩
  have Q4 := Lib.hid (chain Q3.out (by repeat' (first | (with_reducible exact Below.refl _ _) | (with_reducible assumption) | (with_reducible refine below_drewN ?_ _) | (with_reducible refine Below.alloc ?_ ?_ _) | (with_reducible refine Below.drew ?_) | (with_reducible refine Below.setCell ?_ ?_ _) | go_size)) hb4)
  have hq4 : w0.heap.size ≤ w4.heap.size := Q4.out.size
  have hz4 := hb4.size
  try simp only [World.size_alloc, World.size_setCell, World.size_drew] at hz4
  have hB4 : 0 < w4.heap.size := Nat.lt_of_lt_of_le hB (Q4.out.size)
  have hT4 : Tab w4 := hT.below Q4.out hB
  clear hb4
  go_wp2_with fail
  refine (lawhour_any n _).mono ?_
  rintro e w' ⟨rfl, rfl⟩
  go_wp2_with fail
  refine (B2.out _ (by exact Nat.lt_of_lt_of_le hB (Below.size (Below.trans Q4.out (by repeat' (first | (with_reducible exact Below.refl _ _) | (with_reducible assumption) | (with_reducible refine below_drewN ?_ _) | (with_reducible refine Below.alloc ?_ ?_ _) | (with_reducible refine Below.drew ?_) | (with_reducible refine Below.setCell ?_ ?_ _) | go_size)))))).mono ?_
  rintro e w5 ⟨rfl, hb5⟩
  have Q5 := Lib.hid (chain Q4.out (by repeat' (first | (with_reducible exact Below.refl _ _) | (with_reducible assumption) | (with_reducible refine below_drewN ?_ _) | (with_reducible refine Below.alloc ?_ ?_ _) | (with_reducible refine Below.drew ?_) | (with_reducible refine Below.setCell ?_ ?_ _) | go_size)) hb5)
  have hq5 : w0.heap.size ≤ w5.heap.size := Q5.out.size
  have hz5 := hb5.size
  try simp only [World.size_alloc, World.size_setCell, World.size_drew] at hz5
  have hB5 : 0 < w5.heap.size := Nat.lt_of_lt_of_le hB (Q5.out.size)
  have hT5 : Tab w5 := hT.below Q5.out hB
  clear hb5
  go_wp2_with fail
  refine (lawhour_any n _).mono ?_
  rintro e w' ⟨rfl, rfl⟩
  go_wp2_with fail
  refine (awake_any _ (by exact hT.below (Below.trans Q5.out (by repeat' (first | (with_reducible exact Below.refl _ _) | (with_reducible assumption) | (with_reducible refine below_drewN ?_ _) | (with_reducible refine Below.alloc ?_ ?_ _) | (with_reducible refine Below.drew ?_) | (with_reducible refine Below.setCell ?_ ?_ _) | go_size))) hB) (by exact Nat.lt_of_lt_of_le hB (Below.size (Below.trans Q5.out (by repeat' (first | (with_reducible exact Below.refl _ _) | (with_reducible assumption) | (with_reducible refine below_drewN ?_ _) | (with_reducible refine Below.alloc ?_ ?_ _) | (with_reducible refine Below.drew ?_) | (with_reducible refine Below.setCell ?_ ?_ _) | go_size)))))).mono ?_
  rintro e w6 ⟨rfl, hb6⟩
  have Q6 := Lib.hid (chain Q5.out (by repeat' (first | (with_reducible exact Below.refl _ _) | (with_reducible assumption) | (with_reducible refine below_drewN ?_ _) | (with_reducible refine Below.alloc ?_ ?_ _) | (with_reducible refine Below.drew ?_) | (with_reducible refine Below.setCell ?_ ?_ _) | go_size)) hb6)
  have hq6 : w0.heap.size ≤ w6.heap.size := Q6.out.size
  have hz6 := hb6.size
  try simp only [World.size_alloc, World.size_setCell, World.size_drew] at hz6
  have hB6 : 0 < w6.heap.size := Nat.lt_of_lt_of_le hB (Q6.out.size)
  have hT6 : Tab w6 := hT.below Q6.out hB
  clear hb6
  go_wp2
  go_ret
  exact ⟨rfl, Q6.out⟩
end Go.Proofs.YtnidojfnpmhjkaaDoor
