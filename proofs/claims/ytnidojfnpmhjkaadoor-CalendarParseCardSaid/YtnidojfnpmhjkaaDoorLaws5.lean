/- The walk of the law CalendarParse. -/
import Derived.Test.YtnidojfnpmhjkaaDoorRParse
import Derived.Test.YtnidojfnpmhjkaaDoorFmt
import Derived.WideShapes
namespace Go.Proofs.YtnidojfnpmhjkaaDoor
set_option linter.unusedVariables false
set_option linter.unusedSimpArgs false
open Go.RowKit

theorem conv_back {W : World} {blk cap N : Nat} {l : List UInt8} (hl : l.length = N) (hc : ∀ j (hj : j < l.length), W.cell? ⟨blk, j, none⟩ = some (.int .u8 (l[j].toNat : Int))) :
    (convert 34 9 (.slice (some ⟨blk, 0, none⟩) N cap)).run Tryd.prog W = .ok (.string ⟨l.toArray⟩) W := by
  subst hl
  exact run_convert_bytes_back (P := Tryd.prog) W 34 9 5 ⟨blk, 0, none⟩ cap l Tryd.underlying34 Tryd.underlying5 Tryd.underlying9 (fun j hj => by rw [Go.WideShapes.add_plain, Nat.zero_add]; exact hc j hj)
theorem law_parse_long (s : ByteArray) (n at_ b : Int) (w0 : World) (hT : Tab w0) (hB : 0 < w0.heap.size) (hs : 100 < s.size) :
    Calls Tryd.prog 4 #[.string s, .int .i64 n, .int .i64 at_, .int .u8 b] w0 fun e w' => e = .returned (.bool true) ∧ Below w0.heap.size w0 w' := by
  go_enter Tryd.func4, Tryd.ntmps4
  have Q0 := Lib.hid (Below.refl w0.heap.size w0)
  have hT0 := hT
  have hB0 := hB
  go_wp2_with fail
  refine (awake_any _ (by exact hT.below (Below.trans Q0.out (by repeat' (first | (with_reducible exact Below.refl _ _) | (with_reducible assumption) | (with_reducible refine below_drewN ?_ _) | (with_reducible refine Below.alloc ?_ ?_ _) | (with_reducible refine Below.drew ?_) | (with_reducible refine Below.setCell ?_ ?_ _) | go_size))) hB) (by exact Nat.lt_of_lt_of_le hB (Below.size (Below.trans Q0.out (by repeat' (first | (with_reducible exact Below.refl _ _) | (with_reducible assumption) | (with_reducible refine below_drewN ?_ _) | (with_reducible refine Below.alloc ?_ ?_ _) | (with_reducible refine Below.drew ?_) | (with_reducible refine Below.setCell ?_ ?_ _) | go_size)))))).mono ?_
  rintro e w1 ⟨rfl, hb1⟩
  have Q1 := Lib.hid (chain Q0.out (by repeat' (first | (with_reducible exact Below.refl _ _) | (with_reducible assumption) | (with_reducible refine below_drewN ?_ _) | (with_reducible refine Below.alloc ?_ ?_ _) | (with_reducible refine Below.drew ?_) | (with_reducible refine Below.setCell ?_ ?_ _) | go_size)) hb1)
  have hq1 : w0.heap.size ≤ w1.heap.size := Q1.out.size
  have hz1 := hb1.size
  try simp only [World.size_alloc, World.size_setCell, World.size_drew] at hz1
  have hB1 : 0 < w1.heap.size := Nat.lt_of_lt_of_le hB (Q1.out.size)
  have hT1 : Tab w1 := hT.below Q1.out hB
  clear hb1
  go_wp2
  go_ret
  exact ⟨rfl, Q1.out⟩

set_option maxHeartbeats 1000000 in
set_option maxRecDepth 100000 in
theorem law_parse_short (s : ByteArray) (n at_ b : Int) (w0 : World) (hT : Tab w0) (hB : 0 < w0.heap.size) (hs : s.size ≤ 100) (b0 : 0 ≤ b) (b1 : b ≤ 255) :
    Calls Tryd.prog 4 #[.string s, .int .i64 n, .int .i64 at_, .int .u8 b] w0 fun e w' => e = .returned (.bool true) ∧ Below w0.heap.size w0 w' := by
  have hw := Cal.within_bd n 876600 (by omega)
  have HC := Lib.hid (Cal.civ_spec hw.1 (show Cal.within n 876600 ≤ 876599 by omega))
  have ht := Cal.ft_size (Cal.cvy (Cal.within n 876600)) (Cal.cvm (Cal.within n 876600)) (Cal.cvd (Cal.within n 876600)) (Cal.within n 876600 % 24)
  have HF := Lib.hid (fun (w : World) hB => fmt_is (Cal.within n 876600) (Cal.cvy (Cal.within n 876600)) (Cal.cvm (Cal.within n 876600)) (Cal.cvd (Cal.within n 876600)) w hB hw.1 (by omega) HC.out)
  generalize Cal.ft (Cal.cvy (Cal.within n 876600)) (Cal.cvm (Cal.within n 876600)) (Cal.cvd (Cal.within n 876600)) (Cal.within n 876600 % 24) = t at ht HF
  have t0 : 10 ≤ t.size := by omega
  have t1 : t.size ≤ 13 := by omega
  clear ht
  have ha := Cal.within_bd at_ t.size (by omega)
  have HW := Lib.hid (fun w => within_any at_ t.size w (by omega) (by omega))
  obtain ⟨i, hi⟩ : ∃ i : Nat, Cal.within at_ t.size = (i : Int) := ⟨(Cal.within at_ t.size).toNat, by omega⟩
  rw [hi] at HW ha
  have i1 : i < t.size := by omega
  clear hi ha
  go_enter Tryd.func4, Tryd.ntmps4
  have Q0 := Lib.hid (Below.refl w0.heap.size w0)
  have hT0 := hT
  have hB0 := hB
  go_wp2_with fail
  refine (parse_any s _ (by exact hT.below (Below.trans Q0.out (by repeat' (first | (with_reducible exact Below.refl _ _) | (with_reducible assumption) | (with_reducible refine below_drewN ?_ _) | (with_reducible refine Below.alloc ?_ ?_ _) | (with_reducible refine Below.drew ?_) | (with_reducible refine Below.setCell ?_ ?_ _) | go_size))) hB) (by exact Nat.lt_of_lt_of_le hB (Below.size (Below.trans Q0.out (by repeat' (first | (with_reducible exact Below.refl _ _) | (with_reducible assumption) | (with_reducible refine below_drewN ?_ _) | (with_reducible refine Below.alloc ?_ ?_ _) | (with_reducible refine Below.drew ?_) | (with_reducible refine Below.setCell ?_ ?_ _) | go_size)))))).mono ?_
  rintro e w1 ⟨rfl, hb1⟩
  have Q1 := Lib.hid (chain Q0.out (by repeat' (first | (with_reducible exact Below.refl _ _) | (with_reducible assumption) | (with_reducible refine below_drewN ?_ _) | (with_reducible refine Below.alloc ?_ ?_ _) | (with_reducible refine Below.drew ?_) | (with_reducible refine Below.setCell ?_ ?_ _) | go_size)) hb1)
  have hq1 : w0.heap.size ≤ w1.heap.size := Q1.out.size
  have hz1 := hb1.size
  try simp only [World.size_alloc, World.size_setCell, World.size_drew] at hz1
  have hB1 : 0 < w1.heap.size := Nat.lt_of_lt_of_le hB (Q1.out.size)
  have hT1 : Tab w1 := hT.below Q1.out hB
  clear hb1
  go_wp2_with fail
  refine (rparse_any s _ (by exact Nat.lt_of_lt_of_le hB (Below.size (Below.trans Q1.out (by repeat' (first | (with_reducible exact Below.refl _ _) | (with_reducible assumption) | (with_reducible refine below_drewN ?_ _) | (with_reducible refine Below.alloc ?_ ?_ _) | (with_reducible refine Below.drew ?_) | (with_reducible refine Below.setCell ?_ ?_ _) | go_size)))))).mono ?_
  rintro e w2 ⟨rfl, hb2⟩
  have Q2 := Lib.hid (chain Q1.out (by repeat' (first | (with_reducible exact Below.refl _ _) | (with_reducible assumption) | (with_reducible refine below_drewN ?_ _) | (with_reducible refine Below.alloc ?_ ?_ _) | (with_reducible refine Below.drew ?_) | (with_reducible refine Below.setCell ?_ ?_ _) | go_size)) hb2)
  have hq2 : w0.heap.size ≤ w2.heap.size := Q2.out.size
  have hz2 := hb2.size
  try simp only [World.size_alloc, World.size_setCell, World.size_drew] at hz2
  have hB2 : 0 < w2.heap.size := Nat.lt_of_lt_of_le hB (Q2.out.size)
  have hT2 : Tab w2 := hT.below Q2.out hB
  clear hb2
  go_wp2_with fail
  refine (lawhour_any n _).mono ?_
  rintro e w' ⟨rfl, rfl⟩
  go_wp2_with fail
  refine (HF.out _ (by exact Nat.lt_of_lt_of_le hB (Below.size (Below.trans Q2.out (by repeat' (first | (with_reducible exact Below.refl _ _) | (with_reducible assumption) | (with_reducible refine below_drewN ?_ _) | (with_reducible refine Below.alloc ?_ ?_ _) | (with_reducible refine Below.drew ?_) | (with_reducible refine Below.setCell ?_ ?_ _) | go_size)))))).mono ?_
  rintro e w3 ⟨rfl, hb3⟩
  have Q3 := Lib.hid (chain Q2.out (by repeat' (first | (with_reducible exact Below.refl _ _) | (with_reducible assumption) | (with_reducible refine below_drewN ?_ _) | (with_reducible refine Below.alloc ?_ ?_ _) | (with_reducible refine Below.drew ?_) | (with_reducible refine Below.setCell ?_ ?_ _) | go_size)) hb3)
  have hq3 : w0.heap.size ≤ w3.heap.size := Q3.out.size
  have hz3 := hb3.size
  try simp only [World.size_alloc, World.size_setCell, World.size_drew] at hz3
  have hB3 : 0 < w3.heap.size := Nat.lt_of_lt_of_le hB (Q3.out.size)
  have hT3 : Tab w3 := hT.below Q3.out hB
  clear hb3
  have hconv := run_bytes_of_string (P := Tryd.prog) w3 9 34 5 t Tryd.underlying9 Tryd.underlying34 Tryd.underlying5
  generalize grownCap w3 t.size 0 5 = cap at hconv
  have HCC := Lib.hid (fun j (hj : j < t.size) => bytesRow_at t cap j hj)
  have hCs : t.size ≤ (bytesRow t cap).size := by unfold bytesRow; rw [Array.size_append, Array.size_map]; exact Nat.le_add_right _ _
  generalize bytesRow t cap = C at hconv HCC hCs
  go_wp2_with fail
  refine (HW.out _).mono ?_
  rintro e w' ⟨rfl, rfl⟩
  clear hconv
  have HC4 := Lib.hid (fun j (hj : j < t.size) => (show ((w3.alloc (.cells C 5 (C.size, C.size + 1))).drew).cell? ⟨w3.heap.size, j, none⟩ = some (.int .u8 (t.data[j].toNat : Int)) from (World.cell?_alloc_mark w3 C 5 (C.size, C.size + 1) j).trans (HCC.out j hj)))
  have f4 : ((w3.alloc (.cells C 5 (C.size, C.size + 1))).drew).frozen? ⟨w3.heap.size, i, none⟩ = false := (World.frozen?_alloc_mark w3 C 5 C.size (C.size + 1) i).trans (by simp; omega)
  have hz4 : w3.heap.size < ((w3.alloc (.cells C 5 (C.size, C.size + 1))).drew).heap.size := by simp
  have Q4 := Lib.hid (Below.trans Q3.out (show Below w0.heap.size w3 ((w3.alloc (.cells C 5 (C.size, C.size + 1))).drew) from (by repeat' (first | (with_reducible exact Below.refl _ _) | (with_reducible assumption) | (with_reducible refine below_drewN ?_ _) | (with_reducible refine Below.alloc ?_ ?_ _) | (with_reducible refine Below.drew ?_) | (with_reducible refine Below.setCell ?_ ?_ _) | go_size))))
  have hq4 : w0.heap.size ≤ ((w3.alloc (.cells C 5 (C.size, C.size + 1))).drew).heap.size := Q4.out.size
  have hB4 : 0 < ((w3.alloc (.cells C 5 (C.size, C.size + 1))).drew).heap.size := Nat.lt_of_lt_of_le hB Q4.out.size
  have hT4 : Tab ((w3.alloc (.cells C 5 (C.size, C.size + 1))).drew) := hT.below Q4.out hB
  generalize (w3.alloc (.cells C 5 (C.size, C.size + 1))).drew = w4 at *
  have c4 := HC4.out i i1
  have HL := Lib.hid (show (t.data.toList.set i (UInt8.ofNat b.toNat)).length = t.size by rw [List.length_set, Array.length_toList]; rfl)
  have HX := Lib.hid (show ∀ j (hj : j < (t.data.toList.set i (UInt8.ofNat b.toNat)).length), (w4.setCell ⟨w3.heap.size, i, none⟩ (.int .u8 b)).cell? ⟨w3.heap.size, j, none⟩ = some (.int .u8 ((t.data.toList.set i (UInt8.ofNat b.toNat))[j].toNat : Int)) from fun j hj => by
    rw [HL.out] at hj
    by_cases hij : i = j
    · subst hij
      have e : ((UInt8.ofNat b.toNat).toNat : Int) = b := by rw [UInt8.toNat_ofNat_of_lt' (by show b.toNat < 256; omega)]; omega
      rw [World.cell?_setCell_same' w4 _ _ (by simp [c4]), List.getElem_set_self, e]
    · rw [List.getElem_set_ne hij]
      have e := HC4.out j hj
      have e2 := World.cell?_setCell_other (w := w4) (a := ⟨w3.heap.size, i, none⟩) (b := ⟨w3.heap.size, j, none⟩) (v := .int .u8 b) (by simp [hij]); rw [e2, e]; simp)
  have hback := conv_back (cap := cap) HL.out HX.out
  generalize t.data.toList.set i (UInt8.ofNat b.toNat) = l at HL HX hback
  go_wp2_with fail
  refine (parse_any ⟨l.toArray⟩ _ (by exact hT.below (Below.trans Q4.out (by repeat' (first | (with_reducible exact Below.refl _ _) | (with_reducible assumption) | (with_reducible refine below_drewN ?_ _) | (with_reducible refine Below.alloc ?_ ?_ _) | (with_reducible refine Below.drew ?_) | (with_reducible refine Below.setCell ?_ ?_ _) | go_size))) hB) (by exact Nat.lt_of_lt_of_le hB (Below.size (Below.trans Q4.out (by repeat' (first | (with_reducible exact Below.refl _ _) | (with_reducible assumption) | (with_reducible refine below_drewN ?_ _) | (with_reducible refine Below.alloc ?_ ?_ _) | (with_reducible refine Below.drew ?_) | (with_reducible refine Below.setCell ?_ ?_ _) | go_size)))))).mono ?_
  rintro e w5 ⟨rfl, hb5⟩
  have Q5 := Lib.hid (chain Q4.out (by repeat' (first | (with_reducible exact Below.refl _ _) | (with_reducible assumption) | (with_reducible refine below_drewN ?_ _) | (with_reducible refine Below.alloc ?_ ?_ _) | (with_reducible refine Below.drew ?_) | (with_reducible refine Below.setCell ?_ ?_ _) | go_size)) hb5)
  have hq5 : w0.heap.size ≤ w5.heap.size := Q5.out.size
  have hz5 := hb5.size
  try simp only [World.size_alloc, World.size_setCell, World.size_drew] at hz5
  have hB5 : 0 < w5.heap.size := Nat.lt_of_lt_of_le hB (Q5.out.size)
  have hT5 : Tab w5 := hT.below Q5.out hB
  have HB5 := Lib.hid hb5
  clear hb5
  clear hback
  have HX5 := Lib.hid (show ∀ j (hj : j < l.length), w5.cell? ⟨w3.heap.size, j, none⟩ = some (.int .u8 (l[j].toNat : Int)) from fun j hj => (HB5.out.cell (p := ⟨w3.heap.size, j, none⟩) (by simp; omega)).trans (HX.out j hj))
  have hback := conv_back (cap := cap) HL.out HX5.out
  go_wp2_with fail
  refine (rparse_any ⟨l.toArray⟩ _ (by exact Nat.lt_of_lt_of_le hB (Below.size (Below.trans Q5.out (by repeat' (first | (with_reducible exact Below.refl _ _) | (with_reducible assumption) | (with_reducible refine below_drewN ?_ _) | (with_reducible refine Below.alloc ?_ ?_ _) | (with_reducible refine Below.drew ?_) | (with_reducible refine Below.setCell ?_ ?_ _) | go_size)))))).mono ?_
  rintro e w6 ⟨rfl, hb6⟩
  have Q6 := Lib.hid (chain Q5.out (by repeat' (first | (with_reducible exact Below.refl _ _) | (with_reducible assumption) | (with_reducible refine below_drewN ?_ _) | (with_reducible refine Below.alloc ?_ ?_ _) | (with_reducible refine Below.drew ?_) | (with_reducible refine Below.setCell ?_ ?_ _) | go_size)) hb6)
  have hq6 : w0.heap.size ≤ w6.heap.size := Q6.out.size
  have hz6 := hb6.size
  try simp only [World.size_alloc, World.size_setCell, World.size_drew] at hz6
  have hB6 : 0 < w6.heap.size := Nat.lt_of_lt_of_le hB (Q6.out.size)
  have hT6 : Tab w6 := hT.below Q6.out hB
  clear hb6
  clear hback
  go_wp2_with fail
  refine (awake_any _ (by exact hT.below (Below.trans Q6.out (by repeat' (first | (with_reducible exact Below.refl _ _) | (with_reducible assumption) | (with_reducible refine below_drewN ?_ _) | (with_reducible refine Below.alloc ?_ ?_ _) | (with_reducible refine Below.drew ?_) | (with_reducible refine Below.setCell ?_ ?_ _) | go_size))) hB) (by exact Nat.lt_of_lt_of_le hB (Below.size (Below.trans Q6.out (by repeat' (first | (with_reducible exact Below.refl _ _) | (with_reducible assumption) | (with_reducible refine below_drewN ?_ _) | (with_reducible refine Below.alloc ?_ ?_ _) | (with_reducible refine Below.drew ?_) | (with_reducible refine Below.setCell ?_ ?_ _) | go_size)))))).mono ?_
  rintro e w7 ⟨rfl, hb7⟩
  have Q7 := Lib.hid (chain Q6.out (by repeat' (first | (with_reducible exact Below.refl _ _) | (with_reducible assumption) | (with_reducible refine below_drewN ?_ _) | (with_reducible refine Below.alloc ?_ ?_ _) | (with_reducible refine Below.drew ?_) | (with_reducible refine Below.setCell ?_ ?_ _) | go_size)) hb7)
  have hq7 : w0.heap.size ≤ w7.heap.size := Q7.out.size
  have hz7 := hb7.size
  try simp only [World.size_alloc, World.size_setCell, World.size_drew] at hz7
  have hB7 : 0 < w7.heap.size := Nat.lt_of_lt_of_le hB (Q7.out.size)
  have hT7 : Tab w7 := hT.below Q7.out hB
  clear hb7
  go_wp2
  go_ret
  exact ⟨rfl, Q7.out⟩

theorem law_parse (s : ByteArray) (n at_ b : Int) (w0 : World) (hT : Tab w0) (hB : 0 < w0.heap.size) (b0 : 0 ≤ b) (b1 : b ≤ 255) :
    Calls Tryd.prog 4 #[.string s, .int .i64 n, .int .i64 at_, .int .u8 b] w0 fun e w' => e = .returned (.bool true) ∧ Below w0.heap.size w0 w' := by
  rcases Nat.lt_or_ge 100 s.size with h | h
  · exact law_parse_long s n at_ b w0 hT hB h
  · exact law_parse_short s n at_ b w0 hT hB h b0 b1
end Go.Proofs.YtnidojfnpmhjkaaDoor
