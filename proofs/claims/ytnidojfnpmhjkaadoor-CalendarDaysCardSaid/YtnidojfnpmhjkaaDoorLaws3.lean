/- The walk of the law CalendarPeriods. -/
import Derived.Test.YtnidojfnpmhjkaaDoorPer
import Derived.Test.YtnidojfnpmhjkaaDoorDeck
import Derived.Deep.RegionHeld3
namespace Go.Proofs.YtnidojfnpmhjkaaDoor
set_option linter.unusedVariables false
set_option linter.unusedSimpArgs false
open Go.RowKit

theorem keepTwo {W Wc w' : World} {u v : Value} {p0 p1 : Addr} (h0 : p0.block < W.heap.size) (h1 : p1.block < W.heap.size) (h : Wc.cell? p0 = some u ∧ Wc.cell? p1 = some v ∧ Below W.heap.size W Wc) (hb : Below Wc.heap.size Wc w') : w'.cell? p0 = some u ∧ w'.cell? p1 = some v ∧ Below W.heap.size W w' :=
  ⟨(hb.cell (Nat.lt_of_lt_of_le h0 h.2.2.size)).trans h.1, (hb.cell (Nat.lt_of_lt_of_le h1 h.2.2.size)).trans h.2.1, h.2.2.trans (hb.mono h.2.2.size)⟩

namespace Cal
theorem over_law {a b c d h : Int} (hp : 0 ≤ a ∧ a < b ∧ b ≤ 876600) (hq : 0 ≤ c ∧ c < d ∧ d ≤ 876600) :
    (ct a b h = true ∧ ct c d h = true ∧ ct (ovA a b c d) (ovB a b c d) h = true ∧ ovOk a b c d = true ∧ vp (ovA a b c d) (ovB a b c d) = true) ∨
    (ct a b h = false ∧ ct (ovA a b c d) (ovB a b c d) h = false ∧ ovOk a b c d = true ∧ vp (ovA a b c d) (ovB a b c d) = true) ∨
    (ct a b h = false ∧ ct (ovA a b c d) (ovB a b c d) h = false ∧ ovOk a b c d = false ∧ vp (ovA a b c d) (ovB a b c d) = false) ∨
    (ct a b h = true ∧ ct c d h = false ∧ ct (ovA a b c d) (ovB a b c d) h = false ∧ ovOk a b c d = true ∧ vp (ovA a b c d) (ovB a b c d) = true) ∨
    (ct a b h = true ∧ ct c d h = false ∧ ct (ovA a b c d) (ovB a b c d) h = false ∧ ovOk a b c d = false ∧ vp (ovA a b c d) (ovB a b c d) = false) := by
  have ctt : ∀ {x y : Int}, (0 ≤ x ∧ x < y ∧ y ≤ 876600) → x ≤ h → h < y → ct x y h = true := fun v q r => by simp [ct, vp_t v, q, r]
  have ctf : ∀ {x y : Int}, ¬ (x ≤ h ∧ h < y) → ct x y h = false := fun v => by simp [ct]; omega
  by_cases q : max a c < min b d
  · obtain ⟨o1, o2, o3⟩ := ov_t ⟨hp, hq, q⟩
    rw [o1, o2, o3]
    have v : vp (max a c) (min b d) = true := vp_t ⟨by omega, q, by omega⟩
    rw [v]
    by_cases h1 : a ≤ h ∧ h < b
    · by_cases h2 : c ≤ h ∧ h < d
      · exact .inl ⟨ctt hp h1.1 h1.2, ctt hq h2.1 h2.2, ctt ⟨by omega, q, by omega⟩ (by omega) (by omega), rfl, rfl⟩
      · exact .inr (.inr (.inr (.inl ⟨ctt hp h1.1 h1.2, ctf h2, ctf (by omega), rfl, rfl⟩)))
    · exact .inr (.inl ⟨ctf h1, ctf (by omega), rfl, rfl⟩)
  · obtain ⟨o1, o2, o3⟩ := ov_f (a := a) (b := b) (c := c) (d := d) (fun z => q z.2.2)
    rw [o1, o2, o3]
    have v : vp 0 0 = false := by decide
    rw [v]
    by_cases h1 : a ≤ h ∧ h < b
    · exact .inr (.inr (.inr (.inr ⟨ctt hp h1.1 h1.2, ctf (by omega), ctf (by omega), rfl, rfl⟩)))
    · exact .inr (.inr (.inl ⟨ctf h1, ctf (by omega), rfl, rfl⟩))
end Cal
set_option maxHeartbeats 2000000 in
set_option maxRecDepth 100000 in
theorem law_periods (a b c d n : Int) (al : Option Addr) (len cap : Nat) (w0 : World) (hT : Tab w0) (hB : 0 < w0.heap.size) (hD : ∀ (w : World) (t : TypeId), w0.heap.size ≤ w.heap.size → (∀ k, k < w0.heap.size → w.heap[k]? = w0.heap[k]?) → DeckOk (w.alloc (.cells #[.slice al len cap, .int .i64 0] t)) w.heap.size) :
    Calls Tryd.prog 5 #[.agg #[.int .i64 a, .int .i64 b], .agg #[.int .i64 c, .int .i64 d], .slice al len cap, .int .i64 n] w0 fun e w' => e = .returned (.bool true) ∧ Below w0.heap.size w0 w' := by
  have HD := Lib.hid hD
  clear hD
  go_enter Tryd.func5, Tryd.ntmps5
  go_wp2
  have Q0 := Lib.hid (Below.refl w0.heap.size w0)
  have hT0 := hT
  have hB0 := hB
  have Q1 := Lib.hid (Below.trans Q0.out (show Below w0.heap.size w0 ((w0.alloc (.cells #[.int .i64 a, .int .i64 b] 38)).alloc (.cells #[.int .i64 c, .int .i64 d] 38)) from (by repeat' (first | (with_reducible exact Below.refl _ _) | (with_reducible assumption) | (with_reducible refine below_drewN ?_ _) | (with_reducible refine Below.alloc ?_ ?_ _) | (with_reducible refine Below.drew ?_) | (with_reducible refine Below.setCell ?_ ?_ _) | go_size))))
  have hq1 : w0.heap.size ≤ ((w0.alloc (.cells #[.int .i64 a, .int .i64 b] 38)).alloc (.cells #[.int .i64 c, .int .i64 d] 38)).heap.size := Q1.out.size
  have hB1 : 0 < ((w0.alloc (.cells #[.int .i64 a, .int .i64 b] 38)).alloc (.cells #[.int .i64 c, .int .i64 d] 38)).heap.size := Nat.lt_of_lt_of_le hB Q1.out.size
  have hT1 : Tab ((w0.alloc (.cells #[.int .i64 a, .int .i64 b] 38)).alloc (.cells #[.int .i64 c, .int .i64 d] 38)) := hT.below Q1.out hB
  have hl1_0 : w0.heap.size < ((w0.alloc (.cells #[.int .i64 a, .int .i64 b] 38)).alloc (.cells #[.int .i64 c, .int .i64 d] 38)).heap.size := by simp; try omega
  have hm1_0 : w0.heap.size ≤ ((w0.alloc (.cells #[.int .i64 a, .int .i64 b] 38)).alloc (.cells #[.int .i64 c, .int .i64 d] 38)).heap.size := Nat.le_of_lt hl1_0
  have c1_0_0 : ((w0.alloc (.cells #[.int .i64 a, .int .i64 b] 38)).alloc (.cells #[.int .i64 c, .int .i64 d] 38)).cell? ⟨w0.heap.size, 0, none⟩ = some (.int .i64 a) := by simp [go_sem, *]
  have f1_0_0 : ((w0.alloc (.cells #[.int .i64 a, .int .i64 b] 38)).alloc (.cells #[.int .i64 c, .int .i64 d] 38)).frozen? ⟨w0.heap.size, 0, none⟩ = false := by simp [go_sem, *]
  have c1_0_1 : ((w0.alloc (.cells #[.int .i64 a, .int .i64 b] 38)).alloc (.cells #[.int .i64 c, .int .i64 d] 38)).cell? ⟨w0.heap.size, 1, none⟩ = some (.int .i64 b) := by simp [go_sem, *]
  have f1_0_1 : ((w0.alloc (.cells #[.int .i64 a, .int .i64 b] 38)).alloc (.cells #[.int .i64 c, .int .i64 d] 38)).frozen? ⟨w0.heap.size, 1, none⟩ = false := by simp [go_sem, *]
  have hl1_1 : w0.heap.size + 1 < ((w0.alloc (.cells #[.int .i64 a, .int .i64 b] 38)).alloc (.cells #[.int .i64 c, .int .i64 d] 38)).heap.size := by simp; try omega
  have hm1_1 : w0.heap.size + 1 ≤ ((w0.alloc (.cells #[.int .i64 a, .int .i64 b] 38)).alloc (.cells #[.int .i64 c, .int .i64 d] 38)).heap.size := Nat.le_of_lt hl1_1
  have c1_1_0 : ((w0.alloc (.cells #[.int .i64 a, .int .i64 b] 38)).alloc (.cells #[.int .i64 c, .int .i64 d] 38)).cell? ⟨w0.heap.size + 1, 0, none⟩ = some (.int .i64 c) := by simp [go_sem, *]
  have f1_1_0 : ((w0.alloc (.cells #[.int .i64 a, .int .i64 b] 38)).alloc (.cells #[.int .i64 c, .int .i64 d] 38)).frozen? ⟨w0.heap.size + 1, 0, none⟩ = false := by simp [go_sem, *]
  have c1_1_1 : ((w0.alloc (.cells #[.int .i64 a, .int .i64 b] 38)).alloc (.cells #[.int .i64 c, .int .i64 d] 38)).cell? ⟨w0.heap.size + 1, 1, none⟩ = some (.int .i64 d) := by simp [go_sem, *]
  have f1_1_1 : ((w0.alloc (.cells #[.int .i64 a, .int .i64 b] 38)).alloc (.cells #[.int .i64 c, .int .i64 d] 38)).frozen? ⟨w0.heap.size + 1, 1, none⟩ = false := by simp [go_sem, *]
  generalize (w0.alloc (.cells #[.int .i64 a, .int .i64 b] 38)).alloc (.cells #[.int .i64 c, .int .i64 d] 38) = w1 at *
  go_region_held3 (fun w' => w'.cell? ⟨w0.heap.size, 0, none⟩ = some (.int .i64 a) ∧ w'.cell? ⟨w0.heap.size, 1, none⟩ = some (.int .i64 b) ∧ Below w1.heap.size w1 w') (first | exact ⟨c1_0_0, c1_0_1, (Below.refl _ _).drew⟩ | exact keepTwo hl1_0 hl1_0 (by assumption) hb5 | exact keepTwo hl1_0 hl1_0 (by assumption) hb4 | exact keepTwo hl1_0 hl1_0 (by assumption) hb3 | exact keepTwo hl1_0 hl1_0 (by assumption) hb2) (first | (go_at_call 21; ((with_reducible refine (valid_any a b _).mono ?_); rintro e w2 ⟨rfl, hb2⟩)) | (go_at_call 22; ((with_reducible refine (rvalid_any a b _).mono ?_); rintro e w3 ⟨rfl, hb3⟩)) | (go_at_call 23; ((with_reducible refine (contains_any a b n _ (by have hs := Below.size hb3; have hs2 := Below.size hb2; simp only [World.size_drew] at hs2; omega)).mono ?_); rintro e w4 ⟨rfl, hb4⟩)) | (go_at_call 24; ((with_reducible refine (rcontains_any a b n _ (by have hs := Below.size hb3; have hs2 := Below.size hb2; have hs4 := Below.size hb4; simp only [World.size_drew] at hs2; omega)).mono ?_); rintro e w5 ⟨rfl, hb5⟩)))
  have g2 : Below w1.heap.size w1 w2 := (Below.refl _ _).drew.trans hb2
  have g3 := g2.trans (hb3.mono g2.size)
  have g4 := g3.trans (hb4.mono g3.size)
  have g5 := g4.trans (hb5.mono g4.size)
  have Q5 := Lib.hid (Q1.out.trans (g5.mono hq1))
  have hq5 : w0.heap.size ≤ w5.heap.size := Q5.out.size
  have hz5 : w1.heap.size ≤ w5.heap.size := g5.size
  have hB5 : 0 < w5.heap.size := Nat.lt_of_lt_of_le hB Q5.out.size
  have hT5 : Tab w5 := hT.below Q5.out hB
  have hl5_0 : w0.heap.size < w5.heap.size := by omega
  have hm5_0 : w0.heap.size ≤ w5.heap.size := by omega
  have c5_0_0 : w5.cell? ⟨w0.heap.size, 0, none⟩ = some (.int .i64 a) := (g5.cell (p := ⟨w0.heap.size, 0, none⟩) hl1_0).trans c1_0_0
  have f5_0_0 : w5.frozen? ⟨w0.heap.size, 0, none⟩ = false := (g5.frozen (p := ⟨w0.heap.size, 0, none⟩) hl1_0).trans f1_0_0
  have c5_0_1 : w5.cell? ⟨w0.heap.size, 1, none⟩ = some (.int .i64 b) := (g5.cell (p := ⟨w0.heap.size, 1, none⟩) hl1_0).trans c1_0_1
  have f5_0_1 : w5.frozen? ⟨w0.heap.size, 1, none⟩ = false := (g5.frozen (p := ⟨w0.heap.size, 1, none⟩) hl1_0).trans f1_0_1
  have hl5_1 : w0.heap.size + 1 < w5.heap.size := by omega
  have hm5_1 : w0.heap.size + 1 ≤ w5.heap.size := by omega
  have c5_1_0 : w5.cell? ⟨w0.heap.size + 1, 0, none⟩ = some (.int .i64 c) := (g5.cell (p := ⟨w0.heap.size + 1, 0, none⟩) hl1_1).trans c1_1_0
  have f5_1_0 : w5.frozen? ⟨w0.heap.size + 1, 0, none⟩ = false := (g5.frozen (p := ⟨w0.heap.size + 1, 0, none⟩) hl1_1).trans f1_1_0
  have c5_1_1 : w5.cell? ⟨w0.heap.size + 1, 1, none⟩ = some (.int .i64 d) := (g5.cell (p := ⟨w0.heap.size + 1, 1, none⟩) hl1_1).trans c1_1_1
  have f5_1_1 : w5.frozen? ⟨w0.heap.size + 1, 1, none⟩ = false := (g5.frozen (p := ⟨w0.heap.size + 1, 1, none⟩) hl1_1).trans f1_1_1
  clear g2 g3 g4 g5 hb2 hb3 hb4 hb5
  go_wp2_with fail
  refine (overlap_any a b c d _ (by exact Nat.lt_of_lt_of_le hB (Below.size (Below.trans Q5.out (by repeat' (first | (with_reducible exact Below.refl _ _) | (with_reducible assumption) | (with_reducible refine below_drewN ?_ _) | (with_reducible refine Below.alloc ?_ ?_ _) | (with_reducible refine Below.drew ?_) | (with_reducible refine Below.setCell ?_ ?_ _) | go_size)))))).mono ?_
  rintro e w6 ⟨rfl, hb6⟩
  have Q6 := Lib.hid (chain Q5.out (by repeat' (first | (with_reducible exact Below.refl _ _) | (with_reducible assumption) | (with_reducible refine below_drewN ?_ _) | (with_reducible refine Below.alloc ?_ ?_ _) | (with_reducible refine Below.drew ?_) | (with_reducible refine Below.setCell ?_ ?_ _) | go_size)) hb6)
  have hq6 : w0.heap.size ≤ w6.heap.size := Q6.out.size
  have hz6 := hb6.size
  try simp only [World.size_alloc, World.size_setCell, World.size_drew] at hz6
  have hB6 : 0 < w6.heap.size := Nat.lt_of_lt_of_le hB (Q6.out.size)
  have hT6 : Tab w6 := hT.below Q6.out hB
  have hl6_0 : w0.heap.size < w6.heap.size := by omega
  have hm6_0 : w0.heap.size ≤ w6.heap.size := by omega
  have c6_0_0 : w6.cell? ⟨w0.heap.size, 0, none⟩ = some (.int .i64 a) := by rw [hb6.cell (p := ⟨w0.heap.size, 0, none⟩) (by simp; try omega)]; simp [go_sem, *]
  have f6_0_0 : w6.frozen? ⟨w0.heap.size, 0, none⟩ = false := by rw [hb6.frozen (p := ⟨w0.heap.size, 0, none⟩) (by simp; try omega)]; simp [go_sem, *]
  have c6_0_1 : w6.cell? ⟨w0.heap.size, 1, none⟩ = some (.int .i64 b) := by rw [hb6.cell (p := ⟨w0.heap.size, 1, none⟩) (by simp; try omega)]; simp [go_sem, *]
  have f6_0_1 : w6.frozen? ⟨w0.heap.size, 1, none⟩ = false := by rw [hb6.frozen (p := ⟨w0.heap.size, 1, none⟩) (by simp; try omega)]; simp [go_sem, *]
  have hl6_1 : w0.heap.size + 1 < w6.heap.size := by omega
  have hm6_1 : w0.heap.size + 1 ≤ w6.heap.size := by omega
  have c6_1_0 : w6.cell? ⟨w0.heap.size + 1, 0, none⟩ = some (.int .i64 c) := by rw [hb6.cell (p := ⟨w0.heap.size + 1, 0, none⟩) (by simp; try omega)]; simp [go_sem, *]
  have f6_1_0 : w6.frozen? ⟨w0.heap.size + 1, 0, none⟩ = false := by rw [hb6.frozen (p := ⟨w0.heap.size + 1, 0, none⟩) (by simp; try omega)]; simp [go_sem, *]
  have c6_1_1 : w6.cell? ⟨w0.heap.size + 1, 1, none⟩ = some (.int .i64 d) := by rw [hb6.cell (p := ⟨w0.heap.size + 1, 1, none⟩) (by simp; try omega)]; simp [go_sem, *]
  have f6_1_1 : w6.frozen? ⟨w0.heap.size + 1, 1, none⟩ = false := by rw [hb6.frozen (p := ⟨w0.heap.size + 1, 1, none⟩) (by simp; try omega)]; simp [go_sem, *]
  clear hb6
  go_wp2_with fail
  refine (roverlap_any a b c d _ (by exact Nat.lt_of_lt_of_le hB (Below.size (Below.trans Q6.out (by repeat' (first | (with_reducible exact Below.refl _ _) | (with_reducible assumption) | (with_reducible refine below_drewN ?_ _) | (with_reducible refine Below.alloc ?_ ?_ _) | (with_reducible refine Below.drew ?_) | (with_reducible refine Below.setCell ?_ ?_ _) | go_size)))))).mono ?_
  rintro e w7 ⟨rfl, hb7⟩
  have Q7 := Lib.hid (chain Q6.out (by repeat' (first | (with_reducible exact Below.refl _ _) | (with_reducible assumption) | (with_reducible refine below_drewN ?_ _) | (with_reducible refine Below.alloc ?_ ?_ _) | (with_reducible refine Below.drew ?_) | (with_reducible refine Below.setCell ?_ ?_ _) | go_size)) hb7)
  have hq7 : w0.heap.size ≤ w7.heap.size := Q7.out.size
  have hz7 := hb7.size
  try simp only [World.size_alloc, World.size_setCell, World.size_drew] at hz7
  have hB7 : 0 < w7.heap.size := Nat.lt_of_lt_of_le hB (Q7.out.size)
  have hT7 : Tab w7 := hT.below Q7.out hB
  have hl7_0 : w0.heap.size < w7.heap.size := by omega
  have hm7_0 : w0.heap.size ≤ w7.heap.size := by omega
  have c7_0_0 : w7.cell? ⟨w0.heap.size, 0, none⟩ = some (.int .i64 a) := by rw [hb7.cell (p := ⟨w0.heap.size, 0, none⟩) (by simp; try omega)]; simp [go_sem, *]
  have f7_0_0 : w7.frozen? ⟨w0.heap.size, 0, none⟩ = false := by rw [hb7.frozen (p := ⟨w0.heap.size, 0, none⟩) (by simp; try omega)]; simp [go_sem, *]
  have c7_0_1 : w7.cell? ⟨w0.heap.size, 1, none⟩ = some (.int .i64 b) := by rw [hb7.cell (p := ⟨w0.heap.size, 1, none⟩) (by simp; try omega)]; simp [go_sem, *]
  have f7_0_1 : w7.frozen? ⟨w0.heap.size, 1, none⟩ = false := by rw [hb7.frozen (p := ⟨w0.heap.size, 1, none⟩) (by simp; try omega)]; simp [go_sem, *]
  have hl7_1 : w0.heap.size + 1 < w7.heap.size := by omega
  have hm7_1 : w0.heap.size + 1 ≤ w7.heap.size := by omega
  have c7_1_0 : w7.cell? ⟨w0.heap.size + 1, 0, none⟩ = some (.int .i64 c) := by rw [hb7.cell (p := ⟨w0.heap.size + 1, 0, none⟩) (by simp; try omega)]; simp [go_sem, *]
  have f7_1_0 : w7.frozen? ⟨w0.heap.size + 1, 0, none⟩ = false := by rw [hb7.frozen (p := ⟨w0.heap.size + 1, 0, none⟩) (by simp; try omega)]; simp [go_sem, *]
  have c7_1_1 : w7.cell? ⟨w0.heap.size + 1, 1, none⟩ = some (.int .i64 d) := by rw [hb7.cell (p := ⟨w0.heap.size + 1, 1, none⟩) (by simp; try omega)]; simp [go_sem, *]
  have f7_1_1 : w7.frozen? ⟨w0.heap.size + 1, 1, none⟩ = false := by rw [hb7.frozen (p := ⟨w0.heap.size + 1, 1, none⟩) (by simp; try omega)]; simp [go_sem, *]
  have hl7_2 : w6.heap.size < w7.heap.size := by omega
  have hm7_2 : w6.heap.size ≤ w7.heap.size := by omega
  have c7_2_0 : w7.cell? ⟨w6.heap.size, 0, none⟩ = some (.int .i64 (Cal.ovA a b c d)) := by rw [hb7.cell (p := ⟨w6.heap.size, 0, none⟩) (by simp; try omega)]; simp [go_sem, *]
  have f7_2_0 : w7.frozen? ⟨w6.heap.size, 0, none⟩ = false := by rw [hb7.frozen (p := ⟨w6.heap.size, 0, none⟩) (by simp; try omega)]; simp [go_sem, *]
  have c7_2_1 : w7.cell? ⟨w6.heap.size, 1, none⟩ = some (.int .i64 (Cal.ovB a b c d)) := by rw [hb7.cell (p := ⟨w6.heap.size, 1, none⟩) (by simp; try omega)]; simp [go_sem, *]
  have f7_2_1 : w7.frozen? ⟨w6.heap.size, 1, none⟩ = false := by rw [hb7.frozen (p := ⟨w6.heap.size, 1, none⟩) (by simp; try omega)]; simp [go_sem, *]
  clear hb7
  go_wp2_with fail
  refine (new_any al len cap _).mono ?_
  rintro e w' ⟨rfl, rfl⟩
  go_wp2_with fail
  have HD8 := Lib.hid (show DeckOk ((w7.alloc (.cells #[.int .i64 (Cal.ovA a b c d), .int .i64 (Cal.ovB a b c d)] 38)).alloc (.cells #[.slice al len cap, .int .i64 0] 71)) (w7.heap.size + 1) by have hx := HD.out (w7.alloc (.cells #[.int .i64 (Cal.ovA a b c d), .int .i64 (Cal.ovB a b c d)] 38)) 71 (by simp; omega) (fun k hk => by rw [Below.heap_alloc _ _ _ (by omega)]; exact Q7.out.block k hk); simpa using hx)
  have hz8 : w7.heap.size + 1 < ((w7.alloc (.cells #[.int .i64 (Cal.ovA a b c d), .int .i64 (Cal.ovB a b c d)] 38)).alloc (.cells #[.slice al len cap, .int .i64 0] 71)).heap.size := by simp
  have Q8 := Lib.hid (Below.trans Q7.out (show Below w0.heap.size w7 ((w7.alloc (.cells #[.int .i64 (Cal.ovA a b c d), .int .i64 (Cal.ovB a b c d)] 38)).alloc (.cells #[.slice al len cap, .int .i64 0] 71)) from (by repeat' (first | (with_reducible exact Below.refl _ _) | (with_reducible assumption) | (with_reducible refine below_drewN ?_ _) | (with_reducible refine Below.alloc ?_ ?_ _) | (with_reducible refine Below.drew ?_) | (with_reducible refine Below.setCell ?_ ?_ _) | go_size))))
  have hq8 : w0.heap.size ≤ ((w7.alloc (.cells #[.int .i64 (Cal.ovA a b c d), .int .i64 (Cal.ovB a b c d)] 38)).alloc (.cells #[.slice al len cap, .int .i64 0] 71)).heap.size := Q8.out.size
  have hB8 : 0 < ((w7.alloc (.cells #[.int .i64 (Cal.ovA a b c d), .int .i64 (Cal.ovB a b c d)] 38)).alloc (.cells #[.slice al len cap, .int .i64 0] 71)).heap.size := Nat.lt_of_lt_of_le hB Q8.out.size
  have hT8 : Tab ((w7.alloc (.cells #[.int .i64 (Cal.ovA a b c d), .int .i64 (Cal.ovB a b c d)] 38)).alloc (.cells #[.slice al len cap, .int .i64 0] 71)) := hT.below Q8.out hB
  generalize (w7.alloc (.cells #[.int .i64 (Cal.ovA a b c d), .int .i64 (Cal.ovB a b c d)] 38)).alloc (.cells #[.slice al len cap, .int .i64 0] 71) = w8 at *
  go_wp2_with fail
  refine (dperiod_any _ _ HD8.out).mono ?_
  rintro e w9 ⟨x0, x1, rfl, x00, x01, x02, hd9, hg9⟩
  have HD9 := Lib.hid hd9
  have Q9 := Lib.hid (Below.grown Q8.out hg9 hq8 (fun k hk => by cases hk; omega))
  have hq9 : w0.heap.size ≤ w9.heap.size := Q9.out.size
  have hz9 := hg9.size
  have hB9 : 0 < w9.heap.size := Nat.lt_of_lt_of_le hB Q9.out.size
  have hT9 : Tab w9 := hT.below Q9.out hB
  clear hd9 hg9
  go_wp2_with fail
  refine (dperiod_any _ _ HD9.out).mono ?_
  rintro e w10 ⟨y0, y1, rfl, y00, y01, y02, hd10, hg10⟩
  have HD10 := Lib.hid hd10
  have Q10 := Lib.hid (Below.grown Q9.out hg10 hq9 (fun k hk => by cases hk; omega))
  have hq10 : w0.heap.size ≤ w10.heap.size := Q10.out.size
  have hz10 := hg10.size
  have hB10 : 0 < w10.heap.size := Nat.lt_of_lt_of_le hB Q10.out.size
  have hT10 : Tab w10 := hT.below Q10.out hB
  clear hd10 hg10
  go_wp2_with fail
  refine (dhour_any _ _ HD10.out).mono ?_
  rintro e w11 ⟨h, rfl, h00, h01, hd11, hg11⟩
  have HD11 := Lib.hid hd11
  have Q11 := Lib.hid (Below.grown Q10.out hg11 hq10 (fun k hk => by cases hk; omega))
  have hq11 : w0.heap.size ≤ w11.heap.size := Q11.out.size
  have hz11 := hg11.size
  have hB11 : 0 < w11.heap.size := Nat.lt_of_lt_of_le hB Q11.out.size
  have hT11 : Tab w11 := hT.below Q11.out hB
  clear hd11 hg11
  have HL := Lib.hid (Cal.over_law ⟨x00, x01, x02⟩ ⟨y00, y01, y02⟩ (h := h))
  go_wp2_with fail
  refine (overlap_any x0 x1 y0 y1 _ (by exact Nat.lt_of_lt_of_le hB (Below.size (Below.trans Q11.out (by repeat' (first | (with_reducible exact Below.refl _ _) | (with_reducible assumption) | (with_reducible refine below_drewN ?_ _) | (with_reducible refine Below.alloc ?_ ?_ _) | (with_reducible refine Below.drew ?_) | (with_reducible refine Below.setCell ?_ ?_ _) | go_size)))))).mono ?_
  rintro e w12 ⟨rfl, hb12⟩
  have Q12 := Lib.hid (chain Q11.out (by repeat' (first | (with_reducible exact Below.refl _ _) | (with_reducible assumption) | (with_reducible refine below_drewN ?_ _) | (with_reducible refine Below.alloc ?_ ?_ _) | (with_reducible refine Below.drew ?_) | (with_reducible refine Below.setCell ?_ ?_ _) | go_size)) hb12)
  have hq12 : w0.heap.size ≤ w12.heap.size := Q12.out.size
  have hz12 := hb12.size
  try simp only [World.size_alloc, World.size_setCell, World.size_drew] at hz12
  have hB12 : 0 < w12.heap.size := Nat.lt_of_lt_of_le hB (Q12.out.size)
  have hT12 : Tab w12 := hT.below Q12.out hB
  have hl12_0 : w11.heap.size < w12.heap.size := by omega
  have hm12_0 : w11.heap.size ≤ w12.heap.size := by omega
  have c12_0_0 : w12.cell? ⟨w11.heap.size, 0, none⟩ = some (.int .i64 x0) := by rw [hb12.cell (p := ⟨w11.heap.size, 0, none⟩) (by simp; try omega)]; simp [go_sem, *]
  have f12_0_0 : w12.frozen? ⟨w11.heap.size, 0, none⟩ = false := by rw [hb12.frozen (p := ⟨w11.heap.size, 0, none⟩) (by simp; try omega)]; simp [go_sem, *]
  have c12_0_1 : w12.cell? ⟨w11.heap.size, 1, none⟩ = some (.int .i64 x1) := by rw [hb12.cell (p := ⟨w11.heap.size, 1, none⟩) (by simp; try omega)]; simp [go_sem, *]
  have f12_0_1 : w12.frozen? ⟨w11.heap.size, 1, none⟩ = false := by rw [hb12.frozen (p := ⟨w11.heap.size, 1, none⟩) (by simp; try omega)]; simp [go_sem, *]
  have hl12_1 : w11.heap.size + 1 < w12.heap.size := by omega
  have hm12_1 : w11.heap.size + 1 ≤ w12.heap.size := by omega
  have c12_1_0 : w12.cell? ⟨w11.heap.size + 1, 0, none⟩ = some (.int .i64 y0) := by rw [hb12.cell (p := ⟨w11.heap.size + 1, 0, none⟩) (by simp; try omega)]; simp [go_sem, *]
  have f12_1_0 : w12.frozen? ⟨w11.heap.size + 1, 0, none⟩ = false := by rw [hb12.frozen (p := ⟨w11.heap.size + 1, 0, none⟩) (by simp; try omega)]; simp [go_sem, *]
  have c12_1_1 : w12.cell? ⟨w11.heap.size + 1, 1, none⟩ = some (.int .i64 y1) := by rw [hb12.cell (p := ⟨w11.heap.size + 1, 1, none⟩) (by simp; try omega)]; simp [go_sem, *]
  have f12_1_1 : w12.frozen? ⟨w11.heap.size + 1, 1, none⟩ = false := by rw [hb12.frozen (p := ⟨w11.heap.size + 1, 1, none⟩) (by simp; try omega)]; simp [go_sem, *]
  clear hb12
  rcases HL.out with ⟨e1, e2, e3, e4, e5⟩ | ⟨e1, e3, e4, e5⟩ | ⟨e1, e3, e4, e5⟩ | ⟨e1, e2, e3, e4, e5⟩ | ⟨e1, e2, e3, e4, e5⟩
  · go_wp2_with fail
    skip
    skip
    refine (contains_any x0 x1 h _ (by exact Nat.lt_of_lt_of_le hB (Below.size (Below.trans Q12.out (by repeat' (first | (with_reducible exact Below.refl _ _) | (with_reducible assumption) | (with_reducible refine below_drewN ?_ _) | (with_reducible refine Below.alloc ?_ ?_ _) | (with_reducible refine Below.drew ?_) | (with_reducible refine Below.setCell ?_ ?_ _) | go_size)))))).mono ?_
    rintro e w13 ⟨rfl, hb13⟩
    have Q13 := Lib.hid (chain Q12.out (by repeat' (first | (with_reducible exact Below.refl _ _) | (with_reducible assumption) | (with_reducible refine below_drewN ?_ _) | (with_reducible refine Below.alloc ?_ ?_ _) | (with_reducible refine Below.drew ?_) | (with_reducible refine Below.setCell ?_ ?_ _) | go_size)) hb13)
    have hq13 : w0.heap.size ≤ w13.heap.size := Q13.out.size
    have hz13 := hb13.size
    try simp only [World.size_alloc, World.size_setCell, World.size_drew] at hz13
    have hB13 : 0 < w13.heap.size := Nat.lt_of_lt_of_le hB (Q13.out.size)
    have hT13 : Tab w13 := hT.below Q13.out hB
    have hl13_0 : w11.heap.size < w13.heap.size := by omega
    have hm13_0 : w11.heap.size ≤ w13.heap.size := by omega
    have c13_0_0 : w13.cell? ⟨w11.heap.size, 0, none⟩ = some (.int .i64 x0) := by rw [hb13.cell (p := ⟨w11.heap.size, 0, none⟩) (by simp; try omega)]; simp [go_sem, *]
    have f13_0_0 : w13.frozen? ⟨w11.heap.size, 0, none⟩ = false := by rw [hb13.frozen (p := ⟨w11.heap.size, 0, none⟩) (by simp; try omega)]; simp [go_sem, *]
    have c13_0_1 : w13.cell? ⟨w11.heap.size, 1, none⟩ = some (.int .i64 x1) := by rw [hb13.cell (p := ⟨w11.heap.size, 1, none⟩) (by simp; try omega)]; simp [go_sem, *]
    have f13_0_1 : w13.frozen? ⟨w11.heap.size, 1, none⟩ = false := by rw [hb13.frozen (p := ⟨w11.heap.size, 1, none⟩) (by simp; try omega)]; simp [go_sem, *]
    have hl13_1 : w11.heap.size + 1 < w13.heap.size := by omega
    have hm13_1 : w11.heap.size + 1 ≤ w13.heap.size := by omega
    have c13_1_0 : w13.cell? ⟨w11.heap.size + 1, 0, none⟩ = some (.int .i64 y0) := by rw [hb13.cell (p := ⟨w11.heap.size + 1, 0, none⟩) (by simp; try omega)]; simp [go_sem, *]
    have f13_1_0 : w13.frozen? ⟨w11.heap.size + 1, 0, none⟩ = false := by rw [hb13.frozen (p := ⟨w11.heap.size + 1, 0, none⟩) (by simp; try omega)]; simp [go_sem, *]
    have c13_1_1 : w13.cell? ⟨w11.heap.size + 1, 1, none⟩ = some (.int .i64 y1) := by rw [hb13.cell (p := ⟨w11.heap.size + 1, 1, none⟩) (by simp; try omega)]; simp [go_sem, *]
    have f13_1_1 : w13.frozen? ⟨w11.heap.size + 1, 1, none⟩ = false := by rw [hb13.frozen (p := ⟨w11.heap.size + 1, 1, none⟩) (by simp; try omega)]; simp [go_sem, *]
    have hl13_2 : w12.heap.size < w13.heap.size := by omega
    have hm13_2 : w12.heap.size ≤ w13.heap.size := by omega
    have c13_2_0 : w13.cell? ⟨w12.heap.size, 0, none⟩ = some (.int .i64 (Cal.ovA x0 x1 y0 y1)) := by rw [hb13.cell (p := ⟨w12.heap.size, 0, none⟩) (by simp; try omega)]; simp [go_sem, *]
    have f13_2_0 : w13.frozen? ⟨w12.heap.size, 0, none⟩ = false := by rw [hb13.frozen (p := ⟨w12.heap.size, 0, none⟩) (by simp; try omega)]; simp [go_sem, *]
    have c13_2_1 : w13.cell? ⟨w12.heap.size, 1, none⟩ = some (.int .i64 (Cal.ovB x0 x1 y0 y1)) := by rw [hb13.cell (p := ⟨w12.heap.size, 1, none⟩) (by simp; try omega)]; simp [go_sem, *]
    have f13_2_1 : w13.frozen? ⟨w12.heap.size, 1, none⟩ = false := by rw [hb13.frozen (p := ⟨w12.heap.size, 1, none⟩) (by simp; try omega)]; simp [go_sem, *]
    clear hb13
    go_wp2_with fail
    refine (contains_any y0 y1 h _ (by exact Nat.lt_of_lt_of_le hB (Below.size (Below.trans Q13.out (by repeat' (first | (with_reducible exact Below.refl _ _) | (with_reducible assumption) | (with_reducible refine below_drewN ?_ _) | (with_reducible refine Below.alloc ?_ ?_ _) | (with_reducible refine Below.drew ?_) | (with_reducible refine Below.setCell ?_ ?_ _) | go_size)))))).mono ?_
    rintro e w14 ⟨rfl, hb14⟩
    have Q14 := Lib.hid (chain Q13.out (by repeat' (first | (with_reducible exact Below.refl _ _) | (with_reducible assumption) | (with_reducible refine below_drewN ?_ _) | (with_reducible refine Below.alloc ?_ ?_ _) | (with_reducible refine Below.drew ?_) | (with_reducible refine Below.setCell ?_ ?_ _) | go_size)) hb14)
    have hq14 : w0.heap.size ≤ w14.heap.size := Q14.out.size
    have hz14 := hb14.size
    try simp only [World.size_alloc, World.size_setCell, World.size_drew] at hz14
    have hB14 : 0 < w14.heap.size := Nat.lt_of_lt_of_le hB (Q14.out.size)
    have hT14 : Tab w14 := hT.below Q14.out hB
    have hl14_0 : w11.heap.size < w14.heap.size := by omega
    have hm14_0 : w11.heap.size ≤ w14.heap.size := by omega
    have c14_0_0 : w14.cell? ⟨w11.heap.size, 0, none⟩ = some (.int .i64 x0) := by rw [hb14.cell (p := ⟨w11.heap.size, 0, none⟩) (by simp; try omega)]; simp [go_sem, *]
    have f14_0_0 : w14.frozen? ⟨w11.heap.size, 0, none⟩ = false := by rw [hb14.frozen (p := ⟨w11.heap.size, 0, none⟩) (by simp; try omega)]; simp [go_sem, *]
    have c14_0_1 : w14.cell? ⟨w11.heap.size, 1, none⟩ = some (.int .i64 x1) := by rw [hb14.cell (p := ⟨w11.heap.size, 1, none⟩) (by simp; try omega)]; simp [go_sem, *]
    have f14_0_1 : w14.frozen? ⟨w11.heap.size, 1, none⟩ = false := by rw [hb14.frozen (p := ⟨w11.heap.size, 1, none⟩) (by simp; try omega)]; simp [go_sem, *]
    have hl14_1 : w11.heap.size + 1 < w14.heap.size := by omega
    have hm14_1 : w11.heap.size + 1 ≤ w14.heap.size := by omega
    have c14_1_0 : w14.cell? ⟨w11.heap.size + 1, 0, none⟩ = some (.int .i64 y0) := by rw [hb14.cell (p := ⟨w11.heap.size + 1, 0, none⟩) (by simp; try omega)]; simp [go_sem, *]
    have f14_1_0 : w14.frozen? ⟨w11.heap.size + 1, 0, none⟩ = false := by rw [hb14.frozen (p := ⟨w11.heap.size + 1, 0, none⟩) (by simp; try omega)]; simp [go_sem, *]
    have c14_1_1 : w14.cell? ⟨w11.heap.size + 1, 1, none⟩ = some (.int .i64 y1) := by rw [hb14.cell (p := ⟨w11.heap.size + 1, 1, none⟩) (by simp; try omega)]; simp [go_sem, *]
    have f14_1_1 : w14.frozen? ⟨w11.heap.size + 1, 1, none⟩ = false := by rw [hb14.frozen (p := ⟨w11.heap.size + 1, 1, none⟩) (by simp; try omega)]; simp [go_sem, *]
    have hl14_2 : w12.heap.size < w14.heap.size := by omega
    have hm14_2 : w12.heap.size ≤ w14.heap.size := by omega
    have c14_2_0 : w14.cell? ⟨w12.heap.size, 0, none⟩ = some (.int .i64 (Cal.ovA x0 x1 y0 y1)) := by rw [hb14.cell (p := ⟨w12.heap.size, 0, none⟩) (by simp; try omega)]; simp [go_sem, *]
    have f14_2_0 : w14.frozen? ⟨w12.heap.size, 0, none⟩ = false := by rw [hb14.frozen (p := ⟨w12.heap.size, 0, none⟩) (by simp; try omega)]; simp [go_sem, *]
    have c14_2_1 : w14.cell? ⟨w12.heap.size, 1, none⟩ = some (.int .i64 (Cal.ovB x0 x1 y0 y1)) := by rw [hb14.cell (p := ⟨w12.heap.size, 1, none⟩) (by simp; try omega)]; simp [go_sem, *]
    have f14_2_1 : w14.frozen? ⟨w12.heap.size, 1, none⟩ = false := by rw [hb14.frozen (p := ⟨w12.heap.size, 1, none⟩) (by simp; try omega)]; simp [go_sem, *]
    clear hb14
    go_wp2_with fail
    refine (contains_any (Cal.ovA x0 x1 y0 y1) (Cal.ovB x0 x1 y0 y1) h _ (by exact Nat.lt_of_lt_of_le hB (Below.size (Below.trans Q14.out (by repeat' (first | (with_reducible exact Below.refl _ _) | (with_reducible assumption) | (with_reducible refine below_drewN ?_ _) | (with_reducible refine Below.alloc ?_ ?_ _) | (with_reducible refine Below.drew ?_) | (with_reducible refine Below.setCell ?_ ?_ _) | go_size)))))).mono ?_
    rintro e w15 ⟨rfl, hb15⟩
    have Q15 := Lib.hid (chain Q14.out (by repeat' (first | (with_reducible exact Below.refl _ _) | (with_reducible assumption) | (with_reducible refine below_drewN ?_ _) | (with_reducible refine Below.alloc ?_ ?_ _) | (with_reducible refine Below.drew ?_) | (with_reducible refine Below.setCell ?_ ?_ _) | go_size)) hb15)
    have hq15 : w0.heap.size ≤ w15.heap.size := Q15.out.size
    have hz15 := hb15.size
    try simp only [World.size_alloc, World.size_setCell, World.size_drew] at hz15
    have hB15 : 0 < w15.heap.size := Nat.lt_of_lt_of_le hB (Q15.out.size)
    have hT15 : Tab w15 := hT.below Q15.out hB
    have hl15_0 : w11.heap.size < w15.heap.size := by omega
    have hm15_0 : w11.heap.size ≤ w15.heap.size := by omega
    have c15_0_0 : w15.cell? ⟨w11.heap.size, 0, none⟩ = some (.int .i64 x0) := by rw [hb15.cell (p := ⟨w11.heap.size, 0, none⟩) (by simp; try omega)]; simp [go_sem, *]
    have f15_0_0 : w15.frozen? ⟨w11.heap.size, 0, none⟩ = false := by rw [hb15.frozen (p := ⟨w11.heap.size, 0, none⟩) (by simp; try omega)]; simp [go_sem, *]
    have c15_0_1 : w15.cell? ⟨w11.heap.size, 1, none⟩ = some (.int .i64 x1) := by rw [hb15.cell (p := ⟨w11.heap.size, 1, none⟩) (by simp; try omega)]; simp [go_sem, *]
    have f15_0_1 : w15.frozen? ⟨w11.heap.size, 1, none⟩ = false := by rw [hb15.frozen (p := ⟨w11.heap.size, 1, none⟩) (by simp; try omega)]; simp [go_sem, *]
    have hl15_1 : w11.heap.size + 1 < w15.heap.size := by omega
    have hm15_1 : w11.heap.size + 1 ≤ w15.heap.size := by omega
    have c15_1_0 : w15.cell? ⟨w11.heap.size + 1, 0, none⟩ = some (.int .i64 y0) := by rw [hb15.cell (p := ⟨w11.heap.size + 1, 0, none⟩) (by simp; try omega)]; simp [go_sem, *]
    have f15_1_0 : w15.frozen? ⟨w11.heap.size + 1, 0, none⟩ = false := by rw [hb15.frozen (p := ⟨w11.heap.size + 1, 0, none⟩) (by simp; try omega)]; simp [go_sem, *]
    have c15_1_1 : w15.cell? ⟨w11.heap.size + 1, 1, none⟩ = some (.int .i64 y1) := by rw [hb15.cell (p := ⟨w11.heap.size + 1, 1, none⟩) (by simp; try omega)]; simp [go_sem, *]
    have f15_1_1 : w15.frozen? ⟨w11.heap.size + 1, 1, none⟩ = false := by rw [hb15.frozen (p := ⟨w11.heap.size + 1, 1, none⟩) (by simp; try omega)]; simp [go_sem, *]
    have hl15_2 : w12.heap.size < w15.heap.size := by omega
    have hm15_2 : w12.heap.size ≤ w15.heap.size := by omega
    have c15_2_0 : w15.cell? ⟨w12.heap.size, 0, none⟩ = some (.int .i64 (Cal.ovA x0 x1 y0 y1)) := by rw [hb15.cell (p := ⟨w12.heap.size, 0, none⟩) (by simp; try omega)]; simp [go_sem, *]
    have f15_2_0 : w15.frozen? ⟨w12.heap.size, 0, none⟩ = false := by rw [hb15.frozen (p := ⟨w12.heap.size, 0, none⟩) (by simp; try omega)]; simp [go_sem, *]
    have c15_2_1 : w15.cell? ⟨w12.heap.size, 1, none⟩ = some (.int .i64 (Cal.ovB x0 x1 y0 y1)) := by rw [hb15.cell (p := ⟨w12.heap.size, 1, none⟩) (by simp; try omega)]; simp [go_sem, *]
    have f15_2_1 : w15.frozen? ⟨w12.heap.size, 1, none⟩ = false := by rw [hb15.frozen (p := ⟨w12.heap.size, 1, none⟩) (by simp; try omega)]; simp [go_sem, *]
    clear hb15
    go_wp2_with fail
    refine (valid_any (Cal.ovA x0 x1 y0 y1) (Cal.ovB x0 x1 y0 y1) _).mono ?_
    rintro e w16 ⟨rfl, hb16⟩
    have Q16 := Lib.hid (chain Q15.out (by repeat' (first | (with_reducible exact Below.refl _ _) | (with_reducible assumption) | (with_reducible refine below_drewN ?_ _) | (with_reducible refine Below.alloc ?_ ?_ _) | (with_reducible refine Below.drew ?_) | (with_reducible refine Below.setCell ?_ ?_ _) | go_size)) hb16)
    have hq16 : w0.heap.size ≤ w16.heap.size := Q16.out.size
    have hz16 := hb16.size
    try simp only [World.size_alloc, World.size_setCell, World.size_drew] at hz16
    have hB16 : 0 < w16.heap.size := Nat.lt_of_lt_of_le hB (Q16.out.size)
    have hT16 : Tab w16 := hT.below Q16.out hB
    have hl16_0 : w11.heap.size < w16.heap.size := by omega
    have hm16_0 : w11.heap.size ≤ w16.heap.size := by omega
    have c16_0_0 : w16.cell? ⟨w11.heap.size, 0, none⟩ = some (.int .i64 x0) := by rw [hb16.cell (p := ⟨w11.heap.size, 0, none⟩) (by simp; try omega)]; simp [go_sem, *]
    have f16_0_0 : w16.frozen? ⟨w11.heap.size, 0, none⟩ = false := by rw [hb16.frozen (p := ⟨w11.heap.size, 0, none⟩) (by simp; try omega)]; simp [go_sem, *]
    have c16_0_1 : w16.cell? ⟨w11.heap.size, 1, none⟩ = some (.int .i64 x1) := by rw [hb16.cell (p := ⟨w11.heap.size, 1, none⟩) (by simp; try omega)]; simp [go_sem, *]
    have f16_0_1 : w16.frozen? ⟨w11.heap.size, 1, none⟩ = false := by rw [hb16.frozen (p := ⟨w11.heap.size, 1, none⟩) (by simp; try omega)]; simp [go_sem, *]
    have hl16_1 : w11.heap.size + 1 < w16.heap.size := by omega
    have hm16_1 : w11.heap.size + 1 ≤ w16.heap.size := by omega
    have c16_1_0 : w16.cell? ⟨w11.heap.size + 1, 0, none⟩ = some (.int .i64 y0) := by rw [hb16.cell (p := ⟨w11.heap.size + 1, 0, none⟩) (by simp; try omega)]; simp [go_sem, *]
    have f16_1_0 : w16.frozen? ⟨w11.heap.size + 1, 0, none⟩ = false := by rw [hb16.frozen (p := ⟨w11.heap.size + 1, 0, none⟩) (by simp; try omega)]; simp [go_sem, *]
    have c16_1_1 : w16.cell? ⟨w11.heap.size + 1, 1, none⟩ = some (.int .i64 y1) := by rw [hb16.cell (p := ⟨w11.heap.size + 1, 1, none⟩) (by simp; try omega)]; simp [go_sem, *]
    have f16_1_1 : w16.frozen? ⟨w11.heap.size + 1, 1, none⟩ = false := by rw [hb16.frozen (p := ⟨w11.heap.size + 1, 1, none⟩) (by simp; try omega)]; simp [go_sem, *]
    have hl16_2 : w12.heap.size < w16.heap.size := by omega
    have hm16_2 : w12.heap.size ≤ w16.heap.size := by omega
    have c16_2_0 : w16.cell? ⟨w12.heap.size, 0, none⟩ = some (.int .i64 (Cal.ovA x0 x1 y0 y1)) := by rw [hb16.cell (p := ⟨w12.heap.size, 0, none⟩) (by simp; try omega)]; simp [go_sem, *]
    have f16_2_0 : w16.frozen? ⟨w12.heap.size, 0, none⟩ = false := by rw [hb16.frozen (p := ⟨w12.heap.size, 0, none⟩) (by simp; try omega)]; simp [go_sem, *]
    have c16_2_1 : w16.cell? ⟨w12.heap.size, 1, none⟩ = some (.int .i64 (Cal.ovB x0 x1 y0 y1)) := by rw [hb16.cell (p := ⟨w12.heap.size, 1, none⟩) (by simp; try omega)]; simp [go_sem, *]
    have f16_2_1 : w16.frozen? ⟨w12.heap.size, 1, none⟩ = false := by rw [hb16.frozen (p := ⟨w12.heap.size, 1, none⟩) (by simp; try omega)]; simp [go_sem, *]
    clear hb16
    go_wp2_with fail
    refine (awake_any _ (by exact hT.below (Below.trans Q16.out (by repeat' (first | (with_reducible exact Below.refl _ _) | (with_reducible assumption) | (with_reducible refine below_drewN ?_ _) | (with_reducible refine Below.alloc ?_ ?_ _) | (with_reducible refine Below.drew ?_) | (with_reducible refine Below.setCell ?_ ?_ _) | go_size))) hB) (by exact Nat.lt_of_lt_of_le hB (Below.size (Below.trans Q16.out (by repeat' (first | (with_reducible exact Below.refl _ _) | (with_reducible assumption) | (with_reducible refine below_drewN ?_ _) | (with_reducible refine Below.alloc ?_ ?_ _) | (with_reducible refine Below.drew ?_) | (with_reducible refine Below.setCell ?_ ?_ _) | go_size)))))).mono ?_
    rintro e w17 ⟨rfl, hb17⟩
    have Q17 := Lib.hid (chain Q16.out (by repeat' (first | (with_reducible exact Below.refl _ _) | (with_reducible assumption) | (with_reducible refine below_drewN ?_ _) | (with_reducible refine Below.alloc ?_ ?_ _) | (with_reducible refine Below.drew ?_) | (with_reducible refine Below.setCell ?_ ?_ _) | go_size)) hb17)
    have hq17 : w0.heap.size ≤ w17.heap.size := Q17.out.size
    have hz17 := hb17.size
    try simp only [World.size_alloc, World.size_setCell, World.size_drew] at hz17
    have hB17 : 0 < w17.heap.size := Nat.lt_of_lt_of_le hB (Q17.out.size)
    have hT17 : Tab w17 := hT.below Q17.out hB
    have hl17_0 : w11.heap.size < w17.heap.size := by omega
    have hm17_0 : w11.heap.size ≤ w17.heap.size := by omega
    have c17_0_0 : w17.cell? ⟨w11.heap.size, 0, none⟩ = some (.int .i64 x0) := by rw [hb17.cell (p := ⟨w11.heap.size, 0, none⟩) (by simp; try omega)]; simp [go_sem, *]
    have f17_0_0 : w17.frozen? ⟨w11.heap.size, 0, none⟩ = false := by rw [hb17.frozen (p := ⟨w11.heap.size, 0, none⟩) (by simp; try omega)]; simp [go_sem, *]
    have c17_0_1 : w17.cell? ⟨w11.heap.size, 1, none⟩ = some (.int .i64 x1) := by rw [hb17.cell (p := ⟨w11.heap.size, 1, none⟩) (by simp; try omega)]; simp [go_sem, *]
    have f17_0_1 : w17.frozen? ⟨w11.heap.size, 1, none⟩ = false := by rw [hb17.frozen (p := ⟨w11.heap.size, 1, none⟩) (by simp; try omega)]; simp [go_sem, *]
    have hl17_1 : w11.heap.size + 1 < w17.heap.size := by omega
    have hm17_1 : w11.heap.size + 1 ≤ w17.heap.size := by omega
    have c17_1_0 : w17.cell? ⟨w11.heap.size + 1, 0, none⟩ = some (.int .i64 y0) := by rw [hb17.cell (p := ⟨w11.heap.size + 1, 0, none⟩) (by simp; try omega)]; simp [go_sem, *]
    have f17_1_0 : w17.frozen? ⟨w11.heap.size + 1, 0, none⟩ = false := by rw [hb17.frozen (p := ⟨w11.heap.size + 1, 0, none⟩) (by simp; try omega)]; simp [go_sem, *]
    have c17_1_1 : w17.cell? ⟨w11.heap.size + 1, 1, none⟩ = some (.int .i64 y1) := by rw [hb17.cell (p := ⟨w11.heap.size + 1, 1, none⟩) (by simp; try omega)]; simp [go_sem, *]
    have f17_1_1 : w17.frozen? ⟨w11.heap.size + 1, 1, none⟩ = false := by rw [hb17.frozen (p := ⟨w11.heap.size + 1, 1, none⟩) (by simp; try omega)]; simp [go_sem, *]
    have hl17_2 : w12.heap.size < w17.heap.size := by omega
    have hm17_2 : w12.heap.size ≤ w17.heap.size := by omega
    have c17_2_0 : w17.cell? ⟨w12.heap.size, 0, none⟩ = some (.int .i64 (Cal.ovA x0 x1 y0 y1)) := by rw [hb17.cell (p := ⟨w12.heap.size, 0, none⟩) (by simp; try omega)]; simp [go_sem, *]
    have f17_2_0 : w17.frozen? ⟨w12.heap.size, 0, none⟩ = false := by rw [hb17.frozen (p := ⟨w12.heap.size, 0, none⟩) (by simp; try omega)]; simp [go_sem, *]
    have c17_2_1 : w17.cell? ⟨w12.heap.size, 1, none⟩ = some (.int .i64 (Cal.ovB x0 x1 y0 y1)) := by rw [hb17.cell (p := ⟨w12.heap.size, 1, none⟩) (by simp; try omega)]; simp [go_sem, *]
    have f17_2_1 : w17.frozen? ⟨w12.heap.size, 1, none⟩ = false := by rw [hb17.frozen (p := ⟨w12.heap.size, 1, none⟩) (by simp; try omega)]; simp [go_sem, *]
    clear hb17
    go_wp2
    go_ret
    exact ⟨rfl, Q17.out⟩
  · go_wp2_with fail
    skip
    skip
    refine (contains_any x0 x1 h _ (by exact Nat.lt_of_lt_of_le hB (Below.size (Below.trans Q12.out (by repeat' (first | (with_reducible exact Below.refl _ _) | (with_reducible assumption) | (with_reducible refine below_drewN ?_ _) | (with_reducible refine Below.alloc ?_ ?_ _) | (with_reducible refine Below.drew ?_) | (with_reducible refine Below.setCell ?_ ?_ _) | go_size)))))).mono ?_
    rintro e w13 ⟨rfl, hb13⟩
    have Q13 := Lib.hid (chain Q12.out (by repeat' (first | (with_reducible exact Below.refl _ _) | (with_reducible assumption) | (with_reducible refine below_drewN ?_ _) | (with_reducible refine Below.alloc ?_ ?_ _) | (with_reducible refine Below.drew ?_) | (with_reducible refine Below.setCell ?_ ?_ _) | go_size)) hb13)
    have hq13 : w0.heap.size ≤ w13.heap.size := Q13.out.size
    have hz13 := hb13.size
    try simp only [World.size_alloc, World.size_setCell, World.size_drew] at hz13
    have hB13 : 0 < w13.heap.size := Nat.lt_of_lt_of_le hB (Q13.out.size)
    have hT13 : Tab w13 := hT.below Q13.out hB
    have hl13_0 : w11.heap.size < w13.heap.size := by omega
    have hm13_0 : w11.heap.size ≤ w13.heap.size := by omega
    have c13_0_0 : w13.cell? ⟨w11.heap.size, 0, none⟩ = some (.int .i64 x0) := by rw [hb13.cell (p := ⟨w11.heap.size, 0, none⟩) (by simp; try omega)]; simp [go_sem, *]
    have f13_0_0 : w13.frozen? ⟨w11.heap.size, 0, none⟩ = false := by rw [hb13.frozen (p := ⟨w11.heap.size, 0, none⟩) (by simp; try omega)]; simp [go_sem, *]
    have c13_0_1 : w13.cell? ⟨w11.heap.size, 1, none⟩ = some (.int .i64 x1) := by rw [hb13.cell (p := ⟨w11.heap.size, 1, none⟩) (by simp; try omega)]; simp [go_sem, *]
    have f13_0_1 : w13.frozen? ⟨w11.heap.size, 1, none⟩ = false := by rw [hb13.frozen (p := ⟨w11.heap.size, 1, none⟩) (by simp; try omega)]; simp [go_sem, *]
    have hl13_1 : w11.heap.size + 1 < w13.heap.size := by omega
    have hm13_1 : w11.heap.size + 1 ≤ w13.heap.size := by omega
    have c13_1_0 : w13.cell? ⟨w11.heap.size + 1, 0, none⟩ = some (.int .i64 y0) := by rw [hb13.cell (p := ⟨w11.heap.size + 1, 0, none⟩) (by simp; try omega)]; simp [go_sem, *]
    have f13_1_0 : w13.frozen? ⟨w11.heap.size + 1, 0, none⟩ = false := by rw [hb13.frozen (p := ⟨w11.heap.size + 1, 0, none⟩) (by simp; try omega)]; simp [go_sem, *]
    have c13_1_1 : w13.cell? ⟨w11.heap.size + 1, 1, none⟩ = some (.int .i64 y1) := by rw [hb13.cell (p := ⟨w11.heap.size + 1, 1, none⟩) (by simp; try omega)]; simp [go_sem, *]
    have f13_1_1 : w13.frozen? ⟨w11.heap.size + 1, 1, none⟩ = false := by rw [hb13.frozen (p := ⟨w11.heap.size + 1, 1, none⟩) (by simp; try omega)]; simp [go_sem, *]
    have hl13_2 : w12.heap.size < w13.heap.size := by omega
    have hm13_2 : w12.heap.size ≤ w13.heap.size := by omega
    have c13_2_0 : w13.cell? ⟨w12.heap.size, 0, none⟩ = some (.int .i64 (Cal.ovA x0 x1 y0 y1)) := by rw [hb13.cell (p := ⟨w12.heap.size, 0, none⟩) (by simp; try omega)]; simp [go_sem, *]
    have f13_2_0 : w13.frozen? ⟨w12.heap.size, 0, none⟩ = false := by rw [hb13.frozen (p := ⟨w12.heap.size, 0, none⟩) (by simp; try omega)]; simp [go_sem, *]
    have c13_2_1 : w13.cell? ⟨w12.heap.size, 1, none⟩ = some (.int .i64 (Cal.ovB x0 x1 y0 y1)) := by rw [hb13.cell (p := ⟨w12.heap.size, 1, none⟩) (by simp; try omega)]; simp [go_sem, *]
    have f13_2_1 : w13.frozen? ⟨w12.heap.size, 1, none⟩ = false := by rw [hb13.frozen (p := ⟨w12.heap.size, 1, none⟩) (by simp; try omega)]; simp [go_sem, *]
    clear hb13
    go_wp2_with fail
    refine (contains_any (Cal.ovA x0 x1 y0 y1) (Cal.ovB x0 x1 y0 y1) h _ (by exact Nat.lt_of_lt_of_le hB (Below.size (Below.trans Q13.out (by repeat' (first | (with_reducible exact Below.refl _ _) | (with_reducible assumption) | (with_reducible refine below_drewN ?_ _) | (with_reducible refine Below.alloc ?_ ?_ _) | (with_reducible refine Below.drew ?_) | (with_reducible refine Below.setCell ?_ ?_ _) | go_size)))))).mono ?_
    rintro e w14 ⟨rfl, hb14⟩
    have Q14 := Lib.hid (chain Q13.out (by repeat' (first | (with_reducible exact Below.refl _ _) | (with_reducible assumption) | (with_reducible refine below_drewN ?_ _) | (with_reducible refine Below.alloc ?_ ?_ _) | (with_reducible refine Below.drew ?_) | (with_reducible refine Below.setCell ?_ ?_ _) | go_size)) hb14)
    have hq14 : w0.heap.size ≤ w14.heap.size := Q14.out.size
    have hz14 := hb14.size
    try simp only [World.size_alloc, World.size_setCell, World.size_drew] at hz14
    have hB14 : 0 < w14.heap.size := Nat.lt_of_lt_of_le hB (Q14.out.size)
    have hT14 : Tab w14 := hT.below Q14.out hB
    have hl14_0 : w11.heap.size < w14.heap.size := by omega
    have hm14_0 : w11.heap.size ≤ w14.heap.size := by omega
    have c14_0_0 : w14.cell? ⟨w11.heap.size, 0, none⟩ = some (.int .i64 x0) := by rw [hb14.cell (p := ⟨w11.heap.size, 0, none⟩) (by simp; try omega)]; simp [go_sem, *]
    have f14_0_0 : w14.frozen? ⟨w11.heap.size, 0, none⟩ = false := by rw [hb14.frozen (p := ⟨w11.heap.size, 0, none⟩) (by simp; try omega)]; simp [go_sem, *]
    have c14_0_1 : w14.cell? ⟨w11.heap.size, 1, none⟩ = some (.int .i64 x1) := by rw [hb14.cell (p := ⟨w11.heap.size, 1, none⟩) (by simp; try omega)]; simp [go_sem, *]
    have f14_0_1 : w14.frozen? ⟨w11.heap.size, 1, none⟩ = false := by rw [hb14.frozen (p := ⟨w11.heap.size, 1, none⟩) (by simp; try omega)]; simp [go_sem, *]
    have hl14_1 : w11.heap.size + 1 < w14.heap.size := by omega
    have hm14_1 : w11.heap.size + 1 ≤ w14.heap.size := by omega
    have c14_1_0 : w14.cell? ⟨w11.heap.size + 1, 0, none⟩ = some (.int .i64 y0) := by rw [hb14.cell (p := ⟨w11.heap.size + 1, 0, none⟩) (by simp; try omega)]; simp [go_sem, *]
    have f14_1_0 : w14.frozen? ⟨w11.heap.size + 1, 0, none⟩ = false := by rw [hb14.frozen (p := ⟨w11.heap.size + 1, 0, none⟩) (by simp; try omega)]; simp [go_sem, *]
    have c14_1_1 : w14.cell? ⟨w11.heap.size + 1, 1, none⟩ = some (.int .i64 y1) := by rw [hb14.cell (p := ⟨w11.heap.size + 1, 1, none⟩) (by simp; try omega)]; simp [go_sem, *]
    have f14_1_1 : w14.frozen? ⟨w11.heap.size + 1, 1, none⟩ = false := by rw [hb14.frozen (p := ⟨w11.heap.size + 1, 1, none⟩) (by simp; try omega)]; simp [go_sem, *]
    have hl14_2 : w12.heap.size < w14.heap.size := by omega
    have hm14_2 : w12.heap.size ≤ w14.heap.size := by omega
    have c14_2_0 : w14.cell? ⟨w12.heap.size, 0, none⟩ = some (.int .i64 (Cal.ovA x0 x1 y0 y1)) := by rw [hb14.cell (p := ⟨w12.heap.size, 0, none⟩) (by simp; try omega)]; simp [go_sem, *]
    have f14_2_0 : w14.frozen? ⟨w12.heap.size, 0, none⟩ = false := by rw [hb14.frozen (p := ⟨w12.heap.size, 0, none⟩) (by simp; try omega)]; simp [go_sem, *]
    have c14_2_1 : w14.cell? ⟨w12.heap.size, 1, none⟩ = some (.int .i64 (Cal.ovB x0 x1 y0 y1)) := by rw [hb14.cell (p := ⟨w12.heap.size, 1, none⟩) (by simp; try omega)]; simp [go_sem, *]
    have f14_2_1 : w14.frozen? ⟨w12.heap.size, 1, none⟩ = false := by rw [hb14.frozen (p := ⟨w12.heap.size, 1, none⟩) (by simp; try omega)]; simp [go_sem, *]
    clear hb14
    go_wp2_with fail
    refine (valid_any (Cal.ovA x0 x1 y0 y1) (Cal.ovB x0 x1 y0 y1) _).mono ?_
    rintro e w15 ⟨rfl, hb15⟩
    have Q15 := Lib.hid (chain Q14.out (by repeat' (first | (with_reducible exact Below.refl _ _) | (with_reducible assumption) | (with_reducible refine below_drewN ?_ _) | (with_reducible refine Below.alloc ?_ ?_ _) | (with_reducible refine Below.drew ?_) | (with_reducible refine Below.setCell ?_ ?_ _) | go_size)) hb15)
    have hq15 : w0.heap.size ≤ w15.heap.size := Q15.out.size
    have hz15 := hb15.size
    try simp only [World.size_alloc, World.size_setCell, World.size_drew] at hz15
    have hB15 : 0 < w15.heap.size := Nat.lt_of_lt_of_le hB (Q15.out.size)
    have hT15 : Tab w15 := hT.below Q15.out hB
    have hl15_0 : w11.heap.size < w15.heap.size := by omega
    have hm15_0 : w11.heap.size ≤ w15.heap.size := by omega
    have c15_0_0 : w15.cell? ⟨w11.heap.size, 0, none⟩ = some (.int .i64 x0) := by rw [hb15.cell (p := ⟨w11.heap.size, 0, none⟩) (by simp; try omega)]; simp [go_sem, *]
    have f15_0_0 : w15.frozen? ⟨w11.heap.size, 0, none⟩ = false := by rw [hb15.frozen (p := ⟨w11.heap.size, 0, none⟩) (by simp; try omega)]; simp [go_sem, *]
    have c15_0_1 : w15.cell? ⟨w11.heap.size, 1, none⟩ = some (.int .i64 x1) := by rw [hb15.cell (p := ⟨w11.heap.size, 1, none⟩) (by simp; try omega)]; simp [go_sem, *]
    have f15_0_1 : w15.frozen? ⟨w11.heap.size, 1, none⟩ = false := by rw [hb15.frozen (p := ⟨w11.heap.size, 1, none⟩) (by simp; try omega)]; simp [go_sem, *]
    have hl15_1 : w11.heap.size + 1 < w15.heap.size := by omega
    have hm15_1 : w11.heap.size + 1 ≤ w15.heap.size := by omega
    have c15_1_0 : w15.cell? ⟨w11.heap.size + 1, 0, none⟩ = some (.int .i64 y0) := by rw [hb15.cell (p := ⟨w11.heap.size + 1, 0, none⟩) (by simp; try omega)]; simp [go_sem, *]
    have f15_1_0 : w15.frozen? ⟨w11.heap.size + 1, 0, none⟩ = false := by rw [hb15.frozen (p := ⟨w11.heap.size + 1, 0, none⟩) (by simp; try omega)]; simp [go_sem, *]
    have c15_1_1 : w15.cell? ⟨w11.heap.size + 1, 1, none⟩ = some (.int .i64 y1) := by rw [hb15.cell (p := ⟨w11.heap.size + 1, 1, none⟩) (by simp; try omega)]; simp [go_sem, *]
    have f15_1_1 : w15.frozen? ⟨w11.heap.size + 1, 1, none⟩ = false := by rw [hb15.frozen (p := ⟨w11.heap.size + 1, 1, none⟩) (by simp; try omega)]; simp [go_sem, *]
    have hl15_2 : w12.heap.size < w15.heap.size := by omega
    have hm15_2 : w12.heap.size ≤ w15.heap.size := by omega
    have c15_2_0 : w15.cell? ⟨w12.heap.size, 0, none⟩ = some (.int .i64 (Cal.ovA x0 x1 y0 y1)) := by rw [hb15.cell (p := ⟨w12.heap.size, 0, none⟩) (by simp; try omega)]; simp [go_sem, *]
    have f15_2_0 : w15.frozen? ⟨w12.heap.size, 0, none⟩ = false := by rw [hb15.frozen (p := ⟨w12.heap.size, 0, none⟩) (by simp; try omega)]; simp [go_sem, *]
    have c15_2_1 : w15.cell? ⟨w12.heap.size, 1, none⟩ = some (.int .i64 (Cal.ovB x0 x1 y0 y1)) := by rw [hb15.cell (p := ⟨w12.heap.size, 1, none⟩) (by simp; try omega)]; simp [go_sem, *]
    have f15_2_1 : w15.frozen? ⟨w12.heap.size, 1, none⟩ = false := by rw [hb15.frozen (p := ⟨w12.heap.size, 1, none⟩) (by simp; try omega)]; simp [go_sem, *]
    clear hb15
    go_wp2_with fail
    refine (awake_any _ (by exact hT.below (Below.trans Q15.out (by repeat' (first | (with_reducible exact Below.refl _ _) | (with_reducible assumption) | (with_reducible refine below_drewN ?_ _) | (with_reducible refine Below.alloc ?_ ?_ _) | (with_reducible refine Below.drew ?_) | (with_reducible refine Below.setCell ?_ ?_ _) | go_size))) hB) (by exact Nat.lt_of_lt_of_le hB (Below.size (Below.trans Q15.out (by repeat' (first | (with_reducible exact Below.refl _ _) | (with_reducible assumption) | (with_reducible refine below_drewN ?_ _) | (with_reducible refine Below.alloc ?_ ?_ _) | (with_reducible refine Below.drew ?_) | (with_reducible refine Below.setCell ?_ ?_ _) | go_size)))))).mono ?_
    rintro e w16 ⟨rfl, hb16⟩
    have Q16 := Lib.hid (chain Q15.out (by repeat' (first | (with_reducible exact Below.refl _ _) | (with_reducible assumption) | (with_reducible refine below_drewN ?_ _) | (with_reducible refine Below.alloc ?_ ?_ _) | (with_reducible refine Below.drew ?_) | (with_reducible refine Below.setCell ?_ ?_ _) | go_size)) hb16)
    have hq16 : w0.heap.size ≤ w16.heap.size := Q16.out.size
    have hz16 := hb16.size
    try simp only [World.size_alloc, World.size_setCell, World.size_drew] at hz16
    have hB16 : 0 < w16.heap.size := Nat.lt_of_lt_of_le hB (Q16.out.size)
    have hT16 : Tab w16 := hT.below Q16.out hB
    have hl16_0 : w11.heap.size < w16.heap.size := by omega
    have hm16_0 : w11.heap.size ≤ w16.heap.size := by omega
    have c16_0_0 : w16.cell? ⟨w11.heap.size, 0, none⟩ = some (.int .i64 x0) := by rw [hb16.cell (p := ⟨w11.heap.size, 0, none⟩) (by simp; try omega)]; simp [go_sem, *]
    have f16_0_0 : w16.frozen? ⟨w11.heap.size, 0, none⟩ = false := by rw [hb16.frozen (p := ⟨w11.heap.size, 0, none⟩) (by simp; try omega)]; simp [go_sem, *]
    have c16_0_1 : w16.cell? ⟨w11.heap.size, 1, none⟩ = some (.int .i64 x1) := by rw [hb16.cell (p := ⟨w11.heap.size, 1, none⟩) (by simp; try omega)]; simp [go_sem, *]
    have f16_0_1 : w16.frozen? ⟨w11.heap.size, 1, none⟩ = false := by rw [hb16.frozen (p := ⟨w11.heap.size, 1, none⟩) (by simp; try omega)]; simp [go_sem, *]
    have hl16_1 : w11.heap.size + 1 < w16.heap.size := by omega
    have hm16_1 : w11.heap.size + 1 ≤ w16.heap.size := by omega
    have c16_1_0 : w16.cell? ⟨w11.heap.size + 1, 0, none⟩ = some (.int .i64 y0) := by rw [hb16.cell (p := ⟨w11.heap.size + 1, 0, none⟩) (by simp; try omega)]; simp [go_sem, *]
    have f16_1_0 : w16.frozen? ⟨w11.heap.size + 1, 0, none⟩ = false := by rw [hb16.frozen (p := ⟨w11.heap.size + 1, 0, none⟩) (by simp; try omega)]; simp [go_sem, *]
    have c16_1_1 : w16.cell? ⟨w11.heap.size + 1, 1, none⟩ = some (.int .i64 y1) := by rw [hb16.cell (p := ⟨w11.heap.size + 1, 1, none⟩) (by simp; try omega)]; simp [go_sem, *]
    have f16_1_1 : w16.frozen? ⟨w11.heap.size + 1, 1, none⟩ = false := by rw [hb16.frozen (p := ⟨w11.heap.size + 1, 1, none⟩) (by simp; try omega)]; simp [go_sem, *]
    have hl16_2 : w12.heap.size < w16.heap.size := by omega
    have hm16_2 : w12.heap.size ≤ w16.heap.size := by omega
    have c16_2_0 : w16.cell? ⟨w12.heap.size, 0, none⟩ = some (.int .i64 (Cal.ovA x0 x1 y0 y1)) := by rw [hb16.cell (p := ⟨w12.heap.size, 0, none⟩) (by simp; try omega)]; simp [go_sem, *]
    have f16_2_0 : w16.frozen? ⟨w12.heap.size, 0, none⟩ = false := by rw [hb16.frozen (p := ⟨w12.heap.size, 0, none⟩) (by simp; try omega)]; simp [go_sem, *]
    have c16_2_1 : w16.cell? ⟨w12.heap.size, 1, none⟩ = some (.int .i64 (Cal.ovB x0 x1 y0 y1)) := by rw [hb16.cell (p := ⟨w12.heap.size, 1, none⟩) (by simp; try omega)]; simp [go_sem, *]
    have f16_2_1 : w16.frozen? ⟨w12.heap.size, 1, none⟩ = false := by rw [hb16.frozen (p := ⟨w12.heap.size, 1, none⟩) (by simp; try omega)]; simp [go_sem, *]
    clear hb16
    go_wp2
    go_ret
    exact ⟨rfl, Q16.out⟩
  · go_wp2_with fail
    skip
    skip
    refine (contains_any x0 x1 h _ (by exact Nat.lt_of_lt_of_le hB (Below.size (Below.trans Q12.out (by repeat' (first | (with_reducible exact Below.refl _ _) | (with_reducible assumption) | (with_reducible refine below_drewN ?_ _) | (with_reducible refine Below.alloc ?_ ?_ _) | (with_reducible refine Below.drew ?_) | (with_reducible refine Below.setCell ?_ ?_ _) | go_size)))))).mono ?_
    rintro e w13 ⟨rfl, hb13⟩
    have Q13 := Lib.hid (chain Q12.out (by repeat' (first | (with_reducible exact Below.refl _ _) | (with_reducible assumption) | (with_reducible refine below_drewN ?_ _) | (with_reducible refine Below.alloc ?_ ?_ _) | (with_reducible refine Below.drew ?_) | (with_reducible refine Below.setCell ?_ ?_ _) | go_size)) hb13)
    have hq13 : w0.heap.size ≤ w13.heap.size := Q13.out.size
    have hz13 := hb13.size
    try simp only [World.size_alloc, World.size_setCell, World.size_drew] at hz13
    have hB13 : 0 < w13.heap.size := Nat.lt_of_lt_of_le hB (Q13.out.size)
    have hT13 : Tab w13 := hT.below Q13.out hB
    have hl13_0 : w11.heap.size < w13.heap.size := by omega
    have hm13_0 : w11.heap.size ≤ w13.heap.size := by omega
    have c13_0_0 : w13.cell? ⟨w11.heap.size, 0, none⟩ = some (.int .i64 x0) := by rw [hb13.cell (p := ⟨w11.heap.size, 0, none⟩) (by simp; try omega)]; simp [go_sem, *]
    have f13_0_0 : w13.frozen? ⟨w11.heap.size, 0, none⟩ = false := by rw [hb13.frozen (p := ⟨w11.heap.size, 0, none⟩) (by simp; try omega)]; simp [go_sem, *]
    have c13_0_1 : w13.cell? ⟨w11.heap.size, 1, none⟩ = some (.int .i64 x1) := by rw [hb13.cell (p := ⟨w11.heap.size, 1, none⟩) (by simp; try omega)]; simp [go_sem, *]
    have f13_0_1 : w13.frozen? ⟨w11.heap.size, 1, none⟩ = false := by rw [hb13.frozen (p := ⟨w11.heap.size, 1, none⟩) (by simp; try omega)]; simp [go_sem, *]
    have hl13_1 : w11.heap.size + 1 < w13.heap.size := by omega
    have hm13_1 : w11.heap.size + 1 ≤ w13.heap.size := by omega
    have c13_1_0 : w13.cell? ⟨w11.heap.size + 1, 0, none⟩ = some (.int .i64 y0) := by rw [hb13.cell (p := ⟨w11.heap.size + 1, 0, none⟩) (by simp; try omega)]; simp [go_sem, *]
    have f13_1_0 : w13.frozen? ⟨w11.heap.size + 1, 0, none⟩ = false := by rw [hb13.frozen (p := ⟨w11.heap.size + 1, 0, none⟩) (by simp; try omega)]; simp [go_sem, *]
    have c13_1_1 : w13.cell? ⟨w11.heap.size + 1, 1, none⟩ = some (.int .i64 y1) := by rw [hb13.cell (p := ⟨w11.heap.size + 1, 1, none⟩) (by simp; try omega)]; simp [go_sem, *]
    have f13_1_1 : w13.frozen? ⟨w11.heap.size + 1, 1, none⟩ = false := by rw [hb13.frozen (p := ⟨w11.heap.size + 1, 1, none⟩) (by simp; try omega)]; simp [go_sem, *]
    have hl13_2 : w12.heap.size < w13.heap.size := by omega
    have hm13_2 : w12.heap.size ≤ w13.heap.size := by omega
    have c13_2_0 : w13.cell? ⟨w12.heap.size, 0, none⟩ = some (.int .i64 (Cal.ovA x0 x1 y0 y1)) := by rw [hb13.cell (p := ⟨w12.heap.size, 0, none⟩) (by simp; try omega)]; simp [go_sem, *]
    have f13_2_0 : w13.frozen? ⟨w12.heap.size, 0, none⟩ = false := by rw [hb13.frozen (p := ⟨w12.heap.size, 0, none⟩) (by simp; try omega)]; simp [go_sem, *]
    have c13_2_1 : w13.cell? ⟨w12.heap.size, 1, none⟩ = some (.int .i64 (Cal.ovB x0 x1 y0 y1)) := by rw [hb13.cell (p := ⟨w12.heap.size, 1, none⟩) (by simp; try omega)]; simp [go_sem, *]
    have f13_2_1 : w13.frozen? ⟨w12.heap.size, 1, none⟩ = false := by rw [hb13.frozen (p := ⟨w12.heap.size, 1, none⟩) (by simp; try omega)]; simp [go_sem, *]
    clear hb13
    go_wp2_with fail
    refine (contains_any (Cal.ovA x0 x1 y0 y1) (Cal.ovB x0 x1 y0 y1) h _ (by exact Nat.lt_of_lt_of_le hB (Below.size (Below.trans Q13.out (by repeat' (first | (with_reducible exact Below.refl _ _) | (with_reducible assumption) | (with_reducible refine below_drewN ?_ _) | (with_reducible refine Below.alloc ?_ ?_ _) | (with_reducible refine Below.drew ?_) | (with_reducible refine Below.setCell ?_ ?_ _) | go_size)))))).mono ?_
    rintro e w14 ⟨rfl, hb14⟩
    have Q14 := Lib.hid (chain Q13.out (by repeat' (first | (with_reducible exact Below.refl _ _) | (with_reducible assumption) | (with_reducible refine below_drewN ?_ _) | (with_reducible refine Below.alloc ?_ ?_ _) | (with_reducible refine Below.drew ?_) | (with_reducible refine Below.setCell ?_ ?_ _) | go_size)) hb14)
    have hq14 : w0.heap.size ≤ w14.heap.size := Q14.out.size
    have hz14 := hb14.size
    try simp only [World.size_alloc, World.size_setCell, World.size_drew] at hz14
    have hB14 : 0 < w14.heap.size := Nat.lt_of_lt_of_le hB (Q14.out.size)
    have hT14 : Tab w14 := hT.below Q14.out hB
    have hl14_0 : w11.heap.size < w14.heap.size := by omega
    have hm14_0 : w11.heap.size ≤ w14.heap.size := by omega
    have c14_0_0 : w14.cell? ⟨w11.heap.size, 0, none⟩ = some (.int .i64 x0) := by rw [hb14.cell (p := ⟨w11.heap.size, 0, none⟩) (by simp; try omega)]; simp [go_sem, *]
    have f14_0_0 : w14.frozen? ⟨w11.heap.size, 0, none⟩ = false := by rw [hb14.frozen (p := ⟨w11.heap.size, 0, none⟩) (by simp; try omega)]; simp [go_sem, *]
    have c14_0_1 : w14.cell? ⟨w11.heap.size, 1, none⟩ = some (.int .i64 x1) := by rw [hb14.cell (p := ⟨w11.heap.size, 1, none⟩) (by simp; try omega)]; simp [go_sem, *]
    have f14_0_1 : w14.frozen? ⟨w11.heap.size, 1, none⟩ = false := by rw [hb14.frozen (p := ⟨w11.heap.size, 1, none⟩) (by simp; try omega)]; simp [go_sem, *]
    have hl14_1 : w11.heap.size + 1 < w14.heap.size := by omega
    have hm14_1 : w11.heap.size + 1 ≤ w14.heap.size := by omega
    have c14_1_0 : w14.cell? ⟨w11.heap.size + 1, 0, none⟩ = some (.int .i64 y0) := by rw [hb14.cell (p := ⟨w11.heap.size + 1, 0, none⟩) (by simp; try omega)]; simp [go_sem, *]
    have f14_1_0 : w14.frozen? ⟨w11.heap.size + 1, 0, none⟩ = false := by rw [hb14.frozen (p := ⟨w11.heap.size + 1, 0, none⟩) (by simp; try omega)]; simp [go_sem, *]
    have c14_1_1 : w14.cell? ⟨w11.heap.size + 1, 1, none⟩ = some (.int .i64 y1) := by rw [hb14.cell (p := ⟨w11.heap.size + 1, 1, none⟩) (by simp; try omega)]; simp [go_sem, *]
    have f14_1_1 : w14.frozen? ⟨w11.heap.size + 1, 1, none⟩ = false := by rw [hb14.frozen (p := ⟨w11.heap.size + 1, 1, none⟩) (by simp; try omega)]; simp [go_sem, *]
    have hl14_2 : w12.heap.size < w14.heap.size := by omega
    have hm14_2 : w12.heap.size ≤ w14.heap.size := by omega
    have c14_2_0 : w14.cell? ⟨w12.heap.size, 0, none⟩ = some (.int .i64 (Cal.ovA x0 x1 y0 y1)) := by rw [hb14.cell (p := ⟨w12.heap.size, 0, none⟩) (by simp; try omega)]; simp [go_sem, *]
    have f14_2_0 : w14.frozen? ⟨w12.heap.size, 0, none⟩ = false := by rw [hb14.frozen (p := ⟨w12.heap.size, 0, none⟩) (by simp; try omega)]; simp [go_sem, *]
    have c14_2_1 : w14.cell? ⟨w12.heap.size, 1, none⟩ = some (.int .i64 (Cal.ovB x0 x1 y0 y1)) := by rw [hb14.cell (p := ⟨w12.heap.size, 1, none⟩) (by simp; try omega)]; simp [go_sem, *]
    have f14_2_1 : w14.frozen? ⟨w12.heap.size, 1, none⟩ = false := by rw [hb14.frozen (p := ⟨w12.heap.size, 1, none⟩) (by simp; try omega)]; simp [go_sem, *]
    clear hb14
    go_wp2_with fail
    refine (valid_any (Cal.ovA x0 x1 y0 y1) (Cal.ovB x0 x1 y0 y1) _).mono ?_
    rintro e w15 ⟨rfl, hb15⟩
    have Q15 := Lib.hid (chain Q14.out (by repeat' (first | (with_reducible exact Below.refl _ _) | (with_reducible assumption) | (with_reducible refine below_drewN ?_ _) | (with_reducible refine Below.alloc ?_ ?_ _) | (with_reducible refine Below.drew ?_) | (with_reducible refine Below.setCell ?_ ?_ _) | go_size)) hb15)
    have hq15 : w0.heap.size ≤ w15.heap.size := Q15.out.size
    have hz15 := hb15.size
    try simp only [World.size_alloc, World.size_setCell, World.size_drew] at hz15
    have hB15 : 0 < w15.heap.size := Nat.lt_of_lt_of_le hB (Q15.out.size)
    have hT15 : Tab w15 := hT.below Q15.out hB
    have hl15_0 : w11.heap.size < w15.heap.size := by omega
    have hm15_0 : w11.heap.size ≤ w15.heap.size := by omega
    have c15_0_0 : w15.cell? ⟨w11.heap.size, 0, none⟩ = some (.int .i64 x0) := by rw [hb15.cell (p := ⟨w11.heap.size, 0, none⟩) (by simp; try omega)]; simp [go_sem, *]
    have f15_0_0 : w15.frozen? ⟨w11.heap.size, 0, none⟩ = false := by rw [hb15.frozen (p := ⟨w11.heap.size, 0, none⟩) (by simp; try omega)]; simp [go_sem, *]
    have c15_0_1 : w15.cell? ⟨w11.heap.size, 1, none⟩ = some (.int .i64 x1) := by rw [hb15.cell (p := ⟨w11.heap.size, 1, none⟩) (by simp; try omega)]; simp [go_sem, *]
    have f15_0_1 : w15.frozen? ⟨w11.heap.size, 1, none⟩ = false := by rw [hb15.frozen (p := ⟨w11.heap.size, 1, none⟩) (by simp; try omega)]; simp [go_sem, *]
    have hl15_1 : w11.heap.size + 1 < w15.heap.size := by omega
    have hm15_1 : w11.heap.size + 1 ≤ w15.heap.size := by omega
    have c15_1_0 : w15.cell? ⟨w11.heap.size + 1, 0, none⟩ = some (.int .i64 y0) := by rw [hb15.cell (p := ⟨w11.heap.size + 1, 0, none⟩) (by simp; try omega)]; simp [go_sem, *]
    have f15_1_0 : w15.frozen? ⟨w11.heap.size + 1, 0, none⟩ = false := by rw [hb15.frozen (p := ⟨w11.heap.size + 1, 0, none⟩) (by simp; try omega)]; simp [go_sem, *]
    have c15_1_1 : w15.cell? ⟨w11.heap.size + 1, 1, none⟩ = some (.int .i64 y1) := by rw [hb15.cell (p := ⟨w11.heap.size + 1, 1, none⟩) (by simp; try omega)]; simp [go_sem, *]
    have f15_1_1 : w15.frozen? ⟨w11.heap.size + 1, 1, none⟩ = false := by rw [hb15.frozen (p := ⟨w11.heap.size + 1, 1, none⟩) (by simp; try omega)]; simp [go_sem, *]
    have hl15_2 : w12.heap.size < w15.heap.size := by omega
    have hm15_2 : w12.heap.size ≤ w15.heap.size := by omega
    have c15_2_0 : w15.cell? ⟨w12.heap.size, 0, none⟩ = some (.int .i64 (Cal.ovA x0 x1 y0 y1)) := by rw [hb15.cell (p := ⟨w12.heap.size, 0, none⟩) (by simp; try omega)]; simp [go_sem, *]
    have f15_2_0 : w15.frozen? ⟨w12.heap.size, 0, none⟩ = false := by rw [hb15.frozen (p := ⟨w12.heap.size, 0, none⟩) (by simp; try omega)]; simp [go_sem, *]
    have c15_2_1 : w15.cell? ⟨w12.heap.size, 1, none⟩ = some (.int .i64 (Cal.ovB x0 x1 y0 y1)) := by rw [hb15.cell (p := ⟨w12.heap.size, 1, none⟩) (by simp; try omega)]; simp [go_sem, *]
    have f15_2_1 : w15.frozen? ⟨w12.heap.size, 1, none⟩ = false := by rw [hb15.frozen (p := ⟨w12.heap.size, 1, none⟩) (by simp; try omega)]; simp [go_sem, *]
    clear hb15
    go_wp2_with fail
    refine (awake_any _ (by exact hT.below (Below.trans Q15.out (by repeat' (first | (with_reducible exact Below.refl _ _) | (with_reducible assumption) | (with_reducible refine below_drewN ?_ _) | (with_reducible refine Below.alloc ?_ ?_ _) | (with_reducible refine Below.drew ?_) | (with_reducible refine Below.setCell ?_ ?_ _) | go_size))) hB) (by exact Nat.lt_of_lt_of_le hB (Below.size (Below.trans Q15.out (by repeat' (first | (with_reducible exact Below.refl _ _) | (with_reducible assumption) | (with_reducible refine below_drewN ?_ _) | (with_reducible refine Below.alloc ?_ ?_ _) | (with_reducible refine Below.drew ?_) | (with_reducible refine Below.setCell ?_ ?_ _) | go_size)))))).mono ?_
    rintro e w16 ⟨rfl, hb16⟩
    have Q16 := Lib.hid (chain Q15.out (by repeat' (first | (with_reducible exact Below.refl _ _) | (with_reducible assumption) | (with_reducible refine below_drewN ?_ _) | (with_reducible refine Below.alloc ?_ ?_ _) | (with_reducible refine Below.drew ?_) | (with_reducible refine Below.setCell ?_ ?_ _) | go_size)) hb16)
    have hq16 : w0.heap.size ≤ w16.heap.size := Q16.out.size
    have hz16 := hb16.size
    try simp only [World.size_alloc, World.size_setCell, World.size_drew] at hz16
    have hB16 : 0 < w16.heap.size := Nat.lt_of_lt_of_le hB (Q16.out.size)
    have hT16 : Tab w16 := hT.below Q16.out hB
    have hl16_0 : w11.heap.size < w16.heap.size := by omega
    have hm16_0 : w11.heap.size ≤ w16.heap.size := by omega
    have c16_0_0 : w16.cell? ⟨w11.heap.size, 0, none⟩ = some (.int .i64 x0) := by rw [hb16.cell (p := ⟨w11.heap.size, 0, none⟩) (by simp; try omega)]; simp [go_sem, *]
    have f16_0_0 : w16.frozen? ⟨w11.heap.size, 0, none⟩ = false := by rw [hb16.frozen (p := ⟨w11.heap.size, 0, none⟩) (by simp; try omega)]; simp [go_sem, *]
    have c16_0_1 : w16.cell? ⟨w11.heap.size, 1, none⟩ = some (.int .i64 x1) := by rw [hb16.cell (p := ⟨w11.heap.size, 1, none⟩) (by simp; try omega)]; simp [go_sem, *]
    have f16_0_1 : w16.frozen? ⟨w11.heap.size, 1, none⟩ = false := by rw [hb16.frozen (p := ⟨w11.heap.size, 1, none⟩) (by simp; try omega)]; simp [go_sem, *]
    have hl16_1 : w11.heap.size + 1 < w16.heap.size := by omega
    have hm16_1 : w11.heap.size + 1 ≤ w16.heap.size := by omega
    have c16_1_0 : w16.cell? ⟨w11.heap.size + 1, 0, none⟩ = some (.int .i64 y0) := by rw [hb16.cell (p := ⟨w11.heap.size + 1, 0, none⟩) (by simp; try omega)]; simp [go_sem, *]
    have f16_1_0 : w16.frozen? ⟨w11.heap.size + 1, 0, none⟩ = false := by rw [hb16.frozen (p := ⟨w11.heap.size + 1, 0, none⟩) (by simp; try omega)]; simp [go_sem, *]
    have c16_1_1 : w16.cell? ⟨w11.heap.size + 1, 1, none⟩ = some (.int .i64 y1) := by rw [hb16.cell (p := ⟨w11.heap.size + 1, 1, none⟩) (by simp; try omega)]; simp [go_sem, *]
    have f16_1_1 : w16.frozen? ⟨w11.heap.size + 1, 1, none⟩ = false := by rw [hb16.frozen (p := ⟨w11.heap.size + 1, 1, none⟩) (by simp; try omega)]; simp [go_sem, *]
    have hl16_2 : w12.heap.size < w16.heap.size := by omega
    have hm16_2 : w12.heap.size ≤ w16.heap.size := by omega
    have c16_2_0 : w16.cell? ⟨w12.heap.size, 0, none⟩ = some (.int .i64 (Cal.ovA x0 x1 y0 y1)) := by rw [hb16.cell (p := ⟨w12.heap.size, 0, none⟩) (by simp; try omega)]; simp [go_sem, *]
    have f16_2_0 : w16.frozen? ⟨w12.heap.size, 0, none⟩ = false := by rw [hb16.frozen (p := ⟨w12.heap.size, 0, none⟩) (by simp; try omega)]; simp [go_sem, *]
    have c16_2_1 : w16.cell? ⟨w12.heap.size, 1, none⟩ = some (.int .i64 (Cal.ovB x0 x1 y0 y1)) := by rw [hb16.cell (p := ⟨w12.heap.size, 1, none⟩) (by simp; try omega)]; simp [go_sem, *]
    have f16_2_1 : w16.frozen? ⟨w12.heap.size, 1, none⟩ = false := by rw [hb16.frozen (p := ⟨w12.heap.size, 1, none⟩) (by simp; try omega)]; simp [go_sem, *]
    clear hb16
    go_wp2
    go_ret
    exact ⟨rfl, Q16.out⟩
  · go_wp2_with fail
    skip
    skip
    refine (contains_any x0 x1 h _ (by exact Nat.lt_of_lt_of_le hB (Below.size (Below.trans Q12.out (by repeat' (first | (with_reducible exact Below.refl _ _) | (with_reducible assumption) | (with_reducible refine below_drewN ?_ _) | (with_reducible refine Below.alloc ?_ ?_ _) | (with_reducible refine Below.drew ?_) | (with_reducible refine Below.setCell ?_ ?_ _) | go_size)))))).mono ?_
    rintro e w13 ⟨rfl, hb13⟩
    have Q13 := Lib.hid (chain Q12.out (by repeat' (first | (with_reducible exact Below.refl _ _) | (with_reducible assumption) | (with_reducible refine below_drewN ?_ _) | (with_reducible refine Below.alloc ?_ ?_ _) | (with_reducible refine Below.drew ?_) | (with_reducible refine Below.setCell ?_ ?_ _) | go_size)) hb13)
    have hq13 : w0.heap.size ≤ w13.heap.size := Q13.out.size
    have hz13 := hb13.size
    try simp only [World.size_alloc, World.size_setCell, World.size_drew] at hz13
    have hB13 : 0 < w13.heap.size := Nat.lt_of_lt_of_le hB (Q13.out.size)
    have hT13 : Tab w13 := hT.below Q13.out hB
    have hl13_0 : w11.heap.size < w13.heap.size := by omega
    have hm13_0 : w11.heap.size ≤ w13.heap.size := by omega
    have c13_0_0 : w13.cell? ⟨w11.heap.size, 0, none⟩ = some (.int .i64 x0) := by rw [hb13.cell (p := ⟨w11.heap.size, 0, none⟩) (by simp; try omega)]; simp [go_sem, *]
    have f13_0_0 : w13.frozen? ⟨w11.heap.size, 0, none⟩ = false := by rw [hb13.frozen (p := ⟨w11.heap.size, 0, none⟩) (by simp; try omega)]; simp [go_sem, *]
    have c13_0_1 : w13.cell? ⟨w11.heap.size, 1, none⟩ = some (.int .i64 x1) := by rw [hb13.cell (p := ⟨w11.heap.size, 1, none⟩) (by simp; try omega)]; simp [go_sem, *]
    have f13_0_1 : w13.frozen? ⟨w11.heap.size, 1, none⟩ = false := by rw [hb13.frozen (p := ⟨w11.heap.size, 1, none⟩) (by simp; try omega)]; simp [go_sem, *]
    have hl13_1 : w11.heap.size + 1 < w13.heap.size := by omega
    have hm13_1 : w11.heap.size + 1 ≤ w13.heap.size := by omega
    have c13_1_0 : w13.cell? ⟨w11.heap.size + 1, 0, none⟩ = some (.int .i64 y0) := by rw [hb13.cell (p := ⟨w11.heap.size + 1, 0, none⟩) (by simp; try omega)]; simp [go_sem, *]
    have f13_1_0 : w13.frozen? ⟨w11.heap.size + 1, 0, none⟩ = false := by rw [hb13.frozen (p := ⟨w11.heap.size + 1, 0, none⟩) (by simp; try omega)]; simp [go_sem, *]
    have c13_1_1 : w13.cell? ⟨w11.heap.size + 1, 1, none⟩ = some (.int .i64 y1) := by rw [hb13.cell (p := ⟨w11.heap.size + 1, 1, none⟩) (by simp; try omega)]; simp [go_sem, *]
    have f13_1_1 : w13.frozen? ⟨w11.heap.size + 1, 1, none⟩ = false := by rw [hb13.frozen (p := ⟨w11.heap.size + 1, 1, none⟩) (by simp; try omega)]; simp [go_sem, *]
    have hl13_2 : w12.heap.size < w13.heap.size := by omega
    have hm13_2 : w12.heap.size ≤ w13.heap.size := by omega
    have c13_2_0 : w13.cell? ⟨w12.heap.size, 0, none⟩ = some (.int .i64 (Cal.ovA x0 x1 y0 y1)) := by rw [hb13.cell (p := ⟨w12.heap.size, 0, none⟩) (by simp; try omega)]; simp [go_sem, *]
    have f13_2_0 : w13.frozen? ⟨w12.heap.size, 0, none⟩ = false := by rw [hb13.frozen (p := ⟨w12.heap.size, 0, none⟩) (by simp; try omega)]; simp [go_sem, *]
    have c13_2_1 : w13.cell? ⟨w12.heap.size, 1, none⟩ = some (.int .i64 (Cal.ovB x0 x1 y0 y1)) := by rw [hb13.cell (p := ⟨w12.heap.size, 1, none⟩) (by simp; try omega)]; simp [go_sem, *]
    have f13_2_1 : w13.frozen? ⟨w12.heap.size, 1, none⟩ = false := by rw [hb13.frozen (p := ⟨w12.heap.size, 1, none⟩) (by simp; try omega)]; simp [go_sem, *]
    clear hb13
    go_wp2_with fail
    refine (contains_any y0 y1 h _ (by exact Nat.lt_of_lt_of_le hB (Below.size (Below.trans Q13.out (by repeat' (first | (with_reducible exact Below.refl _ _) | (with_reducible assumption) | (with_reducible refine below_drewN ?_ _) | (with_reducible refine Below.alloc ?_ ?_ _) | (with_reducible refine Below.drew ?_) | (with_reducible refine Below.setCell ?_ ?_ _) | go_size)))))).mono ?_
    rintro e w14 ⟨rfl, hb14⟩
    have Q14 := Lib.hid (chain Q13.out (by repeat' (first | (with_reducible exact Below.refl _ _) | (with_reducible assumption) | (with_reducible refine below_drewN ?_ _) | (with_reducible refine Below.alloc ?_ ?_ _) | (with_reducible refine Below.drew ?_) | (with_reducible refine Below.setCell ?_ ?_ _) | go_size)) hb14)
    have hq14 : w0.heap.size ≤ w14.heap.size := Q14.out.size
    have hz14 := hb14.size
    try simp only [World.size_alloc, World.size_setCell, World.size_drew] at hz14
    have hB14 : 0 < w14.heap.size := Nat.lt_of_lt_of_le hB (Q14.out.size)
    have hT14 : Tab w14 := hT.below Q14.out hB
    have hl14_0 : w11.heap.size < w14.heap.size := by omega
    have hm14_0 : w11.heap.size ≤ w14.heap.size := by omega
    have c14_0_0 : w14.cell? ⟨w11.heap.size, 0, none⟩ = some (.int .i64 x0) := by rw [hb14.cell (p := ⟨w11.heap.size, 0, none⟩) (by simp; try omega)]; simp [go_sem, *]
    have f14_0_0 : w14.frozen? ⟨w11.heap.size, 0, none⟩ = false := by rw [hb14.frozen (p := ⟨w11.heap.size, 0, none⟩) (by simp; try omega)]; simp [go_sem, *]
    have c14_0_1 : w14.cell? ⟨w11.heap.size, 1, none⟩ = some (.int .i64 x1) := by rw [hb14.cell (p := ⟨w11.heap.size, 1, none⟩) (by simp; try omega)]; simp [go_sem, *]
    have f14_0_1 : w14.frozen? ⟨w11.heap.size, 1, none⟩ = false := by rw [hb14.frozen (p := ⟨w11.heap.size, 1, none⟩) (by simp; try omega)]; simp [go_sem, *]
    have hl14_1 : w11.heap.size + 1 < w14.heap.size := by omega
    have hm14_1 : w11.heap.size + 1 ≤ w14.heap.size := by omega
    have c14_1_0 : w14.cell? ⟨w11.heap.size + 1, 0, none⟩ = some (.int .i64 y0) := by rw [hb14.cell (p := ⟨w11.heap.size + 1, 0, none⟩) (by simp; try omega)]; simp [go_sem, *]
    have f14_1_0 : w14.frozen? ⟨w11.heap.size + 1, 0, none⟩ = false := by rw [hb14.frozen (p := ⟨w11.heap.size + 1, 0, none⟩) (by simp; try omega)]; simp [go_sem, *]
    have c14_1_1 : w14.cell? ⟨w11.heap.size + 1, 1, none⟩ = some (.int .i64 y1) := by rw [hb14.cell (p := ⟨w11.heap.size + 1, 1, none⟩) (by simp; try omega)]; simp [go_sem, *]
    have f14_1_1 : w14.frozen? ⟨w11.heap.size + 1, 1, none⟩ = false := by rw [hb14.frozen (p := ⟨w11.heap.size + 1, 1, none⟩) (by simp; try omega)]; simp [go_sem, *]
    have hl14_2 : w12.heap.size < w14.heap.size := by omega
    have hm14_2 : w12.heap.size ≤ w14.heap.size := by omega
    have c14_2_0 : w14.cell? ⟨w12.heap.size, 0, none⟩ = some (.int .i64 (Cal.ovA x0 x1 y0 y1)) := by rw [hb14.cell (p := ⟨w12.heap.size, 0, none⟩) (by simp; try omega)]; simp [go_sem, *]
    have f14_2_0 : w14.frozen? ⟨w12.heap.size, 0, none⟩ = false := by rw [hb14.frozen (p := ⟨w12.heap.size, 0, none⟩) (by simp; try omega)]; simp [go_sem, *]
    have c14_2_1 : w14.cell? ⟨w12.heap.size, 1, none⟩ = some (.int .i64 (Cal.ovB x0 x1 y0 y1)) := by rw [hb14.cell (p := ⟨w12.heap.size, 1, none⟩) (by simp; try omega)]; simp [go_sem, *]
    have f14_2_1 : w14.frozen? ⟨w12.heap.size, 1, none⟩ = false := by rw [hb14.frozen (p := ⟨w12.heap.size, 1, none⟩) (by simp; try omega)]; simp [go_sem, *]
    clear hb14
    go_wp2_with fail
    refine (contains_any (Cal.ovA x0 x1 y0 y1) (Cal.ovB x0 x1 y0 y1) h _ (by exact Nat.lt_of_lt_of_le hB (Below.size (Below.trans Q14.out (by repeat' (first | (with_reducible exact Below.refl _ _) | (with_reducible assumption) | (with_reducible refine below_drewN ?_ _) | (with_reducible refine Below.alloc ?_ ?_ _) | (with_reducible refine Below.drew ?_) | (with_reducible refine Below.setCell ?_ ?_ _) | go_size)))))).mono ?_
    rintro e w15 ⟨rfl, hb15⟩
    have Q15 := Lib.hid (chain Q14.out (by repeat' (first | (with_reducible exact Below.refl _ _) | (with_reducible assumption) | (with_reducible refine below_drewN ?_ _) | (with_reducible refine Below.alloc ?_ ?_ _) | (with_reducible refine Below.drew ?_) | (with_reducible refine Below.setCell ?_ ?_ _) | go_size)) hb15)
    have hq15 : w0.heap.size ≤ w15.heap.size := Q15.out.size
    have hz15 := hb15.size
    try simp only [World.size_alloc, World.size_setCell, World.size_drew] at hz15
    have hB15 : 0 < w15.heap.size := Nat.lt_of_lt_of_le hB (Q15.out.size)
    have hT15 : Tab w15 := hT.below Q15.out hB
    have hl15_0 : w11.heap.size < w15.heap.size := by omega
    have hm15_0 : w11.heap.size ≤ w15.heap.size := by omega
    have c15_0_0 : w15.cell? ⟨w11.heap.size, 0, none⟩ = some (.int .i64 x0) := by rw [hb15.cell (p := ⟨w11.heap.size, 0, none⟩) (by simp; try omega)]; simp [go_sem, *]
    have f15_0_0 : w15.frozen? ⟨w11.heap.size, 0, none⟩ = false := by rw [hb15.frozen (p := ⟨w11.heap.size, 0, none⟩) (by simp; try omega)]; simp [go_sem, *]
    have c15_0_1 : w15.cell? ⟨w11.heap.size, 1, none⟩ = some (.int .i64 x1) := by rw [hb15.cell (p := ⟨w11.heap.size, 1, none⟩) (by simp; try omega)]; simp [go_sem, *]
    have f15_0_1 : w15.frozen? ⟨w11.heap.size, 1, none⟩ = false := by rw [hb15.frozen (p := ⟨w11.heap.size, 1, none⟩) (by simp; try omega)]; simp [go_sem, *]
    have hl15_1 : w11.heap.size + 1 < w15.heap.size := by omega
    have hm15_1 : w11.heap.size + 1 ≤ w15.heap.size := by omega
    have c15_1_0 : w15.cell? ⟨w11.heap.size + 1, 0, none⟩ = some (.int .i64 y0) := by rw [hb15.cell (p := ⟨w11.heap.size + 1, 0, none⟩) (by simp; try omega)]; simp [go_sem, *]
    have f15_1_0 : w15.frozen? ⟨w11.heap.size + 1, 0, none⟩ = false := by rw [hb15.frozen (p := ⟨w11.heap.size + 1, 0, none⟩) (by simp; try omega)]; simp [go_sem, *]
    have c15_1_1 : w15.cell? ⟨w11.heap.size + 1, 1, none⟩ = some (.int .i64 y1) := by rw [hb15.cell (p := ⟨w11.heap.size + 1, 1, none⟩) (by simp; try omega)]; simp [go_sem, *]
    have f15_1_1 : w15.frozen? ⟨w11.heap.size + 1, 1, none⟩ = false := by rw [hb15.frozen (p := ⟨w11.heap.size + 1, 1, none⟩) (by simp; try omega)]; simp [go_sem, *]
    have hl15_2 : w12.heap.size < w15.heap.size := by omega
    have hm15_2 : w12.heap.size ≤ w15.heap.size := by omega
    have c15_2_0 : w15.cell? ⟨w12.heap.size, 0, none⟩ = some (.int .i64 (Cal.ovA x0 x1 y0 y1)) := by rw [hb15.cell (p := ⟨w12.heap.size, 0, none⟩) (by simp; try omega)]; simp [go_sem, *]
    have f15_2_0 : w15.frozen? ⟨w12.heap.size, 0, none⟩ = false := by rw [hb15.frozen (p := ⟨w12.heap.size, 0, none⟩) (by simp; try omega)]; simp [go_sem, *]
    have c15_2_1 : w15.cell? ⟨w12.heap.size, 1, none⟩ = some (.int .i64 (Cal.ovB x0 x1 y0 y1)) := by rw [hb15.cell (p := ⟨w12.heap.size, 1, none⟩) (by simp; try omega)]; simp [go_sem, *]
    have f15_2_1 : w15.frozen? ⟨w12.heap.size, 1, none⟩ = false := by rw [hb15.frozen (p := ⟨w12.heap.size, 1, none⟩) (by simp; try omega)]; simp [go_sem, *]
    clear hb15
    go_wp2_with fail
    refine (valid_any (Cal.ovA x0 x1 y0 y1) (Cal.ovB x0 x1 y0 y1) _).mono ?_
    rintro e w16 ⟨rfl, hb16⟩
    have Q16 := Lib.hid (chain Q15.out (by repeat' (first | (with_reducible exact Below.refl _ _) | (with_reducible assumption) | (with_reducible refine below_drewN ?_ _) | (with_reducible refine Below.alloc ?_ ?_ _) | (with_reducible refine Below.drew ?_) | (with_reducible refine Below.setCell ?_ ?_ _) | go_size)) hb16)
    have hq16 : w0.heap.size ≤ w16.heap.size := Q16.out.size
    have hz16 := hb16.size
    try simp only [World.size_alloc, World.size_setCell, World.size_drew] at hz16
    have hB16 : 0 < w16.heap.size := Nat.lt_of_lt_of_le hB (Q16.out.size)
    have hT16 : Tab w16 := hT.below Q16.out hB
    have hl16_0 : w11.heap.size < w16.heap.size := by omega
    have hm16_0 : w11.heap.size ≤ w16.heap.size := by omega
    have c16_0_0 : w16.cell? ⟨w11.heap.size, 0, none⟩ = some (.int .i64 x0) := by rw [hb16.cell (p := ⟨w11.heap.size, 0, none⟩) (by simp; try omega)]; simp [go_sem, *]
    have f16_0_0 : w16.frozen? ⟨w11.heap.size, 0, none⟩ = false := by rw [hb16.frozen (p := ⟨w11.heap.size, 0, none⟩) (by simp; try omega)]; simp [go_sem, *]
    have c16_0_1 : w16.cell? ⟨w11.heap.size, 1, none⟩ = some (.int .i64 x1) := by rw [hb16.cell (p := ⟨w11.heap.size, 1, none⟩) (by simp; try omega)]; simp [go_sem, *]
    have f16_0_1 : w16.frozen? ⟨w11.heap.size, 1, none⟩ = false := by rw [hb16.frozen (p := ⟨w11.heap.size, 1, none⟩) (by simp; try omega)]; simp [go_sem, *]
    have hl16_1 : w11.heap.size + 1 < w16.heap.size := by omega
    have hm16_1 : w11.heap.size + 1 ≤ w16.heap.size := by omega
    have c16_1_0 : w16.cell? ⟨w11.heap.size + 1, 0, none⟩ = some (.int .i64 y0) := by rw [hb16.cell (p := ⟨w11.heap.size + 1, 0, none⟩) (by simp; try omega)]; simp [go_sem, *]
    have f16_1_0 : w16.frozen? ⟨w11.heap.size + 1, 0, none⟩ = false := by rw [hb16.frozen (p := ⟨w11.heap.size + 1, 0, none⟩) (by simp; try omega)]; simp [go_sem, *]
    have c16_1_1 : w16.cell? ⟨w11.heap.size + 1, 1, none⟩ = some (.int .i64 y1) := by rw [hb16.cell (p := ⟨w11.heap.size + 1, 1, none⟩) (by simp; try omega)]; simp [go_sem, *]
    have f16_1_1 : w16.frozen? ⟨w11.heap.size + 1, 1, none⟩ = false := by rw [hb16.frozen (p := ⟨w11.heap.size + 1, 1, none⟩) (by simp; try omega)]; simp [go_sem, *]
    have hl16_2 : w12.heap.size < w16.heap.size := by omega
    have hm16_2 : w12.heap.size ≤ w16.heap.size := by omega
    have c16_2_0 : w16.cell? ⟨w12.heap.size, 0, none⟩ = some (.int .i64 (Cal.ovA x0 x1 y0 y1)) := by rw [hb16.cell (p := ⟨w12.heap.size, 0, none⟩) (by simp; try omega)]; simp [go_sem, *]
    have f16_2_0 : w16.frozen? ⟨w12.heap.size, 0, none⟩ = false := by rw [hb16.frozen (p := ⟨w12.heap.size, 0, none⟩) (by simp; try omega)]; simp [go_sem, *]
    have c16_2_1 : w16.cell? ⟨w12.heap.size, 1, none⟩ = some (.int .i64 (Cal.ovB x0 x1 y0 y1)) := by rw [hb16.cell (p := ⟨w12.heap.size, 1, none⟩) (by simp; try omega)]; simp [go_sem, *]
    have f16_2_1 : w16.frozen? ⟨w12.heap.size, 1, none⟩ = false := by rw [hb16.frozen (p := ⟨w12.heap.size, 1, none⟩) (by simp; try omega)]; simp [go_sem, *]
    clear hb16
    go_wp2_with fail
    refine (awake_any _ (by exact hT.below (Below.trans Q16.out (by repeat' (first | (with_reducible exact Below.refl _ _) | (with_reducible assumption) | (with_reducible refine below_drewN ?_ _) | (with_reducible refine Below.alloc ?_ ?_ _) | (with_reducible refine Below.drew ?_) | (with_reducible refine Below.setCell ?_ ?_ _) | go_size))) hB) (by exact Nat.lt_of_lt_of_le hB (Below.size (Below.trans Q16.out (by repeat' (first | (with_reducible exact Below.refl _ _) | (with_reducible assumption) | (with_reducible refine below_drewN ?_ _) | (with_reducible refine Below.alloc ?_ ?_ _) | (with_reducible refine Below.drew ?_) | (with_reducible refine Below.setCell ?_ ?_ _) | go_size)))))).mono ?_
    rintro e w17 ⟨rfl, hb17⟩
    have Q17 := Lib.hid (chain Q16.out (by repeat' (first | (with_reducible exact Below.refl _ _) | (with_reducible assumption) | (with_reducible refine below_drewN ?_ _) | (with_reducible refine Below.alloc ?_ ?_ _) | (with_reducible refine Below.drew ?_) | (with_reducible refine Below.setCell ?_ ?_ _) | go_size)) hb17)
    have hq17 : w0.heap.size ≤ w17.heap.size := Q17.out.size
    have hz17 := hb17.size
    try simp only [World.size_alloc, World.size_setCell, World.size_drew] at hz17
    have hB17 : 0 < w17.heap.size := Nat.lt_of_lt_of_le hB (Q17.out.size)
    have hT17 : Tab w17 := hT.below Q17.out hB
    have hl17_0 : w11.heap.size < w17.heap.size := by omega
    have hm17_0 : w11.heap.size ≤ w17.heap.size := by omega
    have c17_0_0 : w17.cell? ⟨w11.heap.size, 0, none⟩ = some (.int .i64 x0) := by rw [hb17.cell (p := ⟨w11.heap.size, 0, none⟩) (by simp; try omega)]; simp [go_sem, *]
    have f17_0_0 : w17.frozen? ⟨w11.heap.size, 0, none⟩ = false := by rw [hb17.frozen (p := ⟨w11.heap.size, 0, none⟩) (by simp; try omega)]; simp [go_sem, *]
    have c17_0_1 : w17.cell? ⟨w11.heap.size, 1, none⟩ = some (.int .i64 x1) := by rw [hb17.cell (p := ⟨w11.heap.size, 1, none⟩) (by simp; try omega)]; simp [go_sem, *]
    have f17_0_1 : w17.frozen? ⟨w11.heap.size, 1, none⟩ = false := by rw [hb17.frozen (p := ⟨w11.heap.size, 1, none⟩) (by simp; try omega)]; simp [go_sem, *]
    have hl17_1 : w11.heap.size + 1 < w17.heap.size := by omega
    have hm17_1 : w11.heap.size + 1 ≤ w17.heap.size := by omega
    have c17_1_0 : w17.cell? ⟨w11.heap.size + 1, 0, none⟩ = some (.int .i64 y0) := by rw [hb17.cell (p := ⟨w11.heap.size + 1, 0, none⟩) (by simp; try omega)]; simp [go_sem, *]
    have f17_1_0 : w17.frozen? ⟨w11.heap.size + 1, 0, none⟩ = false := by rw [hb17.frozen (p := ⟨w11.heap.size + 1, 0, none⟩) (by simp; try omega)]; simp [go_sem, *]
    have c17_1_1 : w17.cell? ⟨w11.heap.size + 1, 1, none⟩ = some (.int .i64 y1) := by rw [hb17.cell (p := ⟨w11.heap.size + 1, 1, none⟩) (by simp; try omega)]; simp [go_sem, *]
    have f17_1_1 : w17.frozen? ⟨w11.heap.size + 1, 1, none⟩ = false := by rw [hb17.frozen (p := ⟨w11.heap.size + 1, 1, none⟩) (by simp; try omega)]; simp [go_sem, *]
    have hl17_2 : w12.heap.size < w17.heap.size := by omega
    have hm17_2 : w12.heap.size ≤ w17.heap.size := by omega
    have c17_2_0 : w17.cell? ⟨w12.heap.size, 0, none⟩ = some (.int .i64 (Cal.ovA x0 x1 y0 y1)) := by rw [hb17.cell (p := ⟨w12.heap.size, 0, none⟩) (by simp; try omega)]; simp [go_sem, *]
    have f17_2_0 : w17.frozen? ⟨w12.heap.size, 0, none⟩ = false := by rw [hb17.frozen (p := ⟨w12.heap.size, 0, none⟩) (by simp; try omega)]; simp [go_sem, *]
    have c17_2_1 : w17.cell? ⟨w12.heap.size, 1, none⟩ = some (.int .i64 (Cal.ovB x0 x1 y0 y1)) := by rw [hb17.cell (p := ⟨w12.heap.size, 1, none⟩) (by simp; try omega)]; simp [go_sem, *]
    have f17_2_1 : w17.frozen? ⟨w12.heap.size, 1, none⟩ = false := by rw [hb17.frozen (p := ⟨w12.heap.size, 1, none⟩) (by simp; try omega)]; simp [go_sem, *]
    clear hb17
    go_wp2
    go_ret
    exact ⟨rfl, Q17.out⟩
  · go_wp2_with fail
    skip
    skip
    refine (contains_any x0 x1 h _ (by exact Nat.lt_of_lt_of_le hB (Below.size (Below.trans Q12.out (by repeat' (first | (with_reducible exact Below.refl _ _) | (with_reducible assumption) | (with_reducible refine below_drewN ?_ _) | (with_reducible refine Below.alloc ?_ ?_ _) | (with_reducible refine Below.drew ?_) | (with_reducible refine Below.setCell ?_ ?_ _) | go_size)))))).mono ?_
    rintro e w13 ⟨rfl, hb13⟩
    have Q13 := Lib.hid (chain Q12.out (by repeat' (first | (with_reducible exact Below.refl _ _) | (with_reducible assumption) | (with_reducible refine below_drewN ?_ _) | (with_reducible refine Below.alloc ?_ ?_ _) | (with_reducible refine Below.drew ?_) | (with_reducible refine Below.setCell ?_ ?_ _) | go_size)) hb13)
    have hq13 : w0.heap.size ≤ w13.heap.size := Q13.out.size
    have hz13 := hb13.size
    try simp only [World.size_alloc, World.size_setCell, World.size_drew] at hz13
    have hB13 : 0 < w13.heap.size := Nat.lt_of_lt_of_le hB (Q13.out.size)
    have hT13 : Tab w13 := hT.below Q13.out hB
    have hl13_0 : w11.heap.size < w13.heap.size := by omega
    have hm13_0 : w11.heap.size ≤ w13.heap.size := by omega
    have c13_0_0 : w13.cell? ⟨w11.heap.size, 0, none⟩ = some (.int .i64 x0) := by rw [hb13.cell (p := ⟨w11.heap.size, 0, none⟩) (by simp; try omega)]; simp [go_sem, *]
    have f13_0_0 : w13.frozen? ⟨w11.heap.size, 0, none⟩ = false := by rw [hb13.frozen (p := ⟨w11.heap.size, 0, none⟩) (by simp; try omega)]; simp [go_sem, *]
    have c13_0_1 : w13.cell? ⟨w11.heap.size, 1, none⟩ = some (.int .i64 x1) := by rw [hb13.cell (p := ⟨w11.heap.size, 1, none⟩) (by simp; try omega)]; simp [go_sem, *]
    have f13_0_1 : w13.frozen? ⟨w11.heap.size, 1, none⟩ = false := by rw [hb13.frozen (p := ⟨w11.heap.size, 1, none⟩) (by simp; try omega)]; simp [go_sem, *]
    have hl13_1 : w11.heap.size + 1 < w13.heap.size := by omega
    have hm13_1 : w11.heap.size + 1 ≤ w13.heap.size := by omega
    have c13_1_0 : w13.cell? ⟨w11.heap.size + 1, 0, none⟩ = some (.int .i64 y0) := by rw [hb13.cell (p := ⟨w11.heap.size + 1, 0, none⟩) (by simp; try omega)]; simp [go_sem, *]
    have f13_1_0 : w13.frozen? ⟨w11.heap.size + 1, 0, none⟩ = false := by rw [hb13.frozen (p := ⟨w11.heap.size + 1, 0, none⟩) (by simp; try omega)]; simp [go_sem, *]
    have c13_1_1 : w13.cell? ⟨w11.heap.size + 1, 1, none⟩ = some (.int .i64 y1) := by rw [hb13.cell (p := ⟨w11.heap.size + 1, 1, none⟩) (by simp; try omega)]; simp [go_sem, *]
    have f13_1_1 : w13.frozen? ⟨w11.heap.size + 1, 1, none⟩ = false := by rw [hb13.frozen (p := ⟨w11.heap.size + 1, 1, none⟩) (by simp; try omega)]; simp [go_sem, *]
    have hl13_2 : w12.heap.size < w13.heap.size := by omega
    have hm13_2 : w12.heap.size ≤ w13.heap.size := by omega
    have c13_2_0 : w13.cell? ⟨w12.heap.size, 0, none⟩ = some (.int .i64 (Cal.ovA x0 x1 y0 y1)) := by rw [hb13.cell (p := ⟨w12.heap.size, 0, none⟩) (by simp; try omega)]; simp [go_sem, *]
    have f13_2_0 : w13.frozen? ⟨w12.heap.size, 0, none⟩ = false := by rw [hb13.frozen (p := ⟨w12.heap.size, 0, none⟩) (by simp; try omega)]; simp [go_sem, *]
    have c13_2_1 : w13.cell? ⟨w12.heap.size, 1, none⟩ = some (.int .i64 (Cal.ovB x0 x1 y0 y1)) := by rw [hb13.cell (p := ⟨w12.heap.size, 1, none⟩) (by simp; try omega)]; simp [go_sem, *]
    have f13_2_1 : w13.frozen? ⟨w12.heap.size, 1, none⟩ = false := by rw [hb13.frozen (p := ⟨w12.heap.size, 1, none⟩) (by simp; try omega)]; simp [go_sem, *]
    clear hb13
    go_wp2_with fail
    refine (contains_any y0 y1 h _ (by exact Nat.lt_of_lt_of_le hB (Below.size (Below.trans Q13.out (by repeat' (first | (with_reducible exact Below.refl _ _) | (with_reducible assumption) | (with_reducible refine below_drewN ?_ _) | (with_reducible refine Below.alloc ?_ ?_ _) | (with_reducible refine Below.drew ?_) | (with_reducible refine Below.setCell ?_ ?_ _) | go_size)))))).mono ?_
    rintro e w14 ⟨rfl, hb14⟩
    have Q14 := Lib.hid (chain Q13.out (by repeat' (first | (with_reducible exact Below.refl _ _) | (with_reducible assumption) | (with_reducible refine below_drewN ?_ _) | (with_reducible refine Below.alloc ?_ ?_ _) | (with_reducible refine Below.drew ?_) | (with_reducible refine Below.setCell ?_ ?_ _) | go_size)) hb14)
    have hq14 : w0.heap.size ≤ w14.heap.size := Q14.out.size
    have hz14 := hb14.size
    try simp only [World.size_alloc, World.size_setCell, World.size_drew] at hz14
    have hB14 : 0 < w14.heap.size := Nat.lt_of_lt_of_le hB (Q14.out.size)
    have hT14 : Tab w14 := hT.below Q14.out hB
    have hl14_0 : w11.heap.size < w14.heap.size := by omega
    have hm14_0 : w11.heap.size ≤ w14.heap.size := by omega
    have c14_0_0 : w14.cell? ⟨w11.heap.size, 0, none⟩ = some (.int .i64 x0) := by rw [hb14.cell (p := ⟨w11.heap.size, 0, none⟩) (by simp; try omega)]; simp [go_sem, *]
    have f14_0_0 : w14.frozen? ⟨w11.heap.size, 0, none⟩ = false := by rw [hb14.frozen (p := ⟨w11.heap.size, 0, none⟩) (by simp; try omega)]; simp [go_sem, *]
    have c14_0_1 : w14.cell? ⟨w11.heap.size, 1, none⟩ = some (.int .i64 x1) := by rw [hb14.cell (p := ⟨w11.heap.size, 1, none⟩) (by simp; try omega)]; simp [go_sem, *]
    have f14_0_1 : w14.frozen? ⟨w11.heap.size, 1, none⟩ = false := by rw [hb14.frozen (p := ⟨w11.heap.size, 1, none⟩) (by simp; try omega)]; simp [go_sem, *]
    have hl14_1 : w11.heap.size + 1 < w14.heap.size := by omega
    have hm14_1 : w11.heap.size + 1 ≤ w14.heap.size := by omega
    have c14_1_0 : w14.cell? ⟨w11.heap.size + 1, 0, none⟩ = some (.int .i64 y0) := by rw [hb14.cell (p := ⟨w11.heap.size + 1, 0, none⟩) (by simp; try omega)]; simp [go_sem, *]
    have f14_1_0 : w14.frozen? ⟨w11.heap.size + 1, 0, none⟩ = false := by rw [hb14.frozen (p := ⟨w11.heap.size + 1, 0, none⟩) (by simp; try omega)]; simp [go_sem, *]
    have c14_1_1 : w14.cell? ⟨w11.heap.size + 1, 1, none⟩ = some (.int .i64 y1) := by rw [hb14.cell (p := ⟨w11.heap.size + 1, 1, none⟩) (by simp; try omega)]; simp [go_sem, *]
    have f14_1_1 : w14.frozen? ⟨w11.heap.size + 1, 1, none⟩ = false := by rw [hb14.frozen (p := ⟨w11.heap.size + 1, 1, none⟩) (by simp; try omega)]; simp [go_sem, *]
    have hl14_2 : w12.heap.size < w14.heap.size := by omega
    have hm14_2 : w12.heap.size ≤ w14.heap.size := by omega
    have c14_2_0 : w14.cell? ⟨w12.heap.size, 0, none⟩ = some (.int .i64 (Cal.ovA x0 x1 y0 y1)) := by rw [hb14.cell (p := ⟨w12.heap.size, 0, none⟩) (by simp; try omega)]; simp [go_sem, *]
    have f14_2_0 : w14.frozen? ⟨w12.heap.size, 0, none⟩ = false := by rw [hb14.frozen (p := ⟨w12.heap.size, 0, none⟩) (by simp; try omega)]; simp [go_sem, *]
    have c14_2_1 : w14.cell? ⟨w12.heap.size, 1, none⟩ = some (.int .i64 (Cal.ovB x0 x1 y0 y1)) := by rw [hb14.cell (p := ⟨w12.heap.size, 1, none⟩) (by simp; try omega)]; simp [go_sem, *]
    have f14_2_1 : w14.frozen? ⟨w12.heap.size, 1, none⟩ = false := by rw [hb14.frozen (p := ⟨w12.heap.size, 1, none⟩) (by simp; try omega)]; simp [go_sem, *]
    clear hb14
    go_wp2_with fail
    refine (contains_any (Cal.ovA x0 x1 y0 y1) (Cal.ovB x0 x1 y0 y1) h _ (by exact Nat.lt_of_lt_of_le hB (Below.size (Below.trans Q14.out (by repeat' (first | (with_reducible exact Below.refl _ _) | (with_reducible assumption) | (with_reducible refine below_drewN ?_ _) | (with_reducible refine Below.alloc ?_ ?_ _) | (with_reducible refine Below.drew ?_) | (with_reducible refine Below.setCell ?_ ?_ _) | go_size)))))).mono ?_
    rintro e w15 ⟨rfl, hb15⟩
    have Q15 := Lib.hid (chain Q14.out (by repeat' (first | (with_reducible exact Below.refl _ _) | (with_reducible assumption) | (with_reducible refine below_drewN ?_ _) | (with_reducible refine Below.alloc ?_ ?_ _) | (with_reducible refine Below.drew ?_) | (with_reducible refine Below.setCell ?_ ?_ _) | go_size)) hb15)
    have hq15 : w0.heap.size ≤ w15.heap.size := Q15.out.size
    have hz15 := hb15.size
    try simp only [World.size_alloc, World.size_setCell, World.size_drew] at hz15
    have hB15 : 0 < w15.heap.size := Nat.lt_of_lt_of_le hB (Q15.out.size)
    have hT15 : Tab w15 := hT.below Q15.out hB
    have hl15_0 : w11.heap.size < w15.heap.size := by omega
    have hm15_0 : w11.heap.size ≤ w15.heap.size := by omega
    have c15_0_0 : w15.cell? ⟨w11.heap.size, 0, none⟩ = some (.int .i64 x0) := by rw [hb15.cell (p := ⟨w11.heap.size, 0, none⟩) (by simp; try omega)]; simp [go_sem, *]
    have f15_0_0 : w15.frozen? ⟨w11.heap.size, 0, none⟩ = false := by rw [hb15.frozen (p := ⟨w11.heap.size, 0, none⟩) (by simp; try omega)]; simp [go_sem, *]
    have c15_0_1 : w15.cell? ⟨w11.heap.size, 1, none⟩ = some (.int .i64 x1) := by rw [hb15.cell (p := ⟨w11.heap.size, 1, none⟩) (by simp; try omega)]; simp [go_sem, *]
    have f15_0_1 : w15.frozen? ⟨w11.heap.size, 1, none⟩ = false := by rw [hb15.frozen (p := ⟨w11.heap.size, 1, none⟩) (by simp; try omega)]; simp [go_sem, *]
    have hl15_1 : w11.heap.size + 1 < w15.heap.size := by omega
    have hm15_1 : w11.heap.size + 1 ≤ w15.heap.size := by omega
    have c15_1_0 : w15.cell? ⟨w11.heap.size + 1, 0, none⟩ = some (.int .i64 y0) := by rw [hb15.cell (p := ⟨w11.heap.size + 1, 0, none⟩) (by simp; try omega)]; simp [go_sem, *]
    have f15_1_0 : w15.frozen? ⟨w11.heap.size + 1, 0, none⟩ = false := by rw [hb15.frozen (p := ⟨w11.heap.size + 1, 0, none⟩) (by simp; try omega)]; simp [go_sem, *]
    have c15_1_1 : w15.cell? ⟨w11.heap.size + 1, 1, none⟩ = some (.int .i64 y1) := by rw [hb15.cell (p := ⟨w11.heap.size + 1, 1, none⟩) (by simp; try omega)]; simp [go_sem, *]
    have f15_1_1 : w15.frozen? ⟨w11.heap.size + 1, 1, none⟩ = false := by rw [hb15.frozen (p := ⟨w11.heap.size + 1, 1, none⟩) (by simp; try omega)]; simp [go_sem, *]
    have hl15_2 : w12.heap.size < w15.heap.size := by omega
    have hm15_2 : w12.heap.size ≤ w15.heap.size := by omega
    have c15_2_0 : w15.cell? ⟨w12.heap.size, 0, none⟩ = some (.int .i64 (Cal.ovA x0 x1 y0 y1)) := by rw [hb15.cell (p := ⟨w12.heap.size, 0, none⟩) (by simp; try omega)]; simp [go_sem, *]
    have f15_2_0 : w15.frozen? ⟨w12.heap.size, 0, none⟩ = false := by rw [hb15.frozen (p := ⟨w12.heap.size, 0, none⟩) (by simp; try omega)]; simp [go_sem, *]
    have c15_2_1 : w15.cell? ⟨w12.heap.size, 1, none⟩ = some (.int .i64 (Cal.ovB x0 x1 y0 y1)) := by rw [hb15.cell (p := ⟨w12.heap.size, 1, none⟩) (by simp; try omega)]; simp [go_sem, *]
    have f15_2_1 : w15.frozen? ⟨w12.heap.size, 1, none⟩ = false := by rw [hb15.frozen (p := ⟨w12.heap.size, 1, none⟩) (by simp; try omega)]; simp [go_sem, *]
    clear hb15
    go_wp2_with fail
    refine (valid_any (Cal.ovA x0 x1 y0 y1) (Cal.ovB x0 x1 y0 y1) _).mono ?_
    rintro e w16 ⟨rfl, hb16⟩
    have Q16 := Lib.hid (chain Q15.out (by repeat' (first | (with_reducible exact Below.refl _ _) | (with_reducible assumption) | (with_reducible refine below_drewN ?_ _) | (with_reducible refine Below.alloc ?_ ?_ _) | (with_reducible refine Below.drew ?_) | (with_reducible refine Below.setCell ?_ ?_ _) | go_size)) hb16)
    have hq16 : w0.heap.size ≤ w16.heap.size := Q16.out.size
    have hz16 := hb16.size
    try simp only [World.size_alloc, World.size_setCell, World.size_drew] at hz16
    have hB16 : 0 < w16.heap.size := Nat.lt_of_lt_of_le hB (Q16.out.size)
    have hT16 : Tab w16 := hT.below Q16.out hB
    have hl16_0 : w11.heap.size < w16.heap.size := by omega
    have hm16_0 : w11.heap.size ≤ w16.heap.size := by omega
    have c16_0_0 : w16.cell? ⟨w11.heap.size, 0, none⟩ = some (.int .i64 x0) := by rw [hb16.cell (p := ⟨w11.heap.size, 0, none⟩) (by simp; try omega)]; simp [go_sem, *]
    have f16_0_0 : w16.frozen? ⟨w11.heap.size, 0, none⟩ = false := by rw [hb16.frozen (p := ⟨w11.heap.size, 0, none⟩) (by simp; try omega)]; simp [go_sem, *]
    have c16_0_1 : w16.cell? ⟨w11.heap.size, 1, none⟩ = some (.int .i64 x1) := by rw [hb16.cell (p := ⟨w11.heap.size, 1, none⟩) (by simp; try omega)]; simp [go_sem, *]
    have f16_0_1 : w16.frozen? ⟨w11.heap.size, 1, none⟩ = false := by rw [hb16.frozen (p := ⟨w11.heap.size, 1, none⟩) (by simp; try omega)]; simp [go_sem, *]
    have hl16_1 : w11.heap.size + 1 < w16.heap.size := by omega
    have hm16_1 : w11.heap.size + 1 ≤ w16.heap.size := by omega
    have c16_1_0 : w16.cell? ⟨w11.heap.size + 1, 0, none⟩ = some (.int .i64 y0) := by rw [hb16.cell (p := ⟨w11.heap.size + 1, 0, none⟩) (by simp; try omega)]; simp [go_sem, *]
    have f16_1_0 : w16.frozen? ⟨w11.heap.size + 1, 0, none⟩ = false := by rw [hb16.frozen (p := ⟨w11.heap.size + 1, 0, none⟩) (by simp; try omega)]; simp [go_sem, *]
    have c16_1_1 : w16.cell? ⟨w11.heap.size + 1, 1, none⟩ = some (.int .i64 y1) := by rw [hb16.cell (p := ⟨w11.heap.size + 1, 1, none⟩) (by simp; try omega)]; simp [go_sem, *]
    have f16_1_1 : w16.frozen? ⟨w11.heap.size + 1, 1, none⟩ = false := by rw [hb16.frozen (p := ⟨w11.heap.size + 1, 1, none⟩) (by simp; try omega)]; simp [go_sem, *]
    have hl16_2 : w12.heap.size < w16.heap.size := by omega
    have hm16_2 : w12.heap.size ≤ w16.heap.size := by omega
    have c16_2_0 : w16.cell? ⟨w12.heap.size, 0, none⟩ = some (.int .i64 (Cal.ovA x0 x1 y0 y1)) := by rw [hb16.cell (p := ⟨w12.heap.size, 0, none⟩) (by simp; try omega)]; simp [go_sem, *]
    have f16_2_0 : w16.frozen? ⟨w12.heap.size, 0, none⟩ = false := by rw [hb16.frozen (p := ⟨w12.heap.size, 0, none⟩) (by simp; try omega)]; simp [go_sem, *]
    have c16_2_1 : w16.cell? ⟨w12.heap.size, 1, none⟩ = some (.int .i64 (Cal.ovB x0 x1 y0 y1)) := by rw [hb16.cell (p := ⟨w12.heap.size, 1, none⟩) (by simp; try omega)]; simp [go_sem, *]
    have f16_2_1 : w16.frozen? ⟨w12.heap.size, 1, none⟩ = false := by rw [hb16.frozen (p := ⟨w12.heap.size, 1, none⟩) (by simp; try omega)]; simp [go_sem, *]
    clear hb16
    go_wp2_with fail
    refine (awake_any _ (by exact hT.below (Below.trans Q16.out (by repeat' (first | (with_reducible exact Below.refl _ _) | (with_reducible assumption) | (with_reducible refine below_drewN ?_ _) | (with_reducible refine Below.alloc ?_ ?_ _) | (with_reducible refine Below.drew ?_) | (with_reducible refine Below.setCell ?_ ?_ _) | go_size))) hB) (by exact Nat.lt_of_lt_of_le hB (Below.size (Below.trans Q16.out (by repeat' (first | (with_reducible exact Below.refl _ _) | (with_reducible assumption) | (with_reducible refine below_drewN ?_ _) | (with_reducible refine Below.alloc ?_ ?_ _) | (with_reducible refine Below.drew ?_) | (with_reducible refine Below.setCell ?_ ?_ _) | go_size)))))).mono ?_
    rintro e w17 ⟨rfl, hb17⟩
    have Q17 := Lib.hid (chain Q16.out (by repeat' (first | (with_reducible exact Below.refl _ _) | (with_reducible assumption) | (with_reducible refine below_drewN ?_ _) | (with_reducible refine Below.alloc ?_ ?_ _) | (with_reducible refine Below.drew ?_) | (with_reducible refine Below.setCell ?_ ?_ _) | go_size)) hb17)
    have hq17 : w0.heap.size ≤ w17.heap.size := Q17.out.size
    have hz17 := hb17.size
    try simp only [World.size_alloc, World.size_setCell, World.size_drew] at hz17
    have hB17 : 0 < w17.heap.size := Nat.lt_of_lt_of_le hB (Q17.out.size)
    have hT17 : Tab w17 := hT.below Q17.out hB
    have hl17_0 : w11.heap.size < w17.heap.size := by omega
    have hm17_0 : w11.heap.size ≤ w17.heap.size := by omega
    have c17_0_0 : w17.cell? ⟨w11.heap.size, 0, none⟩ = some (.int .i64 x0) := by rw [hb17.cell (p := ⟨w11.heap.size, 0, none⟩) (by simp; try omega)]; simp [go_sem, *]
    have f17_0_0 : w17.frozen? ⟨w11.heap.size, 0, none⟩ = false := by rw [hb17.frozen (p := ⟨w11.heap.size, 0, none⟩) (by simp; try omega)]; simp [go_sem, *]
    have c17_0_1 : w17.cell? ⟨w11.heap.size, 1, none⟩ = some (.int .i64 x1) := by rw [hb17.cell (p := ⟨w11.heap.size, 1, none⟩) (by simp; try omega)]; simp [go_sem, *]
    have f17_0_1 : w17.frozen? ⟨w11.heap.size, 1, none⟩ = false := by rw [hb17.frozen (p := ⟨w11.heap.size, 1, none⟩) (by simp; try omega)]; simp [go_sem, *]
    have hl17_1 : w11.heap.size + 1 < w17.heap.size := by omega
    have hm17_1 : w11.heap.size + 1 ≤ w17.heap.size := by omega
    have c17_1_0 : w17.cell? ⟨w11.heap.size + 1, 0, none⟩ = some (.int .i64 y0) := by rw [hb17.cell (p := ⟨w11.heap.size + 1, 0, none⟩) (by simp; try omega)]; simp [go_sem, *]
    have f17_1_0 : w17.frozen? ⟨w11.heap.size + 1, 0, none⟩ = false := by rw [hb17.frozen (p := ⟨w11.heap.size + 1, 0, none⟩) (by simp; try omega)]; simp [go_sem, *]
    have c17_1_1 : w17.cell? ⟨w11.heap.size + 1, 1, none⟩ = some (.int .i64 y1) := by rw [hb17.cell (p := ⟨w11.heap.size + 1, 1, none⟩) (by simp; try omega)]; simp [go_sem, *]
    have f17_1_1 : w17.frozen? ⟨w11.heap.size + 1, 1, none⟩ = false := by rw [hb17.frozen (p := ⟨w11.heap.size + 1, 1, none⟩) (by simp; try omega)]; simp [go_sem, *]
    have hl17_2 : w12.heap.size < w17.heap.size := by omega
    have hm17_2 : w12.heap.size ≤ w17.heap.size := by omega
    have c17_2_0 : w17.cell? ⟨w12.heap.size, 0, none⟩ = some (.int .i64 (Cal.ovA x0 x1 y0 y1)) := by rw [hb17.cell (p := ⟨w12.heap.size, 0, none⟩) (by simp; try omega)]; simp [go_sem, *]
    have f17_2_0 : w17.frozen? ⟨w12.heap.size, 0, none⟩ = false := by rw [hb17.frozen (p := ⟨w12.heap.size, 0, none⟩) (by simp; try omega)]; simp [go_sem, *]
    have c17_2_1 : w17.cell? ⟨w12.heap.size, 1, none⟩ = some (.int .i64 (Cal.ovB x0 x1 y0 y1)) := by rw [hb17.cell (p := ⟨w12.heap.size, 1, none⟩) (by simp; try omega)]; simp [go_sem, *]
    have f17_2_1 : w17.frozen? ⟨w12.heap.size, 1, none⟩ = false := by rw [hb17.frozen (p := ⟨w12.heap.size, 1, none⟩) (by simp; try omega)]; simp [go_sem, *]
    clear hb17
    go_wp2
    go_ret
    exact ⟨rfl, Q17.out⟩
end Go.Proofs.YtnidojfnpmhjkaaDoor
