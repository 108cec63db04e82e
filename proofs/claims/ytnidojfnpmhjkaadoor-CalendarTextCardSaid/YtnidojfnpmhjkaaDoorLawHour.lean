/- The walk of the law CalendarHour. -/
import Derived.Test.YtnidojfnpmhjkaaDoorParse0
import Derived.Test.YtnidojfnpmhjkaaDoorRefHour
namespace Go.Proofs.YtnidojfnpmhjkaaDoor
set_option linter.unusedVariables false
set_option linter.unusedSimpArgs false
open Go.RowKit

theorem bcell {W w1 : World} {B : Nat} (hb : Below B W w1) : (∀ b o, b < B → w1.cell? ⟨b, o, none⟩ = W.cell? ⟨b, o, none⟩) ∧ (∀ b o, b < B → w1.frozen? ⟨b, o, none⟩ = W.frozen? ⟨b, o, none⟩) :=
  ⟨fun b o h => hb.cell (p := ⟨b, o, none⟩) h, fun b o h => hb.frozen (p := ⟨b, o, none⟩) h⟩

set_option maxHeartbeats 1000000 in
theorem law_hour (dy dm dd h y m day : Int) (w : World) (hT : Tab w) (hB : 0 < w.heap.size) (y0 : 0 ≤ y) (y1 : y ≤ 65535) (m0 : 0 ≤ m) (m1 : m ≤ 255) (d0 : 0 ≤ day) (d1 : day ≤ 255) :
    Calls Tryd.prog 3 #[.agg #[.int .i64 dy, .int .i64 dm, .int .i64 dd], .int .i64 h, .int .u16 y, .int .u8 m, .int .u8 day] w fun e w' => e = .returned (.bool true) ∧ Below w.heap.size w w' := by
  go_enter Tryd.func3, Tryd.ntmps3
  go_wp2_with fail
  refine (hour_any dy dm dd h _ (by exact hT.alloc hB _) (by simp)).mono ?_
  rintro e w1 ⟨rfl, hb1⟩
  have hT1 : Tab w1 := (hT.alloc hB _).below hb1 (by simp)
  have hz1 : w.heap.size < w1.heap.size := by have := hb1.size; simp at this; omega
  have hB1 : 0 < w1.heap.size := by omega
  have HB1 := Lib.hid hb1
  obtain ⟨hc1, hf1⟩ := bcell hb1
  clear hb1
  go_wp2_with fail
  refine (rhour_any dy dm dd h _).mono ?_
  rintro e w2 ⟨rfl, hb2⟩
  have hT2 : Tab w2 := hT1.below hb2 hB1
  have hz2 : w1.heap.size ≤ w2.heap.size := hb2.size
  have hB2 : 0 < w2.heap.size := by omega
  have HB2 := Lib.hid hb2
  clear hb2 hc1 hf1
  go_wp2_with fail
  refine (hour_any _ _ _ _ _ (by exact hT2.alloc hB2 _) (by simp)).mono ?_
  rintro e w3 ⟨rfl, hb3⟩
  have hT3 : Tab w3 := (hT2.alloc hB2 _).below hb3 (by simp)
  have hz3 : w2.heap.size < w3.heap.size := by have := hb3.size; simp at this; omega
  have hB3 : 0 < w3.heap.size := by omega
  have HB3 := Lib.hid hb3
  obtain ⟨hc3, hf3⟩ := bcell hb3
  clear hb3
  go_wp2_with fail
  refine (rhour_any _ _ _ _ _).mono ?_
  rintro e w4 ⟨rfl, hb4⟩
  have hT4 : Tab w4 := hT3.below hb4 hB3
  have hz4 : w3.heap.size ≤ w4.heap.size := hb4.size
  have hB4 : 0 < w4.heap.size := by omega
  have HB4 := Lib.hid hb4
  clear hb4 hc3 hf3
  go_wp2_with fail
  refine (awake_any _ hT4 hB4).mono ?_
  rintro e w5 ⟨rfl, hb5⟩
  go_wp2
  go_ret
  refine ⟨rfl, ?_⟩
  have k1 := ((Below.refl w.heap.size w).alloc (Nat.le_refl _) _).trans (HB1.out.mono (by simp))
  have k2 := k1.trans (HB2.out.mono (by omega))
  have k3 := (k2.alloc (by omega) _).trans (HB3.out.mono (by simp; omega))
  exact (k3.trans (HB4.out.mono (by omega))).trans (hb5.mono (by omega))
end Go.Proofs.YtnidojfnpmhjkaaDoor
