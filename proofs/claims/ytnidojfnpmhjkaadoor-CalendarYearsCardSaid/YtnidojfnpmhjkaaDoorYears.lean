/- The walks of Years, the program's and the reference's. -/
import Derived.Test.YtnidojfnpmhjkaaDoorLaws2
import Derived.Test.YtnidojfnpmhjkaaDoorPer
import Derived.WalkSmall
import Derived.Deep.AppendLies
import Derived.Maps.Range
namespace Go.Proofs.YtnidojfnpmhjkaaDoor
set_option linter.unusedVariables false
set_option linter.unusedSimpArgs false
open Go.RowKit
namespace Cal
noncomputable def yF (a : Int) (k : Nat) : Int := if k = 0 then a else amv a (12 * k)
def yStop (a b : Int) (k : Nat) : Prop := ame a (12 * (k + 1)) ≠ 0 ∨ b ≤ amv a (12 * (k + 1))
/-- k years end ahead of b. -/
def yOk (a b : Int) (k : Nat) : Prop := (∀ j, j < k → ¬ yStop a b j) ∧ yStop a b k
theorem yOk.unique {a b : Int} {k k' : Nat} (h : yOk a b k) (h' : yOk a b k') : k = k' := by
  rcases Nat.lt_trichotomy k k' with q | q | q
  · exact absurd h.2 (h'.1 k q)
  · exact q
  · exact absurd h'.2 (h.1 k' q)
noncomputable def yL (a : Int) (k : Nat) : List (Int × Int) := (List.range k).map fun j => (yF a j, yF a (j + 1))
theorem yL_succ (a : Int) (k : Nat) : yL a (k + 1) = yL a k ++ [(yF a k, yF a (k + 1))] := by simp [yL, List.range_succ]
def pc (l : List (Int × Int)) : List Value := l.flatMap fun p => [.int .i64 p.1, .int .i64 p.2]
theorem pc_append (l m : List (Int × Int)) : pc (l ++ m) = pc l ++ pc m := by simp [pc]
theorem pc_one (x y : Int) : pc [(x, y)] = [.int .i64 x, .int .i64 y] := rfl
noncomputable def yRes (a b : Int) (k : Nat) : List (Int × Int) := yL a k ++ [(yF a k, b)]
theorem yF_succ (a : Int) (k : Nat) : yF a (k + 1) = amv a (12 * (k + 1)) := by unfold yF; rw [if_neg (by omega)]; rfl
theorem ame_lt {a n : Int} (h0 : 0 ≤ a) (h1 : a ≤ 876599) (h : ame a n = 0) : n < 1200 := by
  have hc := civ_spec h0 h1
  rcases Classical.em (0 ≤ mon (cvy a) (cvm a) n ∧ mon (cvy a) (cvm a) n < 1200) with q | q
  · have := hc.1; have := hc.2.2.1; unfold mon at q; omega
  · rw [(am_bad h0 h1 hc q).2] at h; omega
end Cal
theorem below_grown {w w' : World} (h : Below w.heap.size w w') (row : Option Nat) : w.grownBy w' row := ⟨h.os, h.tape, h.output, h.size, fun k hk _ => h.block k hk⟩
theorem info38 : (Tryd.prog.info? 38).map (fun i => (i.zero, i.size, i.bytes)) = some (some (.agg #[.int .i64 0, .int .i64 0]), 2, 16) := by kernel_rfl
theorem _root_.Go.World.ownsRow.mono_base {w : World} {B B' : Nat} {e : TypeId} {size : Nat} {v : Value} {n : Nat} {xs : List Value} (h : w.ownsRow B e size v n xs) (hB : B' ≤ B) : w.ownsRow B' e size v n xs :=
  ⟨h.1, h.2.elim .inl fun ⟨g, cap, cur, h1, h2, h3⟩ => .inr ⟨g, cap, cur, h1, Nat.le_trans hB h2, h3⟩⟩
def YearsIs (a b : Int) (w0 : World) (e : Ending) (w' : World) : Prop := ∃ (k : Nat) (v : Value), e = .returned (.tuple #[v, .int .i64 0]) ∧ Cal.yOk a b k ∧ k ≤ 100 ∧ w'.ownsRow w0.heap.size 38 2 v (k + 1) (Cal.pc (Cal.yRes a b k)) ∧ Below w0.heap.size w0 w'

theorem years_bad (a b : Int) (w0 : World) (hB : 0 < w0.heap.size) (hP : ¬ (0 ≤ a ∧ a < b ∧ b ≤ 876600)) : Calls Tryd.prog 38 #[.agg #[.int .i64 a, .int .i64 b]] w0 fun e w' => e = .returned (.tuple #[.slice none 0 0, .int .i64 12]) ∧ Below w0.heap.size w0 w' := by
  go_enter Tryd.func38, Tryd.ntmps38
  have Q0 := Lib.hid (Below.refl w0.heap.size w0)
  have hB0 := hB
  go_wp2_with fail
  refine (valid_f a b _ hP).mono ?_
  rintro e w1 ⟨rfl, hb1⟩
  have Q1 := Lib.hid (chain Q0.out (by repeat' (first | (with_reducible exact Below.refl _ _) | (with_reducible assumption) | (with_reducible refine below_drewN ?_ _) | (with_reducible refine Below.alloc ?_ ?_ _) | (with_reducible refine Below.drew ?_) | (with_reducible refine Below.setCell ?_ ?_ _) | go_size)) hb1)
  have hq1 : w0.heap.size ≤ w1.heap.size := Q1.out.size
  have hz1 := hb1.size
  try simp only [World.size_alloc, World.size_setCell, World.size_drew] at hz1
  have hB1 : 0 < w1.heap.size := Nat.lt_of_lt_of_le hB (Q1.out.size)
  have hl1_0 : w0.heap.size < w1.heap.size := by omega
  have hm1_0 : w0.heap.size ≤ w1.heap.size := by omega
  have c1_0_0 : w1.cell? ⟨w0.heap.size, 0, none⟩ = some (.int .i64 a) := by rw [hb1.cell (p := ⟨w0.heap.size, 0, none⟩) (by simp; try omega)]; simp [go_sem, *]
  have f1_0_0 : w1.frozen? ⟨w0.heap.size, 0, none⟩ = false := by rw [hb1.frozen (p := ⟨w0.heap.size, 0, none⟩) (by simp; try omega)]; simp [go_sem, *]
  have c1_0_1 : w1.cell? ⟨w0.heap.size, 1, none⟩ = some (.int .i64 b) := by rw [hb1.cell (p := ⟨w0.heap.size, 1, none⟩) (by simp; try omega)]; simp [go_sem, *]
  have f1_0_1 : w1.frozen? ⟨w0.heap.size, 1, none⟩ = false := by rw [hb1.frozen (p := ⟨w0.heap.size, 1, none⟩) (by simp; try omega)]; simp [go_sem, *]
  clear hb1
  go_wp2
  go_ret2
  exact ⟨rfl, Q1.out⟩

set_option maxHeartbeats 2000000 in
set_option maxRecDepth 100000 in
theorem years_good (a b : Int) (w0 : World) (hT : Tab w0) (hB : 0 < w0.heap.size) (hP : 0 ≤ a ∧ a < b ∧ b ≤ 876600) : Calls Tryd.prog 38 #[.agg #[.int .i64 a, .int .i64 b]] w0 (YearsIs a b w0) := by
  obtain ⟨i0, hI, hI0, hI1, hI2⟩ := info_parts info38
  have HP := Lib.hid hP
  go_enter Tryd.func38, Tryd.ntmps38
  have Q0 := Lib.hid (Below.refl w0.heap.size w0)
  have hT0 := hT
  have hB0 := hB
  go_wp2_with fail
  refine (valid_t a b _ hP.1 hP.2.1 hP.2.2).mono ?_
  rintro e w1 ⟨rfl, hb1⟩
  have Q1 := Lib.hid (chain Q0.out (by repeat' (first | (with_reducible exact Below.refl _ _) | (with_reducible assumption) | (with_reducible refine below_drewN ?_ _) | (with_reducible refine Below.alloc ?_ ?_ _) | (with_reducible refine Below.drew ?_) | (with_reducible refine Below.setCell ?_ ?_ _) | go_size)) hb1)
  have hq1 : w0.heap.size ≤ w1.heap.size := Q1.out.size
  have hz1 := hb1.size
  try simp only [World.size_alloc, World.size_setCell, World.size_drew] at hz1
  have hB1 : 0 < w1.heap.size := Nat.lt_of_lt_of_le hB (Q1.out.size)
  have hT1 : Tab w1 := hT.below Q1.out hB
  have hl1_0 : w0.heap.size < w1.heap.size := by omega
  have hm1_0 : w0.heap.size ≤ w1.heap.size := by omega
  have c1_0_0 : w1.cell? ⟨w0.heap.size, 0, none⟩ = some (.int .i64 a) := by rw [hb1.cell (p := ⟨w0.heap.size, 0, none⟩) (by simp; try omega)]; simp [go_sem, *]
  have f1_0_0 : w1.frozen? ⟨w0.heap.size, 0, none⟩ = false := by rw [hb1.frozen (p := ⟨w0.heap.size, 0, none⟩) (by simp; try omega)]; simp [go_sem, *]
  have c1_0_1 : w1.cell? ⟨w0.heap.size, 1, none⟩ = some (.int .i64 b) := by rw [hb1.cell (p := ⟨w0.heap.size, 1, none⟩) (by simp; try omega)]; simp [go_sem, *]
  have f1_0_1 : w1.frozen? ⟨w0.heap.size, 1, none⟩ = false := by rw [hb1.frozen (p := ⟨w0.heap.size, 1, none⟩) (by simp; try omega)]; simp [go_sem, *]
  clear hb1
  go_wp2
  go_loopw [4, 5, 6] (fun v x n wr => ∃ k : Nat, k ≤ 99 ∧ x = .int .i64 (Cal.yF a k) ∧ n = .int .i64 (12 * (k + 1)) ∧ Hid (∀ j, j < k → ¬ Cal.yStop a b j) ∧ wr.ownsRow (w0.heap.size + 1) 38 2 v k (Cal.pc (Cal.yL a k)) ∧ Hid (Below w0.heap.size w0 wr) ∧ w0.heap.size < wr.heap.size ∧ wr.cell? ⟨w0.heap.size, 0, none⟩ = some (.int .i64 a) ∧ wr.cell? ⟨w0.heap.size, 1, none⟩ = some (.int .i64 b)) (fun _ _ n _ => (1300 - intOf n).toNat)
  case atStart => exact ⟨0, by omega, by simp [Cal.yF], rfl, fun j hj => by omega, World.ownsRow_nil _ _ _ _, Q1.out, hl1_0, c1_0_0, c1_0_1⟩
  case round =>
    obtain ⟨k, hk, rfl, rfl, HS, hown, HB, hzr, cr0, cr1⟩ := hrel
    have HO := Lib.hid hown
    clear hown
    have hTr : Tab wr := hT.below HB.out hB
    go_wp2_with fail
    refine (am_any a _ _ hTr (by omega)).mono ?_
    rintro e w1 ⟨rfl, hb1⟩
    have hz1' := hb1.size
    have hown1 := HO.out.kept (below_grown hb1 none) (by cases u4.ownBlock <;> simp)
    have hlt1 := hown1.lt
    have HB1 := Lib.hid (HB.out.trans (hb1.mono HB.out.size))
    have d0 : w1.cell? ⟨w0.heap.size, 0, none⟩ = some (.int .i64 a) := (hb1.cell (p := ⟨w0.heap.size, 0, none⟩) hzr).trans cr0
    have d1 : w1.cell? ⟨w0.heap.size, 1, none⟩ = some (.int .i64 b) := (hb1.cell (p := ⟨w0.heap.size, 1, none⟩) hzr).trans cr1
    have HO1 := Lib.hid hown1
    have HLT := Lib.hid hlt1
    clear hb1 hown1 hlt1 cr0 cr1
    have HYL := Lib.hid (show Cal.pc (Cal.yL a k) ++ [.int .i64 (Cal.yF a k), .int .i64 (Cal.amv a (12 * (k + 1)))] = Cal.pc (Cal.yL a (k + 1)) by rw [Cal.yL_succ, Cal.pc_append, Cal.pc_one, Cal.yF_succ])
    have HYR := Lib.hid (show Cal.pc (Cal.yL a k) ++ [.int .i64 (Cal.yF a k), .int .i64 b] = Cal.pc (Cal.yRes a b k) by rw [Cal.yRes, Cal.pc_append, Cal.pc_one])
    have HYF := Lib.hid (Cal.yF_succ a k)
    generalize hF : Cal.yF a k = F at *
    clear hF
    by_cases he : Cal.ame a (12 * (k + 1)) = 0
    · have hk1 : k + 1 ≤ 99 := by have := Cal.ame_lt HP.out.1 (by have := HP.out; omega) he; omega
      have q1 : (Cal.ame a (12 * (k + 1)) != 0) = false := by simp [he]
      by_cases hs : b ≤ Cal.amv a (12 * (k + 1))
      · have HOK : Hid (Cal.yOk a b k) := ⟨HS.out, .inr hs⟩
        have q2 : decide (b ≤ Cal.amv a (12 * (k + 1))) = true := decide_eq_true hs
        clear he hs
        go_wp2_with (first | (at_builtin; refine wpList_append_own _ rfl _ _ 61 rfl (w0.heap.size + 1) 38 i0 (.agg #[.int .i64 0, .int .i64 0]) 2 16 Tryd.underlying61 hI hI0 hI1 hI2 rfl (by decide) _ _ _ rfl (HO1.out.alloc _) ⟨w1.heap.size, 0, none⟩ 1 1 [.int .i64 F, .int .i64 b] rfl rfl (cell_two_new _ _ _ _) (fun x hx => by simp at hx; rcases hx with rfl | rfl <;> rfl) (by unfold maxLen; omega) (by omega) (by simp; omega) ?_; intro v' w3 hown' hgrow3 hnil3))
        have hb3 : Below w0.heap.size w0 w3 := Below.grown (HB1.out.alloc (by omega) _) hgrow3 (by simp; omega) (fun j hj => by have := (HLT.out _ hj).1; omega)
        rw [HYR.out] at hown'
        go_wp2
        go_ret2
        exact ⟨k, v', rfl, HOK.out, by omega, hown'.mono_base (by omega), hb3⟩
      · have HS' : Hid (∀ j, j < k + 1 → ¬ Cal.yStop a b j) := fun j hj => (Nat.lt_succ_iff_lt_or_eq.1 hj).elim (HS.out j) (fun e => by subst e; exact fun q => q.elim (fun x => x he) hs)
        have q2 : decide (b ≤ Cal.amv a (12 * (k + 1))) = false := decide_eq_false hs
        clear he hs
        go_wp2_with (first | (at_builtin; refine wpList_append_own _ rfl _ _ 61 rfl (w0.heap.size + 1) 38 i0 (.agg #[.int .i64 0, .int .i64 0]) 2 16 Tryd.underlying61 hI hI0 hI1 hI2 rfl (by decide) _ _ _ rfl (HO1.out.alloc _) ⟨w1.heap.size, 0, none⟩ 1 1 [.int .i64 F, .int .i64 (Cal.amv a (12 * (k + 1)))] rfl rfl (cell_two_new _ _ _ _) (fun x hx => by simp at hx; rcases hx with rfl | rfl <;> rfl) (by unfold maxLen; omega) (by omega) (by simp; omega) ?_; intro v' w3 hown' hgrow3 hnil3))
        have hb3 : Below w0.heap.size w0 w3 := Below.grown (HB1.out.alloc (by omega) _) hgrow3 (by simp; omega) (fun j hj => by have := (HLT.out _ hj).1; omega)
        have e0 : w3.cell? ⟨w0.heap.size, 0, none⟩ = some (.int .i64 a) := hgrow3.cell (by rw [World.cell?_alloc_lt _ _ _ (by simp; omega)]; exact d0) (fun h => by have := (HLT.out _ h.symm).1; simp at this; omega)
        have e1 : w3.cell? ⟨w0.heap.size, 1, none⟩ = some (.int .i64 b) := hgrow3.cell (by rw [World.cell?_alloc_lt _ _ _ (by simp; omega)]; exact d1) (fun h => by have := (HLT.out _ h.symm).1; simp at this; omega)
        have hz3 : w0.heap.size < w3.heap.size := by have := hgrow3.size; simp at this; omega
        rw [HYL.out] at hown'
        have X := Lib.hid (And.intro hown' (And.intro hb3 (And.intro hz3 (And.intro e0 e1))))
        clear hown' hgrow3 hnil3 hb3 e0 e1 hz3
        go_wp2
        go_roundw
        case rel => exact ⟨k + 1, hk1, by rw [HYF.out], by go_num, HS', X.out.1, X.out.2.1, X.out.2.2.1, X.out.2.2.2.1, X.out.2.2.2.2⟩
        case measure => simp [intOf]; omega
    · have q1 : (Cal.ame a (12 * (k + 1)) != 0) = true := by simp [he]
      have HOK : Hid (Cal.yOk a b k) := ⟨HS.out, .inl he⟩
      clear he
      go_wp2_with (first | (at_builtin; refine wpList_append_own _ rfl _ _ 61 rfl (w0.heap.size + 1) 38 i0 (.agg #[.int .i64 0, .int .i64 0]) 2 16 Tryd.underlying61 hI hI0 hI1 hI2 rfl (by decide) _ _ _ rfl (HO1.out.alloc _) ⟨w1.heap.size, 0, none⟩ 1 1 [.int .i64 F, .int .i64 b] rfl rfl (cell_two_new _ _ _ _) (fun x hx => by simp at hx; rcases hx with rfl | rfl <;> rfl) (by unfold maxLen; omega) (by omega) (by simp; omega) ?_; intro v' w3 hown' hgrow3 hnil3))
      have hb3 : Below w0.heap.size w0 w3 := Below.grown (HB1.out.alloc (by omega) _) hgrow3 (by simp; omega) (fun j hj => by have := (HLT.out _ hj).1; omega)
      rw [HYR.out] at hown'
      go_wp2
      go_ret2
      exact ⟨k, v', rfl, HOK.out, by omega, hown'.mono_base (by omega), hb3⟩

theorem ryears_bad (a b : Int) (w0 : World) (hB : 0 < w0.heap.size) (hP : ¬ (0 ≤ a ∧ a < b ∧ b ≤ 876600)) : Calls Tryd.prog 39 #[.agg #[.int .i64 a, .int .i64 b]] w0 fun e w' => e = .returned (.tuple #[.slice none 0 0, .int .i64 12]) ∧ Below w0.heap.size w0 w' := by
  go_enter Tryd.func39, Tryd.ntmps39
  have Q0 := Lib.hid (Below.refl w0.heap.size w0)
  have hB0 := hB
  go_wp2_with fail
  refine (rvalid_f a b _ hP).mono ?_
  rintro e w1 ⟨rfl, hb1⟩
  have Q1 := Lib.hid (chain Q0.out (by repeat' (first | (with_reducible exact Below.refl _ _) | (with_reducible assumption) | (with_reducible refine below_drewN ?_ _) | (with_reducible refine Below.alloc ?_ ?_ _) | (with_reducible refine Below.drew ?_) | (with_reducible refine Below.setCell ?_ ?_ _) | go_size)) hb1)
  have hq1 : w0.heap.size ≤ w1.heap.size := Q1.out.size
  have hz1 := hb1.size
  try simp only [World.size_alloc, World.size_setCell, World.size_drew] at hz1
  have hB1 : 0 < w1.heap.size := Nat.lt_of_lt_of_le hB (Q1.out.size)
  have hl1_0 : w0.heap.size < w1.heap.size := by omega
  have hm1_0 : w0.heap.size ≤ w1.heap.size := by omega
  have c1_0_0 : w1.cell? ⟨w0.heap.size, 0, none⟩ = some (.int .i64 a) := by rw [hb1.cell (p := ⟨w0.heap.size, 0, none⟩) (by simp; try omega)]; simp [go_sem, *]
  have f1_0_0 : w1.frozen? ⟨w0.heap.size, 0, none⟩ = false := by rw [hb1.frozen (p := ⟨w0.heap.size, 0, none⟩) (by simp; try omega)]; simp [go_sem, *]
  have c1_0_1 : w1.cell? ⟨w0.heap.size, 1, none⟩ = some (.int .i64 b) := by rw [hb1.cell (p := ⟨w0.heap.size, 1, none⟩) (by simp; try omega)]; simp [go_sem, *]
  have f1_0_1 : w1.frozen? ⟨w0.heap.size, 1, none⟩ = false := by rw [hb1.frozen (p := ⟨w0.heap.size, 1, none⟩) (by simp; try omega)]; simp [go_sem, *]
  clear hb1
  go_wp2
  go_ret2
  exact ⟨rfl, Q1.out⟩

set_option maxHeartbeats 2000000 in
set_option maxRecDepth 100000 in
theorem ryears_good (a b : Int) (w0 : World) (hB : 0 < w0.heap.size) (hP : 0 ≤ a ∧ a < b ∧ b ≤ 876600) : Calls Tryd.prog 39 #[.agg #[.int .i64 a, .int .i64 b]] w0 (YearsIs a b w0) := by
  obtain ⟨i0, hI, hI0, hI1, hI2⟩ := info_parts info38
  have HP := Lib.hid hP
  go_enter Tryd.func39, Tryd.ntmps39
  have Q0 := Lib.hid (Below.refl w0.heap.size w0)
  have hB0 := hB
  go_wp2_with fail
  refine (rvalid_t a b _ hP.1 hP.2.1 hP.2.2).mono ?_
  rintro e w1 ⟨rfl, hb1⟩
  have Q1 := Lib.hid (chain Q0.out (by repeat' (first | (with_reducible exact Below.refl _ _) | (with_reducible assumption) | (with_reducible refine below_drewN ?_ _) | (with_reducible refine Below.alloc ?_ ?_ _) | (with_reducible refine Below.drew ?_) | (with_reducible refine Below.setCell ?_ ?_ _) | go_size)) hb1)
  have hq1 : w0.heap.size ≤ w1.heap.size := Q1.out.size
  have hz1 := hb1.size
  try simp only [World.size_alloc, World.size_setCell, World.size_drew] at hz1
  have hB1 : 0 < w1.heap.size := Nat.lt_of_lt_of_le hB (Q1.out.size)
  have hl1_0 : w0.heap.size < w1.heap.size := by omega
  have hm1_0 : w0.heap.size ≤ w1.heap.size := by omega
  have c1_0_0 : w1.cell? ⟨w0.heap.size, 0, none⟩ = some (.int .i64 a) := by rw [hb1.cell (p := ⟨w0.heap.size, 0, none⟩) (by simp; try omega)]; simp [go_sem, *]
  have f1_0_0 : w1.frozen? ⟨w0.heap.size, 0, none⟩ = false := by rw [hb1.frozen (p := ⟨w0.heap.size, 0, none⟩) (by simp; try omega)]; simp [go_sem, *]
  have c1_0_1 : w1.cell? ⟨w0.heap.size, 1, none⟩ = some (.int .i64 b) := by rw [hb1.cell (p := ⟨w0.heap.size, 1, none⟩) (by simp; try omega)]; simp [go_sem, *]
  have f1_0_1 : w1.frozen? ⟨w0.heap.size, 1, none⟩ = false := by rw [hb1.frozen (p := ⟨w0.heap.size, 1, none⟩) (by simp; try omega)]; simp [go_sem, *]
  clear hb1
  go_wp2
  go_loopw [4, 5, 6] (fun v x n wr => ∃ k : Nat, k ≤ 99 ∧ x = .int .i64 (Cal.yF a k) ∧ n = .int .i64 (12 * (k + 1)) ∧ Hid (∀ j, j < k → ¬ Cal.yStop a b j) ∧ wr.ownsRow (w0.heap.size + 1) 38 2 v k (Cal.pc (Cal.yL a k)) ∧ Hid (Below w0.heap.size w0 wr) ∧ w0.heap.size < wr.heap.size ∧ wr.cell? ⟨w0.heap.size, 0, none⟩ = some (.int .i64 a) ∧ wr.cell? ⟨w0.heap.size, 1, none⟩ = some (.int .i64 b)) (fun _ _ n _ => (1300 - intOf n).toNat)
  case atStart => exact ⟨0, by omega, by simp [Cal.yF], rfl, fun j hj => by omega, World.ownsRow_nil _ _ _ _, Q1.out, hl1_0, c1_0_0, c1_0_1⟩
  case round =>
    obtain ⟨k, hk, rfl, rfl, HS, hown, HB, hzr, cr0, cr1⟩ := hrel
    have HO := Lib.hid hown
    clear hown
    skip
    go_wp2_with fail
    refine (ram_any a _ _ (by omega)).mono ?_
    rintro e w1 ⟨rfl, hb1⟩
    have hz1' := hb1.size
    have hown1 := HO.out.kept (below_grown hb1 none) (by cases u4.ownBlock <;> simp)
    have hlt1 := hown1.lt
    have HB1 := Lib.hid (HB.out.trans (hb1.mono HB.out.size))
    have d0 : w1.cell? ⟨w0.heap.size, 0, none⟩ = some (.int .i64 a) := (hb1.cell (p := ⟨w0.heap.size, 0, none⟩) hzr).trans cr0
    have d1 : w1.cell? ⟨w0.heap.size, 1, none⟩ = some (.int .i64 b) := (hb1.cell (p := ⟨w0.heap.size, 1, none⟩) hzr).trans cr1
    have HO1 := Lib.hid hown1
    have HLT := Lib.hid hlt1
    clear hb1 hown1 hlt1 cr0 cr1
    have HYL := Lib.hid (show Cal.pc (Cal.yL a k) ++ [.int .i64 (Cal.yF a k), .int .i64 (Cal.amv a (12 * (k + 1)))] = Cal.pc (Cal.yL a (k + 1)) by rw [Cal.yL_succ, Cal.pc_append, Cal.pc_one, Cal.yF_succ])
    have HYR := Lib.hid (show Cal.pc (Cal.yL a k) ++ [.int .i64 (Cal.yF a k), .int .i64 b] = Cal.pc (Cal.yRes a b k) by rw [Cal.yRes, Cal.pc_append, Cal.pc_one])
    have HYF := Lib.hid (Cal.yF_succ a k)
    generalize hF : Cal.yF a k = F at *
    clear hF
    by_cases he : Cal.ame a (12 * (k + 1)) = 0
    · have hk1 : k + 1 ≤ 99 := by have := Cal.ame_lt HP.out.1 (by have := HP.out; omega) he; omega
      have q1 : (Cal.ame a (12 * (k + 1)) != 0) = false := by simp [he]
      by_cases hs : b ≤ Cal.amv a (12 * (k + 1))
      · have HOK : Hid (Cal.yOk a b k) := ⟨HS.out, .inr hs⟩
        have q2 : decide (b ≤ Cal.amv a (12 * (k + 1))) = true := decide_eq_true hs
        clear he hs
        go_wp2_with (first | (at_builtin; refine wpList_append_own _ rfl _ _ 61 rfl (w0.heap.size + 1) 38 i0 (.agg #[.int .i64 0, .int .i64 0]) 2 16 Tryd.underlying61 hI hI0 hI1 hI2 rfl (by decide) _ _ _ rfl (HO1.out.alloc _) ⟨w1.heap.size, 0, none⟩ 1 1 [.int .i64 F, .int .i64 b] rfl rfl (cell_two_new _ _ _ _) (fun x hx => by simp at hx; rcases hx with rfl | rfl <;> rfl) (by unfold maxLen; omega) (by omega) (by simp; omega) ?_; intro v' w3 hown' hgrow3 hnil3))
        have hb3 : Below w0.heap.size w0 w3 := Below.grown (HB1.out.alloc (by omega) _) hgrow3 (by simp; omega) (fun j hj => by have := (HLT.out _ hj).1; omega)
        rw [HYR.out] at hown'
        go_wp2
        go_ret2
        exact ⟨k, v', rfl, HOK.out, by omega, hown'.mono_base (by omega), hb3⟩
      · have HS' : Hid (∀ j, j < k + 1 → ¬ Cal.yStop a b j) := fun j hj => (Nat.lt_succ_iff_lt_or_eq.1 hj).elim (HS.out j) (fun e => by subst e; exact fun q => q.elim (fun x => x he) hs)
        have q2 : decide (b ≤ Cal.amv a (12 * (k + 1))) = false := decide_eq_false hs
        clear he hs
        go_wp2_with (first | (at_builtin; refine wpList_append_own _ rfl _ _ 61 rfl (w0.heap.size + 1) 38 i0 (.agg #[.int .i64 0, .int .i64 0]) 2 16 Tryd.underlying61 hI hI0 hI1 hI2 rfl (by decide) _ _ _ rfl (HO1.out.alloc _) ⟨w1.heap.size, 0, none⟩ 1 1 [.int .i64 F, .int .i64 (Cal.amv a (12 * (k + 1)))] rfl rfl (cell_two_new _ _ _ _) (fun x hx => by simp at hx; rcases hx with rfl | rfl <;> rfl) (by unfold maxLen; omega) (by omega) (by simp; omega) ?_; intro v' w3 hown' hgrow3 hnil3))
        have hb3 : Below w0.heap.size w0 w3 := Below.grown (HB1.out.alloc (by omega) _) hgrow3 (by simp; omega) (fun j hj => by have := (HLT.out _ hj).1; omega)
        have e0 : w3.cell? ⟨w0.heap.size, 0, none⟩ = some (.int .i64 a) := hgrow3.cell (by rw [World.cell?_alloc_lt _ _ _ (by simp; omega)]; exact d0) (fun h => by have := (HLT.out _ h.symm).1; simp at this; omega)
        have e1 : w3.cell? ⟨w0.heap.size, 1, none⟩ = some (.int .i64 b) := hgrow3.cell (by rw [World.cell?_alloc_lt _ _ _ (by simp; omega)]; exact d1) (fun h => by have := (HLT.out _ h.symm).1; simp at this; omega)
        have hz3 : w0.heap.size < w3.heap.size := by have := hgrow3.size; simp at this; omega
        rw [HYL.out] at hown'
        have X := Lib.hid (And.intro hown' (And.intro hb3 (And.intro hz3 (And.intro e0 e1))))
        clear hown' hgrow3 hnil3 hb3 e0 e1 hz3
        go_wp2
        go_roundw
        case rel => exact ⟨k + 1, hk1, by rw [HYF.out], by go_num, HS', X.out.1, X.out.2.1, X.out.2.2.1, X.out.2.2.2.1, X.out.2.2.2.2⟩
        case measure => simp [intOf]; omega
    · have q1 : (Cal.ame a (12 * (k + 1)) != 0) = true := by simp [he]
      have HOK : Hid (Cal.yOk a b k) := ⟨HS.out, .inl he⟩
      clear he
      go_wp2_with (first | (at_builtin; refine wpList_append_own _ rfl _ _ 61 rfl (w0.heap.size + 1) 38 i0 (.agg #[.int .i64 0, .int .i64 0]) 2 16 Tryd.underlying61 hI hI0 hI1 hI2 rfl (by decide) _ _ _ rfl (HO1.out.alloc _) ⟨w1.heap.size, 0, none⟩ 1 1 [.int .i64 F, .int .i64 b] rfl rfl (cell_two_new _ _ _ _) (fun x hx => by simp at hx; rcases hx with rfl | rfl <;> rfl) (by unfold maxLen; omega) (by omega) (by simp; omega) ?_; intro v' w3 hown' hgrow3 hnil3))
      have hb3 : Below w0.heap.size w0 w3 := Below.grown (HB1.out.alloc (by omega) _) hgrow3 (by simp; omega) (fun j hj => by have := (HLT.out _ hj).1; omega)
      rw [HYR.out] at hown'
      go_wp2
      go_ret2
      exact ⟨k, v', rfl, HOK.out, by omega, hown'.mono_base (by omega), hb3⟩
end Go.Proofs.YtnidojfnpmhjkaaDoor
