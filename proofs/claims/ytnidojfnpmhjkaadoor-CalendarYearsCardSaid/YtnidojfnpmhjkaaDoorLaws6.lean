/- The walk of the law CalendarYears. -/
import Derived.Test.YtnidojfnpmhjkaaDoorYearsP
import Derived.Test.YtnidojfnpmhjkaaDoorDeck
namespace Go.Proofs.YtnidojfnpmhjkaaDoor
set_option linter.unusedVariables false
set_option linter.unusedSimpArgs false
open Go.RowKit
theorem yTo_eq (a b : Int) (k j : Nat) : Cal.yTo a b k j = if j + 1 ≤ k then Cal.yF a (j + 1) else b := by
  unfold Cal.yTo
  by_cases q : j < k
  · rw [if_pos q, if_pos (by omega)]
  · rw [if_neg q, if_neg (by omega)]
theorem own_slice {w : World} {B : Nat} {e : TypeId} {v : Value} {n : Nat} {xs : List Value} (h : w.ownsRow B e 2 v (n + 1) xs) : ∃ g cap, v = .slice (some ⟨g, 0, none⟩) (n + 1) cap ∧ B ≤ g ∧ g < w.heap.size := by
  rcases h.2 with ⟨_, h0⟩ | ⟨g, cap, cur, rfl, hb, hg, _⟩
  · omega
  · exact ⟨g, cap, rfl, hb, (Array.getElem?_eq_some_iff.1 hg).1⟩
/-- The cells of the years. -/
theorem year_cells {w : World} {B g cap k : Nat} {e : TypeId} {a b : Int} (h : w.ownsRow B e 2 (.slice (some ⟨g, 0, none⟩) (k + 1) cap) (k + 1) (Cal.pc (Cal.yRes a b k))) : ∀ i, i ≤ k → w.cell? ⟨g, 2 * i, none⟩ = some (.int .i64 (Cal.yF a i)) ∧ w.cell? ⟨g, 2 * i + 1, none⟩ = some (.int .i64 (Cal.yTo a b k i)) := fun i hi => by
  have p := Cal.pc_at (Cal.yRes a b k) i _ (Cal.yRes_at a b k i hi)
  exact ⟨(h.cellAt (2 * i) (by omega)).trans p.1, (h.cellAt (2 * i + 1) (by omega)).trans p.2⟩

set_option maxHeartbeats 4000000 in
set_option maxRecDepth 100000 in
theorem law_years_t (a b : Int) (al : Option Addr) (len cap : Nat) (w0 : World) (hT : Tab w0) (hB : 0 < w0.heap.size) (hP : 0 ≤ a ∧ a < b ∧ b ≤ 876600) (hD : ∀ (w : World) (t : TypeId), w0.heap.size ≤ w.heap.size → (∀ k, k < w0.heap.size → w.heap[k]? = w0.heap[k]?) → DeckOk (w.alloc (.cells #[.slice al len cap, .int .i64 0] t)) w.heap.size) :
    Calls Tryd.prog 11 #[.agg #[.int .i64 a, .int .i64 b], .slice al len cap] w0 fun e w' => e = .returned (.bool true) ∧ Below w0.heap.size w0 w' := by
  have HD := Lib.hid hD
  clear hD
  go_enter Tryd.func11, Tryd.ntmps11
  have Q0 := Lib.hid (Below.refl w0.heap.size w0)
  have hT0 := hT
  have hB0 := hB
  go_wp2_with fail
  refine (years_good a b _ (by exact hT.below (Below.trans Q0.out (by repeat' (first | (with_reducible exact Below.refl _ _) | (with_reducible assumption) | (with_reducible refine below_drewN ?_ _) | (with_reducible refine Below.alloc ?_ ?_ _) | (with_reducible refine Below.drew ?_) | (with_reducible refine Below.setCell ?_ ?_ _) | go_size))) hB) (by exact Nat.lt_of_lt_of_le hB (Below.size (Below.trans Q0.out (by repeat' (first | (with_reducible exact Below.refl _ _) | (with_reducible assumption) | (with_reducible refine below_drewN ?_ _) | (with_reducible refine Below.alloc ?_ ?_ _) | (with_reducible refine Below.drew ?_) | (with_reducible refine Below.setCell ?_ ?_ _) | go_size))))) hP).mono ?_
  rintro e w1 ⟨k1, v1, rfl, hk1, hkb1, hown1, hb1⟩
  obtain ⟨g1, cap1, rfl, hg1, hg1'⟩ := own_slice hown1
  have HK1 := Lib.hid hk1
  clear hk1 hown1
  have Q1 := Lib.hid (chain Q0.out (by repeat' (first | (with_reducible exact Below.refl _ _) | (with_reducible assumption) | (with_reducible refine below_drewN ?_ _) | (with_reducible refine Below.alloc ?_ ?_ _) | (with_reducible refine Below.drew ?_) | (with_reducible refine Below.setCell ?_ ?_ _) | go_size)) hb1)
  have hb1' := hb1
  simp only [World.size_alloc] at hb1'
  have hq1 : w0.heap.size ≤ w1.heap.size := Q1.out.size
  have hz1 := hb1.size
  simp only [World.size_alloc] at hz1
  have hl1_0 : w0.heap.size < w1.heap.size := by omega
  have c1_0_0 : w1.cell? ⟨w0.heap.size, 0, none⟩ = some (.int .i64 a) := by rw [hb1.cell (p := ⟨w0.heap.size, 0, none⟩) (by simp)]; simp [go_sem]
  have c1_0_1 : w1.cell? ⟨w0.heap.size, 1, none⟩ = some (.int .i64 b) := by rw [hb1.cell (p := ⟨w0.heap.size, 1, none⟩) (by simp)]; simp [go_sem]
  clear hb1 hb1'
  go_wp2_with fail
  refine (ryears_good a b _ (by exact Nat.lt_of_lt_of_le hB (Below.size (Below.trans Q1.out (by repeat' (first | (with_reducible exact Below.refl _ _) | (with_reducible assumption) | (with_reducible refine below_drewN ?_ _) | (with_reducible refine Below.alloc ?_ ?_ _) | (with_reducible refine Below.drew ?_) | (with_reducible refine Below.setCell ?_ ?_ _) | go_size))))) hP).mono ?_
  rintro e w2 ⟨k2, v2, rfl, hk2, hkb2, hown2, hb2⟩
  obtain rfl := HK1.out.unique hk2
  obtain ⟨g2, cap2, rfl, hg2, hg2'⟩ := own_slice hown2
  clear hk2 hown2
  have Q2 := Lib.hid (chain Q1.out (by repeat' (first | (with_reducible exact Below.refl _ _) | (with_reducible assumption) | (with_reducible refine below_drewN ?_ _) | (with_reducible refine Below.alloc ?_ ?_ _) | (with_reducible refine Below.drew ?_) | (with_reducible refine Below.setCell ?_ ?_ _) | go_size)) hb2)
  have hq2 : w0.heap.size ≤ w2.heap.size := Q2.out.size
  have hz2 := hb2.size
  clear hb2
  go_wp2_with fail
  skip
  refine (new_any al len cap _).mono ?_
  rintro e w' ⟨rfl, rfl⟩
  go_wp2_with fail
  have HD3 := Lib.hid (HD.out w2 71 hq2 (fun k hk => Q2.out.block k hk))
  have hz3 : w2.heap.size < (w2.alloc (.cells #[.slice al len cap, .int .i64 0] 71)).heap.size := by simp
  have Q3 := Lib.hid (Below.trans Q2.out (show Below w0.heap.size w2 (w2.alloc (.cells #[.slice al len cap, .int .i64 0] 71)) from (by repeat' (first | (with_reducible exact Below.refl _ _) | (with_reducible assumption) | (with_reducible refine below_drewN ?_ _) | (with_reducible refine Below.alloc ?_ ?_ _) | (with_reducible refine Below.drew ?_) | (with_reducible refine Below.setCell ?_ ?_ _) | go_size))))
  have hq3 : w0.heap.size ≤ (w2.alloc (.cells #[.slice al len cap, .int .i64 0] 71)).heap.size := Q3.out.size
  have hB3 : 0 < (w2.alloc (.cells #[.slice al len cap, .int .i64 0] 71)).heap.size := Nat.lt_of_lt_of_le hB Q3.out.size
  have hT3 : Tab (w2.alloc (.cells #[.slice al len cap, .int .i64 0] 71)) := hT.below Q3.out hB
  generalize w2.alloc (.cells #[.slice al len cap, .int .i64 0] 71) = w3 at *
  go_wp2_with fail
  refine (dperiod_any _ _ HD3.out).mono ?_
  rintro e w4 ⟨x0, x1, rfl, x00, x01, x02, hd4, hg4⟩
  have HD4 := Lib.hid hd4
  have Q4 := Lib.hid (Below.grown Q3.out hg4 hq3 (fun k hk => by cases hk; omega))
  have hq4 : w0.heap.size ≤ w4.heap.size := Q4.out.size
  have hz4 := hg4.size
  have hB4 : 0 < w4.heap.size := Nat.lt_of_lt_of_le hB Q4.out.size
  have hT4 : Tab w4 := hT.below Q4.out hB
  clear hd4 hg4
  go_wp2_with fail
  refine (years_good x0 x1 _ (by exact hT.below (Below.trans Q4.out (by repeat' (first | (with_reducible exact Below.refl _ _) | (with_reducible assumption) | (with_reducible refine below_drewN ?_ _) | (with_reducible refine Below.alloc ?_ ?_ _) | (with_reducible refine Below.drew ?_) | (with_reducible refine Below.setCell ?_ ?_ _) | go_size))) hB) (by exact Nat.lt_of_lt_of_le hB (Below.size (Below.trans Q4.out (by repeat' (first | (with_reducible exact Below.refl _ _) | (with_reducible assumption) | (with_reducible refine below_drewN ?_ _) | (with_reducible refine Below.alloc ?_ ?_ _) | (with_reducible refine Below.drew ?_) | (with_reducible refine Below.setCell ?_ ?_ _) | go_size))))) ⟨x00, x01, x02⟩).mono ?_
  rintro e w5 ⟨k, v1, rfl, hk, hkb, hown5, hb5⟩
  obtain ⟨g1, cap1, rfl, hg1, hg1'⟩ := own_slice hown5
  have HK := Lib.hid hk
  clear hk
  have Q5 := Lib.hid (chain Q4.out (by repeat' (first | (with_reducible exact Below.refl _ _) | (with_reducible assumption) | (with_reducible refine below_drewN ?_ _) | (with_reducible refine Below.alloc ?_ ?_ _) | (with_reducible refine Below.drew ?_) | (with_reducible refine Below.setCell ?_ ?_ _) | go_size)) hb5)
  have hq5 : w0.heap.size ≤ w5.heap.size := Q5.out.size
  have hB5 : 0 < w5.heap.size := by omega
  have hT5 : Tab w5 := hT.below Q5.out hB
  have hz5 := hb5.size
  simp only [World.size_alloc] at hz5 hg1
  have hl5_0 : w4.heap.size < w5.heap.size := by omega
  have c5_0_0 : w5.cell? ⟨w4.heap.size, 0, none⟩ = some (.int .i64 x0) := by rw [hb5.cell (p := ⟨w4.heap.size, 0, none⟩) (by simp)]; simp [go_sem]
  have c5_0_1 : w5.cell? ⟨w4.heap.size, 1, none⟩ = some (.int .i64 x1) := by rw [hb5.cell (p := ⟨w4.heap.size, 1, none⟩) (by simp)]; simp [go_sem]
  have HO5 := Lib.hid hown5
  clear hb5 hown5
  go_wp2_with fail
  refine (ryears_good x0 x1 _ (by exact Nat.lt_of_lt_of_le hB (Below.size (Below.trans Q5.out (by repeat' (first | (with_reducible exact Below.refl _ _) | (with_reducible assumption) | (with_reducible refine below_drewN ?_ _) | (with_reducible refine Below.alloc ?_ ?_ _) | (with_reducible refine Below.drew ?_) | (with_reducible refine Below.setCell ?_ ?_ _) | go_size))))) ⟨x00, x01, x02⟩).mono ?_
  rintro e w6 ⟨k2, v2, rfl, hk2, hkb2, hown6, hb6⟩
  obtain rfl := HK.out.unique hk2
  obtain ⟨g2, cap2, rfl, hg2, hg2'⟩ := own_slice hown6
  clear hk2 hkb2
  have Q6 := Lib.hid (chain Q5.out (by repeat' (first | (with_reducible exact Below.refl _ _) | (with_reducible assumption) | (with_reducible refine below_drewN ?_ _) | (with_reducible refine Below.alloc ?_ ?_ _) | (with_reducible refine Below.drew ?_) | (with_reducible refine Below.setCell ?_ ?_ _) | go_size)) hb6)
  have hq6 : w0.heap.size ≤ w6.heap.size := Q6.out.size
  have hB6 : 0 < w6.heap.size := by omega
  have hT6 : Tab w6 := hT.below Q6.out hB
  have hz6 := hb6.size
  have c6_0_0 : w6.cell? ⟨w4.heap.size, 0, none⟩ = some (.int .i64 x0) := (hb6.cell (p := ⟨w4.heap.size, 0, none⟩) hl5_0).trans c5_0_0
  have c6_0_1 : w6.cell? ⟨w4.heap.size, 1, none⟩ = some (.int .i64 x1) := (hb6.cell (p := ⟨w4.heap.size, 1, none⟩) hl5_0).trans c5_0_1
  have HC1 := Lib.hid (year_cells (HO5.out.kept (below_grown hb6 none) (by simp [Value.ownBlock])))
  have HC2 := Lib.hid (year_cells hown6)
  clear hb6 hown6 c5_0_0 c5_0_1
  have HL := Lib.hid (Cal.years_law ⟨x00, x01, x02⟩ HK.out)
  have HF0 := Lib.hid (show Cal.yF x0 0 = x0 from rfl)
  go_wp2
  go_loopw [10, 11] (fun x i wr => ∃ (j : Nat) (F : Int), j ≤ k + 1 ∧ i = .int .i64 j ∧ x = .int .i64 F ∧ Hid (F = if j ≤ k then Cal.yF x0 j else x1) ∧ ∃ nd, wr = w6.drewN nd) (fun _ i _ => k + 1 - (intOf i).toNat)
  case atStart => exact ⟨0, x0, by omega, rfl, rfl, by simp [Hid, Cal.yF], ⟨0, rfl⟩⟩
  case round =>
    obtain ⟨j, F, hj, rfl, rfl, HF, ⟨nd, rfl⟩⟩ := hrel
    by_cases hlt : j < k + 1
    · have e1 := (HC1.out j (by omega)).1
      have e2 := (HC1.out j (by omega)).2
      have e3 := (HC2.out j (by omega)).1
      have e4 := (HC2.out j (by omega)).2
      have hF : Cal.yF x0 j = F := by rw [HF.out, if_pos (by omega)]
      rw [hF] at e1 e3
      obtain ⟨G, hG⟩ : ∃ G, G = Cal.yTo x0 x1 k j := ⟨_, rfl⟩
      rw [← hG] at e2 e4
      have hFG : F < G := by
        rw [← hF, hG]; unfold Cal.yTo
        split
        · exact HL.out.1 j (by assumption)
        · have : j = k := by omega
          subst this; exact HL.out.2
      have HG : Hid (G = if j + 1 ≤ k then Cal.yF x0 (j + 1) else x1) := by show _ = _; rw [hG, yTo_eq]
      clear hF hG
      rw [Nat.mul_comm 2 j] at e1 e2 e3 e4
      have k0 : (0 : Int) ≤ (j : Int) := by omega
      have k1 : (j : Int) < ((k + 1 : Nat) : Int) := by omega
      have q1 : (F != F) = false := by simp
      have q2 : decide (G ≤ F) = false := decide_eq_false (by omega)
      go_wp2
      go_quiet (fail)
      go_wp2
      go_roundw
      case rel => exact ⟨j + 1, G, by omega, by go_num, rfl, HG, ⟨nd + nq, rfl⟩⟩
      case measure => simp [intOf]; omega
    · have q1 : (F == x1) = true := by rw [HF.out, if_neg (by omega)]; simp
      have k1 : ¬ ((j : Int) < ((k + 1 : Nat) : Int)) := by omega
      go_wp2_with fail
      refine (awake_any _ (by exact hT6) (by exact hB6)).mono ?_
      rintro e w7 ⟨rfl, hb7⟩
      go_wp2
      go_ret
      exact ⟨rfl, (Q6.out.trans (below_drewN (Below.refl _ _) nd)).trans (hb7.mono (by exact hq6))⟩

set_option maxHeartbeats 4000000 in
set_option maxRecDepth 100000 in
theorem law_years_f (a b : Int) (al : Option Addr) (len cap : Nat) (w0 : World) (hT : Tab w0) (hB : 0 < w0.heap.size) (hP : ¬ (0 ≤ a ∧ a < b ∧ b ≤ 876600)) (hD : ∀ (w : World) (t : TypeId), w0.heap.size ≤ w.heap.size → (∀ k, k < w0.heap.size → w.heap[k]? = w0.heap[k]?) → DeckOk (w.alloc (.cells #[.slice al len cap, .int .i64 0] t)) w.heap.size) :
    Calls Tryd.prog 11 #[.agg #[.int .i64 a, .int .i64 b], .slice al len cap] w0 fun e w' => e = .returned (.bool true) ∧ Below w0.heap.size w0 w' := by
  have HD := Lib.hid hD
  clear hD
  go_enter Tryd.func11, Tryd.ntmps11
  have Q0 := Lib.hid (Below.refl w0.heap.size w0)
  have hT0 := hT
  have hB0 := hB
  go_wp2_with fail
  refine (years_bad a b _ (by exact Nat.lt_of_lt_of_le hB (Below.size (Below.trans Q0.out (by repeat' (first | (with_reducible exact Below.refl _ _) | (with_reducible assumption) | (with_reducible refine below_drewN ?_ _) | (with_reducible refine Below.alloc ?_ ?_ _) | (with_reducible refine Below.drew ?_) | (with_reducible refine Below.setCell ?_ ?_ _) | go_size))))) hP).mono ?_
  rintro e w1 ⟨rfl, hb1⟩
  have Q1 := Lib.hid (chain Q0.out (by repeat' (first | (with_reducible exact Below.refl _ _) | (with_reducible assumption) | (with_reducible refine below_drewN ?_ _) | (with_reducible refine Below.alloc ?_ ?_ _) | (with_reducible refine Below.drew ?_) | (with_reducible refine Below.setCell ?_ ?_ _) | go_size)) hb1)
  have hq1 : w0.heap.size ≤ w1.heap.size := Q1.out.size
  have hz1 := hb1.size
  try simp only [World.size_alloc, World.size_setCell, World.size_drew] at hz1
  have hB1 : 0 < w1.heap.size := Nat.lt_of_lt_of_le hB (Q1.out.size)
  have hT1 : Tab w1 := hT.below Q1.out hB
  have hl1_0 : w0.heap.size < w1.heap.size := by omega
  have hm1_0 : w0.heap.size ≤ w1.heap.size := by omega
  have c1_0_0 : w1.cell? ⟨w0.heap.size, 0, none⟩ = some (.int .i64 a) := by rw [hb1.cell (p := ⟨w0.heap.size, 0, none⟩) (by simp; try omega)]; simp [go_sem, *]
  have f1_0_0 : w1.frozen? ⟨w0.heap.size, 0, none⟩ = false := by rw [hb1.frozen (p := ⟨w0.heap.size, 0, none⟩) (by simp; try omega)]; simp [go_sem, *]
  have c1_0_1 : w1.cell? ⟨w0.heap.size, 1, none⟩ = some (.int .i64 b) := by rw [hb1.cell (p := ⟨w0.heap.size, 1, none⟩) (by simp; try omega)]; simp [go_sem, *]
  have f1_0_1 : w1.frozen? ⟨w0.heap.size, 1, none⟩ = false := by rw [hb1.frozen (p := ⟨w0.heap.size, 1, none⟩) (by simp; try omega)]; simp [go_sem, *]
  clear hb1
  go_wp2_with fail
  refine (ryears_bad a b _ (by exact Nat.lt_of_lt_of_le hB (Below.size (Below.trans Q1.out (by repeat' (first | (with_reducible exact Below.refl _ _) | (with_reducible assumption) | (with_reducible refine below_drewN ?_ _) | (with_reducible refine Below.alloc ?_ ?_ _) | (with_reducible refine Below.drew ?_) | (with_reducible refine Below.setCell ?_ ?_ _) | go_size))))) hP).mono ?_
  rintro e w2 ⟨rfl, hb2⟩
  have Q2 := Lib.hid (chain Q1.out (by repeat' (first | (with_reducible exact Below.refl _ _) | (with_reducible assumption) | (with_reducible refine below_drewN ?_ _) | (with_reducible refine Below.alloc ?_ ?_ _) | (with_reducible refine Below.drew ?_) | (with_reducible refine Below.setCell ?_ ?_ _) | go_size)) hb2)
  have hq2 : w0.heap.size ≤ w2.heap.size := Q2.out.size
  have hz2 := hb2.size
  try simp only [World.size_alloc, World.size_setCell, World.size_drew] at hz2
  have hB2 : 0 < w2.heap.size := Nat.lt_of_lt_of_le hB (Q2.out.size)
  have hT2 : Tab w2 := hT.below Q2.out hB
  have hl2_0 : w0.heap.size < w2.heap.size := by omega
  have hm2_0 : w0.heap.size ≤ w2.heap.size := by omega
  have c2_0_0 : w2.cell? ⟨w0.heap.size, 0, none⟩ = some (.int .i64 a) := by rw [hb2.cell (p := ⟨w0.heap.size, 0, none⟩) (by simp; try omega)]; simp [go_sem, *]
  have f2_0_0 : w2.frozen? ⟨w0.heap.size, 0, none⟩ = false := by rw [hb2.frozen (p := ⟨w0.heap.size, 0, none⟩) (by simp; try omega)]; simp [go_sem, *]
  have c2_0_1 : w2.cell? ⟨w0.heap.size, 1, none⟩ = some (.int .i64 b) := by rw [hb2.cell (p := ⟨w0.heap.size, 1, none⟩) (by simp; try omega)]; simp [go_sem, *]
  have f2_0_1 : w2.frozen? ⟨w0.heap.size, 1, none⟩ = false := by rw [hb2.frozen (p := ⟨w0.heap.size, 1, none⟩) (by simp; try omega)]; simp [go_sem, *]
  clear hb2
  go_wp2_with fail
  skip
  refine (new_any al len cap _).mono ?_
  rintro e w' ⟨rfl, rfl⟩
  go_wp2_with fail
  have HD3 := Lib.hid (HD.out w2 71 hq2 (fun k hk => Q2.out.block k hk))
  have hz3 : w2.heap.size < (w2.alloc (.cells #[.slice al len cap, .int .i64 0] 71)).heap.size := by simp
  have Q3 := Lib.hid (Below.trans Q2.out (show Below w0.heap.size w2 (w2.alloc (.cells #[.slice al len cap, .int .i64 0] 71)) from (by repeat' (first | (with_reducible exact Below.refl _ _) | (with_reducible assumption) | (with_reducible refine below_drewN ?_ _) | (with_reducible refine Below.alloc ?_ ?_ _) | (with_reducible refine Below.drew ?_) | (with_reducible refine Below.setCell ?_ ?_ _) | go_size))))
  have hq3 : w0.heap.size ≤ (w2.alloc (.cells #[.slice al len cap, .int .i64 0] 71)).heap.size := Q3.out.size
  have hB3 : 0 < (w2.alloc (.cells #[.slice al len cap, .int .i64 0] 71)).heap.size := Nat.lt_of_lt_of_le hB Q3.out.size
  have hT3 : Tab (w2.alloc (.cells #[.slice al len cap, .int .i64 0] 71)) := hT.below Q3.out hB
  generalize w2.alloc (.cells #[.slice al len cap, .int .i64 0] 71) = w3 at *
  go_wp2_with fail
  refine (dperiod_any _ _ HD3.out).mono ?_
  rintro e w4 ⟨x0, x1, rfl, x00, x01, x02, hd4, hg4⟩
  have HD4 := Lib.hid hd4
  have Q4 := Lib.hid (Below.grown Q3.out hg4 hq3 (fun k hk => by cases hk; omega))
  have hq4 : w0.heap.size ≤ w4.heap.size := Q4.out.size
  have hz4 := hg4.size
  have hB4 : 0 < w4.heap.size := Nat.lt_of_lt_of_le hB Q4.out.size
  have hT4 : Tab w4 := hT.below Q4.out hB
  clear hd4 hg4
  go_wp2_with fail
  refine (years_good x0 x1 _ (by exact hT.below (Below.trans Q4.out (by repeat' (first | (with_reducible exact Below.refl _ _) | (with_reducible assumption) | (with_reducible refine below_drewN ?_ _) | (with_reducible refine Below.alloc ?_ ?_ _) | (with_reducible refine Below.drew ?_) | (with_reducible refine Below.setCell ?_ ?_ _) | go_size))) hB) (by exact Nat.lt_of_lt_of_le hB (Below.size (Below.trans Q4.out (by repeat' (first | (with_reducible exact Below.refl _ _) | (with_reducible assumption) | (with_reducible refine below_drewN ?_ _) | (with_reducible refine Below.alloc ?_ ?_ _) | (with_reducible refine Below.drew ?_) | (with_reducible refine Below.setCell ?_ ?_ _) | go_size))))) ⟨x00, x01, x02⟩).mono ?_
  rintro e w5 ⟨k, v1, rfl, hk, hkb, hown5, hb5⟩
  obtain ⟨g1, cap1, rfl, hg1, hg1'⟩ := own_slice hown5
  have HK := Lib.hid hk
  clear hk
  have Q5 := Lib.hid (chain Q4.out (by repeat' (first | (with_reducible exact Below.refl _ _) | (with_reducible assumption) | (with_reducible refine below_drewN ?_ _) | (with_reducible refine Below.alloc ?_ ?_ _) | (with_reducible refine Below.drew ?_) | (with_reducible refine Below.setCell ?_ ?_ _) | go_size)) hb5)
  have hq5 : w0.heap.size ≤ w5.heap.size := Q5.out.size
  have hB5 : 0 < w5.heap.size := by omega
  have hT5 : Tab w5 := hT.below Q5.out hB
  have hz5 := hb5.size
  simp only [World.size_alloc] at hz5 hg1
  have hl5_0 : w4.heap.size < w5.heap.size := by omega
  have c5_0_0 : w5.cell? ⟨w4.heap.size, 0, none⟩ = some (.int .i64 x0) := by rw [hb5.cell (p := ⟨w4.heap.size, 0, none⟩) (by simp)]; simp [go_sem]
  have c5_0_1 : w5.cell? ⟨w4.heap.size, 1, none⟩ = some (.int .i64 x1) := by rw [hb5.cell (p := ⟨w4.heap.size, 1, none⟩) (by simp)]; simp [go_sem]
  have HO5 := Lib.hid hown5
  clear hb5 hown5
  go_wp2_with fail
  refine (ryears_good x0 x1 _ (by exact Nat.lt_of_lt_of_le hB (Below.size (Below.trans Q5.out (by repeat' (first | (with_reducible exact Below.refl _ _) | (with_reducible assumption) | (with_reducible refine below_drewN ?_ _) | (with_reducible refine Below.alloc ?_ ?_ _) | (with_reducible refine Below.drew ?_) | (with_reducible refine Below.setCell ?_ ?_ _) | go_size))))) ⟨x00, x01, x02⟩).mono ?_
  rintro e w6 ⟨k2, v2, rfl, hk2, hkb2, hown6, hb6⟩
  obtain rfl := HK.out.unique hk2
  obtain ⟨g2, cap2, rfl, hg2, hg2'⟩ := own_slice hown6
  clear hk2 hkb2
  have Q6 := Lib.hid (chain Q5.out (by repeat' (first | (with_reducible exact Below.refl _ _) | (with_reducible assumption) | (with_reducible refine below_drewN ?_ _) | (with_reducible refine Below.alloc ?_ ?_ _) | (with_reducible refine Below.drew ?_) | (with_reducible refine Below.setCell ?_ ?_ _) | go_size)) hb6)
  have hq6 : w0.heap.size ≤ w6.heap.size := Q6.out.size
  have hB6 : 0 < w6.heap.size := by omega
  have hT6 : Tab w6 := hT.below Q6.out hB
  have hz6 := hb6.size
  have c6_0_0 : w6.cell? ⟨w4.heap.size, 0, none⟩ = some (.int .i64 x0) := (hb6.cell (p := ⟨w4.heap.size, 0, none⟩) hl5_0).trans c5_0_0
  have c6_0_1 : w6.cell? ⟨w4.heap.size, 1, none⟩ = some (.int .i64 x1) := (hb6.cell (p := ⟨w4.heap.size, 1, none⟩) hl5_0).trans c5_0_1
  have HC1 := Lib.hid (year_cells (HO5.out.kept (below_grown hb6 none) (by simp [Value.ownBlock])))
  have HC2 := Lib.hid (year_cells hown6)
  clear hb6 hown6 c5_0_0 c5_0_1
  have HL := Lib.hid (Cal.years_law ⟨x00, x01, x02⟩ HK.out)
  have HF0 := Lib.hid (show Cal.yF x0 0 = x0 from rfl)
  go_wp2
  go_loopw [10, 11] (fun x i wr => ∃ (j : Nat) (F : Int), j ≤ k + 1 ∧ i = .int .i64 j ∧ x = .int .i64 F ∧ Hid (F = if j ≤ k then Cal.yF x0 j else x1) ∧ ∃ nd, wr = w6.drewN nd) (fun _ i _ => k + 1 - (intOf i).toNat)
  case atStart => exact ⟨0, x0, by omega, rfl, rfl, by simp [Hid, Cal.yF], ⟨0, rfl⟩⟩
  case round =>
    obtain ⟨j, F, hj, rfl, rfl, HF, ⟨nd, rfl⟩⟩ := hrel
    by_cases hlt : j < k + 1
    · have e1 := (HC1.out j (by omega)).1
      have e2 := (HC1.out j (by omega)).2
      have e3 := (HC2.out j (by omega)).1
      have e4 := (HC2.out j (by omega)).2
      have hF : Cal.yF x0 j = F := by rw [HF.out, if_pos (by omega)]
      rw [hF] at e1 e3
      obtain ⟨G, hG⟩ : ∃ G, G = Cal.yTo x0 x1 k j := ⟨_, rfl⟩
      rw [← hG] at e2 e4
      have hFG : F < G := by
        rw [← hF, hG]; unfold Cal.yTo
        split
        · exact HL.out.1 j (by assumption)
        · have : j = k := by omega
          subst this; exact HL.out.2
      have HG : Hid (G = if j + 1 ≤ k then Cal.yF x0 (j + 1) else x1) := by show _ = _; rw [hG, yTo_eq]
      clear hF hG
      rw [Nat.mul_comm 2 j] at e1 e2 e3 e4
      have k0 : (0 : Int) ≤ (j : Int) := by omega
      have k1 : (j : Int) < ((k + 1 : Nat) : Int) := by omega
      have q1 : (F != F) = false := by simp
      have q2 : decide (G ≤ F) = false := decide_eq_false (by omega)
      go_wp2
      go_quiet (fail)
      go_wp2
      go_roundw
      case rel => exact ⟨j + 1, G, by omega, by go_num, rfl, HG, ⟨nd + nq, rfl⟩⟩
      case measure => simp [intOf]; omega
    · have q1 : (F == x1) = true := by rw [HF.out, if_neg (by omega)]; simp
      have k1 : ¬ ((j : Int) < ((k + 1 : Nat) : Int)) := by omega
      go_wp2_with fail
      refine (awake_any _ (by exact hT6) (by exact hB6)).mono ?_
      rintro e w7 ⟨rfl, hb7⟩
      go_wp2
      go_ret
      exact ⟨rfl, (Q6.out.trans (below_drewN (Below.refl _ _) nd)).trans (hb7.mono (by exact hq6))⟩

theorem law_years (a b : Int) (al : Option Addr) (len cap : Nat) (w0 : World) (hT : Tab w0) (hB : 0 < w0.heap.size) (hD : ∀ (w : World) (t : TypeId), w0.heap.size ≤ w.heap.size → (∀ k, k < w0.heap.size → w.heap[k]? = w0.heap[k]?) → DeckOk (w.alloc (.cells #[.slice al len cap, .int .i64 0] t)) w.heap.size) :
    Calls Tryd.prog 11 #[.agg #[.int .i64 a, .int .i64 b], .slice al len cap] w0 fun e w' => e = .returned (.bool true) ∧ Below w0.heap.size w0 w' := by
  by_cases h : 0 ≤ a ∧ a < b ∧ b ≤ 876600
  · exact law_years_t a b al len cap w0 hT hB h hD
  · exact law_years_f a b al len cap w0 hT hB h hD
end Go.Proofs.YtnidojfnpmhjkaaDoor
