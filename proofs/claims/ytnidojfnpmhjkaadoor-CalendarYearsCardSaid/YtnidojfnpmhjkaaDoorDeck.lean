/- The walks of the deck's Next, Hour and Period: what they hand back lies in its range; they write into the deck alone. -/
import Derived.Test.YtnidojfnpmhjkaaDoorCivil
import Derived.Maps.AppendAt
import Derived.Deep.AppendLies
import Derived.Maps.Range
import Derived.Lib.HexFns2
namespace Go.Proofs.YtnidojfnpmhjkaaDoor
set_option linter.unusedVariables false
set_option linter.unusedSimpArgs false
open Go.RowKit

/-- A deck lies in block b: its list (which lies below b) and its place. -/
def DeckOk (w : World) (b : Nat) : Prop := ∃ (a : Option Addr) (len cap i : Nat) (z : Nat → Int), w.cell? ⟨b, 0, none⟩ = some (.slice a len cap) ∧ w.cell? ⟨b, 1, none⟩ = some (.int .i64 i) ∧ w.frozen? ⟨b, 1, none⟩ = false ∧ len ≤ 9223372036854775807 ∧
  ∀ k, k < len → ∃ bx off, a = some ⟨bx, off, none⟩ ∧ bx < b ∧ w.cell? ⟨bx, off + k, none⟩ = some (.int .i64 (z k))
theorem lt_of_cell {w : World} {p : Addr} {v : Value} (h : w.cell? p = some v) : p.block < w.heap.size := by
  rcases Nat.lt_or_ge p.block w.heap.size with h0 | h0
  · exact h0
  · simp [World.cell?, Array.getElem?_eq_none h0] at h
theorem DeckOk.lt {w : World} {b : Nat} (h : DeckOk w b) : b < w.heap.size := by
  obtain ⟨_, _, _, _, _, h0, _⟩ := h
  exact lt_of_cell h0
/-- What leaves block b and all below it as it was leaves the deck. -/
theorem DeckOk.kept {w w' : World} {b : Nat} (h : DeckOk w b) (hb : ∀ k, k ≤ b → w'.heap[k]? = w.heap[k]?) : DeckOk w' b := by
  obtain ⟨a, len, cap, i, z, h0, h1, h2, h3, h4⟩ := h
  have hc : ∀ p : Addr, p.block ≤ b → w'.cell? p = w.cell? p := fun p hp => World.cell?_of_block (w := w) (hb p.block hp)
  have hf : ∀ p : Addr, p.block ≤ b → w'.frozen? p = w.frozen? p := fun p hp => World.frozen?_of_block (w := w) (hb p.block hp)
  refine ⟨a, len, cap, i, z, (hc _ (Nat.le_refl _)).trans h0, (hc _ (Nat.le_refl _)).trans h1, (hf _ (Nat.le_refl _)).trans h2, h3, fun k hk => ?_⟩
  obtain ⟨bx, off, e, hlt, hcell⟩ := h4 k hk
  exact ⟨bx, off, e, hlt, (hc _ (Nat.le_of_lt hlt)).trans hcell⟩
theorem DeckOk.below {w w' : World} {b B : Nat} (h : DeckOk w b) (hb : Below B w w') (hB : b < B) : DeckOk w' b := h.kept fun k hk => hb.block k (by omega)
/-- A number below n, the deck turned on. -/
def NextIn (n : Int) (b : Nat) (w : World) (e : Ending) (w' : World) : Prop := ∃ v : Int, e = .returned (.int .i64 v) ∧ 0 ≤ v ∧ v < n ∧ DeckOk w' b ∧ w.grownBy w' (some b)
theorem grownBy_drewN (w : World) (n : Nat) (row : Option Nat) : w.grownBy (w.drewN n) row := ⟨rfl, rfl, rfl, Nat.le_refl _, fun _ _ _ => rfl⟩
theorem grownBy_setCellOff (W : World) (b o : Nat) (v : Value) : W.grownBy (W.setCell ⟨b, o, none⟩ v) (some b) :=
  ⟨rfl, rfl, rfl, by simp, fun i _ hne => Below.heap_setCell W ⟨b, o, none⟩ v i (fun e => hne (by rw [e]))⟩

theorem next_any (n : Int) (b : Nat) (w : World) (h0 : 0 < n) (h1 : n ≤ 4611686018427387904) (hd : DeckOk w b) : Calls Tryd.prog 49 #[.pointer (some ⟨b, 0, none⟩), .int .i64 n] w (NextIn n b w) := by
  obtain ⟨a, len, cap, i, z, c0, c1, c2, c3, c4⟩ := id hd
  have HD := Lib.hid hd
  clear hd
  by_cases hlt : i < len
  · obtain ⟨bx, off, rfl, hbx, hz⟩ := c4 i hlt
    have HC4 := Lib.hid c4
    clear c4
    have a1 : -n < (z i).tmod n := by have := Int.lt_tmod_of_pos (z i) h0; omega
    have a2 : (z i).tmod n < n := Int.tmod_lt_of_pos _ h0
    have hk : (n == 0) = false := beq_eq_false_iff_ne.2 (by omega)
    have HV := Lib.hid (show Cal.within (z i) n = ((z i).tmod n + n).tmod n from rfl)
    have HE := Lib.hid (Int.tmod_eq_emod_of_nonneg (a := (z i).tmod n + n) (b := n) (by omega))
    have hne : bx ≠ b := by omega
    have d1 : decide ((len : Int) ≤ (i : Int)) = false := decide_eq_false (by omega)
    have k0 : (0 : Int) ≤ (i : Int) := by omega
    have k1 : (i : Int) < (len : Int) := by omega
    go_enter Tryd.func49, Tryd.ntmps49
    go_wp2
    go_quiet (fail)
    go_wp2
    have e0 : ((w.drewN nq).setCell ⟨b, 1, none⟩ (.int .i64 (i + 1))).cell? ⟨b, 0, none⟩ = some (.slice (some ⟨bx, off, none⟩) len cap) := by simp [go_sem, *]
    have e1 : ((w.drewN nq).setCell ⟨b, 1, none⟩ (.int .i64 (i + 1))).cell? ⟨b, 1, none⟩ = some (.int .i64 (i + 1)) := by simp [go_sem, *]
    have e2 : ((w.drewN nq).setCell ⟨b, 1, none⟩ (.int .i64 (i + 1))).cell? ⟨bx, off + i, none⟩ = some (.int .i64 (z i)) := by simp [go_sem, *]
    have HF := Lib.hid (show ((w.drewN nq).setCell ⟨b, 1, none⟩ (.int .i64 (i + 1))).frozen? ⟨b, 1, none⟩ = false by simp [go_sem, *])
    have HG := Lib.hid ((grownBy_drewN w nq (some b)).trans (grownBy_setCellOff (w.drewN nq) b 1 (.int .i64 (i + 1))))
    generalize (w.drewN nq).setCell ⟨b, 1, none⟩ (.int .i64 (i + 1)) = W at *
    have HC0 := Lib.hid c0
    clear c0 c1 c2 hz
    have s1 : ((i : Int) + 1 - 1).toNat = i := by omega
    have s2 : IntKind.i64.wrap ((i : Int) + 1 - 1) = (i : Int) := by rw [IntWalk.i64_in _ (by omega)]; omega
    have s3 : (i : Int) + 1 - 1 = (i : Int) := by omega
    go_quiet (fail)
    clear s1 s2 s3
    go_wp2
    go_ret
    refine ⟨Cal.within (z i) n, ret_int ?_, (Cal.within_bd _ _ h0).1, (Cal.within_bd _ _ h0).2, ?_, HG.out.trans (grownBy_drewN _ _ _)⟩
    · rw [HV.out, HE.out]
    · refine ⟨_, len, cap, i + 1, z, e0, ?_, HF.out, c3, fun k hk => ?_⟩
      · exact e1
      · obtain ⟨bx', off', e, h', hc'⟩ := HC4.out k hk
        exact ⟨bx', off', e, h', by rw [show (W.drewN _).cell? ⟨bx', off' + k, none⟩ = W.cell? ⟨bx', off' + k, none⟩ from rfl, HG.out.cell hc' (by simp; omega)]⟩
  · have d1 : decide ((len : Int) ≤ (i : Int)) = true := decide_eq_true (by omega)
    go_enter Tryd.func49, Tryd.ntmps49
    go_wp2
    go_quiet (fail)
    go_wp2
    go_ret
    exact ⟨0, rfl, by omega, h0, HD.out.kept (fun _ _ => rfl), grownBy_drewN _ _ _⟩

theorem dhour_any (b : Nat) (w : World) (hd : DeckOk w b) : Calls Tryd.prog 29 #[.pointer (some ⟨b, 0, none⟩)] w (NextIn 876600 b w) := by
  have HD := Lib.hid hd
  clear hd
  go_enter Tryd.func29, Tryd.ntmps29
  go_wp2_with fail
  refine (next_any 4 b _ (by omega) (by omega) HD.out).mono ?_
  rintro e w1 ⟨v, rfl, h0, h1, hd1, hg1⟩
  have HD1 := Lib.hid hd1
  have HG1 := Lib.hid hg1
  clear hd1 hg1
  have hv : v = 0 ∨ v = 1 ∨ v = 2 ∨ v = 3 := by omega
  clear h0 h1
  rcases hv with rfl | rfl | rfl | rfl
  · go_wp2_with fail
    refine (next_any 60 b _ (by omega) (by omega) HD1.out).mono ?_
    rintro e w2 ⟨u, rfl, h0, h1, hd2, hg2⟩
    have HD2 := Lib.hid hd2
    have HG2 := Lib.hid hg2
    clear hd2 hg2
    go_wp2
    go_ret
    exact ⟨u, rfl, h0, by omega, HD2.out, HG1.out.trans HG2.out⟩
  · go_wp2_with fail
    refine (next_any 20000 b _ (by omega) (by omega) HD1.out).mono ?_
    rintro e w2 ⟨u, rfl, h0, h1, hd2, hg2⟩
    have HD2 := Lib.hid hd2
    have HG2 := Lib.hid hg2
    clear hd2 hg2
    go_wp2
    go_ret
    exact ⟨u, rfl, h0, by omega, HD2.out, HG1.out.trans HG2.out⟩
  · go_wp2_with fail
    refine (next_any 50 b _ (by omega) (by omega) HD1.out).mono ?_
    rintro e w2 ⟨u, rfl, h0, h1, hd2, hg2⟩
    have HD2 := Lib.hid hd2
    have HG2 := Lib.hid hg2
    clear hd2 hg2
    go_wp2
    go_ret
    exact ⟨876599 - u, rfl, by omega, by omega, HD2.out, HG1.out.trans HG2.out⟩
  · go_wp2_with fail
    refine (next_any 876600 b _ (by omega) (by omega) HD1.out).mono ?_
    rintro e w2 ⟨u, rfl, h0, h1, hd2, hg2⟩
    have HD2 := Lib.hid hd2
    have HG2 := Lib.hid hg2
    clear hd2 hg2
    go_wp2
    go_ret
    exact ⟨u, rfl, h0, by omega, HD2.out, HG1.out.trans HG2.out⟩
/-- A valid period, the deck turned on. -/
def PeriodIn (b : Nat) (w : World) (e : Ending) (w' : World) : Prop := ∃ p q : Int, e = .returned (.agg #[.int .i64 p, .int .i64 q]) ∧ 0 ≤ p ∧ p < q ∧ q ≤ 876600 ∧ DeckOk w' b ∧ w.grownBy w' (some b)

theorem dperiod_any (b : Nat) (w : World) (hd : DeckOk w b) : Calls Tryd.prog 28 #[.pointer (some ⟨b, 0, none⟩)] w (PeriodIn b w) := by
  have HD := Lib.hid hd
  have hlt := hd.lt
  clear hd
  go_enter Tryd.func28, Tryd.ntmps28
  go_wp2_with fail
  refine (dhour_any b _ (HD.out.below (B := w.heap.size) ((Below.refl _ _).alloc (Nat.le_refl _) _) hlt)).mono ?_
  rintro e w1 ⟨x, rfl, x0, x1, hd1, hg1⟩
  have HD1 := Lib.hid hd1
  have HG1 := Lib.hid hg1
  have z1 := hg1.size
  simp only [World.size_alloc] at z1
  clear hd1 hg1
  go_wp2_with fail
  refine (dhour_any b _ HD1.out).mono ?_
  rintro e w2 ⟨y, rfl, y0, y1, hd2, hg2⟩
  have HD2 := Lib.hid hd2
  have HG2 := Lib.hid (HG1.out.trans hg2)
  have z2 := hg2.size
  have c0 : w2.cell? ⟨w.heap.size, 0, none⟩ = some (.int .i64 0) := (HG1.out.trans hg2).cell (by simp [go_sem]) (by simp; omega)
  have c1 : w2.cell? ⟨w.heap.size, 1, none⟩ = some (.int .i64 0) := (HG1.out.trans hg2).cell (by simp [go_sem]) (by simp; omega)
  have f0 : w2.frozen? ⟨w.heap.size, 0, none⟩ = false := ((HG1.out.trans hg2).frozen_far _ (by simp) (by simp; omega)).trans (by simp [go_sem])
  have f1 : w2.frozen? ⟨w.heap.size, 1, none⟩ = false := ((HG1.out.trans hg2).frozen_far _ (by simp) (by simp; omega)).trans (by simp [go_sem])
  clear hd2 hg2
  rcases Int.lt_trichotomy x y with h | h | h
  · go_wp2
    refine bodyPost_ret (v := .agg #[.int .i64 x, .int .i64 (y + 1)]) (by simp [results, Tryd.results28, go_sem, *]) rfl ⟨x, y + 1, rfl, by omega, by omega, by omega, ?_, ?_⟩
    · exact HD2.out.kept fun k hk => by rw [Below.heap_setCell _ _ _ _ (by simp; omega), Below.heap_setCell _ _ _ _ (by simp; omega)]
    · refine World.grownBy.andThen (row' := some w.heap.size) (World.grownBy.trans (World.grownBy_alloc w _ _) HG2.out) (World.grownBy.trans (grownBy_setCellOff _ _ _ _) (grownBy_setCellOff _ _ _ _)) (fun j hj => .inl (by simp at hj; omega))
  · subst h
    go_wp2
    refine bodyPost_ret (v := .agg #[.int .i64 x, .int .i64 (x + 1)]) (by simp [results, Tryd.results28, go_sem, *]) rfl ⟨x, x + 1, rfl, by omega, by omega, by omega, ?_, ?_⟩
    · exact HD2.out.kept fun k hk => by rw [Below.heap_setCell _ _ _ _ (by simp; omega), Below.heap_setCell _ _ _ _ (by simp; omega)]
    · refine World.grownBy.andThen (row' := some w.heap.size) (World.grownBy.trans (World.grownBy_alloc w _ _) HG2.out) (World.grownBy.trans (grownBy_setCellOff _ _ _ _) (grownBy_setCellOff _ _ _ _)) (fun j hj => .inl (by simp at hj; omega))
  · go_wp2
    refine bodyPost_ret (v := .agg #[.int .i64 y, .int .i64 (x + 1)]) (by simp [results, Tryd.results28, go_sem, *]) rfl ⟨y, x + 1, rfl, by omega, by omega, by omega, ?_, ?_⟩
    · exact HD2.out.kept fun k hk => by rw [Below.heap_setCell _ _ _ _ (by simp; omega), Below.heap_setCell _ _ _ _ (by simp; omega)]
    · refine World.grownBy.andThen (row' := some w.heap.size) (World.grownBy.trans (World.grownBy_alloc w _ _) HG2.out) (World.grownBy.trans (grownBy_setCellOff _ _ _ _) (grownBy_setCellOff _ _ _ _)) (fun j hj => .inl (by simp at hj; omega))

theorem new_any (a : Option Addr) (len cap : Nat) (w : World) : Calls Tryd.prog 27 #[.slice a len cap] w fun e w' => e = .returned (.pointer (some ⟨w.heap.size, 0, none⟩)) ∧ w.alloc (.cells #[.slice a len cap, .int .i64 0] 71) = w' := by
  go_enter Tryd.func27, Tryd.ntmps27
  go_wp2
  go_ret
  exact ⟨rfl, rfl⟩
end Go.Proofs.YtnidojfnpmhjkaaDoor
