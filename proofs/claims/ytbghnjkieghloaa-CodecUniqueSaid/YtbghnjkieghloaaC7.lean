/- Codec: bordereaux as they are read; both sides. -/
import Derived.Test.YtbghnjkieghloaaC6
namespace Go.Proofs.Ytbghnjkieghloaa
namespace Abs
set_option linter.unusedVariables false
set_option linter.unusedSimpArgs false
theorem rowsS_go {n p c : Int} {k : Nat} {bs : List Int} {rows : List DS6} : rowsS n p c (k + 1) bs 0 rows = rowsS n p c k (sixS p bs 0).2.1 (sixS p bs 0).2.2 (rows ++ [(sixS p bs 0).1]) := by
  conv => lhs; unfold rowsS
  rw [if_neg (by simp)]
theorem rowsS_stop {n p c : Int} {k : Nat} {bs : List Int} {e : Int} {rows : List DS6} (h : ¬ (0 < k ∧ e = 0)) : rowsS n p c k bs e rows = finB n p c bs e rows := by
  cases k with
  | zero => rfl
  | succ k => unfold rowsS; rw [if_pos (fun q => h ⟨by omega, q⟩)]
theorem decB_m (bs : List Int) (h : BytL bs) : m28 bs = some (decB bs) := by
  unfold m28 decB
  have h1 := h.next 0
  have h2 := h1.next (nextS bs 0).2.2.1
  have h3 := h2.next (nextS (nextS bs 0).2.1 (nextS bs 0).2.2.1).2.2.1
  rw [next_m bs 0 h.1 h.2]
  simp only [Option.bind_some]
  generalize nextS bs 0 = a at *
  rw [next_m _ _ h1.1 h1.2]
  simp only [Option.bind_some]
  generalize nextS a.2.1 a.2.2.1 = b at *
  rw [next_m _ _ h2.1 h2.2]
  simp only [Option.bind_some]
  generalize nextS b.2.1 b.2.2.1 = c at *
  obtain ⟨k1, k2, k3⟩ := count_rng c.2.1 c.2.2.1 h3
  rw [count_m _ _ h3]
  simp only [Option.bind_some]
  generalize countS 64 c.2.1 c.2.2.1 = d at *
  obtain ⟨n, hn⟩ := Int.eq_ofNat_of_zero_le k1
  rw [hn] at k2 ⊢
  refine loop_goal (fun o => o = some (rowsS a.1 b.1 c.1 (Int.ofNat n).toNat d.2.1 d.2.2.1 [])) (fun s => ∃ (k : Nat) (xs : List Int) (e : Int) (rows : List DS6), rows.length + k ≤ 64 ∧ BytL xs ∧ rowsS a.1 b.1 c.1 k xs e rows = rowsS a.1 b.1 c.1 (Int.ofNat n).toNat d.2.1 d.2.2.1 [] ∧ s = ((k : Int), 0, 0, 0, xs, e, a.1, b.1, c.1, rows, ())) (fun s => s.1.toNat) ?_ _ ⟨n, d.2.1, d.2.2.1, [], by simp; omega, k3, rfl, rfl⟩
  rintro _ ⟨k, xs, e, rows, hr, hx, he, rfl⟩
  dsimp only
  by_cases hgo : 0 < k ∧ e = 0
  · obtain ⟨hk, rfl⟩ := hgo
    cases k with
    | zero => omega
    | succ k =>
      rw [iLt_t (by omega), iEq_t rfl]
      simp only [cond_true]
      left
      have g1 := hx.next 0
      have g2 := g1.next (nextS xs (0 : Int)).2.2.1
      have g3 := g2.next (nextS (nextS xs (0 : Int)).2.1 (nextS xs (0 : Int)).2.2.1).2.2.1
      refine ⟨((k : Int), 0, 0, 0, (sixS b.1 xs (0 : Int)).2.1, (sixS b.1 xs (0 : Int)).2.2, a.1, b.1, c.1, rows ++ [(sixS b.1 xs (0 : Int)).1], ()), ?_, ⟨k, _, _, _, by simp only [List.length_append, List.length_cons, List.length_nil]; omega, six_bytl hx _ _, ?_, rfl⟩, by show (k : Int).toNat < ((k + 1 : Nat) : Int).toNat; omega⟩
      · rw [next_m _ _ hx.1 hx.2]
        simp only [Option.bind_some]
        rw [next_m _ _ g1.1 g1.2]
        simp only [Option.bind_some]
        rw [next_m _ _ g2.1 g2.2]
        simp only [Option.bind_some]
        rw [next_m _ _ g3.1 g3.2]
        simp only [Option.bind_some]
        rw [next_m _ _ (g3.next _).1 (g3.next _).2]
        simp only [Option.bind_some]
        rw [next_m _ _ ((g3.next _).next _).1 ((g3.next _).next _).2]
        simp only [Option.bind_some]
        rw [fits_t (by simp only [List.length_cons, List.length_nil]; omega) (by simp only [List.length_cons, List.length_nil]; omega), iSub64 (by omega) (by omega)]
        have ek : ((k + 1 : Nat) : Int) - 1 = (k : Int) := by omega
        rw [ek]; rfl
      · rw [← he]; show _ = rowsS a.1 b.1 c.1 (k + 1) xs 0 rows; rw [rowsS_go]
  · right
    obtain ⟨q1, y, q2⟩ := end_m xs e
    rw [q2] at q1
    have q1 : y.1 = endS xs e := by simpa using q1
    refine ⟨finB a.1 b.1 c.1 xs e rows, ?_, by rw [← he]; exact congrArg some (rowsS_stop hgo).symm⟩
    have hcd : (cond (iLt 0 (k : Int)) (iEq e 0) false) = false := by
      by_cases hk : 0 < k
      · rw [iLt_t (by omega), iEq_f (fun q => hgo ⟨hk, q⟩)]; rfl
      · rw [iLt_f (by omega)]; rfl
    rw [hcd]
    simp only [cond_false]
    apply map_inr
    rw [q2]
    simp only [Option.bind_some]
    rw [q1]
    unfold finB
    by_cases hz : endS xs e = 0
    · rw [iNe_f hz, if_neg (by simpa using hz)]; rfl
    · rw [iNe_t hz, if_pos hz]; rfl

theorem decB_r (bs : List Int) (h : BytL bs) : m29 bs = some (decB bs) := by
  unfold m29 decB
  have h1 := h.next 0
  have h2 := h1.next (nextS bs 0).2.2.1
  have h3 := h2.next (nextS (nextS bs 0).2.1 (nextS bs 0).2.2.1).2.2.1
  rw [next_r bs 0 h.1 h.2]
  simp only [Option.bind_some]
  generalize nextS bs 0 = a at *
  rw [next_r _ _ h1.1 h1.2]
  simp only [Option.bind_some]
  generalize nextS a.2.1 a.2.2.1 = b at *
  rw [next_r _ _ h2.1 h2.2]
  simp only [Option.bind_some]
  generalize nextS b.2.1 b.2.2.1 = c at *
  obtain ⟨k1, k2, k3⟩ := count_rng c.2.1 c.2.2.1 h3
  rw [count_r _ _ h3]
  simp only [Option.bind_some]
  generalize countS 64 c.2.1 c.2.2.1 = d at *
  obtain ⟨n, hn⟩ := Int.eq_ofNat_of_zero_le k1
  rw [hn] at k2 ⊢
  refine loop_goal (fun o => o = some (rowsS a.1 b.1 c.1 (Int.ofNat n).toNat d.2.1 d.2.2.1 [])) (fun s => ∃ (k : Nat) (xs : List Int) (e : Int) (rows : List DS6), rows.length + k ≤ 64 ∧ BytL xs ∧ rowsS a.1 b.1 c.1 k xs e rows = rowsS a.1 b.1 c.1 (Int.ofNat n).toNat d.2.1 d.2.2.1 [] ∧ s = ((k : Int), 0, 0, 0, xs, e, a.1, b.1, c.1, rows, ())) (fun s => s.1.toNat) ?_ _ ⟨n, d.2.1, d.2.2.1, [], by simp; omega, k3, rfl, rfl⟩
  rintro _ ⟨k, xs, e, rows, hr, hx, he, rfl⟩
  dsimp only
  cases k with
  | succ k =>
      rw [iLt_t (by omega)]
      simp only [cond_true]
      left
      have g1 := hx.next e
      have g2 := g1.next (nextS xs e).2.2.1
      have g3 := g2.next (nextS (nextS xs e).2.1 (nextS xs e).2.2.1).2.2.1
      refine ⟨((k : Int), 0, 0, 0, (sixS b.1 xs e).2.1, (sixS b.1 xs e).2.2, a.1, b.1, c.1, rows ++ [(sixS b.1 xs e).1], ()), ?_, ⟨k, _, _, _, by simp only [List.length_append, List.length_cons, List.length_nil]; omega, six_bytl hx _ _, ?_, rfl⟩, by show (k : Int).toNat < ((k + 1 : Nat) : Int).toNat; omega⟩
      · rw [next_r _ _ hx.1 hx.2]
        simp only [Option.bind_some]
        rw [next_r _ _ g1.1 g1.2]
        simp only [Option.bind_some]
        rw [next_r _ _ g2.1 g2.2]
        simp only [Option.bind_some]
        rw [next_r _ _ g3.1 g3.2]
        simp only [Option.bind_some]
        rw [next_r _ _ (g3.next _).1 (g3.next _).2]
        simp only [Option.bind_some]
        rw [next_r _ _ ((g3.next _).next _).1 ((g3.next _).next _).2]
        simp only [Option.bind_some]
        rw [fits_t (by simp only [List.length_cons, List.length_nil]; omega) (by simp only [List.length_cons, List.length_nil]; omega), iSub64 (by omega) (by omega)]
        have ek : ((k + 1 : Nat) : Int) - 1 = (k : Int) := by omega
        rw [ek]; rfl
      · rw [← he]
        by_cases h0 : e = 0
        · subst h0; show _ = rowsS a.1 b.1 c.1 (k + 1) xs 0 rows; rw [rowsS_go]
        · rw [six_err b.1 xs h0]; rw [rows_err _ _ _ _ _ h0, rows_err _ _ _ _ _ h0]
  | zero =>
    right
    obtain ⟨q1, y, q2⟩ := end_r xs e
    rw [q2] at q1
    have q1 : y.1 = endS xs e := by simpa using q1
    refine ⟨finB a.1 b.1 c.1 xs e rows, ?_, by rw [← he]; exact congrArg some (show rowsS a.1 b.1 c.1 0 xs e rows = _ from rfl).symm⟩
    rw [iLt_f (by omega)]
    simp only [cond_false]
    apply map_inr
    rw [q2]
    simp only [Option.bind_some]
    rw [q1]
    unfold finB
    by_cases hz : endS xs e = 0
    · rw [iNe_f hz, if_neg (by simpa using hz)]; rfl
    · rw [iNe_t hz, if_pos hz]; rfl

end Abs
end Go.Proofs.Ytbghnjkieghloaa
