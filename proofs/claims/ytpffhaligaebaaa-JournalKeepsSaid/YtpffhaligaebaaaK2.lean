/- The models of the journal's functions, and what they compute: records, restarts, comparisons. -/
import Derived.Test.YtpffhaligaebaaaK1
namespace Go.Proofs.Ytpffhaligaebaaa
namespace Abs
open Go.RowKit
set_option linter.unusedVariables false
set_option linter.unusedSimpArgs false
theorem records_m (xs : List Int) (hl : xs.length ≤ 1000000) (hb : Byt xs) : m19 xs = some ((recs xs).1, ((recs xs).2 : Int), ()) := by
  refine loop_inv (fun s => ∃ rs u, s = (xs, ((u : Nat) : Int), rs, ()) ∧ RI xs rs u) (fun s => xs.length - s.2.1.toNat) _ ?_ _ ⟨[], 0, rfl, RI.nil xs⟩
  rintro s ⟨rs, u, rfl, h⟩
  obtain ⟨n, h1, h2, h3, h4⟩ := id h
  have ecut : cutL (u : Int) ((xs.length : Nat) : Int) xs = xs.drop u := by
    unfold cutL
    rw [Int.toNat_natCast, Int.toNat_natCast, List.take_length]
  simp only [cutOk_t (show (0 : Int) ≤ u by omega) (show (u : Int) ≤ (xs.length : Int) by omega) (show (xs.length : Int) ≤ (xs.length : Int) by omega), cond_true, ecut]
  rw [first_m (xs.drop u) (by rw [List.length_drop]; omega) (hb.drop u)]
  simp only [Option.bind_some]
  cases hr : fstO (xs.drop u) with
  | none =>
    right
    rw [h.stop hr]
    rfl
  | some r =>
    left
    obtain ⟨a1, a2, a3, a4, a5⟩ := fstO_some (hb.drop u) hr
    rw [List.length_drop] at a3
    have es : someE r = true := by cases r with | nil => simp at a1 | cons => rfl
    refine ⟨(xs, ((u + (6 + r.length) : Nat) : Int), rs ++ [r], ()), ?_, ⟨rs ++ [r], u + (6 + r.length), rfl, h.step hb hr⟩, ?_⟩
    · simp only [es, cond_true, Option.isNone_some, cond_false, Option.getD_some]
      rw [fits_t (n := r.length) (by omega) (by omega), fits_t (n := rs.length + [r].length) (by simp only [List.length_cons, List.length_nil]; omega) (by simp only [List.length_cons, List.length_nil]; omega)]
      have e1 : iAdd .i64 6 (lenI r) = 6 + (r.length : Int) := iAdd64 (by simp only [lenI]; omega) (by simp only [lenI]; omega)
      rw [e1, iAdd64 (by omega) (by omega)]
      simp only [cond_true]
      congr 3
    · simp only [Int.toNat_natCast]; omega
theorem same_m (xs ys : List Int) (hl : xs.length ≤ 1000000) : m12 xs ys = some (decide (xs = ys), ()) := by
  unfold m12
  by_cases hlen : xs.length = ys.length
  · rw [iNe_f (show lenI xs = lenI ys by simp [lenI, hlen])]
    simp only [cond_false]
    by_cases he : xs = ys
    · subst he
      refine loop_to (fun k => (xs, xs, lenI xs, (k : Int), ())) xs.length (fun k hk => ?_) ?_
      · simp only [iLt_t (show (k : Int) < lenI xs by show (k : Int) < xs.length; omega), bnd_t (show (0 : Int) ≤ k by omega) (show (k : Int) < lenI xs by show (k : Int) < xs.length; omega), cond_true, iNe_f, cond_false]
        rw [iAdd64 (by omega) (by omega)]
        rfl
      · simp only [iLt_f (show lenI xs ≤ ((xs.length : Nat) : Int) from Int.le_refl _), cond_false]
        simp
    · -- the first place where they differ
      have ex : ∃ j, j < xs.length ∧ xs.getD j 0 ≠ ys.getD j 0 := by
        by_cases hex : ∃ j, j < xs.length ∧ xs.getD j 0 ≠ ys.getD j 0
        · exact hex
        · exfalso
          apply he
          apply List.ext_getElem hlen
          intro j h1 h2
          have : ¬ (xs.getD j 0 ≠ ys.getD j 0) := fun q => hex ⟨j, h1, q⟩
          simp only [ne_eq, Decidable.not_not] at this
          simpa [List.getD, h1, h2] using this
      have key : ∀ n k, xs.length - k ≤ n → k ≤ xs.length → (∀ j, j < k → xs.getD j 0 = ys.getD j 0) → loopO (S := (List Int) × (List Int) × Int × Int × Unit) (R := Bool × Unit) (fun s22 =>
    cond (iLt s22.2.2.2.1 s22.2.2.1)
    (cond (bnd s22.2.2.2.1 (lenI s22.1))
     (cond (bnd s22.2.2.2.1 (lenI s22.2.1))
      (cond (iNe (atI s22.1 s22.2.2.2.1 0) (atI s22.2.1 s22.2.2.2.1 0))
       (some (.inr (false, ())))
       (some (.inl (s22.1, s22.2.1, s22.2.2.1, iAdd .i64 s22.2.2.2.1 1, ())))) none) none)
    (some (.inr (true, ())))) (xs, ys, lenI xs, (k : Int), ()) = some (false, ()) := by
        intro n
        induction n with
        | zero =>
          intro k h1 h2 h3
          obtain ⟨j, hj, hne⟩ := ex
          exact absurd (h3 j (by omega)) hne
        | succ n ih =>
          intro k h1 h2 h3
          rcases Nat.lt_or_ge k xs.length with hk | hk
          · have b1 := bnd_t (show (0 : Int) ≤ k by omega) (show (k : Int) < lenI xs by show (k : Int) < xs.length; omega)
            have b2 := bnd_t (show (0 : Int) ≤ k by omega) (show (k : Int) < lenI ys by show (k : Int) < ys.length; omega)
            rw [loopO_eq]
            simp only [iLt_t (show (k : Int) < lenI xs by show (k : Int) < xs.length; omega), b1, b2, cond_true, atI_nat]
            by_cases hq : xs.getD k 0 = ys.getD k 0
            · rw [iNe_f hq, iAdd64 (by omega) (by omega)]
              simp only [cond_false]
              have := ih (k + 1) (by omega) (by omega) (fun j hj => by
                rcases Nat.lt_or_ge j k with q | q
                · exact h3 j q
                · have : j = k := by omega
                  rw [this]; exact hq)
              exact this
            · rw [iNe_t hq]; rfl
          · obtain ⟨j, hj, hne⟩ := ex
            exact absurd (h3 j (by omega)) hne
      rw [show (decide (xs = ys)) = false from decide_eq_false he]
      exact key xs.length 0 (by omega) (by omega) (fun j hj => by omega)
  · rw [iNe_t (show lenI xs ≠ lenI ys by show (xs.length : Int) ≠ ys.length; omega)]
    have : decide (xs = ys) = false := decide_eq_false fun q => hlen (by rw [q])
    rw [this]; rfl
theorem sameLists_m (xs : List (List Int)) (hl : xs.length ≤ 1000000) (hx : ∀ x ∈ xs, x.length ≤ 1000000) : m21 xs xs = some (true, ()) := by
  unfold m21
  rw [iNe_f rfl]
  simp only [cond_false]
  refine loop_to (fun k => (xs, xs, lenI xs, (k : Int), ())) xs.length (fun k hk => ?_) ?_
  · have hat : (xs.getD k []).length ≤ 1000000 := by
      have e : xs.getD k [] = xs[k] := by simp [List.getD, hk]
      rw [e]; exact hx _ (List.getElem_mem _)
    simp only [iLt_t (show (k : Int) < lenI xs by show (k : Int) < xs.length; omega), bnd_t (show (0 : Int) ≤ k by omega) (show (k : Int) < lenI xs by show (k : Int) < xs.length; omega), cond_true, atI_nat]
    rw [same_m _ _ hat]
    simp only [Option.bind_some, decide_true, Bool.not_true, cond_false]
    rw [iAdd64 (by omega) (by omega)]
    rfl
  · simp only [iLt_f (show lenI xs ≤ ((xs.length : Nat) : Int) from Int.le_refl _), cond_false]
theorem restart_m (xs : List Int) (wr ca tor : Int) (off : Bool) (hl : xs.length ≤ 1000000) (hb : Byt xs) : m22 (xs, wr, ca, tor, off, ()) = some ((xs.take (recs xs).2, wr, 0, 0, false, ()), ()) := by
  unfold m22
  rw [records_m xs hl hb]
  have hr := recs_le hb
  simp only [Option.bind_some]
  rw [cutOk_t (by omega) (by omega) (by omega)]
  simp only [cond_true, cutL_zero, Int.toNat_natCast]
  have : (xs.take (recs xs).2).length ≤ 1000000 := by rw [List.length_take]; omega
  rw [fits_t (by omega) (by omega)]
  rfl
theorem lawRecords_m (raw : List (List Int)) : m18 raw = some (rcs raw, ()) := by
  refine loop_to (fun k => (raw, (k : Int), rcK raw k, ())) (min raw.length 6) (fun k hk => ?_) ?_
  · have e1 : iMin (lenI (raw.getD k [])) 40 = ((min (raw.getD k []).length 40 : Nat) : Int) := by simp only [iMin, lenI]; omega
    have e2 : cutL 0 ((min (raw.getD k []).length 40 : Nat) : Int) (raw.getD k []) = (raw.getD k []).take 40 := by
      rw [cutL_zero, Int.toNat_natCast]
      by_cases h : (raw.getD k []).length ≤ 40
      · rw [Nat.min_eq_left h, List.take_of_length_le h, List.take_of_length_le (Nat.le_refl _)]
      · rw [Nat.min_eq_right (by omega)]
    have e3 : IntKind.wrap .u8 (k : Int) = k := wrap8 (by omega) (by omega)
    have hl : ((raw.getD k []).take 40).length ≤ 40 := by rw [List.length_take]; omega
    simp only [iLt_t (show (k : Int) < lenI raw by show (k : Int) < raw.length; omega), iLt_t (show (k : Int) < 6 by omega), bnd_t (show (0 : Int) ≤ k by omega) (show (k : Int) < lenI raw by show (k : Int) < raw.length; omega), cond_true, atI_nat, e1, e2, e3]
    rw [cutOk_t (by omega) (by omega) (by omega), fits_t (n := [(k : Int)].length + _) (by simp only [List.length_cons, List.length_nil]; omega) (by simp only [List.length_cons, List.length_nil]; omega), fits_t (by rw [rcK_len]; simp only [List.length_cons, List.length_nil]; omega) (by rw [rcK_len]; simp only [List.length_cons, List.length_nil]; omega), iAdd64 (by omega) (by omega), rcK_succ]
    rfl
  · have : cond (iLt ((min raw.length 6 : Nat) : Int) (lenI raw)) (iLt ((min raw.length 6 : Nat) : Int) 6) false = false := by
      by_cases h : raw.length ≤ 6
      · rw [iLt_f (show lenI raw ≤ ((min raw.length 6 : Nat) : Int) by show (raw.length : Int) ≤ _; omega)]; rfl
      · rw [iLt_f (show (6 : Int) ≤ ((min raw.length 6 : Nat) : Int) by omega)]; cases iLt ((min raw.length 6 : Nat) : Int) (lenI raw) <;> rfl
    simp only [this, cond_false]
    rfl
end Abs
end Go.Proofs.Ytpffhaligaebaaa
