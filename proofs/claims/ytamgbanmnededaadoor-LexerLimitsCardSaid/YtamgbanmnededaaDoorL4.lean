/- Lexer: Scan; the law on names. -/
import Derived.Test.YtamgbanmnededaaDoorL3
import Derived.Test.YtamgbanmnededaaDoorXK
namespace Go.Proofs.YtamgbanmnededaaDoor
namespace Abs
set_option linter.unusedVariables false
set_option linter.unusedSimpArgs false
/-- What Scan answers, from a place on: so many rounds at most. -/
noncomputable def scanL : Nat → Nat → List DS0 → List Int → List DS0 × Int × Int × Unit
  | 0, _, toks, _ => (toks, 0, 0, ())
  | _ + 1, _, toks, [] => (toks, 0, 0, ())
  | n + 1, i, toks, c :: r =>
    if c = 32 ∨ c = 10 then scanL n (i + 1) toks r
    else if c = 35 then scanL n (i + ((c :: r).takeWhile isLine).length) toks ((c :: r).drop ((c :: r).takeWhile isLine).length)
    else if (tokL (c :: r) (i : Int)).2.2 ≠ 0 then ([], (i : Int), (tokL (c :: r) (i : Int)).2.2, ())
    else if toks.length = 4000 then ([], (i : Int), 4, ())
    else if (tokL (c :: r) (i : Int)).1.1 = 2 ∧ (c :: r).drop (tokL (c :: r) (i : Int)).2.1 ≠ [] ∧ (isLet (((c :: r).drop (tokL (c :: r) (i : Int)).2.1).getD 0 0) = true ∨ ((c :: r).drop (tokL (c :: r) (i : Int)).2.1).getD 0 0 = 45) then ([], ((i + (tokL (c :: r) (i : Int)).2.1 : Nat) : Int), 5, ())
    else scanL n (i + (tokL (c :: r) (i : Int)).2.1) (toks ++ [(tokL (c :: r) (i : Int)).1]) ((c :: r).drop (tokL (c :: r) (i : Int)).2.1)
noncomputable def scanS (s : ByteArray) : List DS0 × Int × Int × Unit := if 16384 < s.size then ([], 0, 4, ()) else scanL s.size 0 [] (bytesI s)
/-- A token has bytes. -/
theorem tok_pos (r : List Int) (i : Int) (h : (tokL r i).2.2 = 0) : 1 ≤ (tokL r i).2.1 ∧ (0 < r.length → (tokL r i).2.1 ≤ r.length) := by
  unfold tokL at h ⊢
  dsimp only at h ⊢
  have hd := tw_le isDig (r.drop 1)
  have hh := tw_le isHr (r.drop 1)
  rw [List.length_drop] at hd hh
  split at h
  · rename_i h1
    rw [if_pos h1]
    split at h
    · rename_i h2
      rw [if_pos h2]
      have hw := tw_le isWrd r
      refine ⟨?_, fun _ => hw⟩
      cases r with
      | nil => simp [isLet] at h1
      | cons c r =>
        have : isWrd c = true := by
          have h1 : isLet c = true := h1
          unfold isWrd; rw [h1]; rfl
        simp only [List.takeWhile_cons, this, if_true, List.length_cons]; omega
    · cases h
  · rename_i h1
    rw [if_neg h1]
    split at h
    · rename_i h2
      rw [if_pos h2]
      split at h
      · rename_i h3; exact absurd h h3
      · rename_i h3; rw [if_neg h3]; exact ⟨by dsimp only; omega, fun _ => by dsimp only; omega⟩
    · rename_i h2
      rw [if_neg h2]
      split at h
      · rename_i h3
        rw [if_pos h3]
        split at h
        · rename_i h4; exact absurd h h4
        · rename_i h4; rw [if_neg h4]; exact ⟨by dsimp only; omega, fun _ => by dsimp only; omega⟩
      · rename_i h3
        rw [if_neg h3]
        split at h
        · rename_i h4; rw [if_pos h4]; exact ⟨by simp, fun q => by dsimp only; omega⟩
        · cases h
theorem scan_m (s : ByteArray) (hs : s.size ≤ 4611686018427387904) : m18 s = some (scanS s) := by
  refine T.eq ?_
  unfold m18 scanS
  have hl := sLen_eq s
  have hbl := bl_len s
  refine T.cnd (fun hc => T.ret ?_) (fun hc => ?_) <;> simp only [iLt_T, iLt_F] at hc
  · rw [if_pos (by omega)]
  rw [if_neg (by omega)]
  generalize htg : scanL s.size 0 [] (bytesI s) = tgt
  refine T.loop (fun q => ∃ (n i : Nat) (toks : List DS0), i ≤ s.size ∧ s.size - i ≤ n ∧ toks.length ≤ 4000 ∧ scanL n i toks ((bytesI s).drop i) = tgt ∧ q = (s, (i : Int), toks, ())) (fun q => s.size - q.2.1.toNat) ⟨s.size, 0, [], by omega, by omega, by simp, htg, rfl⟩ ?_
  rintro _ ⟨n, i, toks, hi, hn, ht, he, rfl⟩
  dsimp only
  refine T.cnd (fun hc1 => ?_) (fun hc1 => ?_) <;> simp only [iLt_T, iLt_F] at hc1
  case refine_2 =>
    refine T.out ?_
    have hd : (bytesI s).drop i = [] := List.drop_eq_nil_of_le (by omega)
    rw [hd] at he
    rw [← he]
    cases n <;> rfl
  have hlt : i < (bytesI s).length := by omega
  obtain ⟨n, rfl⟩ : ∃ m, n = m + 1 := ⟨n - 1, by omega⟩
  have hr := List.drop_eq_getElem_cons hlt
  rw [bl_get] at hr
  have htok := token_m s i (by omega) (by omega)
  have hpos := tok_pos ((bytesI s).drop i) (i : Int)
  have hspan := span_tw isLine s (s.size - i) i (by omega)
  have hnx : ∀ k : Nat, ((bytesI s).drop i).drop k = (bytesI s).drop (i + k) := fun k => by rw [List.drop_drop]
  have hdl : ((bytesI s).drop i).length = s.size - i := by rw [List.length_drop]; omega
  have htl := tw_le isLine ((bytesI s).drop i)
  have hlast : ∀ k : Nat, ((bytesI s).drop (i + k)).getD 0 0 = sAt s ((i + k : Nat) : Int) := fun k => by rw [bl_at]; simp
  generalize hrr : (bytesI s).drop (i + 1) = r at hr
  rw [hr] at htok hpos hspan he hnx hdl htl
  simp only [scanL] at he
  have go : ∀ (k : Nat) (tk : List DS0) (x : Int), x = ((i + k : Nat) : Int) → 1 ≤ k → i + k ≤ s.size → tk.length ≤ 4000 → scanL n (i + k) tk ((bytesI s).drop (i + k)) = tgt → T (some (Sum.inl (β := List DS0 × Int × Int × Unit) (s, x, tk, ()))) (LQ (fun q => ∃ (n i : Nat) (toks : List DS0), i ≤ s.size ∧ s.size - i ≤ n ∧ toks.length ≤ 4000 ∧ scanL n i toks ((bytesI s).drop i) = tgt ∧ q = (s, (i : Int), toks, ())) (fun q => s.size - q.2.1.toNat) (s.size - (i : Int).toNat) (fun x => x = tgt)) := by
    intro k tk x hx h1 h2 h3 h4
    subst hx
    exact T.go ⟨n, i + k, tk, h2, by omega, h3, h4, rfl⟩ (by dsimp only; omega)
  have go1 : scanL n (i + 1) toks r = tgt → T (some (Sum.inl (β := List DS0 × Int × Int × Unit) (s, iAdd .i64 (i : Int) 1, toks, ()))) (LQ (fun q => ∃ (n i : Nat) (toks : List DS0), i ≤ s.size ∧ s.size - i ≤ n ∧ toks.length ≤ 4000 ∧ scanL n i toks ((bytesI s).drop i) = tgt ∧ q = (s, (i : Int), toks, ())) (fun q => s.size - q.2.1.toNat) (s.size - (i : Int).toNat) (fun x => x = tgt)) := fun h =>
    go 1 toks _ (by rw [iAdd64 (by omega) (by omega)]; rfl) (by omega) (by omega) ht (by rw [hrr]; exact h)
  refine T.grd (by rw [bnd_T]; omega) ?_
  refine T.cnd (fun c1 => ?_) (fun c1 => ?_) <;> simp only [iEq_T, iEq_F] at c1
  · rw [if_pos (Or.inl c1)] at he; exact go1 he
  refine T.cnd (fun c2 => ?_) (fun c2 => ?_) <;> simp only [iEq_T, iEq_F] at c2
  · rw [if_pos (Or.inr c2)] at he; exact go1 he
  rw [if_neg (by rintro (h | h); exact c1 h; exact c2 h)] at he
  refine T.cnd (fun c3 => ?_) (fun c3 => ?_) <;> simp only [iEq_T, iEq_F] at c3
  · rw [if_pos c3, hnx] at he
    refine T.callE (span0 s i hi (by omega)) ?_
    refine go _ toks _ (by rw [hspan]) ?_ (by omega) ht he
    rw [List.takeWhile_cons, if_pos (by rw [c3]; rfl), List.length_cons]; omega
  rw [if_neg c3] at he
  refine T.callE htok ?_
  dsimp only
  generalize hk : tokL (sAt s (i : Int) :: r) (i : Int) = tk at he hpos
  obtain ⟨tok, k, fl⟩ := tk
  dsimp only at he hpos ⊢
  refine T.cnd (fun c4 => ?_) (fun c4 => ?_) <;> simp only [iNe_T, iNe_F] at c4
  · rw [if_pos c4] at he; exact T.out he
  rw [if_neg (by simpa using c4)] at he
  have hp := hpos c4
  rw [if_pos c4]
  have hk2 : i + k ≤ s.size := by have := hp.2 (by simp); omega
  refine T.cnd (fun c5 => ?_) (fun c5 => ?_) <;> simp only [iEq_T, iEq_F, lenI_eq] at c5
  · rw [if_pos (by omega)] at he; exact T.out he
  rw [if_neg (by omega), hnx] at he
  have hlen : (toks ++ [tok]).length ≤ 4000 := by rw [List.length_append, List.length_singleton]; omega
  refine T.grd (by rw [fits_T]; simp only [List.length_singleton]; omega) ?_
  have hne : ((bytesI s).drop (i + k) ≠ []) ↔ i + k < s.size := by
    rw [Ne, List.drop_eq_nil_iff]; omega
  rw [hlast] at he
  by_cases c6 : tok.1 = 2 ∧ i + k < s.size
  · refine T.grd (by simp only [iLt_T, iLt_F, iLe_T, iLe_F, iEq_T, iEq_F, iNe_T, iNe_F, bnd_T, bnd_F, inB_T, inB_F, fits_T, fitsI_T, cutOk_T, someE_T, someE_F, leN_T, not_T, not_F, and_T, and_F, or_T, or_F, candF_T, candF_F, corT_T, corT_F, bEqT_T, bEqT_F, bEqF_T, bEqF_F, eq_self, or_true, true_or, and_true, true_and, or_false, false_or, and_false, false_and, not_true_eq_false, not_false_eq_true, Bool.true_eq_false, Bool.false_eq_true]; left; omega) ?_
    refine T.ct (by simp only [iLt_T, iLt_F, iLe_T, iLe_F, iEq_T, iEq_F, iNe_T, iNe_F, bnd_T, bnd_F, inB_T, inB_F, fits_T, fitsI_T, cutOk_T, someE_T, someE_F, leN_T, not_T, not_F, and_T, and_F, or_T, or_F, candF_T, candF_F, corT_T, corT_F, bEqT_T, bEqT_F, bEqF_T, bEqF_F, eq_self, or_true, true_or, and_true, true_and, or_false, false_or, and_false, false_and, not_true_eq_false, not_false_eq_true, Bool.true_eq_false, Bool.false_eq_true]; omega) ?_
    refine T.callE (let_m _) ?_
    dsimp only
    refine T.grd (by simp only [iLt_T, iLt_F, iLe_T, iLe_F, iEq_T, iEq_F, iNe_T, iNe_F, bnd_T, bnd_F, inB_T, inB_F, fits_T, fitsI_T, cutOk_T, someE_T, someE_F, leN_T, not_T, not_F, and_T, and_F, or_T, or_F, candF_T, candF_F, corT_T, corT_F, bEqT_T, bEqT_F, bEqF_T, bEqF_F, eq_self, or_true, true_or, and_true, true_and, or_false, false_or, and_false, false_and, not_true_eq_false, not_false_eq_true, Bool.true_eq_false, Bool.false_eq_true]; left; omega) ?_
    refine T.cnd (fun c7 => ?_) (fun c7 => ?_) <;> simp only [corT_T, corT_F, iEq_T, iEq_F] at c7
    · rw [if_pos ⟨c6.1, hne.2 c6.2, c7⟩] at he
      exact T.out he
    · rw [if_neg (fun h => by rcases h.2.2 with h | h; rw [h] at c7; simp at c7; exact c7.2 h)] at he
      exact go k _ _ rfl hp.1 hk2 hlen he
  · rw [if_neg (fun h => c6 ⟨h.1, hne.1 h.2.1⟩)] at he
    have hcf : cond (iEq tok.1 2) (iLt ((i + k : Nat) : Int) (sLen s)) false = false := by
      simp only [candF_F, iEq_F, iLt_F]; by_cases h : tok.1 = 2
      · right; have : ¬ i + k < s.size := fun q => c6 ⟨h, q⟩
        omega
      · left; exact h
    refine T.grd (by rw [hcf]; simp [bEq]) ?_
    refine T.cf hcf ?_
    exact go k _ _ rfl hp.1 hk2 hlen he
theorem aw_scan : scanS (bs [97, 58, 49]) = ([(1, bs [97], 0, 0, ()), (4, bs [58], 0, 1, ()), (2, bs [], 1, 2, ())], 0, 0, ()) := by
  rfl
theorem sEq_dec (a b : ByteArray) : sEq a b = decide (bytesI a = bytesI b) := by
  rcases h : sEq a b with _ | _
  · rw [sEq_F] at h; symm; rw [decide_eq_false_iff_not]; exact fun q => h (bl_inj q)
  · rw [sEq_T] at h; subst h; symm; rw [decide_eq_true_eq]
theorem bEq_self (a : Bool) : bEq a a = true := by cases a <;> rfl
theorem aw_n1 : nameS (bs [97, 45, 49]) = true := by unfold nameS resS m14; simp only [sEq_dec]; rfl
theorem aw_n2 : nameS (bs [110, 111, 116]) = false := by unfold nameS resS m14; simp only [sEq_dec]; rfl
theorem awake_ok : m9 = some (true, ()) := by
  unfold m9
  rw [scan_m _ (by decide), aw_scan]
  rw [name_m _ (by decide), name_m _ (by decide), aw_n1, aw_n2]
  simp only [sEq_dec]
  rfl
theorem word_T {L : List Int} {a : Int} (h : DeckOk L a) : T (m10 L a) (fun y => DeckOk y.2.1 y.2.2.1 ∧ y.1.size ≤ 16) := by
  unfold m10
  refine T.call (next_T h (by omega) (by omega)) (fun y ⟨h1, h2, h3⟩ => ?_)
  refine T.grd (by rw [bnd_T]; refine ⟨h2, ?_⟩; rw [lenI_eq]; exact h3) ?_
  refine T.grd (by rw [inB_T]; simp only [List.length_cons, List.length_nil]; omega) ?_
  refine T.ret ⟨h1, ?_⟩
  dsimp only
  generalize y.1.toNat = k
  match k with
  | 0 | 1 | 2 | 3 | 4 | 5 | 6 | 7 | 8 | 9 => decide
  | k + 10 => simp
theorem law_names (s : ByteArray) (L : List Int) (b : Int) (h : DeckOk L 0) : m3 s L b = some (true, ()) := by
  refine T.eq ?_
  unfold m3
  rw [awake_ok]
  refine T.cnd (fun hc => T.ret rfl) (fun hc => ?_)
  have hs : s.size ≤ 4611686018427387904 := by rw [iLt_F, sLen_eq] at hc; omega
  refine T.callE (show m11 L = some (L, 0, ()) from rfl) ?_
  refine T.call (word_T h) (fun y ⟨h1, h2⟩ => ?_)
  have hsz : (bsI [b]).size = 1 := rfl
  have hcs : (sCat y.1 (bsI [b])).size = y.1.size + 1 := by unfold sCat; rw [ByteArray.size_append, hsz]
  refine T.grd (by unfold sFits; rw [decide_eq_true_eq, hsz]; omega) ?_
  rw [name_m s hs, name_r s hs, res_m, res_r, name_m _ (by omega), name_r _ (by omega), res_m, res_r, name_m _ (by omega), name_r _ (by omega)]
  simp only [Option.bind_some, bEq_self, cond_true]
  exact T.ret rfl
theorem deck_ok {L : List Int} (h : OkT (.list (.int .i64)) L) : DeckOk L 0 := ⟨fun x hx => ok_i64 ((ok_list (e := .int .i64) h).2 x hx), (ok_list (e := .int .i64) h).1, by omega⟩
end Abs
end Go.Proofs.YtamgbanmnededaaDoor
