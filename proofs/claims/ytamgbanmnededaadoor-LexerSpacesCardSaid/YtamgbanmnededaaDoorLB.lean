/- Merged: L4 L5 L6. -/
import Derived.Test.YtamgbanmnededaaDoorLA
import Derived.Test.YtamgbanmnededaaDoorXK
import Derived.Test.YtamgbanmnededaaDoorCivP
/- Lexer: Scan; the law on names. -/
namespace Go.Proofs.YtamgbanmnededaaDoor
namespace Abs
set_option linter.unusedVariables false
set_option linter.unusedSimpArgs false
/-- What Scan answers, from a place on: so many rounds at most. -/
noncomputable def scanL : Nat → Nat → List DS0 → List Int → List DS0 × Int × Int × Unit
  | 0, _, toks, _ => (toks, 0, 0, ())
  | _ + 1, _, toks, [] => (toks, 0, 0, ())
  | n + 1, i, toks, c :: r =>
    if c = 32 ∨ c = 10 then scanL n (i + 1) toks r
    else if c = 35 then scanL n (i + ((c :: r).takeWhile isLine).length) toks ((c :: r).drop ((c :: r).takeWhile isLine).length)
    else if (tokL (c :: r) (i : Int)).2.2 ≠ 0 then ([], (i : Int), (tokL (c :: r) (i : Int)).2.2, ())
    else if toks.length = 4000 then ([], (i : Int), 4, ())
    else if (tokL (c :: r) (i : Int)).1.1 = 2 ∧ (c :: r).drop (tokL (c :: r) (i : Int)).2.1 ≠ [] ∧ (isLet (((c :: r).drop (tokL (c :: r) (i : Int)).2.1).getD 0 0) = true ∨ ((c :: r).drop (tokL (c :: r) (i : Int)).2.1).getD 0 0 = 45) then ([], ((i + (tokL (c :: r) (i : Int)).2.1 : Nat) : Int), 5, ())
    else scanL n (i + (tokL (c :: r) (i : Int)).2.1) (toks ++ [(tokL (c :: r) (i : Int)).1]) ((c :: r).drop (tokL (c :: r) (i : Int)).2.1)
noncomputable def scanS (s : ByteArray) : List DS0 × Int × Int × Unit := if 16384 < s.size then ([], 0, 4, ()) else scanL s.size 0 [] (bytesI s)
/-- A token has bytes. -/
theorem tok_pos (r : List Int) (i : Int) (h : (tokL r i).2.2 = 0) : 1 ≤ (tokL r i).2.1 ∧ (0 < r.length → (tokL r i).2.1 ≤ r.length) := by
  unfold tokL at h ⊢
  dsimp only at h ⊢
  have hd := tw_le isDig (r.drop 1)
  have hh := tw_le isHr (r.drop 1)
  rw [List.length_drop] at hd hh
  split at h
  · rename_i h1
    rw [if_pos h1]
    split at h
    · rename_i h2
      rw [if_pos h2]
      have hw := tw_le isWrd r
      refine ⟨?_, fun _ => hw⟩
      cases r with
      | nil => simp [isLet] at h1
      | cons c r =>
        have : isWrd c = true := by
          have h1 : isLet c = true := h1
          unfold isWrd; rw [h1]; rfl
        simp only [List.takeWhile_cons, this, if_true, List.length_cons]; omega
    · cases h
  · rename_i h1
    rw [if_neg h1]
    split at h
    · rename_i h2
      rw [if_pos h2]
      split at h
      · rename_i h3; exact absurd h h3
      · rename_i h3; rw [if_neg h3]; exact ⟨by dsimp only; omega, fun _ => by dsimp only; omega⟩
    · rename_i h2
      rw [if_neg h2]
      split at h
      · rename_i h3
        rw [if_pos h3]
        split at h
        · rename_i h4; exact absurd h h4
        · rename_i h4; rw [if_neg h4]; exact ⟨by dsimp only; omega, fun _ => by dsimp only; omega⟩
      · rename_i h3
        rw [if_neg h3]
        split at h
        · rename_i h4; rw [if_pos h4]; exact ⟨by simp, fun q => by dsimp only; omega⟩
        · cases h
theorem scan_m (s : ByteArray) (hs : s.size ≤ 4611686018427387904) : m18 s = some (scanS s) := by
  refine T.eq ?_
  unfold m18 scanS
  have hl := sLen_eq s
  have hbl := bl_len s
  refine T.cnd (fun hc => T.ret ?_) (fun hc => ?_) <;> simp only [iLt_T, iLt_F] at hc
  · rw [if_pos (by omega)]
  rw [if_neg (by omega)]
  generalize htg : scanL s.size 0 [] (bytesI s) = tgt
  refine T.loop (fun q => ∃ (n i : Nat) (toks : List DS0), i ≤ s.size ∧ s.size - i ≤ n ∧ toks.length ≤ 4000 ∧ scanL n i toks ((bytesI s).drop i) = tgt ∧ q = (s, (i : Int), toks, ())) (fun q => s.size - q.2.1.toNat) ⟨s.size, 0, [], by omega, by omega, by simp, htg, rfl⟩ ?_
  rintro _ ⟨n, i, toks, hi, hn, ht, he, rfl⟩
  dsimp only
  refine T.cnd (fun hc1 => ?_) (fun hc1 => ?_) <;> simp only [iLt_T, iLt_F] at hc1
  case refine_2 =>
    refine T.out ?_
    have hd : (bytesI s).drop i = [] := List.drop_eq_nil_of_le (by omega)
    rw [hd] at he
    rw [← he]
    cases n <;> rfl
  have hlt : i < (bytesI s).length := by omega
  obtain ⟨n, rfl⟩ : ∃ m, n = m + 1 := ⟨n - 1, by omega⟩
  have hr := List.drop_eq_getElem_cons hlt
  rw [bl_get] at hr
  have htok := token_m s i (by omega) (by omega)
  have hpos := tok_pos ((bytesI s).drop i) (i : Int)
  have hspan := span_tw isLine s (s.size - i) i (by omega)
  have hnx : ∀ k : Nat, ((bytesI s).drop i).drop k = (bytesI s).drop (i + k) := fun k => by rw [List.drop_drop]
  have hdl : ((bytesI s).drop i).length = s.size - i := by rw [List.length_drop]; omega
  have htl := tw_le isLine ((bytesI s).drop i)
  have hlast : ∀ k : Nat, ((bytesI s).drop (i + k)).getD 0 0 = sAt s ((i + k : Nat) : Int) := fun k => by rw [bl_at]; simp
  generalize hrr : (bytesI s).drop (i + 1) = r at hr
  rw [hr] at htok hpos hspan he hnx hdl htl
  simp only [scanL] at he
  have go : ∀ (k : Nat) (tk : List DS0) (x : Int), x = ((i + k : Nat) : Int) → 1 ≤ k → i + k ≤ s.size → tk.length ≤ 4000 → scanL n (i + k) tk ((bytesI s).drop (i + k)) = tgt → T (some (Sum.inl (β := List DS0 × Int × Int × Unit) (s, x, tk, ()))) (LQ (fun q => ∃ (n i : Nat) (toks : List DS0), i ≤ s.size ∧ s.size - i ≤ n ∧ toks.length ≤ 4000 ∧ scanL n i toks ((bytesI s).drop i) = tgt ∧ q = (s, (i : Int), toks, ())) (fun q => s.size - q.2.1.toNat) (s.size - (i : Int).toNat) (fun x => x = tgt)) := by
    intro k tk x hx h1 h2 h3 h4
    subst hx
    exact T.go ⟨n, i + k, tk, h2, by omega, h3, h4, rfl⟩ (by dsimp only; omega)
  have go1 : scanL n (i + 1) toks r = tgt → T (some (Sum.inl (β := List DS0 × Int × Int × Unit) (s, iAdd .i64 (i : Int) 1, toks, ()))) (LQ (fun q => ∃ (n i : Nat) (toks : List DS0), i ≤ s.size ∧ s.size - i ≤ n ∧ toks.length ≤ 4000 ∧ scanL n i toks ((bytesI s).drop i) = tgt ∧ q = (s, (i : Int), toks, ())) (fun q => s.size - q.2.1.toNat) (s.size - (i : Int).toNat) (fun x => x = tgt)) := fun h =>
    go 1 toks _ (by rw [iAdd64 (by omega) (by omega)]; rfl) (by omega) (by omega) ht (by rw [hrr]; exact h)
  refine T.grd (by rw [bnd_T]; omega) ?_
  refine T.cnd (fun c1 => ?_) (fun c1 => ?_) <;> simp only [iEq_T, iEq_F] at c1
  · rw [if_pos (Or.inl c1)] at he; exact go1 he
  refine T.cnd (fun c2 => ?_) (fun c2 => ?_) <;> simp only [iEq_T, iEq_F] at c2
  · rw [if_pos (Or.inr c2)] at he; exact go1 he
  rw [if_neg (by rintro (h | h); exact c1 h; exact c2 h)] at he
  refine T.cnd (fun c3 => ?_) (fun c3 => ?_) <;> simp only [iEq_T, iEq_F] at c3
  · rw [if_pos c3, hnx] at he
    refine T.callE (span0 s i hi (by omega)) ?_
    refine go _ toks _ (by rw [hspan]) ?_ (by omega) ht he
    rw [List.takeWhile_cons, if_pos (by rw [c3]; rfl), List.length_cons]; omega
  rw [if_neg c3] at he
  refine T.callE htok ?_
  dsimp only
  generalize hk : tokL (sAt s (i : Int) :: r) (i : Int) = tk at he hpos
  obtain ⟨tok, k, fl⟩ := tk
  dsimp only at he hpos ⊢
  refine T.cnd (fun c4 => ?_) (fun c4 => ?_) <;> simp only [iNe_T, iNe_F] at c4
  · rw [if_pos c4] at he; exact T.out he
  rw [if_neg (by simpa using c4)] at he
  have hp := hpos c4
  rw [if_pos c4]
  have hk2 : i + k ≤ s.size := by have := hp.2 (by simp); omega
  refine T.cnd (fun c5 => ?_) (fun c5 => ?_) <;> simp only [iEq_T, iEq_F, lenI_eq] at c5
  · rw [if_pos (by omega)] at he; exact T.out he
  rw [if_neg (by omega), hnx] at he
  have hlen : (toks ++ [tok]).length ≤ 4000 := by rw [List.length_append, List.length_singleton]; omega
  refine T.grd (by rw [fits_T]; simp only [List.length_singleton]; omega) ?_
  have hne : ((bytesI s).drop (i + k) ≠ []) ↔ i + k < s.size := by
    rw [Ne, List.drop_eq_nil_iff]; omega
  rw [hlast] at he
  by_cases c6 : tok.1 = 2 ∧ i + k < s.size
  · refine T.grd (by simp only [iLt_T, iLt_F, iLe_T, iLe_F, iEq_T, iEq_F, iNe_T, iNe_F, bnd_T, bnd_F, inB_T, inB_F, fits_T, fitsI_T, cutOk_T, someE_T, someE_F, leN_T, not_T, not_F, and_T, and_F, or_T, or_F, candF_T, candF_F, corT_T, corT_F, bEqT_T, bEqT_F, bEqF_T, bEqF_F, eq_self, or_true, true_or, and_true, true_and, or_false, false_or, and_false, false_and, not_true_eq_false, not_false_eq_true, Bool.true_eq_false, Bool.false_eq_true]; left; omega) ?_
    refine T.ct (by simp only [iLt_T, iLt_F, iLe_T, iLe_F, iEq_T, iEq_F, iNe_T, iNe_F, bnd_T, bnd_F, inB_T, inB_F, fits_T, fitsI_T, cutOk_T, someE_T, someE_F, leN_T, not_T, not_F, and_T, and_F, or_T, or_F, candF_T, candF_F, corT_T, corT_F, bEqT_T, bEqT_F, bEqF_T, bEqF_F, eq_self, or_true, true_or, and_true, true_and, or_false, false_or, and_false, false_and, not_true_eq_false, not_false_eq_true, Bool.true_eq_false, Bool.false_eq_true]; omega) ?_
    refine T.callE (let_m _) ?_
    dsimp only
    refine T.grd (by simp only [iLt_T, iLt_F, iLe_T, iLe_F, iEq_T, iEq_F, iNe_T, iNe_F, bnd_T, bnd_F, inB_T, inB_F, fits_T, fitsI_T, cutOk_T, someE_T, someE_F, leN_T, not_T, not_F, and_T, and_F, or_T, or_F, candF_T, candF_F, corT_T, corT_F, bEqT_T, bEqT_F, bEqF_T, bEqF_F, eq_self, or_true, true_or, and_true, true_and, or_false, false_or, and_false, false_and, not_true_eq_false, not_false_eq_true, Bool.true_eq_false, Bool.false_eq_true]; left; omega) ?_
    refine T.cnd (fun c7 => ?_) (fun c7 => ?_) <;> simp only [corT_T, corT_F, iEq_T, iEq_F] at c7
    · rw [if_pos ⟨c6.1, hne.2 c6.2, c7⟩] at he
      exact T.out he
    · rw [if_neg (fun h => by rcases h.2.2 with h | h; rw [h] at c7; simp at c7; exact c7.2 h)] at he
      exact go k _ _ rfl hp.1 hk2 hlen he
  · rw [if_neg (fun h => c6 ⟨h.1, hne.1 h.2.1⟩)] at he
    have hcf : cond (iEq tok.1 2) (iLt ((i + k : Nat) : Int) (sLen s)) false = false := by
      simp only [candF_F, iEq_F, iLt_F]; by_cases h : tok.1 = 2
      · right; have : ¬ i + k < s.size := fun q => c6 ⟨h, q⟩
        omega
      · left; exact h
    refine T.grd (by rw [hcf]; simp [bEq]) ?_
    refine T.cf hcf ?_
    exact go k _ _ rfl hp.1 hk2 hlen he
theorem aw_scan : scanS (bs [97, 58, 49]) = ([(1, bs [97], 0, 0, ()), (4, bs [58], 0, 1, ()), (2, bs [], 1, 2, ())], 0, 0, ()) := by
  rfl
theorem sEq_dec (a b : ByteArray) : sEq a b = decide (bytesI a = bytesI b) := by
  rcases h : sEq a b with _ | _
  · rw [sEq_F] at h; symm; rw [decide_eq_false_iff_not]; exact fun q => h (bl_inj q)
  · rw [sEq_T] at h; subst h; symm; rw [decide_eq_true_eq]
theorem bEq_self (a : Bool) : bEq a a = true := by cases a <;> rfl
theorem aw_n1 : nameS (bs [97, 45, 49]) = true := by unfold nameS resS m14; simp only [sEq_dec]; rfl
theorem aw_n2 : nameS (bs [110, 111, 116]) = false := by unfold nameS resS m14; simp only [sEq_dec]; rfl
theorem awake_ok : m9 = some (true, ()) := by
  unfold m9
  rw [scan_m _ (by decide), aw_scan]
  rw [name_m _ (by decide), name_m _ (by decide), aw_n1, aw_n2]
  simp only [sEq_dec]
  rfl
theorem word_T {L : List Int} {a : Int} (h : DeckOk L a) : T (m10 L a) (fun y => DeckOk y.2.1 y.2.2.1 ∧ y.1.size ≤ 16) := by
  unfold m10
  refine T.call (next_T h (by omega) (by omega)) (fun y ⟨h1, h2, h3⟩ => ?_)
  refine T.grd (by rw [bnd_T]; refine ⟨h2, ?_⟩; rw [lenI_eq]; exact h3) ?_
  refine T.grd (by rw [inB_T]; simp only [List.length_cons, List.length_nil]; omega) ?_
  refine T.ret ⟨h1, ?_⟩
  dsimp only
  generalize y.1.toNat = k
  match k with
  | 0 | 1 | 2 | 3 | 4 | 5 | 6 | 7 | 8 | 9 => decide
  | k + 10 => simp
theorem law_names (s : ByteArray) (L : List Int) (b : Int) (h : DeckOk L 0) : m3 s L b = some (true, ()) := by
  refine T.eq ?_
  unfold m3
  rw [awake_ok]
  refine T.cnd (fun hc => T.ret rfl) (fun hc => ?_)
  have hs : s.size ≤ 4611686018427387904 := by rw [iLt_F, sLen_eq] at hc; omega
  refine T.callE (show m11 L = some (L, 0, ()) from rfl) ?_
  refine T.call (word_T h) (fun y ⟨h1, h2⟩ => ?_)
  have hsz : (bsI [b]).size = 1 := rfl
  have hcs : (sCat y.1 (bsI [b])).size = y.1.size + 1 := by unfold sCat; rw [ByteArray.size_append, hsz]
  refine T.grd (by unfold sFits; rw [decide_eq_true_eq, hsz]; omega) ?_
  rw [name_m s hs, name_r s hs, res_m, res_r, name_m _ (by omega), name_r _ (by omega), res_m, res_r, name_m _ (by omega), name_r _ (by omega)]
  simp only [Option.bind_some, bEq_self, cond_true]
  exact T.ret rfl
theorem deck_ok {L : List Int} (h : OkT (.list (.int .i64)) L) : DeckOk L 0 := ⟨fun x hx => ok_i64 ((ok_list (e := .int .i64) h).2 x hx), (ok_list (e := .int .i64) h).1, by omega⟩
end Abs
end Go.Proofs.YtamgbanmnededaaDoor

/- Lexer: steps of Scan; the law on limits. -/
namespace Go.Proofs.YtamgbanmnededaaDoor
namespace Abs
set_option linter.unusedVariables false
set_option linter.unusedSimpArgs false
theorem mark_cases {c : Int} (h : isMark c = true) : c = 59 ∨ c = 58 ∨ c = 44 ∨ c = 40 ∨ c = 41 := of_decide_eq_true h
theorem tok_mark {c : Int} (h : isMark c = true) (r : List Int) (i : Int) : tokL (c :: r) i = ((4, bsI [c], 0, i, ()), 1, 0) := by
  have h2 := mark_cases h
  have e : (c :: r).getD 0 0 = c := rfl
  unfold tokL
  dsimp only
  rw [e, if_neg (by unfold isLet; rw [decide_eq_true_eq]; omega), if_neg (by unfold isDig; rw [decide_eq_true_eq]; omega), if_neg (by omega), if_pos h]
theorem scan_sp {c : Int} (h : c = 32 ∨ c = 10) (n i : Nat) (toks : List DS0) (r : List Int) : scanL (n + 1) i toks (c :: r) = scanL n (i + 1) toks r := by
  simp only [scanL]; rw [if_pos h]
theorem scan_mark {c : Int} (h : isMark c = true) (n i : Nat) (toks : List DS0) (ht : toks.length < 4000) (r : List Int) : scanL (n + 1) i toks (c :: r) = scanL n (i + 1) (toks ++ [(4, bsI [c], 0, (i : Int), ())]) r := by
  have h2 := mark_cases h
  simp only [scanL]
  rw [tok_mark h, if_neg (by omega), if_neg (by omega), if_neg (by simp), if_neg (by omega), if_neg (by simp)]
  rfl
theorem scan_full {c : Int} (h : isMark c = true) (n i : Nat) (toks : List DS0) (ht : toks.length = 4000) (r : List Int) : scanL (n + 1) i toks (c :: r) = ([], (i : Int), 4, ()) := by
  have h2 := mark_cases h
  simp only [scanL]
  rw [tok_mark h, if_neg (by omega), if_neg (by omega), if_neg (by simp), if_pos ht]
theorem scan_end (n i : Nat) (toks : List DS0) : scanL n i toks [] = (toks, 0, 0, ()) := by cases n <;> rfl
theorem scan_sps : ∀ (k n i : Nat) (toks : List DS0) (r : List Int), scanL (n + k) i toks (List.replicate k 32 ++ r) = scanL n (i + k) toks r := by
  intro k
  induction k with
  | zero => intro n i toks r; rfl
  | succ k ih =>
    intro n i toks r
    rw [List.replicate_succ, List.cons_append, ← Nat.add_assoc, scan_sp (.inl rfl), ih]
    congr 1; omega
theorem scan_marks {c : Int} (h : isMark c = true) : ∀ (k n i : Nat) (toks : List DS0) (r : List Int), toks.length + k ≤ 4000 → ∃ t', t'.length = toks.length + k ∧ scanL (n + k) i toks (List.replicate k c ++ r) = scanL n (i + k) t' r := by
  intro k
  induction k with
  | zero => intro n i toks r _; exact ⟨toks, rfl, rfl⟩
  | succ k ih =>
    intro n i toks r hl
    rw [List.replicate_succ, List.cons_append, show n + (k + 1) = (n + k) + 1 from rfl, scan_mark h _ _ _ (by omega)]
    obtain ⟨t', h1, h2⟩ := ih n (i + 1) (toks ++ [(4, bsI [c], 0, (i : Int), ())]) r (by rw [List.length_append, List.length_singleton]; omega)
    refine ⟨t', by rw [h1, List.length_append, List.length_singleton]; omega, ?_⟩
    rw [h2]; congr 1; omega
theorem cat_size (a b : ByteArray) : (sCat a b).size = a.size + b.size := by unfold sCat; rw [ByteArray.size_append]
theorem bl_sz {s : ByteArray} {l : List Int} (h : bytesI s = l) : s.size = l.length := by rw [← h, bl_len]
theorem bsI_size (l : List Int) : (bsI l).size = l.length := by show (l.map _).toArray.size = _; simp
theorem sFits_t {a b : ByteArray} (h : a.size + b.size ≤ 9223372036854775807) : sFits a b = true := by unfold sFits; rw [decide_eq_true_eq]; exact h
theorem byt_rep {n : Nat} {c : Int} (h : 0 ≤ c ∧ c ≤ 255) : Byt (List.replicate n c) := fun x hx => by rw [List.eq_of_mem_replicate hx]; exact h
theorem mark5 (a : Int) (h : 0 ≤ a ∧ a ≤ 255) : 0 ≤ iRem (IntKind.wrap .i64 a) 5 ∧ iRem (IntKind.wrap .i64 a) 5 < 5 ∧ isMark (sAt (bs [59, 58, 44, 40, 41]) (iRem (IntKind.wrap .i64 a) 5)) = true := by
  rw [wrap64 (by omega) (by omega)]
  have e : iRem a 5 = a % 5 := by unfold iRem; rw [Int.tmod_eq_emod_of_nonneg h.1]
  rw [e]
  refine ⟨by omega, by omega, ?_⟩
  have : a % 5 = 0 ∨ a % 5 = 1 ∨ a % 5 = 2 ∨ a % 5 = 3 ∨ a % 5 = 4 := by omega
  rcases this with q | q | q | q | q <;> rw [q] <;> rfl
theorem law_limits (d : Bool) (a : Int) (h : 0 ≤ a ∧ a ≤ 255) : m5 d a = some (true, ()) := by
  refine T.eq ?_
  unfold m5
  obtain ⟨h1, h2, h3⟩ := mark5 a h
  refine T.grd rfl ?_
  refine T.grd (by rw [bnd_T]; exact ⟨h1, h2⟩) ?_
  generalize sAt (bs [59, 58, 44, 40, 41]) (iRem (IntKind.wrap .i64 a) 5) = c at h3
  have hc : 0 ≤ c ∧ c ≤ 255 := by have := mark_cases h3; omega
  have hb1 : bytesI (bsI [c]) = [c] := bl_bsI (fun x hx => by rw [List.mem_singleton.1 hx]; exact hc)
  have hs1 : (bsI [c]).size = 1 := rfl
  refine T.loop (fun q => ∃ (k : Nat) (s : ByteArray), k ≤ 500 ∧ bytesI s = List.replicate k c ∧ q = (d, s, [c], ())) (fun q => 500 - q.2.1.size) ⟨0, bs [], by omega, rfl, rfl⟩ ?_
  rintro _ ⟨k, s, hk, hs, rfl⟩
  dsimp only
  have hsz : s.size = k := by rw [bl_sz hs, List.length_replicate]
  refine T.cnd (fun hc1 => ?_) (fun hc1 => ?_) <;> simp only [iLt_T, iLt_F, sLen_eq] at hc1
  · refine T.grd (sFits_t (by omega)) ?_
    refine T.go ⟨k + 1, _, by omega, ?_, rfl⟩ (by dsimp only; rw [cat_size]; omega)
    rw [bl_cat, hs, hb1, ← List.replicate_succ']
  obtain rfl : k = 500 := by omega
  refine T.mapL ?_
  refine T.cnd (fun _ => ?_) (fun _ => ?_)
  · refine T.grd (sFits_t (by omega)) ?_
    refine T.grd (sFits_t (by simp only [cat_size]; omega)) ?_
    refine T.grd (sFits_t (by simp only [cat_size]; omega)) ?_
    refine T.grd (sFits_t (by simp only [cat_size]; omega)) ?_
    have hB : bytesI (sCat (sCat (sCat (sCat s s) s) s) (sCat (sCat (sCat s s) s) s)) = List.replicate 4000 c := by
      simp only [bl_cat, hs, List.replicate_append_replicate]
    generalize sCat (sCat (sCat (sCat s s) s) s) (sCat (sCat (sCat s s) s) s) = X at hB
    have hX : X.size = 4000 := by rw [bl_sz hB, List.length_replicate]
    have hs2 : (bs [32]).size = 1 := rfl
    have hY : (sCat (sCat X (bs [32])) (bsI [c])).size = 4002 := by rw [cat_size, cat_size]; omega
    have hYB : bytesI (sCat (sCat X (bs [32])) (bsI [c])) = List.replicate 4000 c ++ [32, c] := by rw [bl_cat, bl_cat, hB, hb1, List.append_assoc]; rfl
    rw [scan_m _ (by omega), scan_m _ (by omega)]
    refine T.bind (T.ret ?_)
    refine T.grd (sFits_t (by omega)) ?_
    refine T.grd (sFits_t (by rw [cat_size]; omega)) ?_
    refine T.bind (T.ret ?_)
    obtain ⟨t1, l1, e1⟩ := scan_marks h3 4000 0 0 [] [] (by simp)
    obtain ⟨t2, l2, e2⟩ := scan_marks h3 4000 2 0 [] [32, c] (by simp)
    have r1 : scanS X = (t1, 0, 0, ()) := by
      unfold scanS
      rw [if_neg (by omega), hX, hB]
      rw [List.append_nil] at e1
      rw [show (4000 : Nat) = 0 + 4000 from rfl, e1, scan_end]
    have r2 : scanS (sCat (sCat X (bs [32])) (bsI [c])) = ([], 4001, 4, ()) := by
      unfold scanS
      rw [if_neg (by omega), hY, hYB, show (4002 : Nat) = 2 + 4000 from rfl, e2, scan_sp (.inl rfl), scan_full h3 _ _ _ (by simpa using l2)]
      rfl
    rw [r1, r2]
    refine T.ct ?_ ?_
    · have l1' : t1.length = 4000 := by simpa using l1
      simp only [candF_T, iEq_T, lenI_eq, l1', sLen_eq, hX]
      refine ⟨⟨⟨⟨?_, ?_⟩, ?_⟩, ?_⟩, ?_⟩ <;> first | trivial | rfl
    · rw [awake_ok]; exact T.ret rfl
  · refine T.grd rfl ?_
    have h0 : ((0 : Int), [c], List.replicate (Int.toNat 16384) (0 : Int), ()) = (((0 : Nat) : Int), [c], List.replicate 0 (32 : Int) ++ List.replicate (16384 - 0) 0, ()) := by
      rw [List.replicate_zero, List.nil_append]; rfl
    rw [h0]
    refine T.along 16384 (fun i => ((i : Int), [c], List.replicate i 32 ++ List.replicate (16384 - i) 0, ())) (fun i hi => ?_) ?_
    · dsimp only
      have hl : (List.replicate i (32 : Int) ++ List.replicate (16384 - i) 0).length = 16384 := by rw [List.length_append, List.length_replicate, List.length_replicate]; omega
      refine T.ct (by rw [iLt_T, lenI_eq, hl]; omega) ?_
      refine T.grd (by rw [bnd_T, lenI_eq, hl]; omega) ?_
      refine T.grd (by rw [inB_T, hl]; omega) ?_
      refine T.go ?_ (by omega)
      have e1 : ((i : Int)).toNat = i := by omega
      obtain ⟨m, hm⟩ : ∃ m, 16384 - i = m + 1 := ⟨16384 - i - 1, by omega⟩
      rw [iAdd64 (by omega) (by omega), e1, hm, show 16384 - (i + 1) = m by omega, List.replicate_succ (n := m), List.set_append_right _ _ (by simp), List.length_replicate, Nat.sub_self, List.set_cons_zero, List.replicate_succ' (n := i), List.append_assoc]
      rfl
    · dsimp only
      have hl : (List.replicate 16384 (32 : Int) ++ List.replicate (16384 - 16384) 0) = List.replicate 16384 32 := by rw [Nat.sub_self, List.replicate_zero, List.append_nil]
      rw [hl]
      refine T.cf (by rw [iLt_F, lenI_eq, List.length_replicate]; omega) ?_
      refine T.mapL ?_
      rw [List.length_replicate]
      refine T.grd (by rw [cutOk_T]; omega) ?_
      have ht : List.take (Int.toNat (((16384 : Nat) : Int) - 1)) (List.drop (Int.toNat 1) (List.replicate 16384 (32 : Int))) = List.replicate 16383 32 := by
        rw [List.drop_replicate, List.take_replicate]; rfl
      rw [ht]
      have hsa : (bsI (List.replicate 16383 (32 : Int))).size = 16383 := by rw [bsI_size, List.length_replicate]
      have hsb : (bsI (List.replicate 16384 (32 : Int))).size = 16384 := by rw [bsI_size, List.length_replicate]
      have hba : bytesI (bsI (List.replicate 16383 (32 : Int))) = List.replicate 16383 32 := bl_bsI (byt_rep (by omega))
      generalize bsI (List.replicate 16383 (32 : Int)) = A at hsa hba
      generalize bsI (List.replicate 16384 (32 : Int)) = B at hsb
      have hza : (sCat A (bsI [c])).size = 16384 := by rw [cat_size]; omega
      have hzb : (sCat B (bsI [c])).size = 16385 := by rw [cat_size]; omega
      refine T.grd (sFits_t (by omega)) ?_
      rw [scan_m _ (by omega), scan_m _ (by omega)]
      refine T.bind (T.ret ?_)
      refine T.grd (sFits_t (by omega)) ?_
      refine T.bind (T.ret ?_)
      have r1 : scanS (sCat A (bsI [c])) = ([(4, bsI [c], 0, 16383, ())], 0, 0, ()) := by
        unfold scanS
        rw [if_neg (by omega), hza, bl_cat, hba, hb1, show (16384 : Nat) = 1 + 16383 from rfl, scan_sps, scan_mark h3 _ _ _ (by simp), scan_end]
        rfl
      have r2 : scanS (sCat B (bsI [c])) = ([], 0, 4, ()) := by
        unfold scanS
        rw [if_pos (by omega)]
      rw [r1, r2]
      refine T.grd rfl ?_
      refine T.ct rfl ?_
      rw [awake_ok]; exact T.ret rfl
end Abs
end Go.Proofs.YtamgbanmnededaaDoor

/- Lexer: the calendar's models. -/
namespace Go.Proofs.YtamgbanmnededaaDoor
namespace Abs
set_option linter.unusedVariables false
set_option linter.unusedSimpArgs false
theorem rem_pos {a b : Int} (h : 0 ≤ a) : iRem a b = a % b := by unfold iRem; rw [Int.tmod_eq_emod_of_nonneg h]
theorem yl_m (y : Int) (h : 0 ≤ y) : m66 y = some (Cal.yl y, ()) := by
  unfold m66 Cal.yl
  rw [rem_pos h]
  by_cases q : y % 4 = 0
  · rw [if_pos q, q]; rfl
  · rw [if_neg q, show iEq (y % 4) 0 = false by rw [iEq_F]; exact q]; rfl
theorem tab_eq (k : Nat) : atI ([31, 28, 31, 30, 31, 30, 31, 31, 30, 31, 30, 31] : List Int) (k : Int) 0 = Cal.tab.getD k 0 := by
  unfold atI Cal.tab; rw [Int.toNat_natCast]
theorem len_m (y m : Int) (hy : 0 ≤ y) (h : 1 ≤ m ∧ m ≤ 12) : m65 y m = some (Cal.len y m, ()) := by
  refine T.eq ?_
  unfold m65 Cal.len
  rw [rem_pos hy]
  refine T.grd rfl ?_
  refine T.cnd (fun hc => ?_) (fun hc => ?_) <;> simp only [candF_T, candF_F, iEq_T, iEq_F] at hc
  · rw [if_pos hc]; exact T.ret rfl
  · rw [if_neg (by omega)]
    rw [iSub64 (by omega) (by omega)]
    refine T.grd (by rw [bnd_T]; omega) (T.ret ?_)
    obtain ⟨k, hk⟩ : ∃ k : Nat, m - 1 = (k : Int) := ⟨(m - 1).toNat, by omega⟩
    rw [hk, tab_eq, Int.toNat_natCast]
theorem leap_r (y : Int) (h : 2000 ≤ y ∧ y ≤ 2099) : m70 y = some (decide (y % 4 = 0), ()) := by
  refine T.eq ?_
  unfold m70
  rw [rem_pos (by omega), rem_pos (by omega), rem_pos (by omega)]
  refine T.grd rfl (T.grd rfl ?_)
  refine T.cnd (fun hc => ?_) (fun hc => ?_) <;> simp only [iEq_T, iEq_F] at hc
  · refine T.grd rfl (T.ret ?_)
    congr 1
    rw [decide_eq_true hc, corT_T, iNe_T, iEq_T]; omega
  · refine T.ret ?_
    rw [decide_eq_false hc]
theorem len_r (y m : Int) (hy : 2000 ≤ y ∧ y ≤ 2099) (h : 1 ≤ m ∧ m ≤ 12) : m64 y m = some (Cal.len y m, ()) := by
  refine T.eq ?_
  unfold m64 Cal.len
  rw [leap_r y hy]
  have hm : m = 1 ∨ m = 2 ∨ m = 3 ∨ m = 4 ∨ m = 5 ∨ m = 6 ∨ m = 7 ∨ m = 8 ∨ m = 9 ∨ m = 10 ∨ m = 11 ∨ m = 12 := by omega
  rcases hm with rfl | rfl | rfl | rfl | rfl | rfl | rfl | rfl | rfl | rfl | rfl | rfl <;> first | exact T.ret rfl | skip
  by_cases q : y % 4 = 0
  · rw [if_pos ⟨rfl, q⟩, decide_eq_true q]; exact T.ret rfl
  · rw [if_neg (fun k => q k.2), decide_eq_false q]; exact T.ret rfl
theorem hour_m {y m d h : Int} (k : 2000 ≤ y ∧ y ≤ 2099 ∧ 1 ≤ m ∧ m ≤ 12 ∧ 1 ≤ d ∧ d ≤ Cal.len y m ∧ 0 ≤ h ∧ h ≤ 23) : m58 (y, m, d, ()) h = some (Cal.hv y m d h, Cal.he y m d h, ()) := by
  obtain ⟨e1, e2⟩ := Cal.hv_good k
  have hb := Cal.len_bd y m k.2.2.1 k.2.2.2.1
  rw [e1, e2]
  refine T.eq ?_
  unfold m58
  dsimp only
  refine T.cf (by simp only [corT_F, iLt_F]; omega) ?_
  refine T.callE (len_m y m (by omega) ⟨k.2.2.1, k.2.2.2.1⟩) ?_
  refine T.cf (by rw [iLt_F]; dsimp only; omega) ?_
  refine T.cf (by simp only [corT_F, iLt_F, iLe_F]; omega) ?_
  have hcy : ∀ n : Nat, n ≤ 100 → 0 ≤ Cal.cumY n ∧ Cal.cumY n ≤ 36525 := fun n hn => by rw [Cal.cumY_eq]; omega
  rw [iSub64 (by omega) (by omega)]
  have h0 : (h, d - 1, (2000 : Int), y, m, d, ()) = (h, d - 1 + Cal.cumY 0, 2000 + ((0 : Nat) : Int), y, m, d, ()) := by
    show _ = (h, d - 1 + 0, (2000 : Int) + 0, y, m, d, ()); rw [Int.add_zero, Int.add_zero]
  rw [h0]
  refine T.along (y - 2000).toNat (fun i : Nat => (h, d - 1 + Cal.cumY i, 2000 + (i : Int), y, m, d, ())) (fun i hi => ?_) ?_
  · dsimp only
    refine T.ct (by rw [iLt_T]; omega) ?_
    refine T.callE (yl_m _ (by omega)) ?_
    have hq := Cal.yl_bd (2000 + (i : Int))
    have hz := hcy i (by omega)
    refine T.go ?_ (by omega)
    dsimp only
    rw [iAdd64 (by omega) (by omega), iAdd64 (by omega) (by omega), Cal.cumY, Int.add_assoc, show (2000 : Int) + (i : Int) + 1 = 2000 + ((i + 1 : Nat) : Int) by omega]
  · dsimp only
    refine T.cf (by rw [iLt_F]; omega) ?_
    refine T.mapL ?_
    have hz := hcy (y - 2000).toNat (by omega)
    generalize hA : Cal.cumY (y - 2000).toNat = A at hz
    generalize (2000 : Int) + ((y - 2000).toNat : Int) = Y
    have h0 : (h, d - 1 + A, (1 : Int), y, m, d, ()) = (h, d - 1 + A + Cal.cumM y 0, 1 + ((0 : Nat) : Int), y, m, d, ()) := by
      show _ = (h, d - 1 + A + 0, (1 : Int) + 0, y, m, d, ()); rw [Int.add_zero, Int.add_zero]
    rw [h0]
    refine T.along (m - 1).toNat (fun i : Nat => (h, d - 1 + A + Cal.cumM y i, 1 + (i : Int), y, m, d, ())) (fun i hi => ?_) ?_
    · dsimp only
      refine T.ct (by rw [iLt_T]; omega) ?_
      refine T.callE (len_m _ _ (by omega) (by omega)) ?_
      have hq := Cal.len_bd y (1 + (i : Int)) (by omega) (by omega)
      have hz2 := Cal.cumM_bd y i (by omega)
      refine T.go ?_ (by omega)
      dsimp only
      rw [iAdd64 (by omega) (by omega), iAdd64 (by omega) (by omega), Cal.cumM, Int.add_assoc (d - 1 + A), show (1 : Int) + (i : Int) + 1 = 1 + ((i + 1 : Nat) : Int) by omega, show (1 : Int) + (i : Int) = (i : Int) + 1 by omega]
    · dsimp only
      have hz2 := Cal.cumM_bd y (m - 1).toNat (by omega)
      refine T.cf (by rw [iLt_F]; omega) ?_
      refine T.out ?_
      rw [iMul64 (by omega) (by omega), iAdd64 (by omega) (by omega)]
      congr 1
      omega
theorem civil_r {n y m d : Int} (h0 : 0 ≤ n) (h1 : n ≤ 876599) (hc : Cal.IsCiv n y m d) : m55 n = some ((y, m, d, ()), n % 24, 0, ()) := by
  refine T.eq ?_
  unfold m55 m63
  refine T.bind (T.ret ?_)
  refine T.cf (by simp only [not_F, candF_T, iLe_T]; omega) ?_
  refine T.grd rfl ?_
  have hq : iQuo .i64 n 24 = n / 24 := by unfold iQuo; rw [Int.tdiv_eq_ediv_of_nonneg h0, wrap64 (by omega) (by omega)]
  rw [hq]
  refine T.loop (fun q => ∃ Y M D : Int, 2000 ≤ Y ∧ 1 ≤ M ∧ M ≤ 12 ∧ 0 ≤ D ∧ D + Cal.cumY (Y - 2000).toNat + Cal.cumM Y (M - 1).toNat = n / 24 ∧ q = (n, D, Y, M, 0, 0, 0, ())) (fun q => q.2.1.toNat) ⟨2000, 1, n / 24, by omega, by omega, by omega, by omega, by show n / 24 + 0 + 0 = _; omega, rfl⟩ ?_
  rintro _ ⟨Y, M, D, y0, m0, m1, d0, he, rfl⟩
  dsimp only
  have hm := Cal.cumM_bd Y (M - 1).toNat (by omega)
  have hcy := Cal.cumY_eq (Y - 2000).toNat
  have y1 : Y ≤ 2099 := by
    rcases Int.lt_or_le 2099 Y with q | q
    · exfalso; omega
    · exact q
  have hl := Cal.len_bd Y M m0 m1
  refine T.callE (len_r Y M ⟨y0, y1⟩ ⟨m0, m1⟩) ?_
  refine T.cnd (fun hc1 => ?_) (fun hc1 => ?_) <;> simp only [iLe_T, iLe_F] at hc1
  · refine T.callE (len_r Y M ⟨y0, y1⟩ ⟨m0, m1⟩) ?_
    dsimp only
    rw [iAdd64 (by omega) (by omega), iSub64 (by omega) (by omega), iAdd64 (by omega) (by omega)]
    refine T.cnd (fun hc2 => ?_) (fun hc2 => ?_) <;> simp only [iLt_T, iLt_F] at hc2
    · obtain rfl : M = 12 := by omega
      refine T.go ⟨Y + 1, 1, D - Cal.len Y 12, by omega, by omega, by omega, by omega, ?_, rfl⟩ (by dsimp only; omega)
      have e1 : (Y + 1 - 2000).toNat = (Y - 2000).toNat + 1 := by omega
      have e2 : Cal.cumY ((Y - 2000).toNat + 1) = Cal.cumY (Y - 2000).toNat + Cal.yl Y := by rw [Cal.cumY]; congr 2; omega
      have e3 : Cal.cumM Y 12 = Cal.cumM Y 11 + Cal.len Y 12 := by rw [show (12 : Nat) = 11 + 1 from rfl, Cal.cumM]; rfl
      have e4 : ((12 : Int) - 1).toNat = 11 := rfl
      have e5 : Cal.cumM (Y + 1) ((1 : Int) - 1).toNat = 0 := rfl
      rw [Cal.cumM_12] at e3
      rw [e1, e2, e5]
      rw [e4] at he
      omega
    · refine T.go ⟨Y, M + 1, D - Cal.len Y M, by omega, by omega, by omega, by omega, ?_, rfl⟩ (by dsimp only; omega)
      have e1 : (M + 1 - 1).toNat = (M - 1).toNat + 1 := by omega
      have e2 : Cal.cumM Y ((M - 1).toNat + 1) = Cal.cumM Y (M - 1).toNat + Cal.len Y M := by rw [Cal.cumM]; congr 2; omega
      rw [e1, e2]; omega
  · refine T.mapL ?_
    refine T.grd rfl (T.ret ?_)
    have hc2 : Cal.IsCiv n Y M (D + 1) := ⟨y0, y1, m0, m1, by omega, by omega, by omega⟩
    obtain ⟨rfl, rfl, rfl⟩ := hc.unique hc2
    rw [iAdd64 (by omega) (by omega), rem_pos h0]
end Abs
end Go.Proofs.YtamgbanmnededaaDoor
