/- Merged: L7 L8 L9 L10. -/
import Derived.Test.YtamgbanmnededaaDoorLA
/- Lexer: numbers and hours, written and read back. -/
namespace Go.Proofs.YtamgbanmnededaaDoor
namespace Abs
set_option linter.unusedVariables false
set_option linter.unusedSimpArgs false
def val (ds : List Int) : Int := ds.foldl (fun a c => a * 10 + (c - 48)) 0
def AllD (ds : List Int) : Prop := ∀ x ∈ ds, isDig x = true
theorem dig_bd {c : Int} (h : isDig c = true) : 48 ≤ c ∧ c ≤ 57 := of_decide_eq_true h
theorem p10 (n : Nat) : (1 : Int) ≤ 10 ^ n := Int.pow_pos (by decide)
theorem fold_val (ds : List Int) : ∀ a : Int, ds.foldl (fun a c => a * 10 + (c - 48)) a = a * 10 ^ ds.length + val ds := by
  unfold val
  induction ds with
  | nil => intro a; simp
  | cons c ds ih =>
    intro a
    rw [List.foldl_cons, ih, List.foldl_cons, ih (0 * 10 + (c - 48)), List.length_cons, Int.pow_succ, Int.zero_mul, Int.zero_add, Int.add_mul, Int.add_assoc, Int.mul_assoc, Int.mul_comm 10]
theorem val_cons (c : Int) (ds : List Int) : val (c :: ds) = (c - 48) * 10 ^ ds.length + val ds := by
  unfold val; rw [List.foldl_cons, fold_val]; unfold val; rw [Int.zero_mul, Int.zero_add]
theorem val_snoc (ds : List Int) (c : Int) : val (ds ++ [c]) = val ds * 10 + (c - 48) := by
  unfold val; rw [List.foldl_append]; rfl
theorem val_bd : ∀ ds : List Int, AllD ds → 0 ≤ val ds ∧ val ds < 10 ^ ds.length := by
  intro ds
  induction ds with
  | nil => intro _; exact ⟨by decide, by decide⟩
  | cons c ds ih =>
    intro h
    have h1 := ih fun x hx => h x (by simp [hx])
    have h2 := dig_bd (h c (by simp))
    have hp := p10 ds.length
    rw [val_cons, List.length_cons, Int.pow_succ]
    generalize (10 : Int) ^ ds.length = p at *
    have a1 : 0 ≤ (c - 48) * p := Int.mul_nonneg (by omega) (by omega)
    have a2 : (c - 48) * p ≤ 9 * p := Int.mul_le_mul_of_nonneg_right (by omega) (by omega)
    omega
theorem numL_val : ∀ (ds : List Int) (a : Int), AllD ds → 0 ≤ a → a * 10 ^ ds.length + val ds ≤ 17592186044416 → numL ds a = some (a * 10 ^ ds.length + val ds) := by
  intro ds
  induction ds with
  | nil => intro a _ _ _; simp [numL, val]
  | cons c ds ih =>
    intro a hd ha hl
    have hd' : AllD ds := fun x hx => hd x (by simp [hx])
    have h2 := dig_bd (hd c (by simp))
    have e : a * 10 ^ (c :: ds).length + val (c :: ds) = (a * 10 + (c - 48)) * 10 ^ ds.length + val ds := by
      rw [val_cons, List.length_cons, Int.pow_succ, Int.add_mul, Int.mul_assoc a 10, Int.mul_comm 10, Int.add_assoc]
    rw [e] at hl ⊢
    have hv := val_bd ds hd'
    have hp := p10 ds.length
    have hx : (a * 10 + (c - 48)) * 1 ≤ (a * 10 + (c - 48)) * 10 ^ ds.length := Int.mul_le_mul_of_nonneg_left hp (by omega)
    rw [numL, if_neg (by omega)]
    exact ih _ hd' (by omega) hl
theorem bl_cons {c : Int} (h : 0 ≤ c ∧ c ≤ 255) (s : ByteArray) : bytesI (sCat (bsI [c]) s) = c :: bytesI s := by
  rw [bl_cat, bl_bsI (fun x hx => by rw [List.mem_singleton.1 hx]; exact h)]; rfl
theorem digits_T (n k : Int) (h : 0 ≤ n) (hn : n ≤ 100000000000000000) (hk : 1 ≤ k ∧ k ≤ 4) : T (m54 n k) (fun y => ∃ ds, bytesI y.1 = ds ∧ AllD ds ∧ val ds = n ∧ k ≤ (ds.length : Int) ∧ (∀ j : Nat, k ≤ (j : Int) → n < 10 ^ j → ds.length ≤ j) ∧ (k < (ds.length : Int) → 49 ≤ ds.getD 0 0)) := by
  unfold m54
  refine T.loop (fun q => ∃ (x : Int) (s : ByteArray), 0 ≤ x ∧ AllD (bytesI s) ∧ x * 10 ^ (bytesI s).length + val (bytesI s) = n ∧ (∀ j : Nat, k ≤ (j : Int) → n < 10 ^ j → (bytesI s).length ≤ j) ∧ (k < ((bytesI s).length : Int) → 0 < x ∨ 49 ≤ (bytesI s).getD 0 0) ∧ q = (x, k, s, ())) (fun q => q.1.toNat + (k - (q.2.2.1.size : Int)).toNat) ⟨n, bs [], h, fun x hx => (by cases hx), by show n * 1 + 0 = n; omega, fun j _ _ => Nat.zero_le _, fun q => by exfalso; have : ((bytesI (bs [])).length : Int) = 0 := rfl; omega, rfl⟩ ?_
  rintro _ ⟨x, s, x0, hd, hv, hj, hh, rfl⟩
  dsimp only
  have hsz := bl_len s
  have vb := val_bd _ hd
  have hp := p10 (bytesI s).length
  have hx1 : x * 1 ≤ x * 10 ^ (bytesI s).length := Int.mul_le_mul_of_nonneg_left hp x0
  refine T.cnd (fun hc => ?_) (fun hc => ?_) <;> simp only [corT_T, corT_F, iLt_T, iLt_F, sLen_eq] at hc
  · refine T.grd rfl ?_
    have e : IntKind.wrap .u8 (iAdd .i64 48 (iRem x 10)) = 48 + x % 10 := by rw [rem_pos x0, iAdd64 (by omega) (by omega), wrap8 (by omega) (by omega)]
    have e2 : iQuo .i64 x 10 = x / 10 := by unfold iQuo; rw [Int.tdiv_eq_ediv_of_nonneg x0, wrap64 (by omega) (by omega)]
    rw [e, e2]
    have hs1 : (bsI [48 + x % 10]).size = 1 := rfl
    have hl19 : (bytesI s).length ≤ 19 := hj 19 (by omega) (by rw [show (10 : Int) ^ 19 = 10000000000000000000 from rfl]; omega)
    refine T.grd (sFits_t (by omega)) ?_
    refine T.grd rfl ?_
    have hb := bl_cons (c := 48 + x % 10) (by omega) s
    have hdig : isDig (48 + x % 10) = true := by unfold isDig; rw [decide_eq_true_eq]; omega
    refine T.go ⟨x / 10, _, by omega, ?_, ?_, ?_, ?_, rfl⟩ (by dsimp only; rw [cat_size]; omega)
    · rw [hb]; intro y hy; rcases List.mem_cons.1 hy with rfl | hy
      · exact hdig
      · exact hd y hy
    · rw [hb, List.length_cons, val_cons, Int.pow_succ]
      generalize (10 : Int) ^ (bytesI s).length = p at *
      rw [show (48 + x % 10 - 48 : Int) = x % 10 by omega, Int.mul_comm p 10, ← Int.mul_assoc, ← Int.add_assoc, ← Int.add_mul, show x / 10 * 10 + x % 10 = x by omega]
      exact hv
    · intro j h1 h2
      rw [hb, List.length_cons]
      rcases Int.lt_or_le 0 x with q | q
      · have hx2 : 1 * 10 ^ (bytesI s).length ≤ x * 10 ^ (bytesI s).length := Int.mul_le_mul_of_nonneg_right (by omega) (by omega)
        have : ¬ j ≤ (bytesI s).length := fun hle => by
          have : (10 : Int) ^ j ≤ 10 ^ (bytesI s).length := by
            obtain ⟨t, ht⟩ : ∃ t, (bytesI s).length = j + t := ⟨_, (Nat.add_sub_cancel' hle).symm⟩
            rw [ht, Int.pow_add]
            have := Int.mul_le_mul_of_nonneg_left (p10 t) (show (0 : Int) ≤ 10 ^ j by have := p10 j; omega)
            omega
          omega
        omega
      · omega
    · intro q
      rw [hb, List.length_cons] at q
      rw [hb]
      show 0 < x / 10 ∨ 49 ≤ 48 + x % 10
      omega
  · refine T.out ⟨bytesI s, rfl, hd, ?_, by omega, hj, fun q => ?_⟩
    · obtain rfl : x = 0 := by omega
      omega
    · rcases hh q with q | q
      · omega
      · exact q
theorem digits_fix (n : Int) (k : Nat) (h : 0 ≤ n) (hn : n < 10 ^ k) (hk : 1 ≤ k ∧ k ≤ 4) : T (m54 n (k : Int)) (fun y => ∃ ds, bytesI y.1 = ds ∧ AllD ds ∧ val ds = n ∧ ds.length = k) := by
  have : (10 : Int) ^ k ≤ 10000 := by
    have : k = 1 ∨ k = 2 ∨ k = 3 ∨ k = 4 := by omega
    rcases this with rfl | rfl | rfl | rfl <;> decide
  refine (digits_T n k h (by omega) (by omega)).mono ?_
  rintro v ⟨ds, h1, h2, h3, h4, h5, h6⟩
  exact ⟨ds, h1, h2, h3, by have := h5 k (by omega) hn; omega⟩
theorem sub_m (s : ByteArray) (hd : AllD (bytesI s)) (hs : s.size ≤ 4) : m57 s = some (val (bytesI s), ()) := by
  refine T.eq ?_
  unfold m57
  have hsz := bl_len s
  refine T.along (s.size) (fun i : Nat => (s, val ((bytesI s).take i), sLen s, (i : Int), ())) (fun i hi => ?_) ?_
  · dsimp only
    refine T.ct (by rw [iLt_T, sLen_eq]; omega) ?_
    refine T.grd (by rw [bnd_T, sLen_eq]; omega) ?_
    refine T.go ?_ (by omega)
    have hlt : i < (bytesI s).length := by omega
    have e0 : sAt s (i : Int) = (bytesI s)[i] := (bl_get s i hlt).symm
    have b0 := dig_bd (hd _ (List.getElem_mem hlt))
    rw [← e0] at b0
    have e1 : (bytesI s).take (i + 1) = (bytesI s).take i ++ [sAt s (i : Int)] := by rw [e0, List.take_succ_eq_append_getElem hlt]
    have vb := val_bd ((bytesI s).take i) (fun x hx => hd x (List.mem_of_mem_take hx))
    have hle : (10 : Int) ^ ((bytesI s).take i).length ≤ 1000 := by
      rw [List.length_take, Nat.min_eq_left (by omega)]
      have : i = 0 ∨ i = 1 ∨ i = 2 ∨ i = 3 := by omega
      rcases this with rfl | rfl | rfl | rfl <;> decide
    rw [e1, val_snoc]
    have e2 : iSub .u8 (sAt s (i : Int)) 48 = sAt s (i : Int) - 48 := by unfold iSub; rw [wrap8 (by omega) (by omega)]
    rw [e2, wrap64 (by omega) (by omega), iMul64 (by omega) (by omega), iAdd64 (by omega) (by omega), iAdd64 (by omega) (by omega)]
    rfl
  · dsimp only
    refine T.cf (by rw [iLt_F, sLen_eq]; omega) ?_
    refine T.out ?_
    rw [List.take_of_length_le (by omega)]
theorem fit_dig {c : Int} (h : isDig c = true) (i : Nat) (h4 : i ≠ 4) (h7 : i ≠ 7) (h10 : i ≠ 10) : m56 c (i : Int) = some (true, ()) := by
  have := dig_bd h
  refine T.eq ?_
  unfold m56
  refine T.cf (by rw [iEq_F]; omega) (T.cf (by rw [iEq_F]; omega) (T.cf (by rw [iEq_F]; omega) (T.ret ?_)))
  congr 1
  rw [candF_T, iLe_T, iLe_T]; exact this
theorem parse_loop (s : ByteArray) (Q : Int × Int × Unit → Prop) (hs : s.size = 10 ∨ s.size = 13) (hf : ∀ i : Nat, i < s.size → m56 (sAt s (i : Int)) (i : Int) = some (true, ())) (y m dd h : Int) (e1 : m57 (cutS 0 4 s) = some (y, ())) (e2 : m57 (cutS 5 7 s) = some (m, ())) (e3 : m57 (cutS 8 10 s) = some (dd, ())) (e4 : if s.size = 13 then m57 (cutS 11 ((s.size : Nat) : Int) s) = some (h, ()) else h = 0) (e5 : T (m58 (y, m, dd, ()) h) Q) : T (m49 s) Q := by
  unfold m49
  have hsz := sLen_eq s
  refine T.cf (by rw [candF_F, iNe_F, iNe_F]; omega) ?_
  refine T.along s.size (fun i : Nat => (s, sLen s, (i : Int), ())) (fun i hi => ?_) ?_
  · dsimp only
    refine T.ct (by rw [iLt_T]; omega) ?_
    refine T.grd (by rw [bnd_T]; omega) ?_
    refine T.callE (hf i hi) ?_
    refine T.cf rfl (T.go ?_ (by omega))
    rw [iAdd64 (by omega) (by omega)]; rfl
  · dsimp only
    refine T.cf (by rw [iLt_F]; omega) ?_
    refine T.mapL ?_
    obtain ⟨v, hv, hq⟩ := e5
    refine T.cnd (fun hc => ?_) (fun hc => ?_) <;> simp only [iEq_T, iEq_F] at hc
    · rw [if_pos (by omega)] at e4
      refine T.grd (by rw [cutOk_T]; omega) (T.callE e4 ?_)
      refine T.grd (by rw [cutOk_T]; omega) (T.callE e1 ?_)
      refine T.grd (by rw [cutOk_T]; omega) (T.callE e2 ?_)
      refine T.grd (by rw [cutOk_T]; omega) (T.callE e3 ?_)
      exact T.callE hv (T.ret hq)
    · rw [if_neg (by omega)] at e4
      subst e4
      refine T.grd (by rw [cutOk_T]; omega) (T.callE e1 ?_)
      refine T.grd (by rw [cutOk_T]; omega) (T.callE e2 ?_)
      refine T.grd (by rw [cutOk_T]; omega) (T.callE e3 ?_)
      exact T.callE hv (T.ret hq)
end Abs
end Go.Proofs.YtamgbanmnededaaDoor

/- Lexer: tokens written and read back. -/
namespace Go.Proofs.YtamgbanmnededaaDoor
namespace Abs
set_option linter.unusedVariables false
set_option linter.unusedSimpArgs false
theorem len4 {l : List Int} (h : l.length = 4) : ∃ a b c d, l = [a, b, c, d] := by
  match l, h with
  | [a, b, c, d], _ => exact ⟨a, b, c, d, rfl⟩
theorem len2 {l : List Int} (h : l.length = 2) : ∃ a b, l = [a, b] := by
  match l, h with
  | [a, b], _ => exact ⟨a, b, rfl⟩
theorem fit_list {s : ByteArray} {l : List Int} (hb : bytesI s = l) (hf : ∀ i : Nat, i < l.length → m56 (l.getD i 0) (i : Int) = some (true, ())) : ∀ i : Nat, i < s.size → m56 (sAt s (i : Int)) (i : Int) = some (true, ()) := by
  intro i hi
  rw [bl_at, hb]
  exact hf i (by rw [← hb, bl_len]; exact hi)
/-- A day, read back. -/
theorem parse10 {s : ByteArray} {y m d : List Int} (hy : AllD y) (hm : AllD m) (hd : AllD d) (ly : y.length = 4) (lm : m.length = 2) (ld : d.length = 2) (hb : bytesI s = y ++ [45] ++ m ++ [45] ++ d) {v : Int} (e5 : m58 (val y, val m, val d, ()) 0 = some (v, 0, ())) : m49 s = some (v, 0, ()) := by
  refine T.eq ?_
  have c1 := bl_cut 0 4 s
  have c2 := bl_cut 5 7 s
  have c3 := bl_cut 8 10 s
  have z1 := bl_len (cutS ((0 : Nat) : Int) ((4 : Nat) : Int) s)
  have z2 := bl_len (cutS ((5 : Nat) : Int) ((7 : Nat) : Int) s)
  have z3 := bl_len (cutS ((8 : Nat) : Int) ((10 : Nat) : Int) s)
  obtain ⟨a1, a2, a3, a4, rfl⟩ := len4 ly
  obtain ⟨b1, b2, rfl⟩ := len2 lm
  obtain ⟨d1, d2, rfl⟩ := len2 ld
  have hs : s.size = 10 := bl_sz hb
  rw [hb] at c1 c2 c3
  have c1 : bytesI (cutS ((0 : Nat) : Int) ((4 : Nat) : Int) s) = [a1, a2, a3, a4] := c1
  have c2 : bytesI (cutS ((5 : Nat) : Int) ((7 : Nat) : Int) s) = [b1, b2] := c2
  have c3 : bytesI (cutS ((8 : Nat) : Int) ((10 : Nat) : Int) s) = [d1, d2] := c3
  rw [c1] at z1; rw [c2] at z2; rw [c3] at z3
  simp only [AllD, List.mem_cons, List.not_mem_nil, or_false, forall_eq_or_imp, forall_eq] at hy hm hd
  refine parse_loop s _ (.inl hs) (fit_list hb ?_) (val [a1, a2, a3, a4]) (val [b1, b2]) (val [d1, d2]) 0 ?_ ?_ ?_ (by rw [if_neg (by omega)]) ⟨_, e5, rfl⟩
  · intro i hi
    have hi : i < 10 := hi
    match i, hi with
    | 0, _ => exact fit_dig hy.1 0 (by decide) (by decide) (by decide)
    | 1, _ => exact fit_dig hy.2.1 1 (by decide) (by decide) (by decide)
    | 2, _ => exact fit_dig hy.2.2.1 2 (by decide) (by decide) (by decide)
    | 3, _ => exact fit_dig hy.2.2.2 3 (by decide) (by decide) (by decide)
    | 4, _ => rfl
    | 5, _ => exact fit_dig hm.1 5 (by decide) (by decide) (by decide)
    | 6, _ => exact fit_dig hm.2 6 (by decide) (by decide) (by decide)
    | 7, _ => rfl
    | 8, _ => exact fit_dig hd.1 8 (by decide) (by decide) (by decide)
    | 9, _ => exact fit_dig hd.2 9 (by decide) (by decide) (by decide)
  · have := sub_m (cutS ((0 : Nat) : Int) ((4 : Nat) : Int) s) (by rw [c1]; simpa [AllD] using hy) (by have : (4 : Nat) = _ := z1; omega)
    rw [c1] at this; exact this
  · have := sub_m (cutS ((5 : Nat) : Int) ((7 : Nat) : Int) s) (by rw [c2]; simpa [AllD] using hm) (by have : (2 : Nat) = _ := z2; omega)
    rw [c2] at this; exact this
  · have := sub_m (cutS ((8 : Nat) : Int) ((10 : Nat) : Int) s) (by rw [c3]; simpa [AllD] using hd) (by have : (2 : Nat) = _ := z3; omega)
    rw [c3] at this; exact this
/-- A day and its hour, read back. -/
theorem parse13 {s : ByteArray} {y m d h : List Int} (hy : AllD y) (hm : AllD m) (hd : AllD d) (hh : AllD h) (ly : y.length = 4) (lm : m.length = 2) (ld : d.length = 2) (lh : h.length = 2) (hb : bytesI s = y ++ [45] ++ m ++ [45] ++ d ++ [84] ++ h) {v : Int} (e5 : m58 (val y, val m, val d, ()) (val h) = some (v, 0, ())) : m49 s = some (v, 0, ()) := by
  refine T.eq ?_
  have c1 := bl_cut 0 4 s
  have c2 := bl_cut 5 7 s
  have c3 := bl_cut 8 10 s
  have c4 := bl_cut 11 13 s
  have z1 := bl_len (cutS ((0 : Nat) : Int) ((4 : Nat) : Int) s)
  have z2 := bl_len (cutS ((5 : Nat) : Int) ((7 : Nat) : Int) s)
  have z3 := bl_len (cutS ((8 : Nat) : Int) ((10 : Nat) : Int) s)
  have z4 := bl_len (cutS ((11 : Nat) : Int) ((13 : Nat) : Int) s)
  obtain ⟨a1, a2, a3, a4, rfl⟩ := len4 ly
  obtain ⟨b1, b2, rfl⟩ := len2 lm
  obtain ⟨d1, d2, rfl⟩ := len2 ld
  obtain ⟨h1, h2, rfl⟩ := len2 lh
  have hs : s.size = 13 := bl_sz hb
  rw [hb] at c1 c2 c3 c4
  have c1 : bytesI (cutS ((0 : Nat) : Int) ((4 : Nat) : Int) s) = [a1, a2, a3, a4] := c1
  have c2 : bytesI (cutS ((5 : Nat) : Int) ((7 : Nat) : Int) s) = [b1, b2] := c2
  have c3 : bytesI (cutS ((8 : Nat) : Int) ((10 : Nat) : Int) s) = [d1, d2] := c3
  have c4 : bytesI (cutS ((11 : Nat) : Int) ((13 : Nat) : Int) s) = [h1, h2] := c4
  rw [c1] at z1; rw [c2] at z2; rw [c3] at z3; rw [c4] at z4
  simp only [AllD, List.mem_cons, List.not_mem_nil, or_false, forall_eq_or_imp, forall_eq] at hy hm hd hh
  refine parse_loop s _ (.inr hs) (fit_list hb ?_) (val [a1, a2, a3, a4]) (val [b1, b2]) (val [d1, d2]) (val [h1, h2]) ?_ ?_ ?_ ?_ ⟨_, e5, rfl⟩
  · intro i hi
    have hi : i < 13 := hi
    match i, hi with
    | 0, _ => exact fit_dig hy.1 0 (by decide) (by decide) (by decide)
    | 1, _ => exact fit_dig hy.2.1 1 (by decide) (by decide) (by decide)
    | 2, _ => exact fit_dig hy.2.2.1 2 (by decide) (by decide) (by decide)
    | 3, _ => exact fit_dig hy.2.2.2 3 (by decide) (by decide) (by decide)
    | 4, _ => rfl
    | 5, _ => exact fit_dig hm.1 5 (by decide) (by decide) (by decide)
    | 6, _ => exact fit_dig hm.2 6 (by decide) (by decide) (by decide)
    | 7, _ => rfl
    | 8, _ => exact fit_dig hd.1 8 (by decide) (by decide) (by decide)
    | 9, _ => exact fit_dig hd.2 9 (by decide) (by decide) (by decide)
    | 10, _ => rfl
    | 11, _ => exact fit_dig hh.1 11 (by decide) (by decide) (by decide)
    | 12, _ => exact fit_dig hh.2 12 (by decide) (by decide) (by decide)
  · have := sub_m (cutS ((0 : Nat) : Int) ((4 : Nat) : Int) s) (by rw [c1]; simpa [AllD] using hy) (by have : (4 : Nat) = _ := z1; omega)
    rw [c1] at this; exact this
  · have := sub_m (cutS ((5 : Nat) : Int) ((7 : Nat) : Int) s) (by rw [c2]; simpa [AllD] using hm) (by have : (2 : Nat) = _ := z2; omega)
    rw [c2] at this; exact this
  · have := sub_m (cutS ((8 : Nat) : Int) ((10 : Nat) : Int) s) (by rw [c3]; simpa [AllD] using hd) (by have : (2 : Nat) = _ := z3; omega)
    rw [c3] at this; exact this
  · rw [if_pos hs, hs]
    have := sub_m (cutS ((11 : Nat) : Int) ((13 : Nat) : Int) s) (by rw [c4]; simpa [AllD] using hh) (by have : (2 : Nat) = _ := z4; omega)
    rw [c4] at this; exact this
def AllH (l : List Int) : Prop := ∀ x ∈ l, isHr x = true
theorem dig_hr {c : Int} (h : isDig c = true) : isHr c = true := by unfold isHr; rw [h]; rfl
/-- An hour, written: what stands there reads back. -/
theorem fmt_T (n : Int) (h0 : 0 ≤ n) (h1 : n ≤ 876599) : T (m44 n) (fun y => y.2.1 = 0 ∧ m49 y.1 = some (n, 0, ()) ∧ AllH (bytesI y.1) ∧ y.1.size ≤ 13) := by
  obtain ⟨y, m, d, hc⟩ := Cal.civ_ex n h0 h1
  have hl := Cal.len_bd y m hc.2.2.1 hc.2.2.2.1
  obtain ⟨hc1, hc2, hc3, hc4, hc5, hc6, _⟩ := id hc
  have hh := hour_m (y := y) (m := m) (d := d) (h := n % 24) ⟨hc1, hc2, hc3, hc4, hc5, hc6, by omega, by omega⟩
  obtain ⟨v1, v2⟩ := Cal.hv_of_civ h0 hc
  rw [v1, v2] at hh
  unfold m44
  refine T.callE (civil_r h0 h1 hc) ?_
  refine T.cf rfl ?_
  dsimp only
  have p4 : (10 : Int) ^ 4 = 10000 := rfl
  have p2 : (10 : Int) ^ 2 = 100 := rfl
  refine T.call (digits_fix y 4 (by omega) (by omega) (by omega)) ?_
  rintro ⟨A, _⟩ ⟨_, rfl, A1, A2, A3⟩
  dsimp only at A1 A2 A3 ⊢
  have sa : A.size = 4 := by rw [← bl_len]; exact A3
  have s45 : (bs [45]).size = 1 := rfl
  have s84 : (bs [84]).size = 1 := rfl
  refine T.grd (sFits_t (by omega)) ?_
  refine T.call (digits_fix m 2 (by omega) (by omega) (by omega)) ?_
  rintro ⟨B, _⟩ ⟨_, rfl, B1, B2, B3⟩
  dsimp only at B1 B2 B3 ⊢
  have sb : B.size = 2 := by rw [← bl_len]; exact B3
  refine T.grd (sFits_t (by simp only [cat_size]; omega)) ?_
  refine T.grd (sFits_t (by simp only [cat_size]; omega)) ?_
  refine T.call (digits_fix d 2 (by omega) (by omega) (by omega)) ?_
  rintro ⟨C, _⟩ ⟨_, rfl, C1, C2, C3⟩
  dsimp only at C1 C2 C3 ⊢
  have sc : C.size = 2 := by rw [← bl_len]; exact C3
  refine T.grd (sFits_t (by simp only [cat_size]; omega)) ?_
  have hb0 : bytesI (sCat (sCat (sCat (sCat A (bs [45])) B) (bs [45])) C) = bytesI A ++ [45] ++ bytesI B ++ [45] ++ bytesI C := by simp only [bl_cat]; rfl
  refine T.cnd (fun hc => ?_) (fun hc => ?_) <;> simp only [iLt_T, iLt_F] at hc
  · refine T.grd (sFits_t (by simp only [cat_size]; omega)) ?_
    refine T.call (digits_fix (n % 24) 2 (by omega) (by omega) (by omega)) ?_
    rintro ⟨E, _⟩ ⟨_, rfl, E1, E2, E3⟩
    dsimp only at E1 E2 E3 ⊢
    have se : E.size = 2 := by rw [← bl_len]; exact E3
    refine T.grd (sFits_t (by simp only [cat_size]; omega)) ?_
    have hb : bytesI (sCat (sCat (sCat (sCat (sCat (sCat A (bs [45])) B) (bs [45])) C) (bs [84])) E) = bytesI A ++ [45] ++ bytesI B ++ [45] ++ bytesI C ++ [84] ++ bytesI E := by rw [bl_cat, bl_cat, hb0]; rfl
    refine T.ret ⟨rfl, ?_, ?_, by dsimp only; simp only [cat_size]; omega⟩
    · refine parse13 A1 B1 C1 E1 A3 B3 C3 E3 hb ?_
      rw [A2, B2, C2, E2]; exact hh
    · dsimp only; rw [hb]
      intro x hx
      simp only [List.mem_append, List.mem_singleton] at hx
      rcases hx with (((((hx | hx) | hx) | hx) | hx) | hx) | hx
      · exact dig_hr (A1 x hx)
      · rw [hx]; rfl
      · exact dig_hr (B1 x hx)
      · rw [hx]; rfl
      · exact dig_hr (C1 x hx)
      · rw [hx]; rfl
      · exact dig_hr (E1 x hx)
  · have hz : n % 24 = 0 := by omega
    rw [hz] at hh
    refine T.ret ⟨rfl, ?_, ?_, by dsimp only; simp only [cat_size]; omega⟩
    · refine parse10 A1 B1 C1 A3 B3 C3 hb0 ?_
      rw [A2, B2, C2]; exact hh
    · dsimp only; rw [hb0]
      intro x hx
      simp only [List.mem_append, List.mem_singleton] at hx
      rcases hx with (((hx | hx) | hx) | hx) | hx
      · exact dig_hr (A1 x hx)
      · rw [hx]; rfl
      · exact dig_hr (B1 x hx)
      · rw [hx]; rfl
      · exact dig_hr (C1 x hx)
/-- A number, written: what stands there reads back. -/
theorem dec_T (n : Int) (h0 : -17592186044416 ≤ n) (h1 : n ≤ 17592186044416) : T (m43 n) (fun y => ∃ c l, bytesI y.1 = c :: l ∧ (isDig c = true ∨ c = 45) ∧ AllD l ∧ numberL (c :: l) = (n, 0) ∧ l.length ≤ 15) := by
  have key : ∀ x : Int, 0 ≤ x → x ≤ 17592186044416 → T (m54 x 1) (fun y => ∃ c l, bytesI y.1 = c :: l ∧ AllD (c :: l) ∧ val (c :: l) = x ∧ (0 < l.length → 49 ≤ c) ∧ l.length ≤ 13) := by
    intro x hx0 hx1
    refine (digits_T x 1 hx0 (by omega) (by omega)).mono ?_
    rintro v ⟨ds, e1, e2, e3, e4, e5, e6⟩
    match ds, e4 with
    | c :: l, _ =>
      refine ⟨c, l, e1, e2, e3, fun q => e6 (by rw [List.length_cons]; omega), ?_⟩
      have := e5 14 (by omega) (by rw [show (10 : Int) ^ 14 = 100000000000000 from rfl]; omega)
      rw [List.length_cons] at this; omega
  have nl : ∀ (c : Int) (l : List Int) (x : Int), AllD (c :: l) → val (c :: l) = x → x ≤ 17592186044416 → numL (c :: l) 0 = some x := by
    intro c l x a b e
    have := numL_val (c :: l) 0 a (by omega) (by rw [Int.zero_mul]; omega)
    rw [this, Int.zero_mul, Int.zero_add, b]
  unfold m43
  refine T.cnd (fun hc => ?_) (fun hc => ?_) <;> simp only [iLt_T, iLt_F] at hc
  · have e : iNeg .i64 n = -n := by unfold iNeg; rw [wrap64 (by omega) (by omega)]; omega
    rw [e]
    refine T.call (key (-n) (by omega) (by omega)) ?_
    rintro ⟨A, _⟩ ⟨c, l, e1, e2, e3, e4, e5⟩
    dsimp only at e1 ⊢
    have sa : A.size = l.length + 1 := by rw [← bl_len, e1, List.length_cons]
    have hcd := dig_bd (e2 c (by simp))
    refine T.grd (sFits_t (by have : (bs [45]).size = 1 := rfl; omega)) (T.ret ⟨45, c :: l, ?_, .inr rfl, e2, ?_, by rw [List.length_cons]; omega⟩)
    · dsimp only; rw [bl_cat, e1]; rfl
    · have hn := nl c l (-n) e2 e3 (by omega)
      have g0 : ((45 : Int) :: c :: l).getD 0 0 = 45 := rfl
      have g1 : ((45 : Int) :: c :: l).drop 1 = c :: l := rfl
      have g2 : (c :: l).getD 0 0 = c := rfl
      have c49 : 49 ≤ c := by
        by_cases q : 0 < l.length
        · exact e4 q
        · have : l = [] := List.length_eq_zero_iff.1 (by omega)
          subst this
          rw [val_cons] at e3
          have : val [] = 0 := rfl
          have : (10 : Int) ^ ([] : List Int).length = 1 := rfl
          simp only [this] at e3
          omega
      unfold numberL
      dsimp only
      rw [g0, if_pos rfl, g1, if_neg (by simp), g2, if_neg (by omega), hn]
      simp
  · refine T.call (key n (by omega) (by omega)) ?_
    rintro ⟨A, _⟩ ⟨c, l, e1, e2, e3, e4, e5⟩
    dsimp only at e1 ⊢
    have hcd := dig_bd (e2 c (by simp))
    refine T.ret ⟨c, l, e1, .inl (e2 c (by simp)), fun x hx => e2 x (by simp [hx]), ?_, by omega⟩
    have hn := nl c l n e2 e3 (by omega)
    have g0 : (c :: l).getD 0 0 = c := rfl
    unfold numberL
    dsimp only
    have hif : (if c = 45 then (c :: l).drop 1 else c :: l) = c :: l := if_neg (by omega)
    rw [g0, hif, if_neg (by simp), g0, if_neg (by rw [List.length_cons]; rintro ⟨q1, q2 | q2⟩; omega; have := e4 (by omega); omega), hn]
    dsimp only
    rw [if_neg (by omega)]
end Abs
end Go.Proofs.YtamgbanmnededaaDoor

/- Lexer: written tokens, scanned. -/
namespace Go.Proofs.YtamgbanmnededaaDoor
namespace Abs
set_option linter.unusedVariables false
set_option linter.unusedSimpArgs false
/-- What may follow a token's text. -/
def Stop (r : List Int) : Prop := ∀ c ∈ r.head?, isWrd c = false ∧ isHr c = false
theorem Stop.nil : Stop [] := fun c h => by cases h
theorem stop_cons {c : Int} {r : List Int} (h : isWrd c = false ∧ isHr c = false) : Stop (c :: r) := fun x hx => by cases hx; exact h
theorem tw_stop {p : Int → Bool} {r : List Int} (h : ∀ c ∈ r.head?, p c = false) : r.takeWhile p = [] := by
  cases r with
  | nil => rfl
  | cons c r => rw [List.takeWhile_cons, h c rfl]; rfl
theorem tw_app {p : Int → Bool} {l r : List Int} (h : ∀ x ∈ l, p x = true) (hr : ∀ c ∈ r.head?, p c = false) : (l ++ r).takeWhile p = l := by
  rw [List.takeWhile_append_of_pos h, tw_stop hr, List.append_nil]
theorem wrd_dig {c : Int} (h : isWrd c = false) : isDig c = false ∧ isLet c = false ∧ c ≠ 45 := by
  unfold isWrd at h
  simp only [Bool.or_eq_false_iff, decide_eq_false_iff_not] at h
  exact ⟨h.1.2, h.1.1, h.2⟩
def TokOk (t : DS0) : Prop :=
  (t.1 = 1 ∧ wordS t.2.1 = true ∧ t.2.2.1 = 0) ∨ (t.1 = 2 ∧ t.2.1 = bs [] ∧ -17592186044416 ≤ t.2.2.1 ∧ t.2.2.1 ≤ 17592186044416) ∨ (t.1 = 3 ∧ t.2.1 = bs [] ∧ 0 ≤ t.2.2.1 ∧ t.2.2.1 ≤ 876599) ∨ (t.1 = 4 ∧ t.2.2.1 = 0 ∧ ∃ c, isMark c = true ∧ t.2.1 = bsI [c])
/-- A token's text. -/
structure Wrt (t : DS0) (l : List Int) : Prop where
  len : 1 ≤ l.length ∧ l.length ≤ 20
  hd : l.getD 0 0 ≠ 32 ∧ l.getD 0 0 ≠ 10 ∧ l.getD 0 0 ≠ 35
  tok : ∀ (r : List Int) (i : Int), Stop r → tokL (l ++ r) i = ((t.1, t.2.1, t.2.2.1, i, ()), l.length, 0)
theorem let_bd {c : Int} (h : isLet c = true) : 97 ≤ c ∧ c ≤ 122 := of_decide_eq_true h
theorem word_facts {w : ByteArray} (h : wordS w = true) : 1 ≤ w.size ∧ w.size ≤ 16 ∧ isLet (sAt w 0) = true ∧ ∀ x ∈ bytesI w, isWrd x = true := by
  unfold wordS at h
  split at h
  · cases h
  · rename_i h1
    split at h
    · rename_i h2
      have h3 := of_decide_eq_true h
      refine ⟨by omega, by omega, h2.1, fun x hx => ?_⟩
      obtain ⟨j, hj, rfl⟩ := List.getElem_of_mem hx
      rw [bl_get]
      exact (spanS_all isWrd w w.size 0 (by omega)).1 h3 j (by omega) (by rw [bl_len] at hj; exact hj)
    · cases h
theorem wrt_word {t : DS0} (h1 : t.1 = 1) (h2 : wordS t.2.1 = true) (h3 : t.2.2.1 = 0) : Wrt t (bytesI t.2.1) := by
  obtain ⟨a, b, c, d⟩ := word_facts h2
  have hl := bl_len t.2.1
  have e0 : (bytesI t.2.1).getD 0 0 = sAt t.2.1 0 := (bl_at t.2.1 0).symm
  have hb := let_bd c
  refine ⟨by omega, by rw [e0]; omega, fun r i hr => ?_⟩
  have e1 : (bytesI t.2.1 ++ r).getD 0 0 = sAt t.2.1 0 := by
    rw [List.getD_eq_getElem?_getD, List.getElem?_append_left (by omega), ← List.getD_eq_getElem?_getD, e0]
  have e2 : (bytesI t.2.1 ++ r).takeWhile isWrd = bytesI t.2.1 := tw_app d fun c hc => (hr c hc).1
  unfold tokL
  dsimp only
  rw [e1, if_pos c, e2, bsI_bl, if_pos h2, h1, h3]
theorem wrt_num {t : DS0} {c : Int} {l : List Int} (h1 : t.1 = 2) (h2 : t.2.1 = bs []) (hc : isDig c = true ∨ c = 45) (hl : AllD l) (hn : numberL (c :: l) = (t.2.2.1, 0)) (hz : l.length ≤ 15) : Wrt t (c :: l) := by
  have hcb : ¬ (97 ≤ c) ∧ c ≠ 32 ∧ c ≠ 10 ∧ c ≠ 35 := by rcases hc with q | q; have := dig_bd q; omega; omega
  refine ⟨by rw [List.length_cons]; omega, ⟨hcb.2.1, hcb.2.2.1, hcb.2.2.2⟩, fun r i hr => ?_⟩
  have e1 : (c :: l ++ r).getD 0 0 = c := rfl
  have e2 : ((c :: l ++ r).drop 1).takeWhile isDig = l := by
    show (l ++ r).takeWhile isDig = l
    exact tw_app hl fun c hc => (wrd_dig (hr c hc).1).1
  unfold tokL
  dsimp only
  rw [e1, if_neg (by unfold isLet; rw [decide_eq_true_eq]; omega), if_pos hc, e2, hn, if_neg (by simp), h1, h2, List.length_cons, Nat.add_comm]
theorem wrt_hour {t : DS0} {s : ByteArray} (h1 : t.1 = 3) (h2 : t.2.1 = bs []) (hp : m49 s = some (t.2.2.1, 0, ())) (hh : AllH (bytesI s)) (hz : s.size ≤ 13) : Wrt t (64 :: bytesI s) := by
  have hl := bl_len s
  refine ⟨by rw [List.length_cons]; omega, by show (64 : Int) ≠ 32 ∧ (64 : Int) ≠ 10 ∧ (64 : Int) ≠ 35; omega, fun r i hr => ?_⟩
  have e1 : (64 :: bytesI s ++ r).getD 0 0 = 64 := rfl
  have e2 : ((64 :: bytesI s ++ r).drop 1).takeWhile isHr = bytesI s := by
    show (bytesI s ++ r).takeWhile isHr = bytesI s
    exact tw_app hh fun c hc => (hr c hc).2
  have e3 : hourS s = (t.2.2.1, 0, ()) := by unfold hourS; rw [hp]; rfl
  unfold tokL
  dsimp only
  rw [e1, if_neg (by decide), if_neg (by decide), if_pos rfl, e2, bsI_bl, e3, if_neg (by simp), h1, h2, List.length_cons, Nat.add_comm]
theorem wrt_mark {t : DS0} {c : Int} (h1 : t.1 = 4) (h2 : t.2.2.1 = 0) (hc : isMark c = true) (h3 : t.2.1 = bsI [c]) : Wrt t [c] := by
  have := mark_cases hc
  refine ⟨by rw [List.length_singleton]; omega, by show c ≠ 32 ∧ c ≠ 10 ∧ c ≠ 35; omega, fun r i _ => ?_⟩
  show tokL (c :: r) i = _
  rw [tok_mark hc, h1, h2, h3]; rfl
/-- A token, written by the document. -/
theorem written_r {t : DS0} (h : TokOk t) : T (m28 t) (fun y => y.2.1 = 0 ∧ Wrt t (bytesI y.1)) := by
  unfold m28
  rcases h with ⟨h1, h2, h3⟩ | ⟨h1, h2, h3, h4⟩ | ⟨h1, h2, h3, h4⟩ | ⟨h1, h2, c, h3, h4⟩
  · have hf := word_facts h2
    have w := wrt_word h1 h2 h3
    rw [h1, h3]
    refine T.cf rfl (T.cf rfl (T.cf rfl (T.ct rfl ?_)))
    refine T.callE (word_r _ (by omega)) ?_
    refine T.cf (by rw [h2]; rfl) (T.ret ⟨rfl, w⟩)
  · rw [h1, show sEq t.2.1 (bs []) = true by rw [sEq_T]; exact h2]
    refine T.cf rfl (T.cf rfl (T.cf rfl (T.cf rfl (T.ct rfl ?_))))
    unfold m42
    refine T.bind (T.ret (T.cf (by simp only [not_F, candF_T, iLe_T]; omega) ?_))
    refine T.call (dec_T t.2.2.1 h3 h4) ?_
    rintro v ⟨c, l, e1, e2, e3, e4, e5⟩
    refine T.ret ⟨rfl, ?_⟩
    dsimp only; rw [e1]
    exact wrt_num h1 h2 e2 e3 e4 e5
  · rw [h1, show sEq t.2.1 (bs []) = true by rw [sEq_T]; exact h2]
    refine T.cf rfl (T.cf rfl (T.cf rfl (T.cf rfl (T.cf rfl (T.ct rfl ?_)))))
    refine T.call (fmt_T t.2.2.1 h3 h4) ?_
    rintro v ⟨e1, e2, e3, e4⟩
    refine T.grd (sFits_t (by have : (bs [64]).size = 1 := rfl; omega)) (T.ret ⟨e1, ?_⟩)
    dsimp only
    rw [bl_cat]
    exact wrt_hour h1 h2 e2 e3 e4
  · rw [h1, h2, h4]
    refine T.cf rfl (T.cf rfl (T.cf rfl (T.cf rfl (T.cf rfl (T.cf rfl (T.ct rfl ?_))))))
    have hm := mark_cases h3
    have w := wrt_mark h1 h2 h3 h4
    have hb : bytesI (bsI [c]) = [c] := bl_bsI (fun x hx => by rw [List.mem_singleton.1 hx]; omega)
    have e : m45 (bsI [c]) = some (true, ()) := by
      unfold m45
      simp only [sEq_dec]
      rcases hm with rfl | rfl | rfl | rfl | rfl <;> rfl
    refine T.callE e (T.cf rfl (T.ret ⟨rfl, ?_⟩))
    dsimp only; rw [hb]; exact w
/-- Scan, with as many rounds as it needs. -/
noncomputable def scanF (i : Nat) (toks : List DS0) (r : List Int) : List DS0 × Int × Int × Unit := scanL r.length i toks r
theorem scan_fuel : ∀ (n m i : Nat) (toks : List DS0) (r : List Int), r.length ≤ n → r.length ≤ m → scanL n i toks r = scanL m i toks r := by
  intro n
  induction n with
  | zero => intro m i toks r h1 h2; obtain rfl := List.length_eq_zero_iff.1 (Nat.le_zero.1 h1); rw [scan_end, scan_end]
  | succ n ih =>
    intro m i toks r h1 h2
    cases r with
    | nil => rw [scan_end, scan_end]
    | cons c r =>
      obtain ⟨m, rfl⟩ : ∃ q, m = q + 1 := ⟨m - 1, by rw [List.length_cons] at h2; omega⟩
      rw [List.length_cons] at h1 h2
      simp only [scanL]
      by_cases c1 : c = 32 ∨ c = 10
      · rw [if_pos c1, if_pos c1]; exact ih _ _ _ _ (by omega) (by omega)
      rw [if_neg c1, if_neg c1]
      by_cases c2 : c = 35
      · rw [if_pos c2, if_pos c2]
        have : 1 ≤ ((c :: r).takeWhile isLine).length := by rw [List.takeWhile_cons, if_pos (by rw [c2]; rfl), List.length_cons]; omega
        exact ih _ _ _ _ (by rw [List.length_drop, List.length_cons]; omega) (by rw [List.length_drop, List.length_cons]; omega)
      rw [if_neg c2, if_neg c2]
      have hp := tok_pos (c :: r) (i : Int)
      generalize tokL (c :: r) (i : Int) = tk at hp
      by_cases c3 : tk.2.2 ≠ 0
      · rw [if_pos c3, if_pos c3]
      rw [if_neg c3, if_neg c3]
      have hp := (hp (by simpa using c3)).1
      split
      · rfl
      · split
        · rfl
        · exact ih _ _ _ _ (by rw [List.length_drop, List.length_cons]; omega) (by rw [List.length_drop, List.length_cons]; omega)
theorem scanF_fuel {n i : Nat} {toks : List DS0} {r : List Int} (h : r.length ≤ n) : scanL n i toks r = scanF i toks r := scan_fuel _ _ _ _ _ h (Nat.le_refl _)
theorem scanF_nil (i : Nat) (toks : List DS0) : scanF i toks [] = (toks, 0, 0, ()) := scan_end _ _ _
theorem scanF_sp {c : Int} (h : c = 32 ∨ c = 10) (i : Nat) (toks : List DS0) (r : List Int) : scanF i toks (c :: r) = scanF (i + 1) toks r := by
  unfold scanF; rw [List.length_cons, scan_sp h]
theorem scanF_hash (i : Nat) (toks : List DS0) (l r : List Int) (hl : ∀ x ∈ l, isLine x = true) (hr : ∀ c ∈ r.head?, isLine c = false) : scanF i toks (35 :: l ++ r) = scanF (i + (l.length + 1)) toks r := by
  have e : (35 :: l ++ r).takeWhile isLine = 35 :: l := tw_app (fun x hx => by rcases List.mem_cons.1 hx with rfl | hx; rfl; exact hl x hx) hr
  have e' : (35 :: (l ++ r)).takeWhile isLine = 35 :: l := e
  have e2 : (35 :: (l ++ r)).drop (35 :: l).length = r := by rw [List.length_cons, List.drop_succ_cons, List.drop_left]
  rw [List.cons_append]
  conv => lhs; unfold scanF
  rw [List.length_cons]
  simp only [scanL]
  rw [if_neg (by decide), if_pos trivial, e', e2, List.length_cons]
  exact scanF_fuel (by rw [List.length_append]; omega)
theorem scanF_tok {t : DS0} {l : List Int} (w : Wrt t l) (i : Nat) (toks : List DS0) (r : List Int) (hr : Stop r) (ht : toks.length < 4000) : scanF i toks (l ++ r) = scanF (i + l.length) (toks ++ [(t.1, t.2.1, t.2.2.1, (i : Int), ())]) r := by
  have htk := w.tok r (i : Int) hr
  have hh := w.hd
  have hn := w.len
  match l, hn with
  | c :: l, _ =>
    have hh : c ≠ 32 ∧ c ≠ 10 ∧ c ≠ 35 := hh
    rw [List.cons_append] at htk ⊢
    conv => lhs; unfold scanF
    rw [List.length_cons]
    simp only [scanL]
    have e2 : (c :: (l ++ r)).drop (c :: l).length = r := by rw [List.length_cons, List.drop_succ_cons, List.drop_left]
    rw [if_neg (by omega), if_neg hh.2.2, htk, if_neg (by simp), if_neg (by omega)]
    dsimp only
    rw [e2, if_neg]
    · exact scanF_fuel (by rw [List.length_append]; omega)
    · rintro ⟨_, q2, q3⟩
      cases r with
      | nil => exact q2 rfl
      | cons x r =>
        have := wrd_dig (hr x rfl).1
        have q3 : isLet x = true ∨ x = 45 := q3
        rcases q3 with q3 | q3
        · rw [this.2.1] at q3; cases q3
        · exact this.2.2 q3
/-- One token, joined by the document. -/
theorem join1_r {t : DS0} (h : TokOk t) : T (m17 [t]) (fun y => y.2.1 = 0 ∧ Wrt t (bytesI y.1)) := by
  unfold m17
  refine T.cf rfl ?_
  refine T.loop (fun q => q = ([t], bs [], true, 0, ()) ∨ ∃ (s : ByteArray) (b : Bool), Wrt t (bytesI s) ∧ q = ([t], s, b, 1, ())) (fun q => (1 - q.2.2.2.1).toNat) (.inl rfl) ?_
  rintro _ (rfl | ⟨s, b, w, rfl⟩)
  · dsimp only
    refine T.ct rfl (T.grd rfl ?_)
    refine T.call (written_r (t := t) h) ?_
    rintro v ⟨e1, e2⟩
    refine T.cf (by rw [iNe_F]; exact e1) ?_
    have hs : v.1.size ≤ 20 := by have := e2.len; rw [bl_len] at this; omega
    have hz : (bs []).size = 0 := rfl
    refine T.cf rfl ?_
    refine T.grd (sFits_t (by omega)) (T.go (.inr ⟨_, _, ?_, rfl⟩) (by dsimp only; decide))
    rw [bl_cat]
    exact e2
  · dsimp only
    refine T.cf rfl (T.mapL ?_)
    have hs : s.size ≤ 20 := by have := w.len; rw [bl_len] at this; omega
    refine T.cf (by rw [iLt_F, sLen_eq]; omega) (T.ret ⟨rfl, w⟩)
def strip (t : DS0) : Int × ByteArray × Int := (t.1, t.2.1, t.2.2.1)
theorem same_m (a b : List DS0) (h : a.map strip = b.map strip) (hl : a.length ≤ 4000) : m19 a b false = some (true, ()) := by
  refine T.eq ?_
  unfold m19
  have hlen : a.length = b.length := by have := congrArg List.length h; simpa using this
  refine T.cf (by rw [iNe_F, lenI_eq, lenI_eq]; omega) ?_
  refine T.along a.length (fun i : Nat => (a, b, false, (i : Int), ())) (fun i hi => ?_) ?_
  · dsimp only
    have hb : bnd (i : Int) (lenI a) = true := by rw [bnd_T, lenI_eq]; omega
    have hb2 : bnd (i : Int) (lenI b) = true := by rw [bnd_T, lenI_eq]; omega
    have hs : strip (atI a (i : Int) (0, ByteArray.empty, 0, 0, ())) = strip (atI b (i : Int) (0, ByteArray.empty, 0, 0, ())) := by
      unfold atI
      rw [Int.toNat_natCast, List.getD_eq_getElem?_getD, List.getD_eq_getElem?_getD]
      have := congrArg (fun l => l[i]?) h
      simp only [List.getElem?_map] at this
      rw [List.getElem?_eq_getElem hi, List.getElem?_eq_getElem (show i < b.length by omega)] at this ⊢
      simpa using this
    generalize atI a (i : Int) (0, ByteArray.empty, 0, 0, ()) = x at hs
    generalize atI b (i : Int) (0, ByteArray.empty, 0, 0, ()) = y at hs
    have s1 : x.1 = y.1 := congrArg (·.1) hs
    have s2 : x.2.1 = y.2.1 := congrArg (·.2.1) hs
    have s3 : x.2.2.1 = y.2.2.1 := congrArg (·.2.2) hs
    rw [s1, s2, s3, hb, hb2]
    have n1 : iNe y.1 y.1 = false := by rw [iNe_F]
    have n2 : sEq y.2.1 y.2.1 = true := by rw [sEq_T]
    have n3 : iNe y.2.2.1 y.2.2.1 = false := by rw [iNe_F]
    rw [n1, n2, n3]
    refine T.ct (by rw [iLt_T, lenI_eq]; omega) ?_
    refine T.grd rfl (T.grd rfl (T.grd rfl (T.grd rfl (T.grd rfl (T.grd rfl (T.cf rfl (T.grd rfl (T.grd rfl (T.cf rfl (T.go ?_ (by omega)))))))))))
    rw [iAdd64 (by omega) (by omega)]; rfl
  · dsimp only
    refine T.cf (by rw [iLt_F, lenI_eq]; omega) (T.out rfl)
end Abs
end Go.Proofs.YtamgbanmnededaaDoor

/- Lexer: the law on spaces. -/
namespace Go.Proofs.YtamgbanmnededaaDoor
namespace Abs
set_option linter.unusedVariables false
set_option linter.unusedSimpArgs false
theorem word_T2 {L : List Int} {a : Int} (h : DeckOk L a) : T (m10 L a) (fun y => DeckOk y.2.1 y.2.2.1 ∧ wordS y.1 = true) := by
  unfold m10
  refine T.call (next_T h (by omega) (by omega)) (fun y ⟨h1, h2, h3⟩ => ?_)
  refine T.grd (by rw [bnd_T]; refine ⟨h2, ?_⟩; rw [lenI_eq]; exact h3) ?_
  refine T.grd (by rw [inB_T]; simp only [List.length_cons, List.length_nil]; omega) ?_
  refine T.ret ⟨h1, ?_⟩
  dsimp only
  have : y.1.toNat < 10 := by omega
  generalize y.1.toNat = k at this
  match k, this with
  | 0, _ | 1, _ | 2, _ | 3, _ | 4, _ | 5, _ | 6, _ | 7, _ | 8, _ | 9, _ => rfl
theorem hour_T {L : List Int} {a : Int} (h : DeckOk L a) : T (m27 L a) (fun y => DeckOk y.2.1 y.2.2.1 ∧ 0 ≤ y.1 ∧ y.1 ≤ 876599) := by
  unfold m27
  refine T.call (next_T h (by omega) (by omega)) (fun y ⟨h1, h2, h3⟩ => ?_)
  refine T.cnd (fun _ => ?_) (fun _ => ?_)
  · refine T.call (next_T h1 (by omega) (by omega)) (fun z ⟨g1, g2, g3⟩ => T.ret ⟨g1, g2, by dsimp only; omega⟩)
  refine T.cnd (fun _ => ?_) (fun _ => ?_)
  · refine T.call (next_T h1 (by omega) (by omega)) (fun z ⟨g1, g2, g3⟩ => T.ret ⟨g1, g2, by dsimp only; omega⟩)
  refine T.cnd (fun _ => ?_) (fun _ => ?_)
  · refine T.call (next_T h1 (by omega) (by omega)) (fun z ⟨g1, g2, g3⟩ => T.ret ⟨g1, ?_, ?_⟩) <;> dsimp only <;> rw [iSub64 (by omega) (by omega)] <;> omega
  · refine T.call (next_T h1 (by omega) (by omega)) (fun z ⟨g1, g2, g3⟩ => T.ret ⟨g1, g2, by dsimp only; omega⟩)
/-- The tokens that a deck gives. -/
theorem tokens_T {L : List Int} (h : DeckOk L 0) : T (m16 L) (fun y => y.1.length ≤ 30 ∧ ∀ t ∈ y.1, TokOk t) := by
  unfold m16
  refine T.callE (show m11 L = some (L, 0, ()) from rfl) ?_
  refine T.loop (fun q => DeckOk q.1 q.2.1 ∧ q.2.2.1.length ≤ 30 ∧ ∀ t ∈ q.2.2.1, TokOk t) (fun q => 30 - q.2.2.1.length) ⟨h, by simp, by simp⟩ ?_
  rintro ⟨K, a, ts, _⟩ ⟨hd, hl, ho⟩
  dsimp only at hd hl ho ⊢
  refine T.callE (show m25 K a = some (iLt a (lenI K), K, a, ()) from rfl) ?_
  have add : ∀ (K' : List Int) (a' : Int) (t : DS0), ts.length < 30 → DeckOk K' a' → TokOk t → T (cond (fits (List.length ts + List.length ([t] : List DS0)) 40) (some (Sum.inl (β := List DS0 × Unit) (K', a', ts ++ [t], ()))) none) (LQ (fun q => DeckOk q.1 q.2.1 ∧ q.2.2.1.length ≤ 30 ∧ ∀ t ∈ q.2.2.1, TokOk t) (fun q => 30 - q.2.2.1.length) (30 - ts.length) (fun y => y.1.length ≤ 30 ∧ ∀ t ∈ y.1, TokOk t)) := by
    intro K' a' t h1 h2 h3
    refine T.grd (by rw [fits_T, List.length_singleton]; omega) (T.go ⟨h2, ?_, ?_⟩ ?_)
    · dsimp only; rw [List.length_append, List.length_singleton]; omega
    · dsimp only; intro x hx
      rcases List.mem_append.1 hx with hx | hx
      · exact ho x hx
      · rw [List.mem_singleton.1 hx]; exact h3
    · dsimp only; rw [List.length_append, List.length_singleton]; omega
  refine T.cnd (fun hc => ?_) (fun hc => T.out ⟨hl, ho⟩)
  rw [candF_T, iLt_T, iLt_T, lenI_eq, lenI_eq] at hc
  have hlt : ts.length < 30 := by omega
  refine T.call (next_T hd (by omega) (by omega)) (fun y ⟨h1, h2, h3⟩ => ?_)
  refine T.cnd (fun k0 => ?_) (fun k0 => ?_)
  · refine T.call (word_T2 h1) (fun z ⟨g1, g2⟩ => add _ _ _ hlt g1 (.inl ⟨rfl, g2, rfl⟩))
  refine T.cnd (fun k1 => ?_) (fun k1 => ?_)
  · refine T.call (word_T2 h1) (fun z ⟨g1, g2⟩ => add _ _ _ hlt g1 (.inl ⟨rfl, g2, rfl⟩))
  refine T.cnd (fun k2 => ?_) (fun k2 => ?_)
  · refine T.call (upto_T h1 (by omega) (by omega)) (fun z ⟨g1, g2, g3⟩ => ?_)
    refine T.call (upto_T g1 (by omega) (by omega)) (fun u ⟨f1, f2, f3⟩ => ?_)
    rw [iSub64 (by omega) (by omega)]
    exact add _ _ _ hlt f1 (.inr (.inl ⟨rfl, rfl, by dsimp only; omega, by dsimp only; omega⟩))
  refine T.cnd (fun k3 => ?_) (fun k3 => ?_)
  · refine T.call (hour_T h1) (fun z ⟨g1, g2, g3⟩ => add _ _ _ hlt g1 (.inr (.inr (.inl ⟨rfl, rfl, g2, g3⟩))))
  simp only [iEq_F] at k0 k1 k2 k3
  refine T.ct (by rw [iEq_T]; omega) ?_
  refine T.call (next_T h1 (by omega) (by omega)) (fun z ⟨g1, g2, g3⟩ => ?_)
  refine T.grd (by rw [bnd_T]; refine ⟨g2, ?_⟩; rw [lenI_eq]; exact g3) ?_
  refine T.grd (by rw [inB_T]; simp only [List.length_cons, List.length_nil]; omega) ?_
  refine add _ _ _ hlt g1 (.inr (.inr (.inr ⟨rfl, rfl, ?_⟩)))
  dsimp only
  have : z.1.toNat < 5 := by omega
  generalize z.1.toNat = k at this
  match k, this with
  | 0, _ => exact ⟨59, rfl, rfl⟩
  | 1, _ => exact ⟨58, rfl, rfl⟩
  | 2, _ => exact ⟨44, rfl, rfl⟩
  | 3, _ => exact ⟨40, rfl, rfl⟩
  | 4, _ => exact ⟨41, rfl, rfl⟩
/-- A separator. -/
structure Sep (s : ByteArray) : Prop where
  size : s.size ≤ 12
  stop : ∀ r, Stop (bytesI s ++ r)
  scan : ∀ (i : Nat) (toks : List DS0) (r : List Int), scanF i toks (bytesI s ++ r) = scanF (i + s.size) toks r
theorem stop32 (r : List Int) : Stop (32 :: r) := stop_cons ⟨rfl, rfl⟩
theorem stop10 (r : List Int) : Stop (10 :: r) := stop_cons ⟨rfl, rfl⟩
theorem sep_hash (i : Nat) (toks : List DS0) (r : List Int) : scanF i toks (32 :: (35 :: [32, 97, 32, 40, 32, 48, 48, 55] ++ (10 :: r))) = scanF (i + 11) toks r := by
  rw [scanF_sp (.inl rfl), scanF_hash _ _ _ _ (fun x hx => by simp only [List.mem_cons, List.not_mem_nil, or_false] at hx; unfold isLine; rw [decide_eq_true_eq]; omega) (fun c hc => by cases hc; rfl), scanF_sp (.inr rfl)]
  rfl
theorem sep_at (k : Nat) (h : k < 5) : Sep (List.getD ([(bs [32]), (bs [10]), (bs [32, 32, 32]), (bs [32, 35, 32, 97, 32, 40, 32, 48, 48, 55, 10]), (bs [10, 10, 32])] : List ByteArray) k ByteArray.empty) := by
  match k, h with
  | 0, _ => exact ⟨by decide, fun r => stop32 _, fun i toks r => scanF_sp (.inl rfl) _ _ _⟩
  | 1, _ => exact ⟨by decide, fun r => stop10 _, fun i toks r => scanF_sp (.inr rfl) _ _ _⟩
  | 2, _ => exact ⟨by decide, fun r => stop32 _, fun i toks r => (scanF_sp (.inl rfl) _ _ _).trans ((scanF_sp (.inl rfl) _ _ _).trans (scanF_sp (.inl rfl) _ _ _))⟩
  | 3, _ => exact ⟨by decide, fun r => stop32 _, fun i toks r => sep_hash i toks r⟩
  | 4, _ => exact ⟨by decide, fun r => stop10 _, fun i toks r => (scanF_sp (.inr rfl) _ _ _).trans ((scanF_sp (.inr rfl) _ _ _).trans (scanF_sp (.inl rfl) _ _ _))⟩
theorem law_spaces (L M : List Int) (h : DeckOk L 0) (hM : ∀ x ∈ M, 0 ≤ x ∧ x ≤ 255) : m4 L M = some (true, ()) := by
  refine T.eq ?_
  unfold m4
  refine T.call (tokens_T h) ?_
  rintro ⟨ts, _⟩ ⟨hl, ho⟩
  dsimp only at hl ho ⊢
  let J : List Int × List DS0 × ByteArray × Int × Unit → Prop := fun q => ∃ (i : Nat) (s : ByteArray) (tk : List DS0), i ≤ ts.length ∧ s.size ≤ 40 * i ∧ tk.length = i ∧ (ts.take i).map strip = tk.map strip ∧ (∀ r, Stop r → scanF 0 [] (bytesI s ++ r) = scanF s.size tk r) ∧ q = (M, ts, s, (i : Int), ())
  refine T.loop J (fun q => ts.length - q.2.2.2.1.toNat) ⟨0, bs [], [], by omega, by decide, rfl, rfl, fun r _ => rfl, rfl⟩ ?_
  rintro _ ⟨i, s, tk, hi, hs, hk, hst, hsc, rfl⟩
  dsimp only
  refine T.cnd (fun hc => ?_) (fun hc => ?_) <;> simp only [iLt_T, iLt_F, lenI_eq] at hc
  · have hi' : i < ts.length := by omega
    rw [iAdd64 (by omega) (by omega)]
    refine T.grd (by rw [cutOk_T]; omega) ?_
    have hcut : cutL (i : Int) ((i : Int) + 1) ts = [ts[i]] := by
      have := List.take_succ_eq_append_getElem hi'
      unfold cutL
      rw [show ((i : Int) + 1).toNat = i + 1 by omega, Int.toNat_natCast, this, List.drop_append_of_le_length (by rw [List.length_take]; omega), List.drop_take_self]
      rfl
    rw [hcut]
    refine T.call (join1_r (ho _ (List.getElem_mem hi'))) ?_
    rintro ⟨w, er, _⟩ ⟨e1, e2⟩
    dsimp only at e1 e2 ⊢
    have hw : w.size ≤ 20 := by have := e2.len; rw [bl_len] at this; omega
    have core : ∀ x : Int, 0 ≤ x → x < 5 → T (cond (iNe 5 0)
 (cond (bnd x (lenI ([(bs [32]), (bs [10]), (bs [32, 32, 32]), (bs [32, 35, 32, 97, 32, 40, 32, 48, 48, 55, 10]), (bs [10, 10, 32])] : List ByteArray)))
 (cond (inB (Int.toNat x) ([(bs [32]), (bs [10]), (bs [32, 32, 32]), (bs [32, 35, 32, 97, 32, 40, 32, 48, 48, 55, 10]), (bs [10, 10, 32])] : List ByteArray))
 (cond (sFits s (List.getD ([(bs [32]), (bs [10]), (bs [32, 32, 32]), (bs [32, 35, 32, 97, 32, 40, 32, 48, 48, 55, 10]), (bs [10, 10, 32])] : List ByteArray) (Int.toNat x) ByteArray.empty))
 (cond (sFits (sCat s (List.getD ([(bs [32]), (bs [10]), (bs [32, 32, 32]), (bs [32, 35, 32, 97, 32, 40, 32, 48, 48, 55, 10]), (bs [10, 10, 32])] : List ByteArray) (Int.toNat x) ByteArray.empty)) w)
 (some (.inl (M, ts, sCat (sCat s (List.getD ([(bs [32]), (bs [10]), (bs [32, 32, 32]), (bs [32, 35, 32, 97, 32, 40, 32, 48, 48, 55, 10]), (bs [10, 10, 32])] : List ByteArray) (Int.toNat x) ByteArray.empty)) w, (i : Int) + 1, ()))) none) none) none) none) none) (LQ J (fun q => ts.length - q.2.2.2.1.toNat) (ts.length - (i : Int).toNat) (fun x => x = (true, ()))) := by
      intro x x0 x5
      have sp := sep_at x.toNat (by omega)
      refine T.grd rfl ?_
      refine T.grd (by rw [bnd_T]; refine ⟨x0, ?_⟩; rw [lenI_eq]; exact x5) ?_
      refine T.grd (by rw [inB_T]; simp only [List.length_cons, List.length_nil]; omega) ?_
      generalize List.getD ([(bs [32]), (bs [10]), (bs [32, 32, 32]), (bs [32, 35, 32, 97, 32, 40, 32, 48, 48, 55, 10]), (bs [10, 10, 32])] : List ByteArray) (Int.toNat x) ByteArray.empty = sep at sp
      have hz := sp.size
      refine T.grd (sFits_t (by omega)) ?_
      refine T.grd (sFits_t (by rw [cat_size]; omega)) ?_
      refine T.go ⟨i + 1, _, tk ++ [((ts[i]).1, (ts[i]).2.1, (ts[i]).2.2.1, ((s.size + sep.size : Nat) : Int), ())], by omega, by simp only [cat_size]; omega, by rw [List.length_append, hk, List.length_singleton], ?_, ?_, rfl⟩ (by dsimp only; omega)
      · rw [List.take_succ_eq_append_getElem hi', List.map_append, List.map_append, hst]; rfl
      · intro r hr
        rw [bl_cat, bl_cat, List.append_assoc, List.append_assoc, hsc _ (sp.stop _), sp.scan, scanF_tok e2 _ _ _ hr (by omega)]
        congr 1
        simp only [cat_size, bl_len]
    refine T.cnd (fun hc2 => ?_) (fun hc2 => ?_) <;> simp only [iLt_T, iLt_F, lenI_eq] at hc2
    · refine T.grd (by rw [bnd_T, lenI_eq]; omega) ?_
      have hx := hM (atI M (i : Int) 0) (by unfold atI; rw [Int.toNat_natCast, List.getD_eq_getElem?_getD, List.getElem?_eq_getElem (show i < M.length by omega)]; exact List.getElem_mem _)
      have hx2 := mark5 _ hx
      exact core _ hx2.1 hx2.2.1
    · exact core _ (by decide) (by decide)
  · obtain rfl : i = ts.length := by omega
    refine T.mapL ?_
    have he : (bs [32, 35, 32, 101, 110, 100]).size = 6 := rfl
    have hb : bytesI (bs [32, 35, 32, 101, 110, 100]) = 32 :: (35 :: [32, 101, 110, 100] ++ []) := rfl
    refine T.grd (sFits_t (by omega)) ?_
    have hcs := cat_size s (bs [32, 35, 32, 101, 110, 100])
    refine T.callE (scan_m _ (by omega)) ?_
    have hS : scanS (sCat s (bs [32, 35, 32, 101, 110, 100])) = (tk, 0, 0, ()) := by
      unfold scanS
      rw [if_neg (by omega), scanF_fuel (by rw [bl_len]; omega), bl_cat, hsc _ (by rw [hb]; exact stop32 _), hb, scanF_sp (.inl rfl), scanF_hash _ _ _ _ (fun x hx => by simp only [List.mem_cons, List.not_mem_nil, or_false] at hx; unfold isLine; rw [decide_eq_true_eq]; omega) (fun c hc => by cases hc), scanF_nil]
    rw [hS]
    refine T.ct rfl ?_
    rw [List.take_length] at hst
    refine T.callE (same_m ts tk hst (by omega)) (T.ct rfl ?_)
    rw [awake_ok]; exact T.ret rfl
end Abs
end Go.Proofs.YtamgbanmnededaaDoor
