/- Merged: L7 L8. -/
import Derived.Test.YtamgbanmnededaaDoorLB
/- Lexer: numbers and hours, written and read back. -/
namespace Go.Proofs.YtamgbanmnededaaDoor
namespace Abs
set_option linter.unusedVariables false
set_option linter.unusedSimpArgs false
def val (ds : List Int) : Int := ds.foldl (fun a c => a * 10 + (c - 48)) 0
def AllD (ds : List Int) : Prop := ∀ x ∈ ds, isDig x = true
theorem dig_bd {c : Int} (h : isDig c = true) : 48 ≤ c ∧ c ≤ 57 := of_decide_eq_true h
theorem p10 (n : Nat) : (1 : Int) ≤ 10 ^ n := Int.pow_pos (by decide)
theorem fold_val (ds : List Int) : ∀ a : Int, ds.foldl (fun a c => a * 10 + (c - 48)) a = a * 10 ^ ds.length + val ds := by
  unfold val
  induction ds with
  | nil => intro a; simp
  | cons c ds ih =>
    intro a
    rw [List.foldl_cons, ih, List.foldl_cons, ih (0 * 10 + (c - 48)), List.length_cons, Int.pow_succ, Int.zero_mul, Int.zero_add, Int.add_mul, Int.add_assoc, Int.mul_assoc, Int.mul_comm 10]
theorem val_cons (c : Int) (ds : List Int) : val (c :: ds) = (c - 48) * 10 ^ ds.length + val ds := by
  unfold val; rw [List.foldl_cons, fold_val]; unfold val; rw [Int.zero_mul, Int.zero_add]
theorem val_snoc (ds : List Int) (c : Int) : val (ds ++ [c]) = val ds * 10 + (c - 48) := by
  unfold val; rw [List.foldl_append]; rfl
theorem val_bd : ∀ ds : List Int, AllD ds → 0 ≤ val ds ∧ val ds < 10 ^ ds.length := by
  intro ds
  induction ds with
  | nil => intro _; exact ⟨by decide, by decide⟩
  | cons c ds ih =>
    intro h
    have h1 := ih fun x hx => h x (by simp [hx])
    have h2 := dig_bd (h c (by simp))
    have hp := p10 ds.length
    rw [val_cons, List.length_cons, Int.pow_succ]
    generalize (10 : Int) ^ ds.length = p at *
    have a1 : 0 ≤ (c - 48) * p := Int.mul_nonneg (by omega) (by omega)
    have a2 : (c - 48) * p ≤ 9 * p := Int.mul_le_mul_of_nonneg_right (by omega) (by omega)
    omega
theorem numL_val : ∀ (ds : List Int) (a : Int), AllD ds → 0 ≤ a → a * 10 ^ ds.length + val ds ≤ 17592186044416 → numL ds a = some (a * 10 ^ ds.length + val ds) := by
  intro ds
  induction ds with
  | nil => intro a _ _ _; simp [numL, val]
  | cons c ds ih =>
    intro a hd ha hl
    have hd' : AllD ds := fun x hx => hd x (by simp [hx])
    have h2 := dig_bd (hd c (by simp))
    have e : a * 10 ^ (c :: ds).length + val (c :: ds) = (a * 10 + (c - 48)) * 10 ^ ds.length + val ds := by
      rw [val_cons, List.length_cons, Int.pow_succ, Int.add_mul, Int.mul_assoc a 10, Int.mul_comm 10, Int.add_assoc]
    rw [e] at hl ⊢
    have hv := val_bd ds hd'
    have hp := p10 ds.length
    have hx : (a * 10 + (c - 48)) * 1 ≤ (a * 10 + (c - 48)) * 10 ^ ds.length := Int.mul_le_mul_of_nonneg_left hp (by omega)
    rw [numL, if_neg (by omega)]
    exact ih _ hd' (by omega) hl
theorem bl_cons {c : Int} (h : 0 ≤ c ∧ c ≤ 255) (s : ByteArray) : bytesI (sCat (bsI [c]) s) = c :: bytesI s := by
  rw [bl_cat, bl_bsI (fun x hx => by rw [List.mem_singleton.1 hx]; exact h)]; rfl
theorem digits_T (n k : Int) (h : 0 ≤ n) (hn : n ≤ 100000000000000000) (hk : 1 ≤ k ∧ k ≤ 4) : T (m54 n k) (fun y => ∃ ds, bytesI y.1 = ds ∧ AllD ds ∧ val ds = n ∧ k ≤ (ds.length : Int) ∧ (∀ j : Nat, k ≤ (j : Int) → n < 10 ^ j → ds.length ≤ j) ∧ (k < (ds.length : Int) → 49 ≤ ds.getD 0 0)) := by
  unfold m54
  refine T.loop (fun q => ∃ (x : Int) (s : ByteArray), 0 ≤ x ∧ AllD (bytesI s) ∧ x * 10 ^ (bytesI s).length + val (bytesI s) = n ∧ (∀ j : Nat, k ≤ (j : Int) → n < 10 ^ j → (bytesI s).length ≤ j) ∧ (k < ((bytesI s).length : Int) → 0 < x ∨ 49 ≤ (bytesI s).getD 0 0) ∧ q = (x, k, s, ())) (fun q => q.1.toNat + (k - (q.2.2.1.size : Int)).toNat) ⟨n, bs [], h, fun x hx => (by cases hx), by show n * 1 + 0 = n; omega, fun j _ _ => Nat.zero_le _, fun q => by exfalso; have : ((bytesI (bs [])).length : Int) = 0 := rfl; omega, rfl⟩ ?_
  rintro _ ⟨x, s, x0, hd, hv, hj, hh, rfl⟩
  dsimp only
  have hsz := bl_len s
  have vb := val_bd _ hd
  have hp := p10 (bytesI s).length
  have hx1 : x * 1 ≤ x * 10 ^ (bytesI s).length := Int.mul_le_mul_of_nonneg_left hp x0
  refine T.cnd (fun hc => ?_) (fun hc => ?_) <;> simp only [corT_T, corT_F, iLt_T, iLt_F, sLen_eq] at hc
  · refine T.grd rfl ?_
    have e : IntKind.wrap .u8 (iAdd .i64 48 (iRem x 10)) = 48 + x % 10 := by rw [rem_pos x0, iAdd64 (by omega) (by omega), wrap8 (by omega) (by omega)]
    have e2 : iQuo .i64 x 10 = x / 10 := by unfold iQuo; rw [Int.tdiv_eq_ediv_of_nonneg x0, wrap64 (by omega) (by omega)]
    rw [e, e2]
    have hs1 : (bsI [48 + x % 10]).size = 1 := rfl
    have hl19 : (bytesI s).length ≤ 19 := hj 19 (by omega) (by rw [show (10 : Int) ^ 19 = 10000000000000000000 from rfl]; omega)
    refine T.grd (sFits_t (by omega)) ?_
    refine T.grd rfl ?_
    have hb := bl_cons (c := 48 + x % 10) (by omega) s
    have hdig : isDig (48 + x % 10) = true := by unfold isDig; rw [decide_eq_true_eq]; omega
    refine T.go ⟨x / 10, _, by omega, ?_, ?_, ?_, ?_, rfl⟩ (by dsimp only; rw [cat_size]; omega)
    · rw [hb]; intro y hy; rcases List.mem_cons.1 hy with rfl | hy
      · exact hdig
      · exact hd y hy
    · rw [hb, List.length_cons, val_cons, Int.pow_succ]
      generalize (10 : Int) ^ (bytesI s).length = p at *
      rw [show (48 + x % 10 - 48 : Int) = x % 10 by omega, Int.mul_comm p 10, ← Int.mul_assoc, ← Int.add_assoc, ← Int.add_mul, show x / 10 * 10 + x % 10 = x by omega]
      exact hv
    · intro j h1 h2
      rw [hb, List.length_cons]
      rcases Int.lt_or_le 0 x with q | q
      · have hx2 : 1 * 10 ^ (bytesI s).length ≤ x * 10 ^ (bytesI s).length := Int.mul_le_mul_of_nonneg_right (by omega) (by omega)
        have : ¬ j ≤ (bytesI s).length := fun hle => by
          have : (10 : Int) ^ j ≤ 10 ^ (bytesI s).length := by
            obtain ⟨t, ht⟩ : ∃ t, (bytesI s).length = j + t := ⟨_, (Nat.add_sub_cancel' hle).symm⟩
            rw [ht, Int.pow_add]
            have := Int.mul_le_mul_of_nonneg_left (p10 t) (show (0 : Int) ≤ 10 ^ j by have := p10 j; omega)
            omega
          omega
        omega
      · omega
    · intro q
      rw [hb, List.length_cons] at q
      rw [hb]
      show 0 < x / 10 ∨ 49 ≤ 48 + x % 10
      omega
  · refine T.out ⟨bytesI s, rfl, hd, ?_, by omega, hj, fun q => ?_⟩
    · obtain rfl : x = 0 := by omega
      omega
    · rcases hh q with q | q
      · omega
      · exact q
theorem digits_fix (n : Int) (k : Nat) (h : 0 ≤ n) (hn : n < 10 ^ k) (hk : 1 ≤ k ∧ k ≤ 4) : T (m54 n (k : Int)) (fun y => ∃ ds, bytesI y.1 = ds ∧ AllD ds ∧ val ds = n ∧ ds.length = k) := by
  have : (10 : Int) ^ k ≤ 10000 := by
    have : k = 1 ∨ k = 2 ∨ k = 3 ∨ k = 4 := by omega
    rcases this with rfl | rfl | rfl | rfl <;> decide
  refine (digits_T n k h (by omega) (by omega)).mono ?_
  rintro v ⟨ds, h1, h2, h3, h4, h5, h6⟩
  exact ⟨ds, h1, h2, h3, by have := h5 k (by omega) hn; omega⟩
theorem sub_m (s : ByteArray) (hd : AllD (bytesI s)) (hs : s.size ≤ 4) : m57 s = some (val (bytesI s), ()) := by
  refine T.eq ?_
  unfold m57
  have hsz := bl_len s
  refine T.along (s.size) (fun i : Nat => (s, val ((bytesI s).take i), sLen s, (i : Int), ())) (fun i hi => ?_) ?_
  · dsimp only
    refine T.ct (by rw [iLt_T, sLen_eq]; omega) ?_
    refine T.grd (by rw [bnd_T, sLen_eq]; omega) ?_
    refine T.go ?_ (by omega)
    have hlt : i < (bytesI s).length := by omega
    have e0 : sAt s (i : Int) = (bytesI s)[i] := (bl_get s i hlt).symm
    have b0 := dig_bd (hd _ (List.getElem_mem hlt))
    rw [← e0] at b0
    have e1 : (bytesI s).take (i + 1) = (bytesI s).take i ++ [sAt s (i : Int)] := by rw [e0, List.take_succ_eq_append_getElem hlt]
    have vb := val_bd ((bytesI s).take i) (fun x hx => hd x (List.mem_of_mem_take hx))
    have hle : (10 : Int) ^ ((bytesI s).take i).length ≤ 1000 := by
      rw [List.length_take, Nat.min_eq_left (by omega)]
      have : i = 0 ∨ i = 1 ∨ i = 2 ∨ i = 3 := by omega
      rcases this with rfl | rfl | rfl | rfl <;> decide
    rw [e1, val_snoc]
    have e2 : iSub .u8 (sAt s (i : Int)) 48 = sAt s (i : Int) - 48 := by unfold iSub; rw [wrap8 (by omega) (by omega)]
    rw [e2, wrap64 (by omega) (by omega), iMul64 (by omega) (by omega), iAdd64 (by omega) (by omega), iAdd64 (by omega) (by omega)]
    rfl
  · dsimp only
    refine T.cf (by rw [iLt_F, sLen_eq]; omega) ?_
    refine T.out ?_
    rw [List.take_of_length_le (by omega)]
theorem fit_dig {c : Int} (h : isDig c = true) (i : Nat) (h4 : i ≠ 4) (h7 : i ≠ 7) (h10 : i ≠ 10) : m56 c (i : Int) = some (true, ()) := by
  have := dig_bd h
  refine T.eq ?_
  unfold m56
  refine T.cf (by rw [iEq_F]; omega) (T.cf (by rw [iEq_F]; omega) (T.cf (by rw [iEq_F]; omega) (T.ret ?_)))
  congr 1
  rw [candF_T, iLe_T, iLe_T]; exact this
theorem parse_loop (s : ByteArray) (Q : Int × Int × Unit → Prop) (hs : s.size = 10 ∨ s.size = 13) (hf : ∀ i : Nat, i < s.size → m56 (sAt s (i : Int)) (i : Int) = some (true, ())) (y m dd h : Int) (e1 : m57 (cutS 0 4 s) = some (y, ())) (e2 : m57 (cutS 5 7 s) = some (m, ())) (e3 : m57 (cutS 8 10 s) = some (dd, ())) (e4 : if s.size = 13 then m57 (cutS 11 ((s.size : Nat) : Int) s) = some (h, ()) else h = 0) (e5 : T (m58 (y, m, dd, ()) h) Q) : T (m49 s) Q := by
  unfold m49
  have hsz := sLen_eq s
  refine T.cf (by rw [candF_F, iNe_F, iNe_F]; omega) ?_
  refine T.along s.size (fun i : Nat => (s, sLen s, (i : Int), ())) (fun i hi => ?_) ?_
  · dsimp only
    refine T.ct (by rw [iLt_T]; omega) ?_
    refine T.grd (by rw [bnd_T]; omega) ?_
    refine T.callE (hf i hi) ?_
    refine T.cf rfl (T.go ?_ (by omega))
    rw [iAdd64 (by omega) (by omega)]; rfl
  · dsimp only
    refine T.cf (by rw [iLt_F]; omega) ?_
    refine T.mapL ?_
    obtain ⟨v, hv, hq⟩ := e5
    refine T.cnd (fun hc => ?_) (fun hc => ?_) <;> simp only [iEq_T, iEq_F] at hc
    · rw [if_pos (by omega)] at e4
      refine T.grd (by rw [cutOk_T]; omega) (T.callE e4 ?_)
      refine T.grd (by rw [cutOk_T]; omega) (T.callE e1 ?_)
      refine T.grd (by rw [cutOk_T]; omega) (T.callE e2 ?_)
      refine T.grd (by rw [cutOk_T]; omega) (T.callE e3 ?_)
      exact T.callE hv (T.ret hq)
    · rw [if_neg (by omega)] at e4
      subst e4
      refine T.grd (by rw [cutOk_T]; omega) (T.callE e1 ?_)
      refine T.grd (by rw [cutOk_T]; omega) (T.callE e2 ?_)
      refine T.grd (by rw [cutOk_T]; omega) (T.callE e3 ?_)
      exact T.callE hv (T.ret hq)
end Abs
end Go.Proofs.YtamgbanmnededaaDoor

/- Lexer: tokens written and read back. -/
namespace Go.Proofs.YtamgbanmnededaaDoor
namespace Abs
set_option linter.unusedVariables false
set_option linter.unusedSimpArgs false
theorem len4 {l : List Int} (h : l.length = 4) : ∃ a b c d, l = [a, b, c, d] := by
  match l, h with
  | [a, b, c, d], _ => exact ⟨a, b, c, d, rfl⟩
theorem len2 {l : List Int} (h : l.length = 2) : ∃ a b, l = [a, b] := by
  match l, h with
  | [a, b], _ => exact ⟨a, b, rfl⟩
theorem fit_list {s : ByteArray} {l : List Int} (hb : bytesI s = l) (hf : ∀ i : Nat, i < l.length → m56 (l.getD i 0) (i : Int) = some (true, ())) : ∀ i : Nat, i < s.size → m56 (sAt s (i : Int)) (i : Int) = some (true, ()) := by
  intro i hi
  rw [bl_at, hb]
  exact hf i (by rw [← hb, bl_len]; exact hi)
/-- A day, read back. -/
theorem parse10 {s : ByteArray} {y m d : List Int} (hy : AllD y) (hm : AllD m) (hd : AllD d) (ly : y.length = 4) (lm : m.length = 2) (ld : d.length = 2) (hb : bytesI s = y ++ [45] ++ m ++ [45] ++ d) {v : Int} (e5 : m58 (val y, val m, val d, ()) 0 = some (v, 0, ())) : m49 s = some (v, 0, ()) := by
  refine T.eq ?_
  have c1 := bl_cut 0 4 s
  have c2 := bl_cut 5 7 s
  have c3 := bl_cut 8 10 s
  have z1 := bl_len (cutS ((0 : Nat) : Int) ((4 : Nat) : Int) s)
  have z2 := bl_len (cutS ((5 : Nat) : Int) ((7 : Nat) : Int) s)
  have z3 := bl_len (cutS ((8 : Nat) : Int) ((10 : Nat) : Int) s)
  obtain ⟨a1, a2, a3, a4, rfl⟩ := len4 ly
  obtain ⟨b1, b2, rfl⟩ := len2 lm
  obtain ⟨d1, d2, rfl⟩ := len2 ld
  have hs : s.size = 10 := bl_sz hb
  rw [hb] at c1 c2 c3
  have c1 : bytesI (cutS ((0 : Nat) : Int) ((4 : Nat) : Int) s) = [a1, a2, a3, a4] := c1
  have c2 : bytesI (cutS ((5 : Nat) : Int) ((7 : Nat) : Int) s) = [b1, b2] := c2
  have c3 : bytesI (cutS ((8 : Nat) : Int) ((10 : Nat) : Int) s) = [d1, d2] := c3
  rw [c1] at z1; rw [c2] at z2; rw [c3] at z3
  simp only [AllD, List.mem_cons, List.not_mem_nil, or_false, forall_eq_or_imp, forall_eq] at hy hm hd
  refine parse_loop s _ (.inl hs) (fit_list hb ?_) (val [a1, a2, a3, a4]) (val [b1, b2]) (val [d1, d2]) 0 ?_ ?_ ?_ (by rw [if_neg (by omega)]) ⟨_, e5, rfl⟩
  · intro i hi
    have hi : i < 10 := hi
    match i, hi with
    | 0, _ => exact fit_dig hy.1 0 (by decide) (by decide) (by decide)
    | 1, _ => exact fit_dig hy.2.1 1 (by decide) (by decide) (by decide)
    | 2, _ => exact fit_dig hy.2.2.1 2 (by decide) (by decide) (by decide)
    | 3, _ => exact fit_dig hy.2.2.2 3 (by decide) (by decide) (by decide)
    | 4, _ => rfl
    | 5, _ => exact fit_dig hm.1 5 (by decide) (by decide) (by decide)
    | 6, _ => exact fit_dig hm.2 6 (by decide) (by decide) (by decide)
    | 7, _ => rfl
    | 8, _ => exact fit_dig hd.1 8 (by decide) (by decide) (by decide)
    | 9, _ => exact fit_dig hd.2 9 (by decide) (by decide) (by decide)
  · have := sub_m (cutS ((0 : Nat) : Int) ((4 : Nat) : Int) s) (by rw [c1]; simpa [AllD] using hy) (by have : (4 : Nat) = _ := z1; omega)
    rw [c1] at this; exact this
  · have := sub_m (cutS ((5 : Nat) : Int) ((7 : Nat) : Int) s) (by rw [c2]; simpa [AllD] using hm) (by have : (2 : Nat) = _ := z2; omega)
    rw [c2] at this; exact this
  · have := sub_m (cutS ((8 : Nat) : Int) ((10 : Nat) : Int) s) (by rw [c3]; simpa [AllD] using hd) (by have : (2 : Nat) = _ := z3; omega)
    rw [c3] at this; exact this
/-- A day and its hour, read back. -/
theorem parse13 {s : ByteArray} {y m d h : List Int} (hy : AllD y) (hm : AllD m) (hd : AllD d) (hh : AllD h) (ly : y.length = 4) (lm : m.length = 2) (ld : d.length = 2) (lh : h.length = 2) (hb : bytesI s = y ++ [45] ++ m ++ [45] ++ d ++ [84] ++ h) {v : Int} (e5 : m58 (val y, val m, val d, ()) (val h) = some (v, 0, ())) : m49 s = some (v, 0, ()) := by
  refine T.eq ?_
  have c1 := bl_cut 0 4 s
  have c2 := bl_cut 5 7 s
  have c3 := bl_cut 8 10 s
  have c4 := bl_cut 11 13 s
  have z1 := bl_len (cutS ((0 : Nat) : Int) ((4 : Nat) : Int) s)
  have z2 := bl_len (cutS ((5 : Nat) : Int) ((7 : Nat) : Int) s)
  have z3 := bl_len (cutS ((8 : Nat) : Int) ((10 : Nat) : Int) s)
  have z4 := bl_len (cutS ((11 : Nat) : Int) ((13 : Nat) : Int) s)
  obtain ⟨a1, a2, a3, a4, rfl⟩ := len4 ly
  obtain ⟨b1, b2, rfl⟩ := len2 lm
  obtain ⟨d1, d2, rfl⟩ := len2 ld
  obtain ⟨h1, h2, rfl⟩ := len2 lh
  have hs : s.size = 13 := bl_sz hb
  rw [hb] at c1 c2 c3 c4
  have c1 : bytesI (cutS ((0 : Nat) : Int) ((4 : Nat) : Int) s) = [a1, a2, a3, a4] := c1
  have c2 : bytesI (cutS ((5 : Nat) : Int) ((7 : Nat) : Int) s) = [b1, b2] := c2
  have c3 : bytesI (cutS ((8 : Nat) : Int) ((10 : Nat) : Int) s) = [d1, d2] := c3
  have c4 : bytesI (cutS ((11 : Nat) : Int) ((13 : Nat) : Int) s) = [h1, h2] := c4
  rw [c1] at z1; rw [c2] at z2; rw [c3] at z3; rw [c4] at z4
  simp only [AllD, List.mem_cons, List.not_mem_nil, or_false, forall_eq_or_imp, forall_eq] at hy hm hd hh
  refine parse_loop s _ (.inr hs) (fit_list hb ?_) (val [a1, a2, a3, a4]) (val [b1, b2]) (val [d1, d2]) (val [h1, h2]) ?_ ?_ ?_ ?_ ⟨_, e5, rfl⟩
  · intro i hi
    have hi : i < 13 := hi
    match i, hi with
    | 0, _ => exact fit_dig hy.1 0 (by decide) (by decide) (by decide)
    | 1, _ => exact fit_dig hy.2.1 1 (by decide) (by decide) (by decide)
    | 2, _ => exact fit_dig hy.2.2.1 2 (by decide) (by decide) (by decide)
    | 3, _ => exact fit_dig hy.2.2.2 3 (by decide) (by decide) (by decide)
    | 4, _ => rfl
    | 5, _ => exact fit_dig hm.1 5 (by decide) (by decide) (by decide)
    | 6, _ => exact fit_dig hm.2 6 (by decide) (by decide) (by decide)
    | 7, _ => rfl
    | 8, _ => exact fit_dig hd.1 8 (by decide) (by decide) (by decide)
    | 9, _ => exact fit_dig hd.2 9 (by decide) (by decide) (by decide)
    | 10, _ => rfl
    | 11, _ => exact fit_dig hh.1 11 (by decide) (by decide) (by decide)
    | 12, _ => exact fit_dig hh.2 12 (by decide) (by decide) (by decide)
  · have := sub_m (cutS ((0 : Nat) : Int) ((4 : Nat) : Int) s) (by rw [c1]; simpa [AllD] using hy) (by have : (4 : Nat) = _ := z1; omega)
    rw [c1] at this; exact this
  · have := sub_m (cutS ((5 : Nat) : Int) ((7 : Nat) : Int) s) (by rw [c2]; simpa [AllD] using hm) (by have : (2 : Nat) = _ := z2; omega)
    rw [c2] at this; exact this
  · have := sub_m (cutS ((8 : Nat) : Int) ((10 : Nat) : Int) s) (by rw [c3]; simpa [AllD] using hd) (by have : (2 : Nat) = _ := z3; omega)
    rw [c3] at this; exact this
  · rw [if_pos hs, hs]
    have := sub_m (cutS ((11 : Nat) : Int) ((13 : Nat) : Int) s) (by rw [c4]; simpa [AllD] using hh) (by have : (2 : Nat) = _ := z4; omega)
    rw [c4] at this; exact this
def AllH (l : List Int) : Prop := ∀ x ∈ l, isHr x = true
theorem dig_hr {c : Int} (h : isDig c = true) : isHr c = true := by unfold isHr; rw [h]; rfl
/-- An hour, written: what stands there reads back. -/
theorem fmt_T (n : Int) (h0 : 0 ≤ n) (h1 : n ≤ 876599) : T (m44 n) (fun y => y.2.1 = 0 ∧ m49 y.1 = some (n, 0, ()) ∧ AllH (bytesI y.1) ∧ y.1.size ≤ 13) := by
  obtain ⟨y, m, d, hc⟩ := Cal.civ_ex n h0 h1
  have hl := Cal.len_bd y m hc.2.2.1 hc.2.2.2.1
  obtain ⟨hc1, hc2, hc3, hc4, hc5, hc6, _⟩ := id hc
  have hh := hour_m (y := y) (m := m) (d := d) (h := n % 24) ⟨hc1, hc2, hc3, hc4, hc5, hc6, by omega, by omega⟩
  obtain ⟨v1, v2⟩ := Cal.hv_of_civ h0 hc
  rw [v1, v2] at hh
  unfold m44
  refine T.callE (civil_r h0 h1 hc) ?_
  refine T.cf rfl ?_
  dsimp only
  have p4 : (10 : Int) ^ 4 = 10000 := rfl
  have p2 : (10 : Int) ^ 2 = 100 := rfl
  refine T.call (digits_fix y 4 (by omega) (by omega) (by omega)) ?_
  rintro ⟨A, _⟩ ⟨_, rfl, A1, A2, A3⟩
  dsimp only at A1 A2 A3 ⊢
  have sa : A.size = 4 := by rw [← bl_len]; exact A3
  have s45 : (bs [45]).size = 1 := rfl
  have s84 : (bs [84]).size = 1 := rfl
  refine T.grd (sFits_t (by omega)) ?_
  refine T.call (digits_fix m 2 (by omega) (by omega) (by omega)) ?_
  rintro ⟨B, _⟩ ⟨_, rfl, B1, B2, B3⟩
  dsimp only at B1 B2 B3 ⊢
  have sb : B.size = 2 := by rw [← bl_len]; exact B3
  refine T.grd (sFits_t (by simp only [cat_size]; omega)) ?_
  refine T.grd (sFits_t (by simp only [cat_size]; omega)) ?_
  refine T.call (digits_fix d 2 (by omega) (by omega) (by omega)) ?_
  rintro ⟨C, _⟩ ⟨_, rfl, C1, C2, C3⟩
  dsimp only at C1 C2 C3 ⊢
  have sc : C.size = 2 := by rw [← bl_len]; exact C3
  refine T.grd (sFits_t (by simp only [cat_size]; omega)) ?_
  have hb0 : bytesI (sCat (sCat (sCat (sCat A (bs [45])) B) (bs [45])) C) = bytesI A ++ [45] ++ bytesI B ++ [45] ++ bytesI C := by simp only [bl_cat]; rfl
  refine T.cnd (fun hc => ?_) (fun hc => ?_) <;> simp only [iLt_T, iLt_F] at hc
  · refine T.grd (sFits_t (by simp only [cat_size]; omega)) ?_
    refine T.call (digits_fix (n % 24) 2 (by omega) (by omega) (by omega)) ?_
    rintro ⟨E, _⟩ ⟨_, rfl, E1, E2, E3⟩
    dsimp only at E1 E2 E3 ⊢
    have se : E.size = 2 := by rw [← bl_len]; exact E3
    refine T.grd (sFits_t (by simp only [cat_size]; omega)) ?_
    have hb : bytesI (sCat (sCat (sCat (sCat (sCat (sCat A (bs [45])) B) (bs [45])) C) (bs [84])) E) = bytesI A ++ [45] ++ bytesI B ++ [45] ++ bytesI C ++ [84] ++ bytesI E := by rw [bl_cat, bl_cat, hb0]; rfl
    refine T.ret ⟨rfl, ?_, ?_, by dsimp only; simp only [cat_size]; omega⟩
    · refine parse13 A1 B1 C1 E1 A3 B3 C3 E3 hb ?_
      rw [A2, B2, C2, E2]; exact hh
    · dsimp only; rw [hb]
      intro x hx
      simp only [List.mem_append, List.mem_singleton] at hx
      rcases hx with (((((hx | hx) | hx) | hx) | hx) | hx) | hx
      · exact dig_hr (A1 x hx)
      · rw [hx]; rfl
      · exact dig_hr (B1 x hx)
      · rw [hx]; rfl
      · exact dig_hr (C1 x hx)
      · rw [hx]; rfl
      · exact dig_hr (E1 x hx)
  · have hz : n % 24 = 0 := by omega
    rw [hz] at hh
    refine T.ret ⟨rfl, ?_, ?_, by dsimp only; simp only [cat_size]; omega⟩
    · refine parse10 A1 B1 C1 A3 B3 C3 hb0 ?_
      rw [A2, B2, C2]; exact hh
    · dsimp only; rw [hb0]
      intro x hx
      simp only [List.mem_append, List.mem_singleton] at hx
      rcases hx with (((hx | hx) | hx) | hx) | hx
      · exact dig_hr (A1 x hx)
      · rw [hx]; rfl
      · exact dig_hr (B1 x hx)
      · rw [hx]; rfl
      · exact dig_hr (C1 x hx)
/-- A number, written: what stands there reads back. -/
theorem dec_T (n : Int) (h0 : -17592186044416 ≤ n) (h1 : n ≤ 17592186044416) : T (m43 n) (fun y => ∃ c l, bytesI y.1 = c :: l ∧ (isDig c = true ∨ c = 45) ∧ AllD l ∧ numberL (c :: l) = (n, 0) ∧ l.length ≤ 15) := by
  have key : ∀ x : Int, 0 ≤ x → x ≤ 17592186044416 → T (m54 x 1) (fun y => ∃ c l, bytesI y.1 = c :: l ∧ AllD (c :: l) ∧ val (c :: l) = x ∧ (0 < l.length → 49 ≤ c) ∧ l.length ≤ 13) := by
    intro x hx0 hx1
    refine (digits_T x 1 hx0 (by omega) (by omega)).mono ?_
    rintro v ⟨ds, e1, e2, e3, e4, e5, e6⟩
    match ds, e4 with
    | c :: l, _ =>
      refine ⟨c, l, e1, e2, e3, fun q => e6 (by rw [List.length_cons]; omega), ?_⟩
      have := e5 14 (by omega) (by rw [show (10 : Int) ^ 14 = 100000000000000 from rfl]; omega)
      rw [List.length_cons] at this; omega
  have nl : ∀ (c : Int) (l : List Int) (x : Int), AllD (c :: l) → val (c :: l) = x → x ≤ 17592186044416 → numL (c :: l) 0 = some x := by
    intro c l x a b e
    have := numL_val (c :: l) 0 a (by omega) (by rw [Int.zero_mul]; omega)
    rw [this, Int.zero_mul, Int.zero_add, b]
  unfold m43
  refine T.cnd (fun hc => ?_) (fun hc => ?_) <;> simp only [iLt_T, iLt_F] at hc
  · have e : iNeg .i64 n = -n := by unfold iNeg; rw [wrap64 (by omega) (by omega)]; omega
    rw [e]
    refine T.call (key (-n) (by omega) (by omega)) ?_
    rintro ⟨A, _⟩ ⟨c, l, e1, e2, e3, e4, e5⟩
    dsimp only at e1 ⊢
    have sa : A.size = l.length + 1 := by rw [← bl_len, e1, List.length_cons]
    have hcd := dig_bd (e2 c (by simp))
    refine T.grd (sFits_t (by have : (bs [45]).size = 1 := rfl; omega)) (T.ret ⟨45, c :: l, ?_, .inr rfl, e2, ?_, by rw [List.length_cons]; omega⟩)
    · dsimp only; rw [bl_cat, e1]; rfl
    · have hn := nl c l (-n) e2 e3 (by omega)
      have g0 : ((45 : Int) :: c :: l).getD 0 0 = 45 := rfl
      have g1 : ((45 : Int) :: c :: l).drop 1 = c :: l := rfl
      have g2 : (c :: l).getD 0 0 = c := rfl
      have c49 : 49 ≤ c := by
        by_cases q : 0 < l.length
        · exact e4 q
        · have : l = [] := List.length_eq_zero_iff.1 (by omega)
          subst this
          rw [val_cons] at e3
          have : val [] = 0 := rfl
          have : (10 : Int) ^ ([] : List Int).length = 1 := rfl
          simp only [this] at e3
          omega
      unfold numberL
      dsimp only
      rw [g0, if_pos rfl, g1, if_neg (by simp), g2, if_neg (by omega), hn]
      simp
  · refine T.call (key n (by omega) (by omega)) ?_
    rintro ⟨A, _⟩ ⟨c, l, e1, e2, e3, e4, e5⟩
    dsimp only at e1 ⊢
    have hcd := dig_bd (e2 c (by simp))
    refine T.ret ⟨c, l, e1, .inl (e2 c (by simp)), fun x hx => e2 x (by simp [hx]), ?_, by omega⟩
    have hn := nl c l n e2 e3 (by omega)
    have g0 : (c :: l).getD 0 0 = c := rfl
    unfold numberL
    dsimp only
    have hif : (if c = 45 then (c :: l).drop 1 else c :: l) = c :: l := if_neg (by omega)
    rw [g0, hif, if_neg (by simp), g0, if_neg (by rw [List.length_cons]; rintro ⟨q1, q2 | q2⟩; omega; have := e4 (by omega); omega), hn]
    dsimp only
    rw [if_neg (by omega)]
end Abs
end Go.Proofs.YtamgbanmnededaaDoor
