/- Schema: bytes, digits (turned from chapter 05). -/
import Derived.Test.YtgkijjppdaeikaaDoorS1
namespace Go.Proofs.YtgkijjppdaeikaaDoor
namespace Abs
set_option linter.unusedVariables false
set_option linter.unusedSimpArgs false
def Byt (bs : List Int) : Prop := ∀ x ∈ bs, 0 ≤ x ∧ x ≤ 255
theorem bl_len (s : ByteArray) : (bytesI s).length = s.size := by simp [bytesI]
theorem bl_byt (s : ByteArray) : Byt (bytesI s) := by
  intro x hx
  unfold bytesI at hx
  obtain ⟨c, _, rfl⟩ := List.mem_map.1 hx
  have := c.toNat_lt
  omega
theorem bl_get (s : ByteArray) (k : Nat) (h : k < (bytesI s).length) : (bytesI s)[k] = sAt s (k : Int) := by
  have hk : k < s.data.size := by rw [bl_len] at h; exact h
  have hk' : k < s.size := hk
  simp only [bytesI, List.getElem_map, Array.getElem_toList]
  unfold sAt
  have e : s.data.getD (Int.toNat (k : Int)) 0 = s.data[k] := by simp [Array.getD, hk']
  rw [e]
theorem bl_at (s : ByteArray) (k : Nat) : sAt s (k : Int) = (bytesI s).getD k 0 := by
  rcases Nat.lt_or_ge k (bytesI s).length with h | h
  · rw [getD_get _ h, bl_get]
  · have hk : ¬ k < s.size := by rw [bl_len] at h; exact Nat.not_lt.2 h
    unfold sAt
    simp [Array.getD, hk, List.getD, List.getElem?_eq_none h]
theorem bl_inj {a b : ByteArray} (h : bytesI a = bytesI b) : a = b := by
  have key : ∀ (l m : List UInt8), (l.map fun c => (c.toNat : Int)) = (m.map fun c => (c.toNat : Int)) → l = m := by
    intro l
    induction l with
    | nil => intro m h; cases m with
      | nil => rfl
      | cons => cases h
    | cons x l ih =>
      intro m h
      cases m with
      | nil => cases h
      | cons y m =>
        simp only [List.map_cons, List.cons.injEq] at h
        have : x = y := UInt8.toNat_inj.1 (by omega)
        rw [this, ih m h.2]
  have := key _ _ h
  cases a; cases b
  simp at this; rw [this]
theorem bl_bsI {xs : List Int} (h : Byt xs) : bytesI (bsI xs) = xs := by
  unfold bytesI bsI
  simp only [List.map_map]
  have : ∀ x ∈ xs, ((fun c : UInt8 => (c.toNat : Int)) ∘ fun n : Int => UInt8.ofNat n.toNat) x = x := by
    intro x hx
    have := h x hx
    simp only [Function.comp, UInt8.toNat_ofNat']
    omega
  conv => rhs; rw [← List.map_id xs]
  exact List.map_congr_left fun x hx => by rw [this x hx]; rfl
theorem bsI_bl (s : ByteArray) : bsI (bytesI s) = s := bl_inj (bl_bsI (bl_byt s))
theorem bl_cat (a b : ByteArray) : bytesI (sCat a b) = bytesI a ++ bytesI b := by
  unfold bytesI sCat
  rw [← List.map_append]
  congr 1
theorem bl_cut (l u : Nat) (s : ByteArray) : bytesI (cutS (l : Int) (u : Int) s) = ((bytesI s).take u).drop l := by
  unfold bytesI cutS
  rw [← List.map_take, ← List.map_drop]
  congr 1
  show (s.extract l u).data.toList = _
  rw [ByteArray.data_extract, Array.toList_extract, List.drop_take]
theorem cut_bs (l u : Nat) (s : ByteArray) : cutS (l : Int) (u : Int) s = bsI (((bytesI s).take u).drop l) := by rw [← bl_cut, bsI_bl]
theorem span_tw (p : Int → Bool) (s : ByteArray) : ∀ (n i : Nat), i + n = s.size → spanS p s i = i + (((bytesI s).drop i).takeWhile p).length := by
  intro n
  induction n with
  | zero =>
    intro i hi
    have : i = s.size := by omega
    subst this
    rw [spanS_end, List.drop_eq_nil_of_le (by rw [bl_len]; exact Nat.le_refl _)]; rfl
  | succ n ih =>
    intro i hi
    have hlt : i < (bytesI s).length := by rw [bl_len]; omega
    rw [spanS_step p s i (by omega), List.drop_eq_getElem_cons hlt, bl_get, List.takeWhile_cons]
    by_cases hp : p (sAt s (i : Int)) = true
    · rw [if_pos hp, if_pos hp, ih (i + 1) (by omega), List.length_cons]; omega
    · rw [if_neg hp, if_neg hp]; rfl
theorem sEq_nil (s : ByteArray) : sEq s (bs []) = decide (bytesI s = []) := by
  rw [Bool.eq_iff_iff, sEq_T, decide_eq_true_eq]
  constructor
  · intro h; rw [h]; rfl
  · intro h; exact bl_inj (by rw [h]; rfl)



theorem sEq_dec (a b : ByteArray) : sEq a b = decide (bytesI a = bytesI b) := by
  rcases h : sEq a b with _ | _
  · rw [sEq_F] at h; symm; rw [decide_eq_false_iff_not]; exact fun q => h (bl_inj q)
  · rw [sEq_T] at h; subst h; symm; rw [decide_eq_true_eq]
theorem bEq_self (a : Bool) : bEq a a = true := by cases a <;> rfl
theorem cat_size (a b : ByteArray) : (sCat a b).size = a.size + b.size := by unfold sCat; rw [ByteArray.size_append]
theorem bl_sz {s : ByteArray} {l : List Int} (h : bytesI s = l) : s.size = l.length := by rw [← h, bl_len]
theorem bsI_size (l : List Int) : (bsI l).size = l.length := by show (l.map _).toArray.size = _; simp
theorem sFits_t {a b : ByteArray} (h : a.size + b.size ≤ 9223372036854775807) : sFits a b = true := by unfold sFits; rw [decide_eq_true_eq]; exact h
theorem rem_pos {a b : Int} (h : 0 ≤ a) : iRem a b = a % b := by unfold iRem; rw [Int.tmod_eq_emod_of_nonneg h]
def val (ds : List Int) : Int := ds.foldl (fun a c => a * 10 + (c - 48)) 0
def AllD (ds : List Int) : Prop := ∀ x ∈ ds, isDig x = true
theorem dig_bd {c : Int} (h : isDig c = true) : 48 ≤ c ∧ c ≤ 57 := of_decide_eq_true h
theorem p10 (n : Nat) : (1 : Int) ≤ 10 ^ n := Int.pow_pos (by decide)
theorem fold_val (ds : List Int) : ∀ a : Int, ds.foldl (fun a c => a * 10 + (c - 48)) a = a * 10 ^ ds.length + val ds := by
  unfold val
  induction ds with
  | nil => intro a; simp
  | cons c ds ih =>
    intro a
    rw [List.foldl_cons, ih, List.foldl_cons, ih (0 * 10 + (c - 48)), List.length_cons, Int.pow_succ, Int.zero_mul, Int.zero_add, Int.add_mul, Int.add_assoc, Int.mul_assoc, Int.mul_comm 10]
theorem val_cons (c : Int) (ds : List Int) : val (c :: ds) = (c - 48) * 10 ^ ds.length + val ds := by
  unfold val; rw [List.foldl_cons, fold_val]; unfold val; rw [Int.zero_mul, Int.zero_add]
theorem val_snoc (ds : List Int) (c : Int) : val (ds ++ [c]) = val ds * 10 + (c - 48) := by
  unfold val; rw [List.foldl_append]; rfl
theorem val_bd : ∀ ds : List Int, AllD ds → 0 ≤ val ds ∧ val ds < 10 ^ ds.length := by
  intro ds
  induction ds with
  | nil => intro _; exact ⟨by decide, by decide⟩
  | cons c ds ih =>
    intro h
    have h1 := ih fun x hx => h x (by simp [hx])
    have h2 := dig_bd (h c (by simp))
    have hp := p10 ds.length
    rw [val_cons, List.length_cons, Int.pow_succ]
    generalize (10 : Int) ^ ds.length = p at *
    have a1 : 0 ≤ (c - 48) * p := Int.mul_nonneg (by omega) (by omega)
    have a2 : (c - 48) * p ≤ 9 * p := Int.mul_le_mul_of_nonneg_right (by omega) (by omega)
    omega
theorem bl_cons {c : Int} (h : 0 ≤ c ∧ c ≤ 255) (s : ByteArray) : bytesI (sCat (bsI [c]) s) = c :: bytesI s := by
  rw [bl_cat, bl_bsI (fun x hx => by rw [List.mem_singleton.1 hx]; exact h)]; rfl
theorem digits_T (n k : Int) (h : 0 ≤ n) (hn : n ≤ 100000000000000000) (hk : 1 ≤ k ∧ k ≤ 4) : T (m52 n k) (fun y => ∃ ds, bytesI y.1 = ds ∧ AllD ds ∧ val ds = n ∧ k ≤ (ds.length : Int) ∧ (∀ j : Nat, k ≤ (j : Int) → n < 10 ^ j → ds.length ≤ j) ∧ (k < (ds.length : Int) → 49 ≤ ds.getD 0 0)) := by
  unfold m52
  refine T.loop (fun q => ∃ (x : Int) (s : ByteArray), 0 ≤ x ∧ AllD (bytesI s) ∧ x * 10 ^ (bytesI s).length + val (bytesI s) = n ∧ (∀ j : Nat, k ≤ (j : Int) → n < 10 ^ j → (bytesI s).length ≤ j) ∧ (k < ((bytesI s).length : Int) → 0 < x ∨ 49 ≤ (bytesI s).getD 0 0) ∧ q = (x, k, s, ())) (fun q => q.1.toNat + (k - (q.2.2.1.size : Int)).toNat) ⟨n, bs [], h, fun x hx => (by cases hx), by show n * 1 + 0 = n; omega, fun j _ _ => Nat.zero_le _, fun q => by exfalso; have : ((bytesI (bs [])).length : Int) = 0 := rfl; omega, rfl⟩ ?_
  rintro _ ⟨x, s, x0, hd, hv, hj, hh, rfl⟩
  dsimp only
  have hsz := bl_len s
  have vb := val_bd _ hd
  have hp := p10 (bytesI s).length
  have hx1 : x * 1 ≤ x * 10 ^ (bytesI s).length := Int.mul_le_mul_of_nonneg_left hp x0
  refine T.cnd (fun hc => ?_) (fun hc => ?_) <;> simp only [corT_T, corT_F, iLt_T, iLt_F, sLen_eq] at hc
  · refine T.grd rfl ?_
    have e : IntKind.wrap .u8 (iAdd .i64 48 (iRem x 10)) = 48 + x % 10 := by rw [rem_pos x0, iAdd64 (by omega) (by omega), wrap8 (by omega) (by omega)]
    have e2 : iQuo .i64 x 10 = x / 10 := by unfold iQuo; rw [Int.tdiv_eq_ediv_of_nonneg x0, wrap64 (by omega) (by omega)]
    rw [e, e2]
    have hs1 : (bsI [48 + x % 10]).size = 1 := rfl
    have hl19 : (bytesI s).length ≤ 19 := hj 19 (by omega) (by rw [show (10 : Int) ^ 19 = 10000000000000000000 from rfl]; omega)
    refine T.grd (sFits_t (by omega)) ?_
    refine T.grd rfl ?_
    have hb := bl_cons (c := 48 + x % 10) (by omega) s
    have hdig : isDig (48 + x % 10) = true := by unfold isDig; rw [decide_eq_true_eq]; omega
    refine T.go ⟨x / 10, _, by omega, ?_, ?_, ?_, ?_, rfl⟩ (by dsimp only; rw [cat_size]; omega)
    · rw [hb]; intro y hy; rcases List.mem_cons.1 hy with rfl | hy
      · exact hdig
      · exact hd y hy
    · rw [hb, List.length_cons, val_cons, Int.pow_succ]
      generalize (10 : Int) ^ (bytesI s).length = p at *
      rw [show (48 + x % 10 - 48 : Int) = x % 10 by omega, Int.mul_comm p 10, ← Int.mul_assoc, ← Int.add_assoc, ← Int.add_mul, show x / 10 * 10 + x % 10 = x by omega]
      exact hv
    · intro j h1 h2
      rw [hb, List.length_cons]
      rcases Int.lt_or_le 0 x with q | q
      · have hx2 : 1 * 10 ^ (bytesI s).length ≤ x * 10 ^ (bytesI s).length := Int.mul_le_mul_of_nonneg_right (by omega) (by omega)
        have : ¬ j ≤ (bytesI s).length := fun hle => by
          have : (10 : Int) ^ j ≤ 10 ^ (bytesI s).length := by
            obtain ⟨t, ht⟩ : ∃ t, (bytesI s).length = j + t := ⟨_, (Nat.add_sub_cancel' hle).symm⟩
            rw [ht, Int.pow_add]
            have := Int.mul_le_mul_of_nonneg_left (p10 t) (show (0 : Int) ≤ 10 ^ j by have := p10 j; omega)
            omega
          omega
        omega
      · omega
    · intro q
      rw [hb, List.length_cons] at q
      rw [hb]
      show 0 < x / 10 ∨ 49 ≤ 48 + x % 10
      omega
  · refine T.out ⟨bytesI s, rfl, hd, ?_, by omega, hj, fun q => ?_⟩
    · obtain rfl : x = 0 := by omega
      omega
    · rcases hh q with q | q
      · omega
      · exact q
theorem digits_fix (n : Int) (k : Nat) (h : 0 ≤ n) (hn : n < 10 ^ k) (hk : 1 ≤ k ∧ k ≤ 4) : T (m52 n (k : Int)) (fun y => ∃ ds, bytesI y.1 = ds ∧ AllD ds ∧ val ds = n ∧ ds.length = k) := by
  have : (10 : Int) ^ k ≤ 10000 := by
    have : k = 1 ∨ k = 2 ∨ k = 3 ∨ k = 4 := by omega
    rcases this with rfl | rfl | rfl | rfl <;> decide
  refine (digits_T n k h (by omega) (by omega)).mono ?_
  rintro v ⟨ds, h1, h2, h3, h4, h5, h6⟩
  exact ⟨ds, h1, h2, h3, by have := h5 k (by omega) hn; omega⟩



end Abs
end Go.Proofs.YtgkijjppdaeikaaDoor
