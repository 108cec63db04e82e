/- Lexer: a string's bytes; numbers, tokens, Scan. -/
import Derived.Test.YtamgbanmnededaaDoorL1
namespace Go.Proofs.YtamgbanmnededaaDoor
namespace Abs
set_option linter.unusedVariables false
set_option linter.unusedSimpArgs false
def Byt (bs : List Int) : Prop := ∀ x ∈ bs, 0 ≤ x ∧ x ≤ 255
theorem bl_len (s : ByteArray) : (bytesI s).length = s.size := by simp [bytesI]
theorem bl_byt (s : ByteArray) : Byt (bytesI s) := by
  intro x hx
  unfold bytesI at hx
  obtain ⟨c, _, rfl⟩ := List.mem_map.1 hx
  have := c.toNat_lt
  omega
theorem bl_get (s : ByteArray) (k : Nat) (h : k < (bytesI s).length) : (bytesI s)[k] = sAt s (k : Int) := by
  have hk : k < s.data.size := by rw [bl_len] at h; exact h
  have hk' : k < s.size := hk
  simp only [bytesI, List.getElem_map, Array.getElem_toList]
  unfold sAt
  have e : s.data.getD (Int.toNat (k : Int)) 0 = s.data[k] := by simp [Array.getD, hk']
  rw [e]
theorem bl_at (s : ByteArray) (k : Nat) : sAt s (k : Int) = (bytesI s).getD k 0 := by
  rcases Nat.lt_or_ge k (bytesI s).length with h | h
  · rw [getD_get _ h, bl_get]
  · have hk : ¬ k < s.size := by rw [bl_len] at h; exact Nat.not_lt.2 h
    unfold sAt
    simp [Array.getD, hk, List.getD, List.getElem?_eq_none h]
theorem bl_inj {a b : ByteArray} (h : bytesI a = bytesI b) : a = b := by
  have key : ∀ (l m : List UInt8), (l.map fun c => (c.toNat : Int)) = (m.map fun c => (c.toNat : Int)) → l = m := by
    intro l
    induction l with
    | nil => intro m h; cases m with
      | nil => rfl
      | cons => cases h
    | cons x l ih =>
      intro m h
      cases m with
      | nil => cases h
      | cons y m =>
        simp only [List.map_cons, List.cons.injEq] at h
        have : x = y := UInt8.toNat_inj.1 (by omega)
        rw [this, ih m h.2]
  have := key _ _ h
  cases a; cases b
  simp at this; rw [this]
theorem bl_bsI {xs : List Int} (h : Byt xs) : bytesI (bsI xs) = xs := by
  unfold bytesI bsI
  simp only [List.map_map]
  have : ∀ x ∈ xs, ((fun c : UInt8 => (c.toNat : Int)) ∘ fun n : Int => UInt8.ofNat n.toNat) x = x := by
    intro x hx
    have := h x hx
    simp only [Function.comp, UInt8.toNat_ofNat']
    omega
  conv => rhs; rw [← List.map_id xs]
  exact List.map_congr_left fun x hx => by rw [this x hx]; rfl
theorem bsI_bl (s : ByteArray) : bsI (bytesI s) = s := bl_inj (bl_bsI (bl_byt s))
theorem bl_cat (a b : ByteArray) : bytesI (sCat a b) = bytesI a ++ bytesI b := by
  unfold bytesI sCat
  rw [← List.map_append]
  congr 1
theorem bl_cut (l u : Nat) (s : ByteArray) : bytesI (cutS (l : Int) (u : Int) s) = ((bytesI s).take u).drop l := by
  unfold bytesI cutS
  rw [← List.map_take, ← List.map_drop]
  congr 1
  show (s.extract l u).data.toList = _
  rw [ByteArray.data_extract, Array.toList_extract, List.drop_take]
theorem cut_bs (l u : Nat) (s : ByteArray) : cutS (l : Int) (u : Int) s = bsI (((bytesI s).take u).drop l) := by rw [← bl_cut, bsI_bl]
theorem span_tw (p : Int → Bool) (s : ByteArray) : ∀ (n i : Nat), i + n = s.size → spanS p s i = i + (((bytesI s).drop i).takeWhile p).length := by
  intro n
  induction n with
  | zero =>
    intro i hi
    have : i = s.size := by omega
    subst this
    rw [spanS_end, List.drop_eq_nil_of_le (by rw [bl_len]; exact Nat.le_refl _)]; rfl
  | succ n ih =>
    intro i hi
    have hlt : i < (bytesI s).length := by rw [bl_len]; omega
    rw [spanS_step p s i (by omega), List.drop_eq_getElem_cons hlt, bl_get, List.takeWhile_cons]
    by_cases hp : p (sAt s (i : Int)) = true
    · rw [if_pos hp, if_pos hp, ih (i + 1) (by omega), List.length_cons]; omega
    · rw [if_neg hp, if_neg hp]; rfl
/-- The value of digits, at most the greatest amount. -/
def numL : List Int → Int → Option Int
  | [], n => some n
  | c :: r, n => if 17592186044416 < n * 10 + (c - 48) then none else numL r (n * 10 + (c - 48))
/-- The number that digits, which a hyphen may precede, stand for. -/
def numberL (l : List Int) : Int × Int :=
  let d := if l.getD 0 0 = 45 then l.drop 1 else l
  if d = [] then (0, 5) else if d.getD 0 0 = 48 ∧ (l.getD 0 0 = 45 ∨ 1 < d.length) then (0, 5) else
  match numL d 0 with
  | none => (0, 1)
  | some n => (if l.getD 0 0 = 45 then -n else n, 0)
theorem num_loop (s : ByteArray) (ng : Bool) (hd : ∀ x ∈ bytesI s, isDig x = true) (hs : s.size ≤ 100000) : loopO (S := Bool × ByteArray × Int × Int × Int × Unit) (R := Int × Int × Unit) (fun s28 =>
 cond (iLt s28.2.2.2.2.1 s28.2.2.2.1)
 (cond (bnd s28.2.2.2.2.1 (sLen s28.2.1))
 (cond (iLt 17592186044416 (iAdd .i64 (iMul .i64 s28.2.2.1 10) (IntKind.wrap .i64 (iSub .u8 (sAt s28.2.1 s28.2.2.2.2.1) 48))))
 (some (.inr (0, 1, ())))
 (some (.inl (s28.1, s28.2.1, iAdd .i64 (iMul .i64 s28.2.2.1 10) (IntKind.wrap .i64 (iSub .u8 (sAt s28.2.1 s28.2.2.2.2.1) 48)), s28.2.2.2.1, iAdd .i64 s28.2.2.2.2.1 1, ())))) none)
 (Option.map Sum.inr (cond s28.1
 (some (iNeg .i64 s28.2.2.1, 0, ()))
 (some (s28.2.2.1, 0, ())))))
 (ng, s, 0, sLen s, 0, ()) = some (match numL (bytesI s) 0 with | none => (0, 1, ()) | some n => (if ng = true then -n else n, 0, ())) := by
  refine T.eq ?_
  have hl := sLen_eq s
  refine T.loop (fun q => ∃ (k : Nat) (n : Int), k ≤ s.size ∧ (0 ≤ n ∧ n ≤ 17592186044416) ∧ numL ((bytesI s).drop k) n = numL (bytesI s) 0 ∧ q = (ng, s, n, sLen s, (k : Int), ())) (fun q => s.size - q.2.2.2.2.1.toNat) ⟨0, 0, by omega, ⟨by omega, by omega⟩, rfl, rfl⟩ ?_
  rintro _ ⟨k, n, hk, ⟨n0, n1⟩, he, rfl⟩
  dsimp only
  rw [← he]
  refine T.cnd (fun hc => ?_) (fun hc => ?_) <;> simp only [iLt_T, iLt_F] at hc
  · have hlt : k < (bytesI s).length := by rw [bl_len]; omega
    refine T.grd (by first | (simp (disch := omega) only [iLt_T, iLt_F, iLe_T, iLe_F, iEq_T, iEq_F, iNe_T, iNe_F, bnd_T, bnd_F, inB_T, inB_F, fits_T, fitsI_T, cutOk_T, someE_T, someE_F, leN_T, not_T, not_F, and_T, and_F, or_T, or_F, candF_T, candF_F, corT_T, corT_F, bEqT_T, bEqT_F, bEqF_T, bEqF_F, eq_self, or_true, true_or, and_true, true_and, or_false, false_or, and_false, false_and, not_true_eq_false, not_false_eq_true, Bool.true_eq_false, Bool.false_eq_true, iAdd64, iSub64, iMul64, lenI_eq, List.length_append, List.length_cons, List.length_nil, List.length_set, List.length_take, List.length_drop, List.length_replicate]; omega) | (simp (disch := omega) only [iLt_T, iLt_F, iLe_T, iLe_F, iEq_T, iEq_F, iNe_T, iNe_F, bnd_T, bnd_F, inB_T, inB_F, fits_T, fitsI_T, cutOk_T, someE_T, someE_F, leN_T, not_T, not_F, and_T, and_F, or_T, or_F, candF_T, candF_F, corT_T, corT_F, bEqT_T, bEqT_F, bEqF_T, bEqF_F, eq_self, or_true, true_or, and_true, true_and, or_false, false_or, and_false, false_and, not_true_eq_false, not_false_eq_true, Bool.true_eq_false, Bool.false_eq_true, iAdd64, iSub64, iMul64, lenI_eq, List.length_append, List.length_cons, List.length_nil, List.length_set, List.length_take, List.length_drop, List.length_replicate]; done)) ?_
    have hdk := hd _ (List.getElem_mem hlt)
    rw [bl_get] at hdk
    have hdk := of_decide_eq_true hdk
    have e1 : IntKind.wrap .i64 (iSub .u8 (sAt s (k : Int)) 48) = sAt s (k : Int) - 48 := by
      have : iSub .u8 (sAt s (k : Int)) 48 = sAt s (k : Int) - 48 := wrap8 (by omega) (by omega)
      rw [this]; exact wrap64 (by omega) (by omega)
    have e2 : iAdd .i64 (iMul .i64 n 10) (sAt s (k : Int) - 48) = n * 10 + (sAt s (k : Int) - 48) := by rw [iMul64 (by omega) (by omega), iAdd64 (by omega) (by omega)]
    rw [e1, e2]
    rw [List.drop_eq_getElem_cons hlt, bl_get]
    simp only [numL]
    refine T.cnd (fun hq => T.out ?_) (fun hq => ?_) <;> simp only [iLt_T, iLt_F] at hq
    · rw [if_pos hq]
    · rw [if_neg (by omega)]
      refine T.go ⟨k + 1, n * 10 + (sAt s (k : Int) - 48), by omega, ⟨by omega, by omega⟩, ?_, by rw [iAdd64 (by omega) (by omega)]; rfl⟩ (by dsimp only; rw [iAdd64 (by omega) (by omega)]; omega)
      rfl
  · refine T.mapL ?_
    rw [List.drop_eq_nil_of_le (by rw [bl_len]; omega)]
    simp only [numL]
    cases ng with
    | true => exact T.ct rfl (T.ret (by rw [iNeg64 (by omega) (by omega)]; rfl))
    | false => exact T.cf rfl (T.ret rfl)
theorem sEq_nil (s : ByteArray) : sEq s (bs []) = decide (bytesI s = []) := by
  rw [Bool.eq_iff_iff, sEq_T, decide_eq_true_eq]
  constructor
  · intro h; rw [h]; rfl
  · intro h; exact bl_inj (by rw [h]; rfl)
theorem number_m (s : ByteArray) (hs : s.size ≤ 100000) (h0 : 0 < s.size) (h1 : isDig (sAt s 0) = true ∨ sAt s 0 = 45) (hd : ∀ x ∈ (bytesI s).drop 1, isDig x = true) : m47 s = some ((numberL (bytesI s)).1, (numberL (bytesI s)).2, ()) := by
  have hl := sLen_eq s
  have hb0 : (bytesI s).getD 0 0 = sAt s 0 := (bl_at s 0).symm
  unfold m47 numberL
  rw [bnd_t (by omega) (by omega)]
  simp only [cond_true]
  by_cases hn : sAt s 0 = 45
  · rw [iEq_t hn]
    simp only [cond_true, hb0, hn, if_true, true_or, and_true]
    rw [cutOk_t (by omega) (by omega) (by omega)]
    have hc : bytesI (cutS 1 ((ByteArray.size s : Nat) : Int) s) = (bytesI s).drop 1 := by
      have := bl_cut 1 s.size s
      rw [List.take_of_length_le (by rw [bl_len]; exact Nat.le_refl _)] at this
      exact this
    have hcl : (cutS 1 ((ByteArray.size s : Nat) : Int) s).size = s.size - 1 := by rw [← bl_len, hc, List.length_drop, bl_len]
    have hc0 : sAt (cutS 1 ((ByteArray.size s : Nat) : Int) s) 0 = ((bytesI s).drop 1).getD 0 0 := by rw [← hc]; exact bl_at _ 0
    generalize cutS 1 ((ByteArray.size s : Nat) : Int) s = t at hc hcl hc0
    rw [sEq_nil, hc, hc0]
    by_cases he : (bytesI s).drop 1 = []
    · rw [if_pos he, decide_eq_true he]
      have e0 : (bnd 0 (sLen t) || !bEq true false) = true := by cases bnd 0 (sLen t) <;> rfl
      rw [e0]; rfl
    · have hlen : 0 < ((bytesI s).drop 1).length := by
        cases hq : (bytesI s).drop 1 with
        | nil => exact absurd hq he
        | cons => simp
      rw [List.length_drop, bl_len] at hlen
      rw [if_neg he, decide_eq_false he, bnd_t (by omega) (by rw [sLen_eq]; omega)]
      simp only [cond_true, cond_false, Bool.true_or]
      have hloop := num_loop t true (by rw [hc]; exact hd) (by omega)
      rw [hc] at hloop
      by_cases h48 : ((bytesI s).drop 1).getD 0 0 = 48
      · rw [if_pos h48, iEq_t h48]; rfl
      · rw [if_neg h48, iEq_f h48]
        simp only [cond_false]
        rw [hloop]
        cases numL ((bytesI s).drop 1) 0 <;> rfl
  · rw [iEq_f hn]
    have hdig := h1.resolve_right hn
    have hne : bytesI s ≠ [] := by
      intro q
      have := bl_len s
      rw [q] at this; simp at this; omega
    simp only [cond_false, hb0, hn, if_false, false_or]
    rw [sEq_nil, if_neg hne, decide_eq_false hne]
    simp only [Bool.true_or, cond_true, cond_false]
    have hall : ∀ x ∈ bytesI s, isDig x = true := by
      intro x hx
      cases hq : bytesI s with
      | nil => exact absurd hq hne
      | cons c r =>
        rw [hq] at hx hd hb0
        rcases List.mem_cons.1 hx with rfl | hx
        · have : x = sAt s 0 := by simpa using hb0
          rw [this]; exact hdig
        · exact hd x (by simpa using hx)
    have hloop := num_loop s false hall hs
    by_cases h48 : sAt s 0 = 48
    · rw [iEq_t h48]
      simp only [cond_true]
      by_cases hlen : 1 < (bytesI s).length
      · rw [if_pos ⟨h48, hlen⟩, iLt_t (by rw [bl_len] at hlen; omega)]; rfl
      · rw [if_neg (fun q => hlen q.2), iLt_f (by rw [bl_len] at hlen; omega)]
        simp only [cond_false]
        rw [hloop]
        cases numL (bytesI s) 0 <;> rfl
    · rw [iEq_f h48, if_neg (fun q => h48 q.1)]
      simp only [cond_false]
      rw [hloop]
      cases numL (bytesI s) 0 <;> rfl
end Abs
end Go.Proofs.YtamgbanmnededaaDoor
