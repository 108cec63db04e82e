/- Codec: the number at the beginning of bytes. -/
import Derived.Test.YtbghnjkieghloaaC1
namespace Go.Proofs.Ytbghnjkieghloaa
namespace Abs
set_option linter.unusedVariables false
set_option linter.unusedSimpArgs false
def Byt (bs : List Int) : Prop := ∀ x ∈ bs, 0 ≤ x ∧ x ≤ 255
/-- Bytes with the high bit ahead. -/
def tw : List Int → Nat
  | [] => 0
  | b :: r => if 128 ≤ b then tw r + 1 else 0
def val : List Int → Nat
  | [] => 0
  | b :: r => b.toNat % 128 + 128 * val r
def dz (u : Nat) : Int := if u % 2 = 1 then -((u / 2 : Nat) : Int) - 1 else ((u / 2 : Nat) : Int)
/-- What Number answers. -/
def numS (bs : List Int) : Int × Int × Int × Unit :=
  if 10 ≤ tw bs ∨ tw bs = bs.length then (0, 0, 5, ()) else if 0 < tw bs ∧ bs.getD (tw bs) 0 = 0 then (0, 0, 5, ())
  else if 35184372088832 < val (bs.take (tw bs + 1)) then (0, 0, 1, ()) else (dz (val (bs.take (tw bs + 1))), ((tw bs + 1 : Nat) : Int), 0, ())
theorem tw_le : ∀ bs, tw bs ≤ bs.length := by
  intro bs
  induction bs with
  | nil => exact Nat.le_refl _
  | cons b r ih => simp only [tw]; split <;> simp <;> omega
theorem tw_hi : ∀ (bs : List Int) (k : Nat) (h : k < tw bs) (h' : k < bs.length), 128 ≤ bs[k] := by
  intro bs
  induction bs with
  | nil => intro k h; simp [tw] at h
  | cons b r ih =>
    intro k h h'
    simp only [tw] at h
    split at h
    · cases k with
      | zero => assumption
      | succ k => exact ih k (by omega) (by simpa using h')
    · omega
theorem tw_end : ∀ (bs : List Int) (h : tw bs < bs.length), bs[tw bs] < 128 := by
  intro bs
  induction bs with
  | nil => intro h; simp at h
  | cons b r ih =>
    intro h
    by_cases hb : 128 ≤ b
    · have e : tw (b :: r) = tw r + 1 := by simp [tw, hb]
      have h2 : tw r < r.length := by rw [e] at h; simpa using h
      have := ih h2
      simp only [e, List.getElem_cons_succ]
      exact this
    · have e : tw (b :: r) = 0 := by simp [tw, hb]
      simp only [e, List.getElem_cons_zero]
      omega
theorem val_drop (l : List Int) (k : Nat) (h : k < l.length) : val (l.drop k) = l[k].toNat % 128 + 128 * val (l.drop (k + 1)) := by
  rw [List.drop_eq_getElem_cons h]; rfl
theorem val_le (l : List Int) (k : Nat) : val (l.drop k) ≤ val l := by
  induction k with
  | zero => simp
  | succ k ih =>
    rcases Nat.lt_or_ge k l.length with h | h
    · have := val_drop l k h; omega
    · rw [List.drop_eq_nil_of_le (by omega)]; simp [val]
theorem val_lt (l : List Int) : val l < 128 ^ l.length := by
  induction l with
  | nil => simp [val]
  | cons b r ih =>
    simp only [val, List.length_cons, Nat.pow_succ]
    have := Nat.mod_lt b.toNat (show 128 > 0 by omega)
    omega
theorem val_ge : ∀ (l : List Int) (i : Nat) (h : i < l.length), 128 ^ i * (l[i].toNat % 128) ≤ val l := by
  intro l
  induction l with
  | nil => intro i h; simp at h
  | cons b r ih =>
    intro i h
    cases i with
    | zero => simp [val]
    | succ i =>
      have hir : i < r.length := by simpa using h
      have := ih i hir
      simp only [List.getElem_cons_succ, val, Nat.pow_succ]
      have e : 128 ^ i * 128 * (r[i].toNat % 128) = 128 * (128 ^ i * (r[i].toNat % 128)) := by
        rw [Nat.mul_comm (128 ^ i) 128, Nat.mul_assoc]
      omega
set_option maxRecDepth 10000 in
theorem and128n : ∀ b : Nat, b < 256 → (b &&& 128 = if b < 128 then 0 else 128) := by decide
theorem and128 {b : Int} (h : 0 ≤ b ∧ b ≤ 255) : iNe (iAnd .u8 b 128) 0 = decide (128 ≤ b) := by
  obtain ⟨n, rfl⟩ := Int.eq_ofNat_of_zero_le h.1
  have e : iAnd .u8 ((n : Nat) : Int) 128 = ((n &&& 128 : Nat) : Int) := and_u8 n 128 (by omega) (by omega)
  rw [e, and128n n (by omega)]
  by_cases hn : n < 128
  · rw [if_pos hn, iNe_f (show ((0 : Nat) : Int) = 0 from rfl), decide_eq_false (by omega)]
  · rw [if_neg hn, iNe_t (by decide), decide_eq_true (by omega)]
theorem and127i {b : Int} (h : 0 ≤ b ∧ b ≤ 255) : IntKind.wrap .u64 (iAnd .u8 b 127) = ((b.toNat % 128 : Nat) : Int) := by
  obtain ⟨n, rfl⟩ := Int.eq_ofNat_of_zero_le h.1
  have e : iAnd .u8 ((n : Nat) : Int) 127 = ((n &&& 127 : Nat) : Int) := and_u8 n 127 (by omega) (by omega)
  rw [e, and127, u64_in (by omega) (by omega)]; rfl
theorem step7 (u c : Nat) (hu : u < 144115188075855872) (hc : c < 128) : iOr .u64 (iShl .u64 (u : Int) 7) (c : Int) = ((c + 128 * u : Nat) : Int) := by
  have e : iShl .u64 (u : Int) 7 = ((128 * u : Nat) : Int) := by
    show IntKind.wrap .u64 ((u : Int) * 2 ^ 7) = _
    rw [u64_in (by omega) (by omega)]; omega
  rw [e, or_u64 _ _ (by omega) (by omega)]
  have := Nat.two_pow_add_eq_or_of_lt (i := 7) (b := c) hc u
  have h2 : 128 * u + c = 128 * u ||| c := this
  rw [← h2]; omega
theorem and1 (u : Nat) (hu : u < 18446744073709551616) : iAnd .u64 (u : Int) 1 = ((u % 2 : Nat) : Int) := by
  rw [show (1 : Int) = ((1 : Nat) : Int) from rfl, and_u64 u 1 hu (by omega), Nat.and_one_is_mod]
theorem shr1 (u : Nat) : iShr .u64 (u : Int) 1 = ((u / 2 : Nat) : Int) := by
  show (u : Int).fdiv (2 ^ 1) = _
  rw [Int.fdiv_eq_ediv_of_nonneg _ (by omega)]; omega
theorem take_get (bs : List Int) (i k : Nat) (h : k < i + 1) (hb : i < bs.length) : (bs.take (i + 1)).length = i + 1 ∧ ∀ h', (bs.take (i + 1))[k]'h' = bs[k]'(by omega) := by
  refine ⟨by rw [List.length_take]; omega, fun h' => by rw [List.getElem_take]⟩
/-- The bytes' number, as the codec reads it. -/
theorem inner_m (bs : List Int) (i : Nat) (hB : Byt bs) (hi : i < bs.length) (hl : bs.length ≤ 140737488356000) : loopO (S := (List Int) × Int × Int × Int × Unit) (R := Int × Int × Int × Unit) (fun s34 =>
          cond (iLe 0 s34.2.2.2.1)
          (cond (iLe 144115188075855872 s34.2.2.1)
           (some (.inr (0, 0, 1, ())))
           (cond (iLe 0 7)
            (cond (bnd s34.2.2.2.1 (lenI s34.1))
             (some (.inl (s34.1, s34.2.1, iOr .u64 (iShl .u64 s34.2.2.1 7) (IntKind.wrap .u64 (iAnd .u8 (atI s34.1 s34.2.2.2.1 0) 127)), iSub .i64 s34.2.2.2.1 1, ()))) none) none))
          (Option.map Sum.inr (cond (iLt 35184372088832 s34.2.2.1)
            (some (0, 0, 1, ()))
            (cond (iLe 0 1)
             (cond (iNe (iAnd .u64 s34.2.2.1 1) 0)
              (some (iSub .i64 (iNeg .i64 (IntKind.wrap .i64 (iShr .u64 s34.2.2.1 1))) 1, s34.2.1, 0, ()))
              (some (IntKind.wrap .i64 (iShr .u64 s34.2.2.1 1), s34.2.1, 0, ()))) none))))
         (bs, ((i + 1 : Nat) : Int), 0, (i : Int), ()) = some (if 35184372088832 < val (bs.take (i + 1)) then (0, 0, 1, ()) else (dz (val (bs.take (i + 1))), ((i + 1 : Nat) : Int), 0, ())) := by
  have hlen : (bs.take (i + 1)).length = i + 1 := by rw [List.length_take]; omega
  generalize hL : bs.take (i + 1) = l at *
  refine loop_goal (fun o => o = some (if 35184372088832 < val l then (0, 0, 1, ()) else (dz (val l), ((i + 1 : Nat) : Int), 0, ()))) (fun s => ∃ k : Nat, k ≤ i + 1 ∧ val (l.drop k) < 18446744073709551616 ∧ s = (bs, ((i + 1 : Nat) : Int), ((val (l.drop k) : Nat) : Int), (k : Int) - 1, ())) (fun s => (s.2.2.2.1 + 1).toNat) ?_ _ ⟨i + 1, Nat.le_refl _, ?_, ?_⟩
  · rintro _ ⟨k, hk, hv, rfl⟩
    have hle := val_le l k
    cases k with
    | zero =>
      right
      rw [List.drop_zero] at hv
      refine ⟨_, ?_, rfl⟩
      dsimp only
      rw [iLe_f (by omega)]
      simp only [cond_false, List.drop_zero]
      apply map_inr
      by_cases hu : 35184372088832 < val l
      · rw [iLt_t (by omega), if_pos hu]; rfl
      · rw [iLt_f (by omega), if_neg hu, iLe_t (by omega), and1 _ (by omega), shr1, wrap64 (by omega) (by omega)]
        simp only [cond_false, cond_true]
        unfold dz
        by_cases ho : val l % 2 = 1
        · rw [iNe_t (by omega), if_pos ho, iNeg64 (by omega) (by omega), iSub64 (by omega) (by omega)]; rfl
        · rw [iNe_f (by omega), if_neg ho]; rfl
    | succ k =>
      dsimp only
      rw [iLe_t (by omega)]
      simp only [cond_true]
      by_cases hu : 144115188075855872 ≤ val (l.drop (k + 1))
      · right
        refine ⟨(0, 0, 1, ()), ?_, by rw [if_pos (by omega)]⟩
        rw [iLe_t (by omega)]; rfl
      · left
        have hkb : k < bs.length := by omega
        have hkl : k < l.length := by omega
        have hg : l[k] = bs[k] := by subst hL; rw [List.getElem_take]
        have hbk := hB bs[k] (List.getElem_mem _)
        have hvd := val_drop l k hkl
        rw [hg] at hvd
        have hm := Nat.mod_lt bs[k].toNat (show 128 > 0 by omega)
        have e1 : ((k + 1 : Nat) : Int) - 1 = (k : Int) := by omega
        refine ⟨(bs, ((i + 1 : Nat) : Int), ((val (l.drop k) : Nat) : Int), (k : Int) - 1, ()), ?_, ⟨k, by omega, by omega, rfl⟩, ?_⟩
        · rw [iLe_f (by omega), iLe_t (by omega), e1, bnd_t (by omega) (by rw [lenI_eq]; omega), atI_get _ hkb, and127i hbk, step7 _ _ (by omega) hm, iSub64 (by omega) (by omega), hvd]; rfl
        · dsimp only; omega
  · rw [List.drop_eq_nil_of_le (by omega)]; simp [val]
  · rw [List.drop_eq_nil_of_le (by omega)]
    simp only [val]
    congr 4
    omega
theorem dec_m (bs : List Int) (hB : Byt bs) (hl : bs.length ≤ 140737488356000) : m16 bs = some (numS bs) := by
  have hle := tw_le bs
  unfold m16
  refine loop_to (fun k => (bs, (k : Int), ())) (min (tw bs) 10) (fun k hk => ?_) ?_
  · dsimp only
    have hkb : k < bs.length := by omega
    rw [bnd_t (by omega) (by rw [lenI_eq]; omega), iLt_t (by rw [lenI_eq]; omega), iLt_t (by omega), atI_get _ hkb, and128 (hB _ (List.getElem_mem _)), decide_eq_true (tw_hi bs k (by omega) hkb), iAdd64 (by omega) (by omega)]; rfl
  · dsimp only
    generalize hi : min (tw bs) 10 = i
    have hg : (or (bnd (i : Int) (lenI bs)) (not (bEq (cond (iLt (i : Int) (lenI bs)) (iLt (i : Int) 10) false) true))) = true := by
      by_cases h : i < bs.length
      · rw [bnd_t (by omega) (by rw [lenI_eq]; omega)]; rfl
      · rw [iLt_f (by rw [lenI_eq]; omega)]; simp [bEq]
    rw [hg]
    simp only [cond_true]
    unfold numS
    by_cases h1 : 10 ≤ tw bs ∨ tw bs = bs.length
    · rw [if_pos h1]
      have hc : (cond (cond (iLt (i : Int) (lenI bs)) (iLt (i : Int) 10) false) (iNe (iAnd .u8 (atI bs (i : Int) 0) 128) 0) false) = false := by
        by_cases h : i < bs.length
        · rw [iLt_f (show (10 : Int) ≤ i by omega)]; cases iLt (i : Int) (lenI bs) <;> rfl
        · rw [iLt_f (by rw [lenI_eq]; omega)]; rfl
      rw [hc]
      simp only [cond_false]
      apply map_inr
      by_cases h : i = bs.length
      · rw [iEq_t (by rw [lenI_eq]; omega)]; rfl
      · rw [iEq_f (by rw [lenI_eq]; omega), iEq_t (by omega)]; rfl
    · rw [if_neg h1]
      have hit : i = tw bs := by omega
      subst hit
      have hib : tw bs < bs.length := by omega
      have hend := tw_end bs hib
      have hc : (cond (cond (iLt ((tw bs : Nat) : Int) (lenI bs)) (iLt ((tw bs : Nat) : Int) 10) false) (iNe (iAnd .u8 (atI bs ((tw bs : Nat) : Int) 0) 128) 0) false) = false := by
        rw [iLt_t (by rw [lenI_eq]; omega), iLt_t (by omega), atI_get _ hib, and128 (hB _ (List.getElem_mem _)), decide_eq_false (by omega)]; rfl
      rw [hc]
      simp only [cond_false]
      apply map_inr
      rw [iEq_f (by rw [lenI_eq]; omega), iEq_f (by omega)]
      simp only [cond_false]
      rw [bnd_t (by omega) (by rw [lenI_eq]; omega), atI_get _ hib]
      have hor : or true (not (bEq (iLt 0 ((tw bs : Nat) : Int)) true)) = true := rfl
      rw [hor]
      simp only [cond_true]
      rw [getD_get _ hib]
      by_cases h2 : 0 < tw bs ∧ bs[tw bs] = 0
      · rw [if_pos h2, iLt_t (by omega), iEq_t h2.2]; rfl
      · rw [if_neg h2]
        have hc2 : (cond (iLt 0 ((tw bs : Nat) : Int)) (iEq bs[tw bs] 0) false) = false := by
          by_cases h3 : 0 < tw bs
          · rw [iLt_t (by omega), iEq_f (fun q => h2 ⟨h3, q⟩)]; rfl
          · rw [iLt_f (by omega)]; rfl
        rw [hc2]
        simp only [cond_false]
        rw [iAdd64 (by omega) (by omega), iSub64 (by omega) (by omega)]
        have e1 : ((tw bs : Nat) : Int) + 1 = ((tw bs + 1 : Nat) : Int) := by omega
        have e2 : ((tw bs : Nat) : Int) + 1 - 1 = ((tw bs : Nat) : Int) := by omega
        rw [e2, e1]
        exact inner_m bs (tw bs) hB hib hl
theorem dz_ok (u : Nat) (hu : u < 1125899906842624) : vAmt (dz u) = decide (u ≤ 35184372088832) := by
  unfold vAmt dz
  by_cases ho : u % 2 = 1
  · rw [if_pos ho]; apply decide_eq_decide.2; omega
  · rw [if_neg ho]; apply decide_eq_decide.2; omega
theorem inner_r (bs : List Int) (i : Nat) (hB : Byt bs) (hi : i < bs.length) (h7 : i + 1 ≤ 7) (hl : bs.length ≤ 140737488356000) : loopO (S := (List Int) × Int × Int × Int × Unit) (R := Int × Int × Int × Unit) (fun s155 =>
           cond (iLe 0 s155.2.2.2.1)
           (cond (bnd s155.2.2.2.1 (lenI s155.1))
            (cond (iNe 128 0)
             (some (.inl (s155.1, s155.2.1, iAdd .i64 (iMul .i64 128 s155.2.2.1) (IntKind.wrap .i64 (iRem (atI s155.1 s155.2.2.2.1 0) 128)), iSub .i64 s155.2.2.2.1 1, ()))) none) none)
           (Option.map Sum.inr (cond (iNe 2 0)
             (cond (iNe 2 0)
              (cond (iEq (iRem s155.2.2.1 2) 1)
               (cond (iNe 2 0)
                ((m35 (iQuo .i64 (iNeg .i64 (iAdd .i64 s155.2.2.1 1)) 2)).bind fun y156 =>
                 cond (not y156.1)
                 (some (0, 0, 1, ()))
                 (some (iQuo .i64 (iNeg .i64 (iAdd .i64 s155.2.2.1 1)) 2, s155.2.1, 0, ()))) none)
               ((m35 (iQuo .i64 s155.2.2.1 2)).bind fun y157 =>
                cond (not y157.1)
                (some (0, 0, 1, ()))
                (some (iQuo .i64 s155.2.2.1 2, s155.2.1, 0, ())))) none) none)))
          (bs, ((i + 1 : Nat) : Int), 0, (i : Int), ()) = some (if 35184372088832 < val (bs.take (i + 1)) then (0, 0, 1, ()) else (dz (val (bs.take (i + 1))), ((i + 1 : Nat) : Int), 0, ())) := by
  have hlen : (bs.take (i + 1)).length = i + 1 := by rw [List.length_take]; omega
  have hvl := val_lt (bs.take (i + 1))
  rw [hlen] at hvl
  have hvl : val (bs.take (i + 1)) < 128 ^ 7 := Nat.lt_of_lt_of_le hvl (Nat.pow_le_pow_right (by omega) h7)
  generalize hL : bs.take (i + 1) = l at *
  refine loop_goal (fun o => o = some (if 35184372088832 < val l then (0, 0, 1, ()) else (dz (val l), ((i + 1 : Nat) : Int), 0, ()))) (fun s => ∃ k : Nat, k ≤ i + 1 ∧ s = (bs, ((i + 1 : Nat) : Int), ((val (l.drop k) : Nat) : Int), (k : Int) - 1, ())) (fun s => (s.2.2.2.1 + 1).toNat) ?_ _ ⟨i + 1, Nat.le_refl _, ?_⟩
  · rintro _ ⟨k, hk, rfl⟩
    have hle := val_le l k
    cases k with
    | zero =>
      right
      refine ⟨_, ?_, rfl⟩
      dsimp only
      rw [iLe_f (by omega)]
      simp only [cond_false, List.drop_zero]
      apply map_inr
      have fin : ∀ q : Int, q = dz (val l) → (m35 q).bind (fun y156 => cond (not y156.1) (some ((0 : Int), (0 : Int), (1 : Int), ())) (some (q, ((i + 1 : Nat) : Int), (0 : Int), ()))) = some (if 35184372088832 < val l then (0, 0, 1, ()) else (dz (val l), ((i + 1 : Nat) : Int), 0, ())) := by
        intro q hq
        rw [valid_r, hq, dz_ok _ (by omega)]
        by_cases hu : 35184372088832 < val l
        · rw [if_pos hu, decide_eq_false (by omega)]; rfl
        · rw [if_neg hu, decide_eq_true (by omega)]; rfl
      rw [iNe_t (by omega), iRem_pos (by omega)]
      simp only [cond_true]
      by_cases ho : val l % 2 = 1
      · rw [iEq_t (by omega)]
        refine fin _ ?_
        rw [iAdd64 (by omega) (by omega), iNeg64 (by omega) (by omega)]
        show IntKind.wrap .i64 ((-(((val l : Nat) : Int) + 1)).tdiv 2) = _
        unfold dz
        rw [if_pos ho, Int.neg_tdiv, Int.tdiv_eq_ediv_of_nonneg (by omega), wrap64 (by omega) (by omega)]
        omega
      · rw [iEq_f (by omega)]
        refine fin _ ?_
        show IntKind.wrap .i64 (((val l : Nat) : Int).tdiv 2) = _
        unfold dz
        rw [if_neg ho, Int.tdiv_eq_ediv_of_nonneg (by omega), wrap64 (by omega) (by omega)]
        omega
    | succ k =>
      left
      have hkb : k < bs.length := by omega
      have hkl : k < l.length := by omega
      have hg : l[k] = bs[k] := by subst hL; rw [List.getElem_take]
      have hbk := hB bs[k] (List.getElem_mem _)
      have hvd := val_drop l k hkl
      have hle2 := val_le l k
      rw [hg] at hvd
      have hm := Nat.mod_lt bs[k].toNat (show 128 > 0 by omega)
      have e1 : ((k + 1 : Nat) : Int) - 1 = (k : Int) := by omega
      refine ⟨(bs, ((i + 1 : Nat) : Int), ((val (l.drop k) : Nat) : Int), (k : Int) - 1, ()), ?_, ⟨k, by omega, rfl⟩, ?_⟩
      · dsimp only
        rw [iLe_t (by omega), e1, bnd_t (by omega) (by rw [lenI_eq]; omega), atI_get _ hkb, iNe_t (by omega), iRem_pos hbk.1, wrap64 (by omega) (by omega), iMul64 (by omega) (by omega), iAdd64 (by omega) (by omega), iSub64 (by omega) (by omega)]
        simp only [cond_true]
        have e2 : (128 : Int) * ((val (l.drop (k + 1)) : Nat) : Int) + bs[k] % 128 = ((val (l.drop k) : Nat) : Int) := by omega
        rw [e2]
      · dsimp only; omega
  · rw [List.drop_eq_nil_of_le (by omega)]
    simp only [val]
    congr 4
    omega
theorem dec_r (bs : List Int) (hB : Byt bs) (hl : bs.length ≤ 140737488356000) : m17 bs = some (numS bs) := by
  have hle := tw_le bs
  unfold m17
  have hbig : 10 ≤ tw bs → numS bs = (0, 0, 5, ()) := fun h => by unfold numS; rw [if_pos (.inl h)]
  refine loop_to (fun k => (bs, (k : Int), ())) (min (tw bs) 9) (fun k hk => ?_) ?_
  · dsimp only
    have hkb : k < bs.length := by omega
    rw [bnd_t (by omega) (by rw [lenI_eq]; omega), iLt_t (by rw [lenI_eq]; omega), atI_get _ hkb, iLe_t (tw_hi bs k (by omega) hkb), iAdd64 (by omega) (by omega), iEq_f (by omega)]; rfl
  · dsimp only
    generalize hi : min (tw bs) 9 = i
    have hg : (or (bnd (i : Int) (lenI bs)) (not (bEq (iLt (i : Int) (lenI bs)) true))) = true := by
      by_cases h : i < bs.length
      · rw [bnd_t (by omega) (by rw [lenI_eq]; omega)]; rfl
      · rw [iLt_f (by rw [lenI_eq]; omega)]; simp [bEq]
    rw [hg]
    simp only [cond_true]
    by_cases h10 : 10 ≤ tw bs
    · rw [hbig h10]
      have hib : i < bs.length := by omega
      rw [iLt_t (by rw [lenI_eq]; omega), atI_get _ hib, iLe_t (tw_hi bs i (by omega) hib), iAdd64 (by omega) (by omega), iEq_t (by omega)]; rfl
    · have hit : i = tw bs := by omega
      subst hit
      unfold numS
      by_cases h1 : tw bs = bs.length
      · rw [if_pos (.inr h1), iLt_f (by rw [lenI_eq]; omega)]
        simp only [cond_false]
        apply map_inr
        rw [iEq_t (by rw [lenI_eq]; omega)]; rfl
      · have hib : tw bs < bs.length := by omega
        have hend := tw_end bs hib
        rw [if_neg (by omega), iLt_t (by rw [lenI_eq]; omega), atI_get _ hib, iLe_f (by omega)]
        simp only [cond_false, cond_true]
        apply map_inr
        rw [iEq_f (by rw [lenI_eq]; omega)]
        simp only [cond_false]
        rw [bnd_t (by omega) (by rw [lenI_eq]; omega)]
        have hor : or true (not (bEq (iLt 0 ((tw bs : Nat) : Int)) true)) = true := rfl
        rw [hor]
        simp only [cond_true]
        rw [getD_get _ hib]
        by_cases h2 : 0 < tw bs ∧ bs[tw bs] = 0
        · rw [if_pos h2, iLt_t (by omega), iEq_t h2.2]; rfl
        · rw [if_neg h2]
          have hc2 : (cond (iLt 0 ((tw bs : Nat) : Int)) (iEq bs[tw bs] 0) false) = false := by
            by_cases h3 : 0 < tw bs
            · rw [iLt_t (by omega), iEq_f (fun q => h2 ⟨h3, q⟩)]; rfl
            · rw [iLt_f (by omega)]; rfl
          rw [hc2]
          simp only [cond_false]
          rw [iAdd64 (by omega) (by omega), iSub64 (by omega) (by omega)]
          have e1 : ((tw bs : Nat) : Int) + 1 = ((tw bs + 1 : Nat) : Int) := by omega
          have e2 : ((tw bs : Nat) : Int) + 1 - 1 = ((tw bs : Nat) : Int) := by omega
          rw [e2, e1]
          by_cases h7 : tw bs + 1 ≤ 7
          · rw [iLt_f (by omega)]
            exact inner_r bs (tw bs) hB hib h7 hl
          · rw [iLt_t (by omega)]
            have hlen : (bs.take (tw bs + 1)).length = tw bs + 1 := by rw [List.length_take]; omega
            have hge := val_ge (bs.take (tw bs + 1)) (tw bs) (by omega)
            rw [List.getElem_take] at hge
            have hb0 := hB bs[tw bs] (List.getElem_mem _)
            have hne : bs[tw bs] ≠ 0 := fun q => h2 ⟨by omega, q⟩
            have hpow : 128 ^ 7 ≤ 128 ^ tw bs := Nat.pow_le_pow_right (by omega) (by omega)
            have hmul : 128 ^ tw bs * 1 ≤ 128 ^ tw bs * (bs[tw bs].toNat % 128) := Nat.mul_le_mul_left _ (by omega)
            rw [if_pos (by omega)]; rfl
end Abs
end Go.Proofs.Ytbghnjkieghloaa
