/- Codec: the bytes of a number. -/
import Derived.Test.YtbghnjkieghloaaXL
import Derived.Test.YtbghnjkieghloaaModels
namespace Go.Proofs.Ytbghnjkieghloaa
namespace Abs
set_option linter.unusedVariables false
set_option linter.unusedSimpArgs false
def vAmt (a : Int) : Bool := decide (-17592186044416 ≤ a ∧ a ≤ 17592186044416)
theorem valid_m (a : Int) : m33 a = some (vAmt a, ()) := by
  unfold m33 vAmt iLe; by_cases h : -17592186044416 ≤ a <;> simp [h]
theorem valid_r (a : Int) : m35 a = some (vAmt a, ()) := by
  unfold m35 vAmt iLe; by_cases h : -17592186044416 ≤ a <;> simp [h]
/-- The number that is written. -/
def zz (n : Int) : Nat := if n < 0 then (-2 * n - 1).toNat else (2 * n).toNat
/-- A number's bytes. -/
def enc (u : Nat) : List Int := if h : u < 128 then [(u : Int)] else ((u % 128 + 128 : Nat) : Int) :: enc (u / 128)
termination_by u
decreasing_by omega
theorem enc_lo {u : Nat} (h : u < 128) : enc u = [(u : Int)] := by rw [enc, dif_pos h]
theorem enc_hi {u : Nat} (h : 128 ≤ u) : enc u = ((u % 128 + 128 : Nat) : Int) :: enc (u / 128) := by rw [enc, dif_neg (by omega)]
theorem u64_in {n : Int} (h1 : 0 ≤ n) (h2 : n < 18446744073709551616) : IntKind.wrap .u64 n = n := IntWalk.u64_in n ⟨h1, by omega⟩
theorem ofInt_nat (w n : Nat) : (BitVec.ofInt w (n : Int)).toNat = n % 2 ^ w := by
  rw [BitVec.toNat_ofInt]; exact_mod_cast rfl
theorem and_u64 (a b : Nat) (ha : a < 18446744073709551616) (hb : b < 18446744073709551616) : iAnd .u64 (a : Int) (b : Int) = ((a &&& b : Nat) : Int) := by
  show IntKind.wrap .u64 (((BitVec.ofInt 64 (a : Int) &&& BitVec.ofInt 64 (b : Int)).toNat : Nat) : Int) = _
  rw [BitVec.toNat_and, ofInt_nat, ofInt_nat, Nat.mod_eq_of_lt ha, Nat.mod_eq_of_lt hb]
  have : a &&& b ≤ a := Nat.and_le_left
  exact u64_in (by omega) (by omega)
theorem and_u8 (a b : Nat) (ha : a < 256) (hb : b < 256) : iAnd .u8 (a : Int) (b : Int) = ((a &&& b : Nat) : Int) := by
  show IntKind.wrap .u8 (((BitVec.ofInt 8 (a : Int) &&& BitVec.ofInt 8 (b : Int)).toNat : Nat) : Int) = _
  rw [BitVec.toNat_and, ofInt_nat, ofInt_nat, Nat.mod_eq_of_lt ha, Nat.mod_eq_of_lt hb]
  have : a &&& b ≤ a := Nat.and_le_left
  exact wrap8 (by omega) (by omega)
theorem or_u8 (a b : Nat) (ha : a < 256) (hb : b < 256) : iOr .u8 (a : Int) (b : Int) = ((a ||| b : Nat) : Int) := by
  show IntKind.wrap .u8 (((BitVec.ofInt 8 (a : Int) ||| BitVec.ofInt 8 (b : Int)).toNat : Nat) : Int) = _
  rw [BitVec.toNat_or, ofInt_nat, ofInt_nat, Nat.mod_eq_of_lt ha, Nat.mod_eq_of_lt hb]
  have : a ||| b < 2 ^ 8 := Nat.or_lt_two_pow ha hb
  exact wrap8 (by omega) (by omega)
theorem or_u64 (a b : Nat) (ha : a < 18446744073709551616) (hb : b < 18446744073709551616) : iOr .u64 (a : Int) (b : Int) = ((a ||| b : Nat) : Int) := by
  show IntKind.wrap .u64 (((BitVec.ofInt 64 (a : Int) ||| BitVec.ofInt 64 (b : Int)).toNat : Nat) : Int) = _
  rw [BitVec.toNat_or, ofInt_nat, ofInt_nat, Nat.mod_eq_of_lt ha, Nat.mod_eq_of_lt hb]
  have : a ||| b < 2 ^ 64 := Nat.or_lt_two_pow ha hb
  exact u64_in (by omega) (by omega)
theorem and127 (a : Nat) : a &&& 127 = a % 128 := Nat.and_two_pow_sub_one_eq_mod a 7
theorem or128 (a : Nat) (h : a < 128) : a ||| 128 = a + 128 := by
  have := Nat.two_pow_add_eq_or_of_lt (i := 7) (b := a) h 1
  have h2 : 128 + a = 128 ||| a := this
  rw [Nat.or_comm]
  omega
theorem shr7 (a : Nat) : iShr .u64 (a : Int) 7 = ((a / 128 : Nat) : Int) := by
  show (a : Int).fdiv (2 ^ 7) = _
  rw [Int.fdiv_eq_ediv_of_nonneg _ (by omega)]; omega
theorem low_byte (a : Nat) (h : a < 18446744073709551616) : iOr .u8 (IntKind.wrap .u8 (iAnd .u64 (a : Int) 127)) 128 = ((a % 128 + 128 : Nat) : Int) := by
  have e1 : iAnd .u64 (a : Int) 127 = ((a % 128 : Nat) : Int) := by rw [← and127]; exact and_u64 a 127 h (by omega)
  rw [e1, wrap8 (by omega) (by omega)]
  rw [show (128 : Int) = ((128 : Nat) : Int) from rfl, or_u8 _ 128 (by omega) (by omega), or128 _ (by omega)]
theorem enc_len : ∀ (k u : Nat), u < 128 ^ (k + 1) → (enc u).length ≤ k + 1 := by
  intro k
  induction k with
  | zero => intro u h; rw [enc_lo (by simpa using h)]; simp
  | succ k ih =>
    intro u h
    by_cases hu : u < 128
    · rw [enc_lo hu]; simp
    · rw [enc_hi (by omega)]
      have := ih (u / 128) (by rw [Nat.div_lt_iff_lt_mul (by omega)]; rw [Nat.pow_succ] at h; exact h)
      simp only [List.length_cons]; omega
theorem enc_pos (u : Nat) : 1 ≤ (enc u).length := by
  by_cases hu : u < 128
  · rw [enc_lo hu]; simp
  · rw [enc_hi (by omega)]; simp
/-- The bytes, as the codec writes them. -/
theorem loop_enc (u : Nat) (b : List Int) (hu : u < 18446744073709551616) (hb : b.length ≤ 100000) : loopO (S := Int × (List Int) × Unit) (R := (List Int) × Unit) (fun s7 =>
     cond (iLe 128 s7.1)
     (cond (fits (List.length s7.2.1 + List.length ([iOr .u8 (IntKind.wrap .u8 (iAnd .u64 s7.1 127)) 128] : List Int)) 1)
      (cond (iLe 0 7)
       (some (.inl (iShr .u64 s7.1 7, s7.2.1 ++ ([iOr .u8 (IntKind.wrap .u8 (iAnd .u64 s7.1 127)) 128] : List Int), ()))) none) none)
     (Option.map Sum.inr (cond (fits (List.length s7.2.1 + List.length ([IntKind.wrap .u8 s7.1] : List Int)) 1)
       (some (s7.2.1 ++ ([IntKind.wrap .u8 s7.1] : List Int), ())) none)))
    ((u : Int), b, ()) = some (b ++ enc u, ()) := by
  have hl := enc_len 9 u (by omega)
  refine loop_goal (fun o => o = some (b ++ enc u, ())) (fun s => ∃ (v : Nat) (c : List Int), s = ((v : Int), c, ()) ∧ v ≤ u ∧ c ++ enc v = b ++ enc u) (fun s => s.1.toNat) ?_ _ ⟨u, b, rfl, Nat.le_refl _, rfl⟩
  rintro _ ⟨v, c, rfl, h1, h2⟩
  have h3 := congrArg List.length h2
  simp only [List.length_append] at h3
  by_cases hv : 128 ≤ v
  · left
    refine ⟨(((v / 128 : Nat) : Int), c ++ [((v % 128 + 128 : Nat) : Int)], ()), ?_, ⟨v / 128, _, rfl, by omega, ?_⟩, by show (v / 128 : Nat) < v; omega⟩
    · dsimp only
      rw [iLe_t (by omega), fits_t (by simp; omega) (by simp; omega), low_byte v (by omega), shr7]; rfl
    · rw [← h2, enc_hi hv]; simp
  · right
    refine ⟨(c ++ [(v : Int)], ()), ?_, by rw [← h2, enc_lo (by omega)]⟩
    dsimp only
    rw [iLe_f (by omega)]
    simp only [cond_false]
    rw [fits_t (by simp; omega) (by simp; omega), wrap8 (by omega) (by omega)]; rfl
theorem zz_lt {n : Int} (h : vAmt n = true) : zz n ≤ 35184372088832 := by
  unfold vAmt at h
  have h := of_decide_eq_true h
  unfold zz
  split <;> omega
theorem shl1 (a : Int) (h0 : 0 ≤ a) (h : a < 9223372036854775808) : iShl .u64 a 1 = 2 * a := by
  show IntKind.wrap .u64 (a * 2 ^ 1) = _
  rw [u64_in (by omega) (by omega)]; omega
theorem append_m (n : Int) (b : List Int) (h : vAmt n = true) (hb : b.length ≤ 100000) : m34 n b = some (b ++ enc (zz n), ()) := by
  have hz := zz_lt h
  unfold vAmt at h
  have h := of_decide_eq_true h
  unfold m34
  rw [iLe_t (by omega)]
  simp only [cond_true]
  by_cases hn : n < 0
  · rw [iLt_t hn]
    simp only [cond_true]
    rw [iNeg64 (by omega) (by omega), u64_in (by omega) (by omega), shl1 _ (by omega) (by omega)]
    have e : iSub .u64 (2 * -n) 1 = ((zz n : Nat) : Int) := by
      show IntKind.wrap .u64 (2 * -n - 1) = _
      rw [u64_in (by omega) (by omega)]
      unfold zz; rw [if_pos hn]; omega
    rw [e]
    exact loop_enc _ b (by omega) hb
  · rw [iLt_f (by omega)]
    simp only [cond_false]
    rw [u64_in (by omega) (by omega), shl1 _ (by omega) (by omega)]
    have e : 2 * n = ((zz n : Nat) : Int) := by unfold zz; rw [if_neg hn]; omega
    rw [e]
    exact loop_enc _ b (by omega) hb
/-- What AppendNumber answers. -/
def appN (b : List Int) (n : Int) : List Int × Int × Unit := if vAmt n = true then (b ++ enc (zz n), 0, ()) else ([], 1, ())
theorem number_m (b : List Int) (n : Int) (hb : b.length ≤ 100000) : m13 b n = some (appN b n) := by
  unfold m13 appN
  rw [valid_m]
  cases h : vAmt n with
  | false => rfl
  | true =>
    simp only [Option.bind_some, Bool.not_true, cond_false, if_true]
    rw [fits_t (by omega) (by omega), append_m n b h hb]; rfl
theorem loop_encR (u : Nat) (b : List Int) (hu : u < 18446744073709551616) (hb : b.length ≤ 100000) : loopO (S := Int × (List Int) × Unit) (R := (List Int) × Int × Unit) (fun s145 =>
      cond (iLe 128 s145.1)
      (cond (iNe 128 0)
       (cond (fits (List.length s145.2.1 + List.length ([IntKind.wrap .u8 (iAdd .i64 128 (iRem s145.1 128))] : List Int)) 1)
        (cond (iNe 128 0)
         (some (.inl (iQuo .i64 s145.1 128, s145.2.1 ++ ([IntKind.wrap .u8 (iAdd .i64 128 (iRem s145.1 128))] : List Int), ()))) none) none) none)
      (Option.map Sum.inr (cond (fits (List.length s145.2.1 + List.length ([IntKind.wrap .u8 s145.1] : List Int)) 1)
        (some (s145.2.1 ++ ([IntKind.wrap .u8 s145.1] : List Int), 0, ())) none)))
     ((u : Int), b, ()) = some (b ++ enc u, 0, ()) := by
  have hl := enc_len 9 u (by omega)
  refine loop_goal (fun o => o = some (b ++ enc u, 0, ())) (fun s => ∃ (v : Nat) (c : List Int), s = ((v : Int), c, ()) ∧ v ≤ u ∧ c ++ enc v = b ++ enc u) (fun s => s.1.toNat) ?_ _ ⟨u, b, rfl, Nat.le_refl _, rfl⟩
  rintro _ ⟨v, c, rfl, h1, h2⟩
  have h3 := congrArg List.length h2
  simp only [List.length_append] at h3
  by_cases hv : 128 ≤ v
  · left
    refine ⟨(((v / 128 : Nat) : Int), c ++ [((v % 128 + 128 : Nat) : Int)], ()), ?_, ⟨v / 128, _, rfl, by omega, ?_⟩, by show (v / 128 : Nat) < v; omega⟩
    · dsimp only
      have e1 : iAdd .i64 128 (iRem (v : Int) 128) = ((v % 128 + 128 : Nat) : Int) := by
        rw [iRem_pos (by omega), iAdd64 (by omega) (by omega)]; omega
      have e2 : iQuo .i64 (v : Int) 128 = ((v / 128 : Nat) : Int) := by
        show IntKind.wrap .i64 ((v : Int).tdiv 128) = _
        rw [Int.tdiv_eq_ediv_of_nonneg (by omega), wrap64 (by omega) (by omega)]; omega
      rw [iLe_t (by omega), e1, e2, wrap8 (by omega) (by omega), fits_t (by simp; omega) (by simp; omega)]; rfl
    · rw [← h2, enc_hi hv]; simp
  · right
    refine ⟨(c ++ [(v : Int)], 0, ()), ?_, by rw [← h2, enc_lo (by omega)]⟩
    dsimp only
    rw [iLe_f (by omega)]
    simp only [cond_false]
    rw [fits_t (by simp; omega) (by simp; omega), wrap8 (by omega) (by omega)]; rfl
theorem number_r (b : List Int) (n : Int) (hb : b.length ≤ 100000) : m14 b n = some (appN b n) := by
  unfold m14 appN
  rw [valid_r]
  cases h : vAmt n with
  | false => rfl
  | true =>
    have hz := zz_lt h
    unfold vAmt at h
    have h := of_decide_eq_true h
    simp only [Option.bind_some, Bool.not_true, cond_false, if_true]
    by_cases hn : n < 0
    · rw [iLt_t hn]
      simp only [cond_true]
      rw [fits_t (by simp; omega) (by simp; omega)]
      simp only [cond_true, List.nil_append]
      have e : iSub .i64 (iMul .i64 (-2) n) 1 = ((zz n : Nat) : Int) := by
        rw [iMul64 (by omega) (by omega), iSub64 (by omega) (by omega)]
        unfold zz; rw [if_pos hn]; omega
      rw [e]
      exact loop_encR _ b (by omega) hb
    · rw [iLt_f (by omega)]
      simp only [cond_false]
      rw [fits_t (by simp; omega) (by simp; omega)]
      simp only [cond_true, List.nil_append]
      have e : iMul .i64 2 n = ((zz n : Nat) : Int) := by
        rw [iMul64 (by omega) (by omega)]
        unfold zz; rw [if_neg hn]; omega
      rw [e]
      exact loop_encR _ b (by omega) hb
theorem same_refl (b : List Int) (hb : b.length ≤ 1000000) : m15 b b = some (true, ()) := by
  unfold m15
  rw [iNe_f rfl]
  simp only [cond_false]
  refine loop_to (fun k => (b, b, lenI b, (k : Int), ())) b.length (fun k hk => ?_) ?_
  · dsimp only
    rw [iLt_t (by rw [lenI_eq]; omega), bnd_t (by omega) (by rw [lenI_eq]; omega), iNe_f rfl, iAdd64 (by omega) (by omega)]; rfl
  · dsimp only
    rw [iLt_f (by rw [lenI_eq]; omega)]; rfl
end Abs
end Go.Proofs.Ytbghnjkieghloaa
