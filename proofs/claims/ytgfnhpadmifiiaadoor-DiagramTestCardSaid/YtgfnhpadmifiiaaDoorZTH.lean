/- Merged and trimmed by a program: E1 E2 D1 D2 D3 D4 D5 D6 D7 D8 D9 D10. -/
import Derived.Test.YtgfnhpadmifiiaaDoorZTG
set_option linter.unusedVariables false
set_option linter.unusedSimpArgs false
namespace Go.Proofs.YtgfnhpadmifiiaaDoor
namespace Abs
theorem sLen_eq (s : ByteArray) : sLen s = (s.size : Int) := rfl
def spn (p : Int → Bool) (s : ByteArray) : Nat → Nat → Nat
 | 0, i => i
 | n + 1, i => if p (sAt s (i : Int)) = true then spn p s n (i + 1) else i
def spanS (p : Int → Bool) (s : ByteArray) (i : Nat) : Nat := spn p s (s.size - i) i
theorem spanS_step (p : Int → Bool) (s : ByteArray) (i : Nat) (h : i < s.size) : spanS p s i = if p (sAt s (i : Int)) = true then spanS p s (i + 1) else i := by
 unfold spanS
 obtain ⟨n, hn⟩ : ∃ n, s.size - i = n + 1 := ⟨s.size - i - 1, by omega⟩
 rw [hn]
 conv => lhs; unfold spn
 rw [show s.size - (i + 1) = n by omega]
theorem spanS_end (p : Int → Bool) (s : ByteArray) : spanS p s s.size = s.size := by unfold spanS; rw [Nat.sub_self]; rfl
def isLet (c : Int) : Bool := decide (97 ≤ c ∧ c ≤ 122)
def isDig (c : Int) : Bool := decide (48 ≤ c ∧ c ≤ 57)
def isWrd (c : Int) : Bool := isLet c || isDig c || decide (c = 45)
theorem let_m (c : Int) : m99 c = some (isLet c, ()) := by unfold m99 isLet iLe; by_cases h : 97 ≤ c <;> simp [h]
theorem let_r (c : Int) : m103 c = some (isLet c, ()) := by unfold m103 isLet iLe; by_cases h : 97 ≤ c <;> simp [h]
theorem dig_m (c : Int) : m106 c = some (isDig c, ()) := by unfold m106 isDig iLe; by_cases h : 48 ≤ c <;> simp [h]
theorem dig_r (c : Int) : m104 c = some (isDig c, ()) := by unfold m104 isDig iLe; by_cases h : 48 ≤ c <;> simp [h]
theorem wrd_m (c : Int) : m101 c = some (isWrd c, ()) := by
 unfold m101 isWrd
 rw [let_m, dig_m]
 simp only [Option.bind_some]
 cases isLet c <;> cases isDig c <;> simp [iEq, BEq.beq]
theorem span1 (s : ByteArray) (i : Nat) (hi : i ≤ s.size) (hs : s.size ≤ 4611686018427387904) : m100 s (i : Int) () = some ((spanS isWrd s i : Int), ()) := by
 refine T.eq ?_
 unfold m100
 refine T.loop (fun q => ∃ j : Nat, j ≤ s.size ∧ spanS isWrd s j = spanS isWrd s i ∧ q = (s, (j : Int), (), ())) (fun q => s.size - q.2.1.toNat) ⟨i, hi, rfl, rfl⟩ ?_
 rintro _ ⟨j, hj, he, rfl⟩
 dsimp only
 have hl := sLen_eq s
 refine T.grd (by first | (simp (disch := omega) only [iLt_T, iLt_F, iLe_T, iLe_F, iEq_T, iEq_F, iNe_T, iNe_F, bnd_T, bnd_F, inB_T, inB_F, fits_T, fitsI_T, cutOk_T, someE_T, someE_F, leN_T, not_T, not_F, and_T, and_F, or_T, or_F, candF_T, candF_F, corT_T, corT_F, bEqT_T, bEqT_F, bEqF_T, bEqF_F, eq_self, or_true, true_or, and_true, true_and, or_false, false_or, and_false, false_and, not_true_eq_false, not_false_eq_true, Bool.true_eq_false, Bool.false_eq_true, iAdd64, iSub64, iMul64, lenI_eq, List.length_append, List.length_cons, List.length_nil, List.length_set, List.length_take, List.length_drop, List.length_replicate]; omega) | (simp (disch := omega) only [iLt_T, iLt_F, iLe_T, iLe_F, iEq_T, iEq_F, iNe_T, iNe_F, bnd_T, bnd_F, inB_T, inB_F, fits_T, fitsI_T, cutOk_T, someE_T, someE_F, leN_T, not_T, not_F, and_T, and_F, or_T, or_F, candF_T, candF_F, corT_T, corT_F, bEqT_T, bEqT_F, bEqF_T, bEqF_F, eq_self, or_true, true_or, and_true, true_and, or_false, false_or, and_false, false_and, not_true_eq_false, not_false_eq_true, Bool.true_eq_false, Bool.false_eq_true, iAdd64, iSub64, iMul64, lenI_eq, List.length_append, List.length_cons, List.length_nil, List.length_set, List.length_take, List.length_drop, List.length_replicate]; done)) ?_
 refine T.cnd (fun hc => ?_) (fun hc => ?_) <;> simp only [iLt_T, iLt_F] at hc
 ·rw [spanS_step isWrd s j (by omega)] at he
  refine T.callE (wrd_m _) ?_
  refine T.cnd (fun hp => ?_) (fun hp => T.out ?_)
  ·rw [if_pos hp] at he
   refine T.go ⟨j + 1, by omega, he, by rw [iAdd64 (by omega) (by omega)]; rfl⟩ ?_
   dsimp only; rw [iAdd64 (by omega) (by omega)]; omega
  ·rw [if_neg (by simpa using hp)] at he
   rw [← he]
 ·refine T.out ?_
  have : j = s.size := by omega
  subst this
  rw [spanS_end] at he
  rw [← he]
def wordS (s : ByteArray) : Bool := if s.size = 0 ∨ 16 < s.size then false else if isLet (sAt s 0) = true ∧ ¬ sAt s ((s.size : Int) - 1) = 45 then decide (spanS isWrd s 0 = s.size) else false
theorem word_m (s : ByteArray) (hs : s.size ≤ 4611686018427387904) : m88 s = some (wordS s, ()) := by
 refine T.eq ?_
 unfold m88 wordS
 have hl := sLen_eq s
 refine T.grd (by first | (simp (disch := omega) only [iLt_T, iLt_F, iLe_T, iLe_F, iEq_T, iEq_F, iNe_T, iNe_F, bnd_T, bnd_F, inB_T, inB_F, fits_T, fitsI_T, cutOk_T, someE_T, someE_F, leN_T, not_T, not_F, and_T, and_F, or_T, or_F, candF_T, candF_F, corT_T, corT_F, bEqT_T, bEqT_F, bEqF_T, bEqF_F, eq_self, or_true, true_or, and_true, true_and, or_false, false_or, and_false, false_and, not_true_eq_false, not_false_eq_true, Bool.true_eq_false, Bool.false_eq_true, iAdd64, iSub64, iMul64, lenI_eq, List.length_append, List.length_cons, List.length_nil, List.length_set, List.length_take, List.length_drop, List.length_replicate]; omega) | (simp (disch := omega) only [iLt_T, iLt_F, iLe_T, iLe_F, iEq_T, iEq_F, iNe_T, iNe_F, bnd_T, bnd_F, inB_T, inB_F, fits_T, fitsI_T, cutOk_T, someE_T, someE_F, leN_T, not_T, not_F, and_T, and_F, or_T, or_F, candF_T, candF_F, corT_T, corT_F, bEqT_T, bEqT_F, bEqF_T, bEqF_F, eq_self, or_true, true_or, and_true, true_and, or_false, false_or, and_false, false_and, not_true_eq_false, not_false_eq_true, Bool.true_eq_false, Bool.false_eq_true, iAdd64, iSub64, iMul64, lenI_eq, List.length_append, List.length_cons, List.length_nil, List.length_set, List.length_take, List.length_drop, List.length_replicate]; done)) ?_
 refine T.cnd (fun hc => ?_) (fun hc => ?_) <;> simp only [iLt_T, iLt_F, iLe_T, iLe_F, iEq_T, iEq_F, iNe_T, iNe_F, bnd_T, bnd_F, inB_T, inB_F, fits_T, fitsI_T, cutOk_T, someE_T, someE_F, leN_T, not_T, not_F, and_T, and_F, or_T, or_F, candF_T, candF_F, corT_T, corT_F, bEqT_T, bEqT_F, bEqF_T, bEqF_F, eq_self, or_true, true_or, and_true, true_and, or_false, false_or, and_false, false_and, not_true_eq_false, not_false_eq_true, Bool.true_eq_false, Bool.false_eq_true] at hc
 ·refine T.grd (by first | (simp (disch := omega) only [iLt_T, iLt_F, iLe_T, iLe_F, iEq_T, iEq_F, iNe_T, iNe_F, bnd_T, bnd_F, inB_T, inB_F, fits_T, fitsI_T, cutOk_T, someE_T, someE_F, leN_T, not_T, not_F, and_T, and_F, or_T, or_F, candF_T, candF_F, corT_T, corT_F, bEqT_T, bEqT_F, bEqF_T, bEqF_F, eq_self, or_true, true_or, and_true, true_and, or_false, false_or, and_false, false_and, not_true_eq_false, not_false_eq_true, Bool.true_eq_false, Bool.false_eq_true, iAdd64, iSub64, iMul64, lenI_eq, List.length_append, List.length_cons, List.length_nil, List.length_set, List.length_take, List.length_drop, List.length_replicate]; omega) | (simp (disch := omega) only [iLt_T, iLt_F, iLe_T, iLe_F, iEq_T, iEq_F, iNe_T, iNe_F, bnd_T, bnd_F, inB_T, inB_F, fits_T, fitsI_T, cutOk_T, someE_T, someE_F, leN_T, not_T, not_F, and_T, and_F, or_T, or_F, candF_T, candF_F, corT_T, corT_F, bEqT_T, bEqT_F, bEqF_T, bEqF_F, eq_self, or_true, true_or, and_true, true_and, or_false, false_or, and_false, false_and, not_true_eq_false, not_false_eq_true, Bool.true_eq_false, Bool.false_eq_true, iAdd64, iSub64, iMul64, lenI_eq, List.length_append, List.length_cons, List.length_nil, List.length_set, List.length_take, List.length_drop, List.length_replicate]; done)) (T.ret ?_)
  rw [if_pos (by omega)]
 ·rw [if_neg (by omega)]
  have e1 : iSub .i64 (sLen s) 1 = (s.size : Int) - 1 := by rw [iSub64 (by omega) (by omega), hl]
  rw [e1]
  refine T.callE (let_m _) ?_
  refine T.grd (by first | (simp (disch := omega) only [iLt_T, iLt_F, iLe_T, iLe_F, iEq_T, iEq_F, iNe_T, iNe_F, bnd_T, bnd_F, inB_T, inB_F, fits_T, fitsI_T, cutOk_T, someE_T, someE_F, leN_T, not_T, not_F, and_T, and_F, or_T, or_F, candF_T, candF_F, corT_T, corT_F, bEqT_T, bEqT_F, bEqF_T, bEqF_F, eq_self, or_true, true_or, and_true, true_and, or_false, false_or, and_false, false_and, not_true_eq_false, not_false_eq_true, Bool.true_eq_false, Bool.false_eq_true, iAdd64, iSub64, iMul64, lenI_eq, List.length_append, List.length_cons, List.length_nil, List.length_set, List.length_take, List.length_drop, List.length_replicate]; omega) | (simp (disch := omega) only [iLt_T, iLt_F, iLe_T, iLe_F, iEq_T, iEq_F, iNe_T, iNe_F, bnd_T, bnd_F, inB_T, inB_F, fits_T, fitsI_T, cutOk_T, someE_T, someE_F, leN_T, not_T, not_F, and_T, and_F, or_T, or_F, candF_T, candF_F, corT_T, corT_F, bEqT_T, bEqT_F, bEqF_T, bEqF_F, eq_self, or_true, true_or, and_true, true_and, or_false, false_or, and_false, false_and, not_true_eq_false, not_false_eq_true, Bool.true_eq_false, Bool.false_eq_true, iAdd64, iSub64, iMul64, lenI_eq, List.length_append, List.length_cons, List.length_nil, List.length_set, List.length_take, List.length_drop, List.length_replicate]; done)) ?_
  refine T.cnd (fun hc => T.ret ?_) (fun hc => ?_) <;> simp only [iLt_T, iLt_F, iLe_T, iLe_F, iEq_T, iEq_F, iNe_T, iNe_F, bnd_T, bnd_F, inB_T, inB_F, fits_T, fitsI_T, cutOk_T, someE_T, someE_F, leN_T, not_T, not_F, and_T, and_F, or_T, or_F, candF_T, candF_F, corT_T, corT_F, bEqT_T, bEqT_F, bEqF_T, bEqF_F, eq_self, or_true, true_or, and_true, true_and, or_false, false_or, and_false, false_and, not_true_eq_false, not_false_eq_true, Bool.true_eq_false, Bool.false_eq_true] at hc
  ·rw [if_neg]
   rintro ⟨q1, q2⟩
   rcases hc with q | q
   ·rw [q1] at q; cases q
   ·exact q2 q
  ·rw [if_pos ⟨hc.1, hc.2⟩]
   refine T.callE (span1 s 0 (by omega) hs) (T.ret ?_)
   congr 1
   rw [hl, Bool.eq_iff_iff]
   simp only [iEq_T, decide_eq_true_eq]
   omega
theorem spanS_all (p : Int → Bool) (s : ByteArray) : ∀ (n i : Nat), i + n = s.size → (spanS p s i = s.size ↔ ∀ j, i ≤ j → j < s.size → p (sAt s (j : Int)) = true) := by
 intro n
 induction n with
 | zero =>
  intro i hi
  have : i = s.size := by omega
  subst this
  rw [spanS_end]
  exact ⟨fun _ j h1 h2 => by omega, fun _ => rfl⟩
 | succ n ih =>
  intro i hi
  rw [spanS_step p s i (by omega)]
  have := ih (i + 1) (by omega)
  by_cases hp : p (sAt s (i : Int)) = true
  ·rw [if_pos hp, this]
   constructor
   ·intro h j h1 h2
    rcases Nat.eq_or_lt_of_le h1 with q | q
    ·rw [← q]; exact hp
    ·exact h j q h2
   ·intro h j h1 h2; exact h j (by omega) h2
  ·rw [if_neg hp]
   constructor
   ·intro h; omega
   ·intro h; exact absurd (h i (Nat.le_refl _) (by omega)) hp
theorem word_r (s : ByteArray) (hs : s.size ≤ 4611686018427387904) : m91 s = some (wordS s, ()) := by
 refine T.eq ?_
 unfold m91 wordS
 have hl := sLen_eq s
 refine T.grd (by first | (simp (disch := omega) only [iLt_T, iLt_F, iLe_T, iLe_F, iEq_T, iEq_F, iNe_T, iNe_F, bnd_T, bnd_F, inB_T, inB_F, fits_T, fitsI_T, cutOk_T, someE_T, someE_F, leN_T, not_T, not_F, and_T, and_F, or_T, or_F, candF_T, candF_F, corT_T, corT_F, bEqT_T, bEqT_F, bEqF_T, bEqF_F, eq_self, or_true, true_or, and_true, true_and, or_false, false_or, and_false, false_and, not_true_eq_false, not_false_eq_true, Bool.true_eq_false, Bool.false_eq_true, iAdd64, iSub64, iMul64, lenI_eq, List.length_append, List.length_cons, List.length_nil, List.length_set, List.length_take, List.length_drop, List.length_replicate]; omega) | (simp (disch := omega) only [iLt_T, iLt_F, iLe_T, iLe_F, iEq_T, iEq_F, iNe_T, iNe_F, bnd_T, bnd_F, inB_T, inB_F, fits_T, fitsI_T, cutOk_T, someE_T, someE_F, leN_T, not_T, not_F, and_T, and_F, or_T, or_F, candF_T, candF_F, corT_T, corT_F, bEqT_T, bEqT_F, bEqF_T, bEqF_F, eq_self, or_true, true_or, and_true, true_and, or_false, false_or, and_false, false_and, not_true_eq_false, not_false_eq_true, Bool.true_eq_false, Bool.false_eq_true, iAdd64, iSub64, iMul64, lenI_eq, List.length_append, List.length_cons, List.length_nil, List.length_set, List.length_take, List.length_drop, List.length_replicate]; done)) ?_
 refine T.cnd (fun hc => ?_) (fun hc => ?_) <;> simp only [iLt_T, iLt_F, iLe_T, iLe_F, iEq_T, iEq_F, iNe_T, iNe_F, bnd_T, bnd_F, inB_T, inB_F, fits_T, fitsI_T, cutOk_T, someE_T, someE_F, leN_T, not_T, not_F, and_T, and_F, or_T, or_F, candF_T, candF_F, corT_T, corT_F, bEqT_T, bEqT_F, bEqF_T, bEqF_F, eq_self, or_true, true_or, and_true, true_and, or_false, false_or, and_false, false_and, not_true_eq_false, not_false_eq_true, Bool.true_eq_false, Bool.false_eq_true] at hc
 ·refine T.grd (by first | (simp (disch := omega) only [iLt_T, iLt_F, iLe_T, iLe_F, iEq_T, iEq_F, iNe_T, iNe_F, bnd_T, bnd_F, inB_T, inB_F, fits_T, fitsI_T, cutOk_T, someE_T, someE_F, leN_T, not_T, not_F, and_T, and_F, or_T, or_F, candF_T, candF_F, corT_T, corT_F, bEqT_T, bEqT_F, bEqF_T, bEqF_F, eq_self, or_true, true_or, and_true, true_and, or_false, false_or, and_false, false_and, not_true_eq_false, not_false_eq_true, Bool.true_eq_false, Bool.false_eq_true, iAdd64, iSub64, iMul64, lenI_eq, List.length_append, List.length_cons, List.length_nil, List.length_set, List.length_take, List.length_drop, List.length_replicate]; omega) | (simp (disch := omega) only [iLt_T, iLt_F, iLe_T, iLe_F, iEq_T, iEq_F, iNe_T, iNe_F, bnd_T, bnd_F, inB_T, inB_F, fits_T, fitsI_T, cutOk_T, someE_T, someE_F, leN_T, not_T, not_F, and_T, and_F, or_T, or_F, candF_T, candF_F, corT_T, corT_F, bEqT_T, bEqT_F, bEqF_T, bEqF_F, eq_self, or_true, true_or, and_true, true_and, or_false, false_or, and_false, false_and, not_true_eq_false, not_false_eq_true, Bool.true_eq_false, Bool.false_eq_true, iAdd64, iSub64, iMul64, lenI_eq, List.length_append, List.length_cons, List.length_nil, List.length_set, List.length_take, List.length_drop, List.length_replicate]; done)) (T.ret ?_)
  rw [if_pos (by omega)]
 ·rw [if_neg (by omega)]
  have e1 : iSub .i64 (sLen s) 1 = (s.size : Int) - 1 := by rw [iSub64 (by omega) (by omega), hl]
  rw [e1]
  refine T.callE (let_r _) ?_
  refine T.grd (by first | (simp (disch := omega) only [iLt_T, iLt_F, iLe_T, iLe_F, iEq_T, iEq_F, iNe_T, iNe_F, bnd_T, bnd_F, inB_T, inB_F, fits_T, fitsI_T, cutOk_T, someE_T, someE_F, leN_T, not_T, not_F, and_T, and_F, or_T, or_F, candF_T, candF_F, corT_T, corT_F, bEqT_T, bEqT_F, bEqF_T, bEqF_F, eq_self, or_true, true_or, and_true, true_and, or_false, false_or, and_false, false_and, not_true_eq_false, not_false_eq_true, Bool.true_eq_false, Bool.false_eq_true, iAdd64, iSub64, iMul64, lenI_eq, List.length_append, List.length_cons, List.length_nil, List.length_set, List.length_take, List.length_drop, List.length_replicate]; omega) | (simp (disch := omega) only [iLt_T, iLt_F, iLe_T, iLe_F, iEq_T, iEq_F, iNe_T, iNe_F, bnd_T, bnd_F, inB_T, inB_F, fits_T, fitsI_T, cutOk_T, someE_T, someE_F, leN_T, not_T, not_F, and_T, and_F, or_T, or_F, candF_T, candF_F, corT_T, corT_F, bEqT_T, bEqT_F, bEqF_T, bEqF_F, eq_self, or_true, true_or, and_true, true_and, or_false, false_or, and_false, false_and, not_true_eq_false, not_false_eq_true, Bool.true_eq_false, Bool.false_eq_true, iAdd64, iSub64, iMul64, lenI_eq, List.length_append, List.length_cons, List.length_nil, List.length_set, List.length_take, List.length_drop, List.length_replicate]; done)) ?_
  refine T.cnd (fun hc => T.ret ?_) (fun hc => ?_) <;> simp only [iLt_T, iLt_F, iLe_T, iLe_F, iEq_T, iEq_F, iNe_T, iNe_F, bnd_T, bnd_F, inB_T, inB_F, fits_T, fitsI_T, cutOk_T, someE_T, someE_F, leN_T, not_T, not_F, and_T, and_F, or_T, or_F, candF_T, candF_F, corT_T, corT_F, bEqT_T, bEqT_F, bEqF_T, bEqF_F, eq_self, or_true, true_or, and_true, true_and, or_false, false_or, and_false, false_and, not_true_eq_false, not_false_eq_true, Bool.true_eq_false, Bool.false_eq_true] at hc
  ·rw [if_neg]
   rintro ⟨q1, q2⟩
   rcases hc with q | q
   ·rw [q1] at q; cases q
   ·exact q2 q
  ·rw [if_pos ⟨hc.1, hc.2⟩]
   have key := spanS_all isWrd s s.size 0 (by omega)
   refine T.loop (fun q => ∃ j : Nat, j ≤ s.size ∧ (∀ k, k < j → isWrd (sAt s (k : Int)) = true) ∧ q = (s, (j : Int), ())) (fun q => s.size - q.2.1.toNat) ⟨0, by omega, fun k hk => by omega, rfl⟩ ?_
   rintro _ ⟨j, hj, he, rfl⟩
   dsimp only
   have go : j < s.size → isWrd (sAt s (j : Int)) = true → T (some (Sum.inl (β := Bool × Unit) (s, iAdd .i64 (j : Int) 1, ()))) (LQ (fun q => ∃ j : Nat, j ≤ s.size ∧ (∀ k, k < j → isWrd (sAt s (k : Int)) = true) ∧ q = (s, (j : Int), ())) (fun q => s.size - q.2.1.toNat) (s.size - (j : Int).toNat) (fun x => x = (decide (spanS isWrd s 0 = s.size), ()))) := fun hlt hw => by
    refine T.go ⟨j + 1, by omega, fun k hk => ?_, by rw [iAdd64 (by omega) (by omega)]; rfl⟩ ?_
    ·rcases Nat.lt_or_ge k j with q | q
     ·exact he k q
     ·rw [show k = j by omega]; exact hw
    ·dsimp only; rw [iAdd64 (by omega) (by omega)]; omega
   refine T.cnd (fun hc => ?_) (fun hc => ?_) <;> simp only [iLt_T, iLt_F] at hc
   ·have hlt : j < s.size := by omega
    refine T.grd (by first | (simp (disch := omega) only [iLt_T, iLt_F, iLe_T, iLe_F, iEq_T, iEq_F, iNe_T, iNe_F, bnd_T, bnd_F, inB_T, inB_F, fits_T, fitsI_T, cutOk_T, someE_T, someE_F, leN_T, not_T, not_F, and_T, and_F, or_T, or_F, candF_T, candF_F, corT_T, corT_F, bEqT_T, bEqT_F, bEqF_T, bEqF_F, eq_self, or_true, true_or, and_true, true_and, or_false, false_or, and_false, false_and, not_true_eq_false, not_false_eq_true, Bool.true_eq_false, Bool.false_eq_true, iAdd64, iSub64, iMul64, lenI_eq, List.length_append, List.length_cons, List.length_nil, List.length_set, List.length_take, List.length_drop, List.length_replicate]; omega) | (simp (disch := omega) only [iLt_T, iLt_F, iLe_T, iLe_F, iEq_T, iEq_F, iNe_T, iNe_F, bnd_T, bnd_F, inB_T, inB_F, fits_T, fitsI_T, cutOk_T, someE_T, someE_F, leN_T, not_T, not_F, and_T, and_F, or_T, or_F, candF_T, candF_F, corT_T, corT_F, bEqT_T, bEqT_F, bEqF_T, bEqF_F, eq_self, or_true, true_or, and_true, true_and, or_false, false_or, and_false, false_and, not_true_eq_false, not_false_eq_true, Bool.true_eq_false, Bool.false_eq_true, iAdd64, iSub64, iMul64, lenI_eq, List.length_append, List.length_cons, List.length_nil, List.length_set, List.length_take, List.length_drop, List.length_replicate]; done)) ?_
    refine T.callE (let_r _) ?_
    refine T.grd (by first | (simp (disch := omega) only [iLt_T, iLt_F, iLe_T, iLe_F, iEq_T, iEq_F, iNe_T, iNe_F, bnd_T, bnd_F, inB_T, inB_F, fits_T, fitsI_T, cutOk_T, someE_T, someE_F, leN_T, not_T, not_F, and_T, and_F, or_T, or_F, candF_T, candF_F, corT_T, corT_F, bEqT_T, bEqT_F, bEqF_T, bEqF_F, eq_self, or_true, true_or, and_true, true_and, or_false, false_or, and_false, false_and, not_true_eq_false, not_false_eq_true, Bool.true_eq_false, Bool.false_eq_true, iAdd64, iSub64, iMul64, lenI_eq, List.length_append, List.length_cons, List.length_nil, List.length_set, List.length_take, List.length_drop, List.length_replicate]; omega) | (simp (disch := omega) only [iLt_T, iLt_F, iLe_T, iLe_F, iEq_T, iEq_F, iNe_T, iNe_F, bnd_T, bnd_F, inB_T, inB_F, fits_T, fitsI_T, cutOk_T, someE_T, someE_F, leN_T, not_T, not_F, and_T, and_F, or_T, or_F, candF_T, candF_F, corT_T, corT_F, bEqT_T, bEqT_F, bEqF_T, bEqF_F, eq_self, or_true, true_or, and_true, true_and, or_false, false_or, and_false, false_and, not_true_eq_false, not_false_eq_true, Bool.true_eq_false, Bool.false_eq_true, iAdd64, iSub64, iMul64, lenI_eq, List.length_append, List.length_cons, List.length_nil, List.length_set, List.length_take, List.length_drop, List.length_replicate]; done)) ?_
    refine T.cnd (fun h1 => ?_) (fun h1 => ?_) <;> simp only [not_T, not_F] at h1
    ·refine T.callE (dig_r _) ?_
     refine T.grd (by first | (simp (disch := omega) only [iLt_T, iLt_F, iLe_T, iLe_F, iEq_T, iEq_F, iNe_T, iNe_F, bnd_T, bnd_F, inB_T, inB_F, fits_T, fitsI_T, cutOk_T, someE_T, someE_F, leN_T, not_T, not_F, and_T, and_F, or_T, or_F, candF_T, candF_F, corT_T, corT_F, bEqT_T, bEqT_F, bEqF_T, bEqF_F, eq_self, or_true, true_or, and_true, true_and, or_false, false_or, and_false, false_and, not_true_eq_false, not_false_eq_true, Bool.true_eq_false, Bool.false_eq_true, iAdd64, iSub64, iMul64, lenI_eq, List.length_append, List.length_cons, List.length_nil, List.length_set, List.length_take, List.length_drop, List.length_replicate]; omega) | (simp (disch := omega) only [iLt_T, iLt_F, iLe_T, iLe_F, iEq_T, iEq_F, iNe_T, iNe_F, bnd_T, bnd_F, inB_T, inB_F, fits_T, fitsI_T, cutOk_T, someE_T, someE_F, leN_T, not_T, not_F, and_T, and_F, or_T, or_F, candF_T, candF_F, corT_T, corT_F, bEqT_T, bEqT_F, bEqF_T, bEqF_F, eq_self, or_true, true_or, and_true, true_and, or_false, false_or, and_false, false_and, not_true_eq_false, not_false_eq_true, Bool.true_eq_false, Bool.false_eq_true, iAdd64, iSub64, iMul64, lenI_eq, List.length_append, List.length_cons, List.length_nil, List.length_set, List.length_take, List.length_drop, List.length_replicate]; done)) ?_
     refine T.cnd (fun h2 => T.out ?_) (fun h2 => ?_) <;> simp only [iLt_T, iLt_F, iLe_T, iLe_F, iEq_T, iEq_F, iNe_T, iNe_F, bnd_T, bnd_F, inB_T, inB_F, fits_T, fitsI_T, cutOk_T, someE_T, someE_F, leN_T, not_T, not_F, and_T, and_F, or_T, or_F, candF_T, candF_F, corT_T, corT_F, bEqT_T, bEqT_F, bEqF_T, bEqF_F, eq_self, or_true, true_or, and_true, true_and, or_false, false_or, and_false, false_and, not_true_eq_false, not_false_eq_true, Bool.true_eq_false, Bool.false_eq_true] at h2
     ·rw [decide_eq_false]
      intro q
      have := key.1 q j (by omega) hlt
      unfold isWrd at this
      rw [h1, h2.1] at this
      simp at this
      exact h2.2 this
     ·refine go hlt ?_
      unfold isWrd
      rcases h2 with q | q
      ·rw [q]; simp
      ·rw [decide_eq_true q]; simp
    ·refine T.grd (by first | (simp (disch := omega) only [iLt_T, iLt_F, iLe_T, iLe_F, iEq_T, iEq_F, iNe_T, iNe_F, bnd_T, bnd_F, inB_T, inB_F, fits_T, fitsI_T, cutOk_T, someE_T, someE_F, leN_T, not_T, not_F, and_T, and_F, or_T, or_F, candF_T, candF_F, corT_T, corT_F, bEqT_T, bEqT_F, bEqF_T, bEqF_F, eq_self, or_true, true_or, and_true, true_and, or_false, false_or, and_false, false_and, not_true_eq_false, not_false_eq_true, Bool.true_eq_false, Bool.false_eq_true, iAdd64, iSub64, iMul64, lenI_eq, List.length_append, List.length_cons, List.length_nil, List.length_set, List.length_take, List.length_drop, List.length_replicate]; omega) | (simp (disch := omega) only [iLt_T, iLt_F, iLe_T, iLe_F, iEq_T, iEq_F, iNe_T, iNe_F, bnd_T, bnd_F, inB_T, inB_F, fits_T, fitsI_T, cutOk_T, someE_T, someE_F, leN_T, not_T, not_F, and_T, and_F, or_T, or_F, candF_T, candF_F, corT_T, corT_F, bEqT_T, bEqT_F, bEqF_T, bEqF_F, eq_self, or_true, true_or, and_true, true_and, or_false, false_or, and_false, false_and, not_true_eq_false, not_false_eq_true, Bool.true_eq_false, Bool.false_eq_true, iAdd64, iSub64, iMul64, lenI_eq, List.length_append, List.length_cons, List.length_nil, List.length_set, List.length_take, List.length_drop, List.length_replicate]; done)) (go hlt ?_)
     unfold isWrd; rw [h1]; rfl
   ·refine T.out ?_
    rw [decide_eq_true]
    exact key.2 fun k _ hk => he k (by omega)
theorem cond_some (a b : Bool) : (cond a (some (true, ())) (some (b, ())) : Option (Bool × Unit)) = some (a || b, ()) := by cases a <;> rfl
noncomputable def resS (s : ByteArray) : Bool := (m89 s).elim false fun y => y.1
theorem res_m (s : ByteArray) : m89 s = some (resS s, ()) := by
 have h : ∃ b, m89 s = some (b, ()) := by
  unfold m89
  simp only [cond_some]
  exact ⟨_, rfl⟩
 obtain ⟨b, h⟩ := h
 unfold resS
 rw [h]; rfl
theorem res_r (s : ByteArray) : m92 s = some (resS s, ()) := (show m92 s = m89 s from rfl).trans (res_m s)
noncomputable def nameS (s : ByteArray) : Bool := wordS s && !resS s
theorem bl_inj {a b : ByteArray} (h : bytesI a = bytesI b) : a = b := by
 have key : ∀ (l m : List UInt8), (l.map fun c => (c.toNat : Int)) = (m.map fun c => (c.toNat : Int)) → l = m := by
  intro l
  induction l with
  | nil => intro m h; cases m with
   | nil => rfl
   | cons => cases h
  | cons x l ih =>
   intro m h
   cases m with
   | nil => cases h
   | cons y m =>
    simp only [List.map_cons, List.cons.injEq] at h
    have : x = y := UInt8.toNat_inj.1 (by omega)
    rw [this, ih m h.2]
 have := key _ _ h
 cases a; cases b
 simp at this; rw [this]
theorem sEq_dec (a b : ByteArray) : sEq a b = decide (bytesI a = bytesI b) := by
 rcases h : sEq a b with _ | _
 ·rw [sEq_F] at h; symm; rw [decide_eq_false_iff_not]; exact fun q => h (bl_inj q)
 ·rw [sEq_T] at h; subst h; symm; rw [decide_eq_true_eq]
theorem rem_pos {a b : Int} (h : 0 ≤ a) : iRem a b = a % b := by unfold iRem; rw [Int.tmod_eq_emod_of_nonneg h]
def eqB (a b : ByteArray) : Bool := decide (bytesI a = bytesI b)
theorem sEq_eqB (a b : ByteArray) : sEq a b = eqB a b := sEq_dec a b
theorem eqB_T {a b : ByteArray} : (eqB a b = true) = (a = b) := by rw [← sEq_eqB, sEq_T]
def RES : List ByteArray := [bs [97, 110, 100], bs [97, 118, 101, 114, 97, 103, 101], bs [99, 111, 105, 110, 115, 117, 114, 97, 110, 99, 101], bs [99, 111, 110, 100, 105, 116, 105, 111, 110], bs [99, 111, 118, 101, 114], bs [100, 101, 100, 117, 99, 116, 105, 98, 108, 101], bs [100, 101, 102, 105, 110, 101], bs [101, 110, 100], bs [101, 110, 100, 111, 114, 115, 101], bs [101, 120, 99, 108, 117, 100, 101], bs [102, 97, 108, 115, 101], bs [102, 114, 97, 110, 99, 104, 105, 115, 101], bs [102, 114, 111, 109], bs [105, 110], bs [108, 105, 109, 105, 116], bs [110, 111, 116], bs [111, 114], bs [114, 101, 109, 111, 118, 101], bs [115, 117, 98, 108, 105, 109, 105, 116], bs [116, 111], bs [116, 114, 117, 101], bs [117, 110, 108, 101, 115, 115], bs [119, 104, 101, 110]]
theorem res_dec (s : ByteArray) : resS s = RES.any (fun w => eqB s w) := by
 unfold resS m89
 simp only [cond_some, sEq_eqB, Option.elim, RES, List.any_cons, List.any_nil, Bool.or_false]
def nameD (s : ByteArray) : Bool := wordS s && !RES.any (fun w => eqB s w)
theorem nameS_D (s : ByteArray) : nameS s = nameD s := by unfold nameS nameD; rw [res_dec]
theorem word_all (s : ByteArray) : m88 s = some (wordS s, ()) := by
 by_cases h : s.size ≤ 4611686018427387904
 ·exact word_m s h
 ·refine T.eq ?_
  unfold m88 wordS
  have hl := sLen_eq s
  refine T.grd (by rw [or_T, bnd_T]; left; omega) ?_
  refine T.ct (by rw [corT_T, iEq_T, iLt_T]; omega) ?_
  refine T.grd (by rw [or_T]; right; rfl) (T.ret ?_)
  rw [if_pos (by omega)]
theorem word_allr (s : ByteArray) : m91 s = some (wordS s, ()) := by
 by_cases h : s.size ≤ 4611686018427387904
 ·exact word_r s h
 ·refine T.eq ?_
  unfold m91 wordS
  have hl := sLen_eq s
  refine T.grd (by rw [or_T, bnd_T]; left; omega) ?_
  refine T.ct (by rw [corT_T, iLt_T, iLt_T]; omega) ?_
  refine T.grd (by rw [or_T]; right; rfl) (T.ret ?_)
  rw [if_pos (by omega)]
theorem nm (s : ByteArray) : m73 s = some (nameD s, ()) := by
 rw [← nameS_D]
 unfold m73 nameS
 rw [word_all s, res_m]
 cases wordS s <;> rfl
theorem nr (s : ByteArray) : m77 s = some (nameD s, ()) := by
 rw [← nameS_D]
 unfold m77 nameS
 rw [word_allr s, res_r]
 cases wordS s <;> rfl
theorem contains_m (l : List ByteArray) (w : ByteArray) (hl : l.length ≤ 9223372036854775807) : m102 l w = some (l.any (fun x => eqB w x), ()) := by
 refine T.eq ?_
 unfold m102 m107
 refine T.call (P := fun y => (0 ≤ y.1 ↔ l.any (fun x => eqB w x) = true)) ?_ ?_
 ·refine T.loop (fun q => ∃ i : Nat, i ≤ l.length ∧ (l.take i).any (fun x => eqB w x) = false ∧ q = (l, w, lenI l, (i : Int), ())) (fun q => l.length - q.2.2.2.1.toNat) ⟨0, by omega, rfl, rfl⟩ ?_
  rintro _ ⟨i, hi, hf, rfl⟩
  dsimp only
  refine T.cnd (fun hc => ?_) (fun hc => ?_) <;> simp only [iLt_T, iLt_F, lenI_eq] at hc
  ·have hlt : i < l.length := by omega
   refine T.grd (by rw [bnd_T, lenI_eq]; omega) ?_
   have ea : atI l (i : Int) ByteArray.empty = l[i] := by unfold atI; rw [Int.toNat_natCast, List.getD_eq_getElem?_getD, List.getElem?_eq_getElem hlt]; rfl
   rw [ea, sEq_eqB]
   refine T.cnd (fun hc2 => T.out ?_) (fun hc2 => T.go ⟨i + 1, by omega, ?_, ?_⟩ ?_)
   ·dsimp only
    refine ⟨fun _ => List.any_eq_true.2 ⟨l[i], List.getElem_mem hlt, hc2⟩, fun _ => by omega⟩
   ·rw [List.take_succ_eq_append_getElem hlt, List.any_append, hf]
    simp [hc2]
   ·rw [iAdd64 (by omega) (by omega)]; rfl
   ·dsimp only; rw [iAdd64 (by omega) (by omega)]; omega
  ·refine T.out ?_
   obtain rfl : i = l.length := by omega
   rw [List.take_length] at hf
   dsimp only
   rw [hf]; simp
 ·rintro ⟨v, _⟩ hv
  refine T.ret ?_
  dsimp only at hv ⊢
  congr 1
  rcases h : l.any (fun x => eqB w x) with _ | _
  ·rw [h] at hv; rw [iLe_F]; have : ¬ 0 ≤ v := fun q => by have := hv.1 q; cases this
   omega
  ·rw [h] at hv; rw [iLe_T]; exact hv.2 rfl
def dupW (l : List ByteArray) (i : Nat) : Bool := (l.take i).any (fun x => eqB (l.getD i ByteArray.empty) x)
def wordsS (l : List ByteArray) : Int := if l.length = 0 then 19 else if 12 < l.length then 4 else if l.all nameD = true then (if (List.range l.length).any (dupW l) = true then 8 else 0) else 6
theorem at_get {α : Type} (l : List α) (i : Nat) (z : α) (h : i < l.length) : atI l (i : Int) z = l[i] := by unfold atI; rw [Int.toNat_natCast, List.getD_eq_getElem?_getD, List.getElem?_eq_getElem h]; rfl
theorem all_take {α : Type} (l : List α) (p : α → Bool) (i : Nat) (h : i < l.length) (hf : (l.take i).all p = true) (hp : p l[i] = true) : (l.take (i + 1)).all p = true := by
 rw [List.take_succ_eq_append_getElem h, List.all_append, hf]; simp [hp]
theorem all_not {α : Type} (l : List α) (p : α → Bool) (i : Nat) (h : i < l.length) (hp : p l[i] = false) : l.all p = false := by
 rcases q : l.all p with _ | _
 ·rfl
 ·have := List.all_eq_true.1 q l[i] (List.getElem_mem h); rw [hp] at this; cases this
theorem words_m (l : List ByteArray) : m90 l = some (wordsS l, ()) := by
 refine T.eq ?_
 unfold m90 wordsS
 refine T.cnd (fun hc => T.ret ?_) (fun hc => ?_) <;> simp only [iEq_T, iEq_F, lenI_eq] at hc
 ·rw [if_pos (by omega)]
 rw [if_neg (by omega)]
 refine T.cnd (fun hc => T.ret ?_) (fun hc => ?_) <;> simp only [iLt_T, iLt_F, lenI_eq] at hc
 ·rw [if_pos (by omega)]
 rw [if_neg (by omega)]
 have hL := lenI_eq l
 refine T.loop (fun q => ∃ i : Nat, i ≤ l.length ∧ (l.take i).all nameD = true ∧ q = (l, l, lenI l, (i : Int), ())) (fun q => l.length - q.2.2.2.1.toNat) ⟨0, by omega, rfl, rfl⟩ ?_
 rintro _ ⟨i, hi, hf, rfl⟩
 dsimp only
 refine T.cnd (fun hc => ?_) (fun hc => ?_) <;> simp only [iLt_T, iLt_F] at hc
 ·have hlt : i < l.length := by omega
  refine T.grd (by rw [bnd_T]; omega) ?_
  rw [at_get l i _ hlt]
  refine T.callE (nm _) ?_
  dsimp only
  refine T.cnd (fun hc2 => T.out ?_) (fun hc2 => T.go ⟨i + 1, by omega, ?_, ?_⟩ ?_)
  ·rw [not_T] at hc2; rw [if_neg (by rw [all_not l nameD i hlt hc2]; simp)]
  ·rw [not_F] at hc2; exact all_take l nameD i hlt hf hc2
  ·rw [iAdd64 (by omega) (by omega)]; rfl
  ·dsimp only; rw [iAdd64 (by omega) (by omega)]; omega
 obtain rfl : i = l.length := by omega
 rw [List.take_length] at hf
 rw [if_pos hf]
 refine T.mapL ?_
 refine T.loop (fun q => ∃ i : Nat, i ≤ l.length ∧ (List.range i).any (dupW l) = false ∧ q = (l, l, lenI l, (i : Int), ())) (fun q => l.length - q.2.2.2.1.toNat) ⟨0, by omega, rfl, rfl⟩ ?_
 rintro _ ⟨i, hi, hg, rfl⟩
 dsimp only
 refine T.cnd (fun hc => ?_) (fun hc => ?_) <;> simp only [iLt_T, iLt_F] at hc
 ·have hlt : i < l.length := by omega
  refine T.grd (by rw [bnd_T]; omega) ?_
  refine T.grd (by rw [cutOk_T]; omega) ?_
  have hcut : cutL 0 (i : Int) l = l.take i := by unfold cutL; rw [Int.toNat_natCast]; rfl
  rw [hcut]
  refine T.callE (contains_m _ _ (by rw [List.length_take]; omega)) ?_
  have hd : (l.take i).any (fun x => eqB (atI l (i : Int) ByteArray.empty) x) = dupW l i := by unfold dupW atI; rw [Int.toNat_natCast]
  rw [hd]
  dsimp only
  refine T.cnd (fun hc2 => T.out ?_) (fun hc2 => T.go ⟨i + 1, by omega, ?_, ?_⟩ ?_)
  ·rw [if_pos (List.any_eq_true.2 ⟨i, List.mem_range.2 hlt, hc2⟩)]
  ·rw [List.range_succ, List.any_append, hg]; simp [hc2]
  ·rw [iAdd64 (by omega) (by omega)]; rfl
  ·dsimp only; rw [iAdd64 (by omega) (by omega)]; omega
 ·obtain rfl : i = l.length := by omega
  refine T.out ?_
  rw [if_neg (by rw [hg]; simp)]
theorem names_r (l : List ByteArray) (hl : l.length ≤ 12) : m93 l = some (l.all nameD, ()) := by
 refine T.eq ?_
 unfold m93
 have hL := lenI_eq l
 refine T.loop (fun q => ∃ i : Nat, i ≤ l.length ∧ (l.take i).all nameD = true ∧ q = (l, (i : Int), ())) (fun q => l.length - q.2.1.toNat) ⟨0, by omega, rfl, rfl⟩ ?_
 rintro _ ⟨i, hi, hf, rfl⟩
 dsimp only
 refine T.cnd (fun hc => ?_) (fun hc => ?_) <;> simp only [iLt_T, iLt_F] at hc
 ·have hlt : i < l.length := by omega
  refine T.grd (by rw [bnd_T]; omega) ?_
  rw [at_get l i _ hlt]
  refine T.callE (nr _) ?_
  dsimp only
  refine T.cnd (fun hc2 => T.out ?_) (fun hc2 => T.go ⟨i + 1, by omega, ?_, ?_⟩ ?_)
  ·rw [not_T] at hc2; rw [all_not l nameD i hlt hc2]
  ·rw [not_F] at hc2; exact all_take l nameD i hlt hf hc2
  ·rw [iAdd64 (by omega) (by omega)]; rfl
  ·dsimp only; rw [iAdd64 (by omega) (by omega)]; omega
 ·obtain rfl : i = l.length := by omega
  rw [List.take_length] at hf
  exact T.out (by rw [hf])
theorem distinct_r (l : List ByteArray) (hl : l.length ≤ 12) : m94 l = some (!(List.range l.length).any (dupW l), ()) := by
 refine T.eq ?_
 unfold m94
 have hL := lenI_eq l
 refine T.loop (fun q => ∃ i : Nat, i ≤ l.length ∧ (List.range i).any (dupW l) = false ∧ q = (l, (i : Int), ())) (fun q => l.length - q.2.1.toNat) ⟨0, by omega, rfl, rfl⟩ ?_
 rintro _ ⟨i, hi, hg, rfl⟩
 dsimp only
 refine T.cnd (fun hc => ?_) (fun hc => ?_) <;> simp only [iLt_T, iLt_F] at hc
 ·have hlt : i < l.length := by omega
  have hd : dupW l i = (l.take i).any (fun x => eqB l[i] x) := by unfold dupW; rw [List.getD_eq_getElem?_getD, List.getElem?_eq_getElem hlt]; rfl
  refine T.loop (fun q => ∃ j : Nat, j ≤ i ∧ (l.take j).any (fun x => eqB l[i] x) = false ∧ q = (l, (i : Int), (j : Int), ())) (fun q => i - q.2.2.1.toNat) ⟨0, by omega, rfl, rfl⟩ ?_
  rintro _ ⟨j, hj, hf, rfl⟩
  dsimp only
  refine T.cnd (fun hc2 => ?_) (fun hc2 => ?_) <;> simp only [iLt_T, iLt_F] at hc2
  ·have hjl : j < l.length := by omega
   refine T.grd (by rw [bnd_T]; omega) ?_
   refine T.grd (by rw [bnd_T]; omega) ?_
   rw [at_get l i _ hlt, at_get l j _ hjl, sEq_eqB]
   refine T.cnd (fun hc3 => T.out ?_) (fun hc3 => T.go ⟨j + 1, by omega, ?_, ?_⟩ ?_)
   ·show _ = _
    have : dupW l i = true := by
     rw [hd]; refine List.any_eq_true.2 ⟨l[j], ?_, hc3⟩
     exact List.mem_iff_getElem.2 ⟨j, by rw [List.length_take]; omega, by rw [List.getElem_take]⟩
    rw [List.any_eq_true.2 ⟨i, List.mem_range.2 hlt, this⟩]; rfl
   ·rw [List.take_succ_eq_append_getElem hjl, List.any_append, hf]; simp [hc3]
   ·rw [iAdd64 (by omega) (by omega)]; rfl
   ·dsimp only; rw [iAdd64 (by omega) (by omega)]; omega
  ·obtain rfl : j = i := by omega
   refine T.out ⟨⟨j + 1, by omega, ?_, ?_⟩, ?_⟩
   ·rw [List.range_succ, List.any_append, hg]; simp [hd, hf]
   ·rw [iAdd64 (by omega) (by omega)]; rfl
   ·dsimp only; rw [iAdd64 (by omega) (by omega)]; omega
 ·obtain rfl : i = l.length := by omega
  exact T.out (by rw [hg]; rfl)
def attrS (a : DS0) : Int :=
 if a.2.1 = 1 then (if a.2.2.2.1 ≠ 0 ∨ a.2.2.2.2.1 ≠ 0 then 20 else wordsS a.2.2.1)
 else if a.2.1 = 2 then (if 0 < a.2.2.1.length then 20 else if a.2.2.2.2.1 < a.2.2.2.1 ∨ a.2.2.2.1 < -1000000000 ∨ 1000000000 < a.2.2.2.2.1 then 1 else 0)
 else if a.2.1 = 3 then (if 0 < a.2.2.1.length ∨ a.2.2.2.1 ≠ 0 ∨ a.2.2.2.2.1 ≠ 0 then 20 else 0) else 11
theorem attr_m (a : DS0) : m75 a = some (attrS a, ()) := by
 refine T.eq ?_
 unfold m75 attrS
 have hL := lenI_eq a.2.2.1
 refine T.cnd (fun c1 => ?_) (fun c1 => ?_) <;> simp only [iEq_T, iEq_F] at c1
 ·rw [if_pos c1]
  refine T.cnd (fun c2 => T.ret ?_) (fun c2 => ?_) <;> simp only [corT_T, corT_F, iNe_T, iNe_F] at c2
  ·rw [if_pos (by omega)]
  ·rw [if_neg (by omega)]; exact T.callE (words_m _) (T.ret rfl)
 rw [if_neg c1]
 refine T.cnd (fun c1 => ?_) (fun c1 => ?_) <;> simp only [iEq_T, iEq_F] at c1
 ·rw [if_pos c1]
  refine T.cnd (fun c2 => T.ret ?_) (fun c2 => ?_) <;> simp only [iLt_T, iLt_F] at c2
  ·rw [if_pos (by omega)]
  ·rw [if_neg (by omega)]
   refine T.cnd (fun c2 => T.ret ?_) (fun c2 => T.ret ?_) <;> simp only [corT_T, corT_F, iLt_T, iLt_F] at c2
   ·rw [if_pos (by omega)]
   ·rw [if_neg (by omega)]
 rw [if_neg c1]
 refine T.cnd (fun c1 => ?_) (fun c1 => ?_) <;> simp only [iEq_T, iEq_F] at c1
 ·rw [if_pos c1]
  refine T.cnd (fun c2 => T.ret ?_) (fun c2 => T.ret ?_) <;> simp only [corT_T, corT_F, iLt_T, iLt_F, iNe_T, iNe_F] at c2
  ·rw [if_pos (by omega)]
  ·rw [if_neg (by omega)]
 ·rw [if_neg c1]; exact T.ret rfl
theorem attr_r (a : DS0) : m78 a = some (attrS a, ()) := by
 refine T.eq ?_
 unfold m78 attrS
 have hL := lenI_eq a.2.2.1
 refine T.cnd (fun c1 => ?_) (fun c1 => ?_) <;> simp only [iEq_T, iEq_F] at c1
 ·rw [if_pos c1]
  refine T.cnd (fun c2 => T.ret ?_) (fun c2 => ?_) <;> simp only [corT_T, corT_F, iNe_T, iNe_F] at c2
  ·rw [if_pos (by omega)]
  ·rw [if_neg (by omega)]
   unfold wordsS
   refine T.cnd (fun c2 => T.ret ?_) (fun c2 => ?_) <;> simp only [iEq_T, iEq_F] at c2
   ·rw [if_pos (by omega)]
   rw [if_neg (by omega)]
   refine T.cnd (fun c2 => T.ret ?_) (fun c2 => ?_) <;> simp only [iLt_T, iLt_F] at c2
   ·rw [if_pos (by omega)]
   rw [if_neg (by omega)]
   refine T.callE (names_r _ (by omega)) ?_
   dsimp only
   refine T.cnd (fun c3 => T.ret ?_) (fun c3 => ?_) <;> simp only [not_T, not_F] at c3
   ·rw [if_neg (by rw [c3]; simp)]
   rw [if_pos c3]
   refine T.callE (distinct_r _ (by omega)) ?_
   dsimp only
   refine T.cnd (fun c4 => T.ret ?_) (fun c4 => T.ret ?_) <;> simp only [not_T, not_F] at c4
   ·rw [if_pos c4]
   ·rw [if_neg (by rw [c4]; simp)]
 rw [if_neg c1]
 refine T.cnd (fun c1 => ?_) (fun c1 => ?_) <;> simp only [iEq_T, iEq_F] at c1
 ·rw [if_pos c1]
  refine T.cnd (fun c2 => T.ret ?_) (fun c2 => ?_) <;> simp only [iLt_T, iLt_F] at c2
  ·rw [if_pos (by omega)]
  rw [if_neg (by omega)]
  refine T.cnd (fun c3 => T.ret ?_) (fun c3 => ?_) <;> simp only [iLt_T, iLt_F] at c3
  ·rw [if_pos (by omega)]
  unfold m95
  refine T.bind (T.ret ?_)
  refine T.cnd (fun c4 => T.ret ?_) (fun c4 => ?_) <;> simp only [corT_T, corT_F, iLt_T, iLt_F] at c4
  ·rw [if_pos (by omega)]
  refine T.bind (T.ret ?_)
  refine T.cnd (fun c5 => T.ret ?_) (fun c5 => T.ret ?_) <;> simp only [corT_T, corT_F, iLt_T, iLt_F] at c5
  ·rw [if_pos (by omega)]
  ·rw [if_neg (by omega)]
 rw [if_neg c1]
 refine T.cnd (fun c1 => ?_) (fun c1 => ?_) <;> simp only [iEq_T, iEq_F] at c1
 ·rw [if_pos c1]
  refine T.cnd (fun c2 => T.ret ?_) (fun c2 => T.ret ?_) <;> simp only [corT_T, corT_F, iLt_T, iLt_F, iNe_T, iNe_F] at c2
  ·rw [if_pos (by omega)]
  ·rw [if_neg (by omega)]
 ·rw [if_neg c1]; exact T.ret rfl
def zA : DS0 := (ByteArray.empty, 0, [], 0, 0, ())
def dupN (l : List DS0) (i : Nat) : Bool := (l.take i).any (fun x => eqB x.1 (l.getD i zA).1)
def chk (l : List DS0) (i : Nat) : Int := if nameD (l.getD i zA).1 = false then 6 else if dupN l i = true then 8 else attrS (l.getD i zA)
def valF (l : List DS0) : Nat → Nat → Int
 | 0, _ => 0
 | n + 1, i => if chk l i ≠ 0 then chk l i else valF l n (i + 1)
def valS (l : List DS0) : Int := if l.length = 0 then 19 else if 6 < l.length then 4 else valF l l.length 0
theorem getD_eq {α : Type} (l : List α) (i : Nat) (z : α) (h : i < l.length) : l.getD i z = l[i] := by rw [List.getD_eq_getElem?_getD, List.getElem?_eq_getElem h]; rfl
theorem atI_getD {α : Type} (l : List α) (i : Nat) (z : α) : atI l (i : Int) z = l.getD i z := by unfold atI; rw [Int.toNat_natCast]
theorem index_T (l : List DS0) (i : Nat) (hi : i < l.length) (hl : l.length ≤ 6) : T (m74 (l, ()) (l.getD i zA).1) (fun y => (y.1 < (i : Int)) ↔ dupN l i = true) := by
 unfold m74
 have hL := lenI_eq l
 generalize hw : (l.getD i zA).1 = w
 have hd : dupN l i = (l.take i).any (fun x => eqB x.1 w) := by unfold dupN; rw [hw]
 rw [hd]
 refine T.loop (fun q => ∃ j : Nat, j ≤ i ∧ (l.take j).any (fun x => eqB x.1 w) = false ∧ q = (w, l, lenI l, (j : Int), ())) (fun q => l.length - q.2.2.2.1.toNat) ⟨0, by omega, rfl, rfl⟩ ?_
 rintro _ ⟨j, hj, hf, rfl⟩
 dsimp only
 refine T.ct (by rw [iLt_T]; omega) ?_
 have hjl : j < l.length := by omega
 refine T.grd (by rw [bnd_T]; omega) ?_
 rw [at_get l j _ hjl, sEq_eqB]
 refine T.cnd (fun hc => T.out ?_) (fun hc => T.go ⟨j + 1, ?_, ?_, ?_⟩ ?_)
 ·dsimp only
  constructor
  ·intro q
   refine List.any_eq_true.2 ⟨l[j], List.mem_iff_getElem.2 ⟨j, by rw [List.length_take]; omega, by rw [List.getElem_take]⟩, hc⟩
  ·intro q
   rcases Nat.lt_or_ge j i with r | r
   ·omega
   ·obtain rfl : j = i := by omega
    rw [hf] at q; cases q
 ·rcases Nat.lt_or_ge j i with r | r
  ·omega
  ·obtain rfl : j = i := by omega
   rw [getD_eq l j _ hjl] at hw
   rw [hw] at hc
   have : eqB w w = true := by rw [eqB_T]
   rw [this] at hc; cases hc
 ·rw [List.take_succ_eq_append_getElem hjl, List.any_append, hf]; simp [hc]
 ·rw [iAdd64 (by omega) (by omega)]; rfl
 ·dsimp only; rw [iAdd64 (by omega) (by omega)]; omega
theorem val_m (s : DS5) : m38 s = some (valS s.1, ()) := by
 obtain ⟨l, ⟨⟩⟩ := s
 refine T.eq ?_
 unfold m38 valS
 dsimp only
 have hL := lenI_eq l
 refine T.cnd (fun hc => T.ret ?_) (fun hc => ?_) <;> simp only [iEq_T, iEq_F] at hc
 ·rw [if_pos (by omega)]
 rw [if_neg (by omega)]
 refine T.cnd (fun hc => T.ret ?_) (fun hc => ?_) <;> simp only [iLt_T, iLt_F] at hc
 ·rw [if_pos (by omega)]
 rw [if_neg (by omega)]
 generalize htg : valF l l.length 0 = tgt
 refine T.loop (fun q => ∃ n i : Nat, i + n = l.length ∧ valF l n i = tgt ∧ q = (l, lenI l, (i : Int), l, ())) (fun q => l.length - q.2.2.1.toNat) ⟨l.length, 0, by omega, htg, rfl⟩ ?_
 rintro _ ⟨n, i, hn, he, rfl⟩
 dsimp only
 refine T.cnd (fun hc1 => ?_) (fun hc1 => ?_) <;> simp only [iLt_T, iLt_F] at hc1
 ·have hi : i < l.length := by omega
  obtain ⟨n, rfl⟩ : ∃ m, n = m + 1 := ⟨n - 1, by omega⟩
  simp only [valF] at he
  refine T.grd (by rw [bnd_T]; omega) ?_
  have ea : atI l (i : Int) (ByteArray.empty, 0, [], 0, 0, ()) = l.getD i zA := atI_getD l i zA
  rw [ea]
  refine T.callE (nm _) ?_
  dsimp only
  refine T.cnd (fun c1 => T.out ?_) (fun c1 => ?_) <;> simp only [not_T, not_F] at c1
  ·rw [show chk l i = 6 by unfold chk; rw [if_pos c1], if_pos (by decide)] at he; exact he ▸ rfl
  have k1 : chk l i = if dupN l i = true then 8 else attrS (l.getD i zA) := by unfold chk; rw [if_neg (by rw [c1]; simp)]
  refine T.call (index_T l i hi (by omega)) (fun y hy => ?_)
  refine T.cnd (fun c2 => T.out ?_) (fun c2 => ?_) <;> simp only [iLt_T, iLt_F] at c2
  ·rw [if_pos (hy.1 c2)] at k1; rw [k1, if_pos (by decide)] at he; exact he ▸ rfl
  rw [if_neg (fun q => by have := hy.2 q; omega)] at k1
  rw [k1] at he
  refine T.callE (attr_m (l.getD i zA)) ?_
  dsimp only
  refine T.cnd (fun c3 => T.out ?_) (fun c3 => T.go ⟨n, i + 1, by omega, ?_, ?_⟩ ?_) <;> simp only [iNe_T, iNe_F] at c3
  ·rw [if_pos c3] at he; exact he ▸ rfl
  ·rw [if_neg (by rw [c3]; simp)] at he; exact he
  ·rw [iAdd64 (by omega) (by omega)]; rfl
  ·dsimp only; rw [iAdd64 (by omega) (by omega)]; omega
 ·obtain rfl : n = 0 := by omega
  exact T.out (he ▸ rfl)
theorem val_r (s : DS5) : m41 s = some (valS s.1, ()) := by
 obtain ⟨l, ⟨⟩⟩ := s
 refine T.eq ?_
 unfold m41 valS
 dsimp only
 have hL := lenI_eq l
 refine T.cnd (fun hc => T.ret ?_) (fun hc => ?_) <;> simp only [iEq_T, iEq_F] at hc
 ·rw [if_pos (by omega)]
 rw [if_neg (by omega)]
 refine T.cnd (fun hc => T.ret ?_) (fun hc => ?_) <;> simp only [iLt_T, iLt_F] at hc
 ·rw [if_pos (by omega)]
 rw [if_neg (by omega)]
 generalize htg : valF l l.length 0 = tgt
 refine T.loop (fun q => ∃ n i : Nat, i + n = l.length ∧ valF l n i = tgt ∧ q = ((i : Int), l, ())) (fun q => l.length - q.1.toNat) ⟨l.length, 0, by omega, htg, rfl⟩ ?_
 rintro _ ⟨n, i, hn, he, rfl⟩
 dsimp only
 refine T.cnd (fun hc1 => ?_) (fun hc1 => ?_) <;> simp only [iLt_T, iLt_F] at hc1
 ·have hi : i < l.length := by omega
  obtain ⟨n, rfl⟩ : ∃ m, n = m + 1 := ⟨n - 1, by omega⟩
  simp only [valF] at he
  refine T.grd (by rw [bnd_T]; omega) ?_
  have ea : atI l (i : Int) (ByteArray.empty, 0, [], 0, 0, ()) = l.getD i zA := atI_getD l i zA
  rw [ea]
  refine T.callE (nr _) ?_
  dsimp only
  refine T.cnd (fun c1 => T.out ?_) (fun c1 => ?_) <;> simp only [not_T, not_F] at c1
  ·rw [show chk l i = 6 by unfold chk; rw [if_pos c1], if_pos (by decide)] at he; exact he ▸ rfl
  have k1 : chk l i = if dupN l i = true then 8 else attrS (l.getD i zA) := by unfold chk; rw [if_neg (by rw [c1]; simp)]
  obtain ⟨w, hw⟩ : ∃ w, l.getD i zA = w := ⟨_, rfl⟩
  have hd : dupN l i = (l.take i).any (fun x => eqB x.1 w.1) := by unfold dupN; rw [hw]
  rw [hw, hd] at k1
  rw [hw]
  refine T.loop (fun q => ∃ j : Nat, j ≤ i ∧ (l.take j).any (fun x => eqB x.1 w.1) = false ∧ q = ((i : Int), (j : Int), l, w.1, w.2.1, w.2.2.1, w.2.2.2.1, w.2.2.2.2.1, ())) (fun q => i - q.2.1.toNat) ⟨0, by omega, rfl, rfl⟩ ?_
  rintro _ ⟨j, hj, hf, rfl⟩
  dsimp only
  refine T.cnd (fun hc2 => ?_) (fun hc2 => ?_) <;> simp only [iLt_T, iLt_F] at hc2
  ·have hjl : j < l.length := by omega
   refine T.grd (by rw [bnd_T]; omega) ?_
   rw [at_get l j _ hjl, sEq_eqB]
   refine T.cnd (fun hc3 => T.out ?_) (fun hc3 => T.go ⟨j + 1, by omega, ?_, ?_⟩ ?_)
   ·show ((8 : Int), ()) = (tgt, ())
    rw [if_pos (List.any_eq_true.2 ⟨l[j], List.mem_iff_getElem.2 ⟨j, by rw [List.length_take]; omega, by rw [List.getElem_take]⟩, hc3⟩)] at k1
    rw [k1, if_pos (by decide)] at he
    exact he ▸ rfl
   ·rw [List.take_succ_eq_append_getElem hjl, List.any_append, hf]; simp [hc3]
   ·rw [iAdd64 (by omega) (by omega)]; rfl
   ·dsimp only; rw [iAdd64 (by omega) (by omega)]; omega
  ·obtain rfl : j = i := by omega
   rw [if_neg (by rw [hf]; simp)] at k1
   rw [k1] at he
   refine T.mapL ?_
   refine T.callE (attr_r (w.1, w.2.1, w.2.2.1, w.2.2.2.1, w.2.2.2.2.1, ())) ?_
   have ew : ((w.1, w.2.1, w.2.2.1, w.2.2.2.1, w.2.2.2.2.1, ()) : DS0) = w := rfl
   rw [ew]
   dsimp only
   refine T.cnd (fun c3 => T.ret ?_) (fun c3 => T.ret ⟨⟨n, j + 1, by omega, ?_, ?_⟩, ?_⟩) <;> simp only [iNe_T, iNe_F] at c3
   ·show (attrS w, ()) = (tgt, ())
    rw [if_pos c3] at he; exact he ▸ rfl
   ·rw [if_neg (by rw [c3]; simp)] at he; exact he
   ·rw [iAdd64 (by omega) (by omega)]; rfl
   ·dsimp only; rw [iAdd64 (by omega) (by omega)]; omega
 ·obtain rfl : n = 0 := by omega
  exact T.out (he ▸ rfl)
theorem valF_ok (l : List DS0) : ∀ n i, valF l n i = 0 → ∀ j, i ≤ j → j < i + n → chk l j = 0 := by
 intro n
 induction n with
 | zero => intro i _ j h1 h2; omega
 | succ n ih =>
  intro i h j h1 h2
  simp only [valF] at h
  by_cases q : chk l i ≠ 0
  ·rw [if_pos q] at h; exact absurd h q
  ·rw [if_neg q] at h
   rcases Nat.eq_or_lt_of_le h1 with r | r
   ·subst r; simpa using q
   ·exact ih (i + 1) h j (by omega) (by omega)
theorem val_ok {l : List DS0} (h : valS l = 0) : 1 ≤ l.length ∧ l.length ≤ 6 ∧ ∀ a ∈ l, nameD a.1 = true ∧ attrS a = 0 := by
 unfold valS at h
 by_cases q : l.length = 0
 ·rw [if_pos q] at h; cases h
 rw [if_neg q] at h
 by_cases q2 : 6 < l.length
 ·rw [if_pos q2] at h; cases h
 rw [if_neg q2] at h
 refine ⟨by omega, by omega, fun a ha => ?_⟩
 obtain ⟨j, hj, rfl⟩ := List.mem_iff_getElem.1 ha
 have := valF_ok l l.length 0 h j (by omega) (by omega)
 unfold chk at this
 rw [getD_eq l j zA hj] at this
 rcases c : nameD (l[j]).1 with _ | _
 ·rw [if_pos c] at this; cases this
 ·rw [if_neg (by rw [c]; simp)] at this
  by_cases d : dupN l j = true
  ·rw [if_pos d] at this; cases this
  ·rw [if_neg d] at this; exact ⟨rfl, this⟩
def domS (a : DS0) : Int × Int := if a.2.1 = 1 then (0, (a.2.2.1.length : Int) - 1) else if a.2.1 = 2 then (a.2.2.2.1, a.2.2.2.2.1) else (0, 1)
theorem words_len {l : List ByteArray} (h : wordsS l = 0) : 1 ≤ l.length ∧ l.length ≤ 12 ∧ ∀ w ∈ l, nameD w = true := by
 unfold wordsS at h
 by_cases q : l.length = 0
 ·rw [if_pos q] at h; cases h
 rw [if_neg q] at h
 by_cases q2 : 12 < l.length
 ·rw [if_pos q2] at h; cases h
 rw [if_neg q2] at h
 by_cases q3 : l.all nameD = true
 ·exact ⟨by omega, by omega, fun w hw => List.all_eq_true.1 q3 w hw⟩
 ·rw [if_neg q3] at h; cases h
theorem attr_ok {a : DS0} (h : attrS a = 0) : (a.2.1 = 1 ∧ 1 ≤ a.2.2.1.length ∧ a.2.2.1.length ≤ 12 ∧ (∀ w ∈ a.2.2.1, nameD w = true)) ∨ (a.2.1 = 2 ∧ a.2.2.2.1 ≤ a.2.2.2.2.1 ∧ -1000000000 ≤ a.2.2.2.1 ∧ a.2.2.2.2.1 ≤ 1000000000) ∨ a.2.1 = 3 := by
 unfold attrS at h
 by_cases c1 : a.2.1 = 1
 ·rw [if_pos c1] at h
  by_cases c2 : a.2.2.2.1 ≠ 0 ∨ a.2.2.2.2.1 ≠ 0
  ·rw [if_pos c2] at h; cases h
  ·rw [if_neg c2] at h; have := words_len h; exact .inl ⟨c1, this.1, this.2.1, this.2.2⟩
 rw [if_neg c1] at h
 by_cases c2 : a.2.1 = 2
 ·rw [if_pos c2] at h
  by_cases c3 : 0 < a.2.2.1.length
  ·rw [if_pos c3] at h; cases h
  rw [if_neg c3] at h
  by_cases c4 : a.2.2.2.2.1 < a.2.2.2.1 ∨ a.2.2.2.1 < -1000000000 ∨ 1000000000 < a.2.2.2.2.1
  ·rw [if_pos c4] at h; cases h
  ·exact .inr (.inl ⟨c2, by omega, by omega, by omega⟩)
 rw [if_neg c2] at h
 by_cases c3 : a.2.1 = 3
 ·exact .inr (.inr c3)
 ·rw [if_neg c3] at h; cases h
theorem dom_bd {a : DS0} (h : attrS a = 0) : (domS a).1 ≤ (domS a).2 ∧ -1000000000 ≤ (domS a).1 ∧ (domS a).2 ≤ 1000000000 := by
 unfold domS
 rcases attr_ok h with ⟨k, h1, h2, _⟩ | ⟨k, h1, h2, h3⟩ | k
 ·rw [if_pos k]; dsimp only; omega
 ·rw [if_neg (by omega), if_pos k]; exact ⟨h1, h2, h3⟩
 ·rw [if_neg (by omega), if_neg (by omega)]; decide
theorem dom_m {a : DS0} (h : attrS a = 0) : m76 a = some ((domS a).1, (domS a).2, ()) := by
 refine T.eq ?_
 unfold m76 domS
 have hL := lenI_eq a.2.2.1
 refine T.cnd (fun c1 => ?_) (fun c1 => ?_) <;> simp only [iEq_T, iEq_F] at c1
 ·rcases attr_ok h with ⟨k, h1, h2, _⟩ | ⟨k, _⟩ | k
  ·rw [if_pos c1, iSub64 (by omega) (by omega), hL]; exact T.ret rfl
  ·omega
  ·omega
 rw [if_neg c1]
 refine T.cnd (fun c2 => ?_) (fun c2 => ?_) <;> simp only [iEq_T, iEq_F] at c2
 ·rw [if_pos c2]; exact T.ret rfl
 ·rw [if_neg c2]; exact T.ret rfl
theorem dom_r (l : List DS0) (i : Nat) (hi : i < l.length) (h : valS l = 0) : m42 (l, ()) (i : Int) = some ((domS l[i]).1, (domS l[i]).2, ()) := by
 refine T.eq ?_
 unfold m42
 have hL := lenI_eq l
 obtain ⟨v1, v2, v3⟩ := val_ok h
 have ha := (v3 _ (List.getElem_mem hi)).2
 refine T.callE (val_r (l, ())) ?_
 dsimp only
 refine T.cf (by rw [corT_F, corT_F, iNe_F, iLt_F, iLe_F]; omega) ?_
 refine T.grd (by rw [bnd_T]; omega) ?_
 rw [at_get l i _ hi]
 unfold domS
 have hL2 := lenI_eq (l[i]).2.2.1
 refine T.cnd (fun c1 => ?_) (fun c1 => ?_) <;> simp only [iEq_T, iEq_F] at c1
 ·rcases attr_ok ha with ⟨k, h1, h2, _⟩ | ⟨k, _⟩ | k
  ·rw [if_pos c1, iSub64 (by omega) (by omega), hL2]; exact T.ret rfl
  ·omega
  ·omega
 rw [if_neg c1]
 refine T.cnd (fun c2 => ?_) (fun c2 => ?_) <;> simp only [iEq_T, iEq_F] at c2
 ·rw [if_pos c2]; exact T.ret rfl
 ·rw [if_neg c2]; exact T.ret rfl
theorem within_T (a n : Int) (ha : -9223372036854775808 ≤ a ∧ a ≤ 9223372036854775807) (hn : 0 < n) (hn2 : n ≤ 4611686018427387904) : T (m16 a n) (fun y => 0 ≤ y.1 ∧ y.1 < n) := by
 unfold m16
 refine T.grd (by rw [iNe_T]; omega) (T.grd (by rw [iNe_T]; omega) (T.ret ?_))
 have h1 : iRem a n = a.tmod n := rfl
 have h2 : a.tmod n < n := Int.tmod_lt_of_pos a hn
 have h3 : -n < a.tmod n := by have := Int.lt_tmod_of_pos a hn; omega
 dsimp only
 rw [h1, iAdd64 (by omega) (by omega)]
 have h4 : iRem (a.tmod n + n) n = (a.tmod n + n) % n := rem_pos (by omega)
 rw [h4]
 exact ⟨Int.emod_nonneg _ (by omega), Int.emod_lt_of_pos _ hn⟩
def sch : Nat → List DS0
 | 0 => ([((bs [112, 101, 114, 105, 108]), 1, ([(bs [102, 105, 114, 101]), (bs [102, 108, 111, 111, 100]), (bs [119, 105, 110, 100]), (bs [116, 104, 101, 102, 116])] : List ByteArray), 0, 0, ()), ((bs [115, 116, 111, 114, 101, 121, 115]), 2, ([] : List ByteArray), 1, 9, ()), ((bs [97, 108, 97, 114, 109]), 3, ([] : List ByteArray), 0, 0, ())] : List DS0)
 | 1 => ([((bs [110]), 2, ([] : List ByteArray), (-5), 20, ())] : List DS0)
 | 2 => ([((bs [97]), 3, ([] : List ByteArray), 0, 0, ()), ((bs [114, 111, 108, 101]), 1, ([(bs [99, 114, 101, 119]), (bs [103, 117, 101, 115, 116])] : List ByteArray), 0, 0, ()), ((bs [98]), 3, ([] : List ByteArray), 0, 0, ())] : List DS0)
 | 3 => ([((bs [110]), 2, ([] : List ByteArray), (-1000000000), 1000000000, ()), ((bs [116]), 3, ([] : List ByteArray), 0, 0, ())] : List DS0)
 | 4 => ([((bs [111, 110, 101]), 1, ([(bs [111, 110, 108, 121])] : List ByteArray), 0, 0, ()), ((bs [112, 101, 114, 105, 108]), 1, ([(bs [102, 105, 114, 101]), (bs [102, 108, 111, 111, 100]), (bs [119, 105, 110, 100]), (bs [116, 104, 101, 102, 116])] : List ByteArray), 0, 0, ()), ((bs [110]), 2, ([] : List ByteArray), 0, 6, ()), ((bs [116]), 3, ([] : List ByteArray), 0, 0, ())] : List DS0)
 | _ => ([((bs [116]), 3, ([] : List ByteArray), 0, 0, ())] : List DS0)
theorem sch_m (k : Int) (hk : -9223372036854775808 ≤ k ∧ k ≤ 9223372036854775807) : ∃ j : Nat, j < 6 ∧ m15 k = some ((sch j, ()), ()) := by
 obtain ⟨⟨v, _⟩, h1, h2, h3⟩ := within_T k 6 hk (by omega) (by omega)
 unfold m15
 rw [h1]
 dsimp only at h2 h3 ⊢
 refine ⟨v.toNat, by omega, ?_⟩
 have : v = 0 ∨ v = 1 ∨ v = 2 ∨ v = 3 ∨ v = 4 ∨ v = 5 := by omega
 rcases this with rfl | rfl | rfl | rfl | rfl | rfl <;> rfl
theorem sch_val : ∀ j : Nat, j < 6 → valS (sch j) = 0 := by
 intro j hj
 match j, hj with
 | 0, _ => exact (by kernel_rfl : valS (sch 0) = 0)
 | 1, _ => exact (by kernel_rfl : valS (sch 1) = 0)
 | 2, _ => exact (by kernel_rfl : valS (sch 2) = 0)
 | 3, _ => exact (by kernel_rfl : valS (sch 3) = 0)
 | 4, _ => exact (by kernel_rfl : valS (sch 4) = 0)
 | 5, _ => exact (by kernel_rfl : valS (sch 5) = 0)
def zN : DS1 := (0, [], [], ())
def zS : DS3 := (0, 0, ())
def doms (l : List DS0) : List DS3 := l.map fun a => ((domS a).1, (domS a).2, ())
theorem doms_len (l : List DS0) : (doms l).length = l.length := by simp [doms]
theorem doms_get (l : List DS0) (i : Nat) (h : i < l.length) : (doms l).getD i zS = ((domS l[i]).1, (domS l[i]).2, ()) := by
 rw [getD_eq _ _ _ (by rw [doms_len]; exact h)]; simp [doms]
def DmOk (dm : List DS3) : Prop := 1 ≤ dm.length ∧ dm.length ≤ 6 ∧ ∀ d ∈ dm, d.1 ≤ d.2.1 ∧ -1000000000 ≤ d.1 ∧ d.2.1 ≤ 1000000000
theorem doms_ok {l : List DS0} (h : valS l = 0) : DmOk (doms l) := by
 obtain ⟨v1, v2, v3⟩ := val_ok h
 refine ⟨by rw [doms_len]; exact v1, by rw [doms_len]; exact v2, fun d hd => ?_⟩
 obtain ⟨a, ha, rfl⟩ := List.mem_map.1 hd
 exact dom_bd (v3 a ha).2
theorem DmOk.at {dm : List DS3} (h : DmOk dm) {i : Nat} (hi : i < dm.length) : (dm.getD i zS).1 ≤ (dm.getD i zS).2.1 ∧ -1000000000 ≤ (dm.getD i zS).1 ∧ (dm.getD i zS).2.1 ≤ 1000000000 := by
 rw [getD_eq _ _ _ hi]; exact h.2.2 _ (List.getElem_mem hi)
theorem dom_sc (l : List DS0) (i : Nat) (hi : i < l.length) (h : valS l = 0) : m39 (l, ()) (i : Int) = some ((domS l[i]).1, (domS l[i]).2, ()) := by
 have v := val_ok h
 refine T.eq ?_
 unfold m39
 refine T.callE (val_m _) ?_
 have hL := lenI_eq l
 dsimp only
 refine T.cf (by rw [corT_F, corT_F, iNe_F, iLt_F, iLe_F]; exact ⟨⟨h, by omega⟩, by omega⟩) ?_
 refine T.grd (by rw [bnd_T]; omega) ?_
 rw [show atI l (i : Int) (ByteArray.empty, 0, [], 0, 0, ()) = l[i] from at_get l i _ hi]
 exact T.callE (dom_m (v.2.2 _ (List.getElem_mem hi)).2) (T.ret rfl)
theorem doms_m (l : List DS0) (h : valS l = 0) : m50 (l, ()) = some (doms l, ()) := by
 refine T.eq ?_
 unfold m50
 have v := val_ok h
 have hL := lenI_eq l
 refine T.grd (by rw [fitsI_T]; dsimp only; omega) ?_
 refine T.loop (fun q => ∃ (i : Nat) (r : List DS3), i ≤ l.length ∧ r.length = l.length ∧ (∀ j, j < i → r.getD j zS = (doms l).getD j zS) ∧ q = ((l.length : Int), (i : Int), l, r, ())) (fun q => l.length - q.2.1.toNat) ⟨0, List.replicate l.length zS, by omega, by simp, fun j hj => by omega, ?_⟩ ?_
 ·dsimp only
  rw [hL, Int.toNat_natCast, lenI_eq, List.length_replicate]
  rfl
 rintro _ ⟨i, r, hi, hr, hg, rfl⟩
 dsimp only
 refine T.cnd (fun hc => ?_) (fun hc => ?_) <;> simp only [iLt_T, iLt_F] at hc
 ·have hlt : i < l.length := by omega
  refine T.callE (dom_sc l i hlt h) ?_
  have hr1 := lenI_eq r
  have hS := lenI_eq (List.set r (i : Int).toNat ((domS l[i]).1, (List.getD r (i : Int).toNat (0, 0, ())).2.1, ()))
  rw [List.length_set] at hS
  refine T.grd (by rw [bnd_T]; omega) (T.grd (by rw [inB_T]; omega) (T.grd (by rw [bnd_T]; dsimp only; omega) (T.grd (by rw [inB_T, List.length_set]; omega) ?_)))
  refine T.go ⟨i + 1, _, by omega, ?_, ?_, by rw [iAdd64 (by omega) (by omega)]; rfl⟩ (by dsimp only; rw [iAdd64 (by omega) (by omega)]; omega)
  ·simp [hr]
  ·intro j hj
   rw [Int.toNat_natCast]
   have hjl : j < l.length := by omega
   rw [doms_get l j hjl]
   by_cases e : j = i
   ·subst e
    rw [getD_eq _ _ _ (by simp [hr]; omega)]
    simp
    rw [List.getElem?_set_self (by omega)]
    rfl
   ·have hx := hg j (by omega)
    rw [doms_get l j hjl] at hx
    rw [List.getD_eq_getElem?_getD, List.getElem?_set_ne (by omega), List.getElem?_set_ne (by omega), ← List.getD_eq_getElem?_getD]
    exact hx
 ·obtain rfl : i = l.length := by omega
  refine T.out ?_
  congr 1
  apply List.ext_getElem (by rw [hr, doms_len])
  intro j h1 h2
  have := hg j (by rw [← hr]; exact h1)
  rwa [getD_eq _ _ _ h1, getD_eq _ _ _ h2] at this
theorem same_m (a b : List Int) (h : a.length ≤ 4611686018427387904) : m23 a b = some (decide (a = b), ()) := by
 refine T.eq ?_
 unfold m23
 have hA := lenI_eq a
 have hB := lenI_eq b
 refine T.cnd (fun hc => ?_) (fun hc => ?_) <;> simp only [iNe_T, iNe_F] at hc
 ·refine T.ret ?_
  rw [decide_eq_false (fun e => by subst e; exact hc rfl)]
 refine T.loop (fun q => ∃ i : Nat, i ≤ a.length ∧ (∀ j, j < i → a.getD j 0 = b.getD j 0) ∧ q = (a, b, (i : Int), ())) (fun q => a.length - q.2.2.1.toNat) ⟨0, by omega, fun j hj => by omega, rfl⟩ ?_
 rintro _ ⟨i, hi, hg, rfl⟩
 dsimp only
 refine T.cnd (fun hc => ?_) (fun hc => ?_) <;> simp only [iLt_T, iLt_F] at hc
 ·refine T.grd (by rw [bnd_T]; omega) (T.grd (by rw [bnd_T]; omega) (T.cnd (fun hd => ?_) (fun hd => ?_))) <;> simp only [iNe_T, iNe_F, atI_getD] at hd
  ·exact T.out (by rw [decide_eq_false (fun e => by subst e; exact hd rfl)])
  ·refine T.go ⟨i + 1, by omega, fun j hj => ?_, by rw [iAdd64 (by omega) (by omega)]; rfl⟩ (by dsimp only; rw [iAdd64 (by omega) (by omega)]; omega)
   rcases Nat.lt_or_ge j i with r | r
   ·exact hg j r
   ·obtain rfl : j = i := by omega
    exact hd
 ·refine T.out ?_
  rw [decide_eq_true]
  apply List.ext_getElem (by omega)
  intro j h1 h2
  have := hg j (by omega)
  rwa [getD_eq _ _ _ h1, getD_eq _ _ _ h2] at this
def RefOk (n : Nat) (r : Int) : Prop := -256 ≤ r ∧ r < (n : Int)
instance (n : Nat) (r : Int) : Decidable (RefOk n r) := inferInstanceAs (Decidable (_ ∧ _))
theorem ref_m (x : DS2) (r : Int) : m59 x r = some (decide (RefOk x.1.length r), ()) := by
 unfold m59
 show some (cond (iLe (iSub .i64 (-1) 255) r) (iLt r (lenI x.1)) false, ()) = _
 rw [iSub64 (by omega) (by omega), lenI_eq]
 have : cond (iLe (-1 - 255) r) (iLt r (x.1.length : Int)) false = decide (RefOk x.1.length r) := by
  rw [Bool.eq_iff_iff, candF_T, iLe_T, iLt_T, decide_eq_true_eq]
  unfold RefOk
  constructor <;> intro h <;> omega
 rw [this]
def SoundN (dm : List DS3) (ns : List DS1) (x : DS1) : Prop :=
 0 ≤ x.1 ∧ x.1 < (dm.length : Int) ∧ 0 < x.2.1.length ∧ x.2.2.1.length = x.2.1.length + 1 ∧
 (∀ k, k < x.2.1.length → (dm.getD x.1.toNat zS).1 < x.2.1.getD k 0 ∧ x.2.1.getD k 0 ≤ (dm.getD x.1.toNat zS).2.1 ∧ (0 < k → x.2.1.getD (k - 1) 0 < x.2.1.getD k 0)) ∧
 (∀ k, k < x.2.2.1.length → RefOk ns.length (x.2.2.1.getD k 0) ∧ (0 < k → x.2.2.1.getD k 0 ≠ x.2.2.1.getD (k - 1) 0) ∧ (0 ≤ x.2.2.1.getD k 0 → x.1 < (ns.getD (x.2.2.1.getD k 0).toNat zN).1))
theorem rise_len {cs : List Int} {lo hi : Int} (h : ∀ k, k < cs.length → lo < cs.getD k 0 ∧ cs.getD k 0 ≤ hi ∧ (0 < k → cs.getD (k - 1) 0 < cs.getD k 0)) : ∀ k, k < cs.length → lo + k + 1 ≤ cs.getD k 0 := by
 intro k
 induction k with
 | zero => intro hk; have := (h 0 hk).1; omega
 | succ k ih => intro hk; have h1 := ih (by omega); have h2 := (h (k + 1) hk).2.2 (by omega); rw [Nat.add_sub_cancel] at h2; omega
theorem SoundN.len {dm : List DS3} {ns : List DS1} {x : DS1} (h : SoundN dm ns x) (hd : DmOk dm) : x.2.1.length ≤ 2000000000 ∧ x.2.2.1.length ≤ 2000000001 := by
 obtain ⟨h1, h2, h3, h4, h5, _⟩ := h
 have hb := hd.at (i := x.1.toNat) (by omega)
 have := rise_len h5 (x.2.1.length - 1) (by omega)
 have h6 := (h5 (x.2.1.length - 1) (by omega)).2.1
 omega
theorem sound_m {dm : List DS3} (hd : DmOk dm) (ns : List DS1) (root : Int) (x : DS1) (h1 : x.2.1.length ≤ 4611686018427387904) (h2 : x.2.2.1.length ≤ 4611686018427387904) (hn : ns.length ≤ 4611686018427387904) : T (m60 (ns, root, ()) x dm) (fun y => y.1 = true ↔ SoundN dm ns x) := by
 obtain ⟨a, cs, nx, ⟨⟩⟩ := x
 dsimp only at h1 h2
 unfold m60
 have hC := lenI_eq cs
 have hX := lenI_eq nx
 have hD := lenI_eq dm
 have hd1 := hd.1
 have hd2 := hd.2.1
 dsimp only
 rw [hC, hX, hD, iAdd64 (by omega) (by omega)]
 refine T.cnd (fun hc => ?_) (fun hc => ?_) <;> simp only [corT_T, corT_F, iLt_T, iLt_F, iLe_T, iLe_F, iEq_T, iEq_F, iNe_T, iNe_F] at hc
 ·refine T.ret ⟨fun h => (by cases h), fun h => ?_⟩
  obtain ⟨k1, k2, k3, k4, _⟩ := h
  dsimp only at k1 k2 k3 k4
  omega
 obtain ⟨⟨⟨c1, c2⟩, c3⟩, c4⟩ := hc
 refine T.grd (by rw [bnd_T]; omega) ?_
 refine T.loop (fun q => ∃ i : Nat, i ≤ cs.length ∧ (∀ k, k < i → (dm.getD a.toNat zS).1 < cs.getD k 0 ∧ cs.getD k 0 ≤ (dm.getD a.toNat zS).2.1 ∧ (0 < k → cs.getD (k - 1) 0 < cs.getD k 0)) ∧ q = (dm, (if i = 0 then (dm.getD a.toNat zS).1 else cs.getD (i - 1) 0), cs, (cs.length : Int), (i : Int), ns, root, a, cs, nx, ())) (fun q => cs.length - q.2.2.2.2.1.toNat) ⟨0, by omega, fun k hk => by omega, rfl⟩ ?_
 rintro _ ⟨i, hi, hg, rfl⟩
 dsimp only
 have eA : atI dm a (0, 0, ()) = dm.getD a.toNat zS := rfl
 rw [hC, hX, hD, eA, atI_getD]
 refine T.cnd (fun hc => ?_) (fun hc => ?_) <;> simp only [iLt_T, iLt_F] at hc
 ·have hlt : i < cs.length := by omega
  refine T.grd (by rw [bnd_T]; omega) (T.grd (by rw [or_T, bnd_T]; exact .inl ⟨by omega, by omega⟩) (T.cnd (fun hc2 => ?_) (fun hc2 => ?_))) <;> simp only [corT_T, corT_F, iLt_T, iLt_F, iLe_T, iLe_F] at hc2
  ·refine T.out ⟨fun h => (by cases h), fun h => ?_⟩
   have k5 := h.2.2.2.2.1 i hlt
   dsimp only at k5
   by_cases e : i = 0
   ·rw [if_pos e] at hc2; omega
   ·rw [if_neg e] at hc2; have := k5.2.2 (by omega); omega
  ·refine T.go ⟨i + 1, by omega, fun k hk => ?_, ?_⟩ (by dsimp only; rw [iAdd64 (by omega) (by omega)]; omega)
   ·rcases Nat.lt_or_ge k i with r | r
    ·exact hg k r
    ·obtain rfl : k = i := by omega
     by_cases e : k = 0
     ·rw [if_pos e] at hc2; exact ⟨by omega, by omega, fun q => by omega⟩
     ·rw [if_neg e] at hc2; have := hg (k - 1) (by omega); exact ⟨by omega, by omega, fun _ => by omega⟩
   ·rw [iAdd64 (by omega) (by omega), if_neg (by omega), Nat.add_sub_cancel]; rfl
 ·obtain rfl : i = cs.length := by omega
  refine T.mapL ?_
  refine T.loop (fun q => ∃ j : Nat, j ≤ nx.length ∧ (∀ k, k < j → RefOk ns.length (nx.getD k 0) ∧ (0 < k → nx.getD k 0 ≠ nx.getD (k - 1) 0) ∧ (0 ≤ nx.getD k 0 → a < (ns.getD (nx.getD k 0).toNat zN).1)) ∧ q = (nx, (nx.length : Int), (j : Int), ns, root, a, cs, nx, ())) (fun q => nx.length - q.2.2.1.toNat) ⟨0, by omega, fun k hk => by omega, rfl⟩ ?_
  rintro _ ⟨j, hj, hgj, rfl⟩
  dsimp only
  have hN := lenI_eq ns
  rw [hX, atI_getD]
  refine T.cnd (fun hc => ?_) (fun hc => ?_) <;> simp only [iLt_T, iLt_F] at hc
  ·have hlt : j < nx.length := by omega
   refine T.grd (by rw [bnd_T]; omega) (T.callE (ref_m _ _) ?_)
   dsimp only
   refine T.cnd (fun hc2 => ?_) (fun hc2 => ?_) <;> simp only [not_T, not_F, decide_eq_true_eq, decide_eq_false_iff_not] at hc2
   ·refine T.out ⟨fun h => (by cases h), fun h => ?_⟩
    exact absurd (h.2.2.2.2.2 j hlt).1 hc2
   have hj1 : 0 < j → (iSub .i64 (j : Int) 1) = ((j - 1 : Nat) : Int) := fun q => by rw [iSub64 (by omega) (by omega)]; omega
   refine T.grd ?_ (T.cnd (fun hc3 => ?_) (fun hc3 => ?_))
   ·rw [or_T]
    by_cases q : 0 < j
    ·left; rw [hj1 q, bnd_T]; omega
    ·right; rw [not_T, bEqT_F, iLt_F]; omega
   ·rw [candF_T, iLt_T, iEq_T] at hc3
    rw [hj1 (by omega), atI_getD] at hc3
    refine T.out ⟨fun h => (by cases h), fun h => ?_⟩
    exact absurd hc3.2 ((h.2.2.2.2.2 j hlt).2.1 (by omega))
   refine T.grd ?_ (T.cnd (fun hc4 => ?_) (fun hc4 => ?_))
   ·rw [or_T]
    by_cases q : 0 ≤ nx.getD j 0
    ·left; rw [bnd_T, hN]; exact ⟨q, hc2.2⟩
    ·right; rw [not_T, bEqT_F, iLe_F]; omega
   ·rw [candF_T, iLe_T, iLe_T] at hc4
    refine T.out ⟨fun h => (by cases h), fun h => ?_⟩
    have := (h.2.2.2.2.2 j hlt).2.2 hc4.1
    have h4 : (ns.getD (nx.getD j 0).toNat zN).1 ≤ a := hc4.2
    dsimp only at this
    omega
   ·refine T.go ⟨j + 1, by omega, fun k hk => ?_, by rw [iAdd64 (by omega) (by omega)]; rfl⟩ (by dsimp only; rw [iAdd64 (by omega) (by omega)]; omega)
    rcases Nat.lt_or_ge k j with r | r
    ·exact hgj k r
    ·obtain rfl : k = j := by omega
     refine ⟨hc2, fun q e => ?_, fun q => ?_⟩
     ·rw [candF_F, iLt_F, iEq_F, hj1 q, atI_getD] at hc3
      rcases hc3 with r | r
      ·omega
      ·exact r e
     ·rw [candF_F, iLe_F, iLe_F] at hc4
      rcases hc4 with r | r
      ·omega
      ·exact r
  ·obtain rfl : j = nx.length := by omega
   exact T.out ⟨fun _ => ⟨by dsimp only; omega, by dsimp only; omega, by dsimp only; omega, by dsimp only; omega, hg, hgj⟩, fun _ => rfl⟩
end Abs
end Go.Proofs.YtgfnhpadmifiiaaDoor
section
namespace Go.Proofs.YtgfnhpadmifiiaaDoor
namespace Abs
def kids (ns : List DS1) (r : Nat) : List Int := (ns.getD r zN).2.2.1
def numS (ns : List DS1) : Nat → List Nat → Int → List Nat
 | 0, ord, _ => ord
 | f + 1, ord, r => if r < 0 ∨ r.toNat ∈ ord then ord else (kids ns r.toNat).foldl (numS ns f) (ord ++ [r.toNat])
def Ranked (ns : List DS1) (rk : Nat → Nat) : Prop := ∀ r, r < ns.length → (kids ns r).length ≤ 2000000001 ∧ ∀ c ∈ kids ns r, c < (ns.length : Int) ∧ (0 ≤ c → rk c.toNat < rk r)
def rkI (rk : Nat → Nat) (r : Int) : Nat := if r < 0 then 0 else rk r.toNat + 1
def OrdOk (n : Nat) (ord : List Nat) : Prop := ord.Nodup ∧ ∀ x ∈ ord, x < n
theorem nodup_len : ∀ (n : Nat) (l : List Nat), l.Nodup → (∀ x ∈ l, x < n) → l.length ≤ n := by
 intro n
 induction n with
 | zero => intro l _ h; cases l with
  | nil => simp
  | cons x l => exact absurd (h x (by simp)) (by omega)
 | succ n ih =>
  intro l hn h
  by_cases hm : n ∈ l
  ·have h1 := ih (l.erase n) (hn.erase n) (fun x hx => by
    have := (hn.mem_erase_iff).1 hx
    have := h x this.2
    omega)
   rw [List.length_erase_of_mem hm] at h1
   omega
  ·have := ih l hn (fun x hx => by
    have := h x hx
    have : x ≠ n := fun e => hm (e ▸ hx)
    omega)
   omega
theorem OrdOk.len {n : Nat} {ord : List Nat} (h : OrdOk n ord) : ord.length ≤ n := nodup_len n ord h.1 h.2
theorem OrdOk.snoc {n : Nat} {ord : List Nat} (h : OrdOk n ord) {r : Nat} (hr : r < n) (hm : r ∉ ord) : OrdOk n (ord ++ [r]) := by
 refine ⟨?_, fun x hx => ?_⟩
 ·rw [List.nodup_append]
  exact ⟨h.1, by simp, fun a ha b hb => by simp at hb; subst hb; exact fun e => hm (e ▸ ha)⟩
 ·rcases List.mem_append.1 hx with q | q
  ·exact h.2 x q
  ·simp at q; omega
section
variable {ns : List DS1} {rk : Nat → Nat}
theorem numS_neg (f : Nat) (ord : List Nat) {r : Int} (h : r < 0) : numS ns f ord r = ord := by
 cases f with
 | zero => rfl
 | succ f => simp only [numS]; rw [if_pos (.inl h)]
theorem numS_in (f : Nat) (ord : List Nat) {r : Int} (h : r.toNat ∈ ord) : numS ns f ord r = ord := by
 cases f with
 | zero => rfl
 | succ f => simp only [numS]; rw [if_pos (.inr h)]
theorem numS_step {f : Nat} {ord : List Nat} {r : Int} (hr : 0 ≤ r) (hm : r.toNat ∉ ord) (hf : rkI rk r ≤ f) : ∃ f', f = f' + 1 ∧ rk r.toNat ≤ f' ∧ numS ns f ord r = (kids ns r.toNat).foldl (numS ns f') (ord ++ [r.toNat]) := by
 unfold rkI at hf
 rw [if_neg (by omega)] at hf
 obtain ⟨f', rfl⟩ : ∃ f', f = f' + 1 := ⟨f - 1, by omega⟩
 refine ⟨f', rfl, by omega, ?_⟩
 simp only [numS]
 rw [if_neg (by rintro (q | q); omega; exact hm q)]
theorem foldl_ok (hR : Ranked ns rk) (f : Nat) (hf : ∀ (c : Int) (ord : List Nat), c < (ns.length : Int) → OrdOk ns.length ord → OrdOk ns.length (numS ns f ord c) ∧ ∃ t, numS ns f ord c = ord ++ t) : ∀ (cs : List Int), (∀ c ∈ cs, c < (ns.length : Int)) → ∀ ord, OrdOk ns.length ord → OrdOk ns.length (cs.foldl (numS ns f) ord) ∧ ∃ t, cs.foldl (numS ns f) ord = ord ++ t := by
 intro cs
 induction cs with
 | nil => intro _ ord h; exact ⟨h, [], by simp⟩
 | cons c cs ih =>
  intro hc ord h
  obtain ⟨h1, t1, e1⟩ := hf c ord (hc c (by simp)) h
  obtain ⟨h2, t2, e2⟩ := ih (fun x hx => hc x (by simp [hx])) _ h1
  rw [List.foldl_cons]
  exact ⟨h2, t1 ++ t2, by rw [e2, e1, List.append_assoc]⟩
theorem numS_ok (hR : Ranked ns rk) : ∀ (f : Nat) (c : Int) (ord : List Nat), c < (ns.length : Int) → OrdOk ns.length ord → OrdOk ns.length (numS ns f ord c) ∧ ∃ t, numS ns f ord c = ord ++ t := by
 intro f
 induction f with
 | zero => intro c ord _ h; exact ⟨h, [], by simp [numS]⟩
 | succ f ih =>
  intro c ord hc h
  simp only [numS]
  split
  ·exact ⟨h, [], by simp⟩
  ·rename_i q
   have h0 : 0 ≤ c := by rcases Int.lt_or_le c 0 with r | r; exact absurd (.inl r) q; exact r
   obtain ⟨h1, t, e⟩ := foldl_ok hR f ih (kids ns c.toNat) (fun x hx => ((hR c.toNat (by omega)).2 x hx).1) (ord ++ [c.toNat]) (h.snoc (by omega) (fun r => q (.inr r)))
   exact ⟨h1, [c.toNat] ++ t, by rw [e, List.append_assoc]⟩
theorem fold_ok (hR : Ranked ns rk) (f : Nat) (cs : List Int) (hc : ∀ c ∈ cs, c < (ns.length : Int)) (ord : List Nat) (h : OrdOk ns.length ord) : OrdOk ns.length (cs.foldl (numS ns f) ord) ∧ ∃ t, cs.foldl (numS ns f) ord = ord ++ t := foldl_ok hR f (numS_ok hR f) cs hc ord h
end
theorem range_ok (n M : Nat) (h : M ≤ n) : OrdOk n (List.range M) := ⟨List.nodup_range, fun x hx => by have := List.mem_range.1 hx; omega⟩
def Off (ord : List Nat) : Prop := ∃ j, j < ord.length ∧ ord.getD j 0 ≠ j
theorem Off.app {ord : List Nat} (h : Off ord) (t : List Nat) : Off (ord ++ t) := by
 obtain ⟨j, h1, h2⟩ := h
 refine ⟨j, by rw [List.length_append]; omega, ?_⟩
 rw [List.getD_eq_getElem?_getD, List.getElem?_append_left h1, ← List.getD_eq_getElem?_getD]
 exact h2
theorem Off.ne {n : Nat} (h : Off (List.range n)) : False := by
 obtain ⟨j, h1, h2⟩ := h
 rw [List.length_range] at h1
 rw [List.getD_eq_getElem?_getD, List.getElem?_range h1] at h2
 exact h2 rfl
theorem mono_62 (x : DS2 × Int × Int × Unit) : Mo fun s => mb62 s x.1 x.2.1 x.2.2.1 := by
 unfold mb62; (repeat' (first | exact Mo.const _ | exact Mo.self _ | apply Mo.bind | apply Mo.cond | apply Mo.map | apply Mo.join | apply Mo.loop | (intro _)))
theorem pre_T {ns : List DS1} {rk : Nat → Nat} (hR : Ranked ns rk) (hn : ns.length ≤ 1000000) (root : Int) (r : Int) (met : Nat) (hr : r < (ns.length : Int)) (hmet : met ≤ ns.length) :
  T (m62 (ns, root, ()) r (met : Int)) (fun y => ∃ M : Nat, y.1 = (M : Int) ∧ (y.2.1 = true → M ≤ ns.length ∧ ∀ f, rkI rk r ≤ f → numS ns f (List.range met) r = List.range M) ∧ (y.2.1 = false → ∀ f, rkI rk r ≤ f → Off (numS ns f (List.range met) r))) := by
 unfold m62
 refine fix_G (ι := Int × Nat) mono_62 (fun g => ((ns, root, ()), g.1, (g.2 : Int), ())) (fun g => g.1 < (ns.length : Int) ∧ g.2 ≤ ns.length)
  (fun g y => ∃ M : Nat, y.1 = (M : Int) ∧ (y.2.1 = true → M ≤ ns.length ∧ ∀ f, rkI rk g.1 ≤ f → numS ns f (List.range g.2) g.1 = List.range M) ∧ (y.2.1 = false → ∀ f, rkI rk g.1 ≤ f → Off (numS ns f (List.range g.2) g.1)))
  (fun g => rkI rk g.1) ?_ (r, met) ⟨hr, hmet⟩
 rintro ⟨r, met⟩ ⟨hr, hmet⟩ s ih
 dsimp only at hr hmet ih ⊢
 unfold mb62
 have hN := lenI_eq ns
 refine T.cnd (fun hc => ?_) (fun hc => ?_) <;> simp only [iLt_T, iLt_F] at hc
 ·refine T.ret ⟨met, rfl, fun _ => ⟨hmet, fun f _ => ?_⟩, fun h => (by cases h)⟩
  rcases Int.lt_or_le r 0 with q | q
  ·exact numS_neg f _ q
  ·exact numS_in f _ (List.mem_range.2 (by omega))
 refine T.cnd (fun hc2 => ?_) (fun hc2 => ?_) <;> simp only [iLt_T, iLt_F] at hc2
 ·refine T.ret ⟨met, rfl, fun h => (by cases h), fun _ f hf => ?_⟩
  obtain ⟨f', _, _, e⟩ := numS_step (ns := ns) (ord := List.range met) (by omega) (fun q => by have := List.mem_range.1 q; omega) hf
  rw [e]
  have hk := (hR r.toNat (by omega)).2
  obtain ⟨_, t, e2⟩ := fold_ok hR f' (kids ns r.toNat) (fun c hc => (hk c hc).1) (List.range met ++ [r.toNat]) ((range_ok _ _ hmet).snoc (by omega) (fun q => by have := List.mem_range.1 q; omega))
  rw [e2]
  refine Off.app ⟨met, by simp, ?_⟩ t
  rw [List.getD_eq_getElem?_getD, List.getElem?_append_right (by simp), List.length_range, Nat.sub_self]
  simp
  omega
 obtain rfl : r = (met : Int) := by omega
 have hlt : met < ns.length := by omega
 obtain ⟨hkl, hk⟩ := hR met hlt
 have ek : (atI ns (met : Int) (0, [], [], ())).2.2.1 = kids ns met := by rw [atI_getD]; rfl
 have hK := lenI_eq (kids ns met)
 refine T.grd (by rw [bnd_T]; dsimp only; omega) ?_
 dsimp only
 rw [ek, hK, iAdd64 (by omega) (by omega)]
 have hro : OrdOk ns.length (List.range met) := range_ok _ _ hmet
 have en : met ∉ List.range met := fun q => by have := List.mem_range.1 q; omega
 have unf : ∀ f, rkI rk (met : Int) ≤ f → ∃ f', rk met ≤ f' ∧ numS ns f (List.range met) (met : Int) = (kids ns met).foldl (numS ns f') (List.range (met + 1)) := fun f hf => by
  obtain ⟨f', _, h2, h3⟩ := numS_step (ns := ns) (rk := rk) (ord := List.range met) (r := (met : Int)) (by omega) (by rw [Int.toNat_natCast]; exact en) hf
  rw [Int.toNat_natCast] at h2 h3
  exact ⟨f', h2, by rw [h3, List.range_succ]⟩
 refine T.loop (fun q => ∃ (i M : Nat), i ≤ (kids ns met).length ∧ M ≤ ns.length ∧ (∀ f', rk met ≤ f' → ((kids ns met).take i).foldl (numS ns f') (List.range (met + 1)) = List.range M) ∧ q = ((M : Int), kids ns met, ((kids ns met).length : Int), (i : Int), ns, root, ())) (fun q => (kids ns met).length - q.2.2.2.1.toNat) ⟨0, met + 1, by omega, by omega, fun f' _ => by simp, rfl⟩ ?_
 rintro _ ⟨i, M, hi, hM, hfold, rfl⟩
 dsimp only
 rw [hK, atI_getD]
 refine T.cnd (fun hc3 => ?_) (fun hc3 => ?_) <;> simp only [iLt_T, iLt_F] at hc3
 ·have hil : i < (kids ns met).length := by omega
  have ec := getD_eq (kids ns met) i 0 hil
  rw [ec]
  have hcm := List.getElem_mem hil
  obtain ⟨k1, k2⟩ := hk _ hcm
  have hrk : rkI rk (kids ns met)[i] ≤ rk met := by
   unfold rkI
   split
   ·omega
   ·rename_i q; exact k2 (by omega)
  have hlt2 : rkI rk (kids ns met)[i] < rkI rk (met : Int) := by
   have : rkI rk (met : Int) = rk met + 1 := by unfold rkI; rw [if_neg (by omega), Int.toNat_natCast]
   omega
  have etk : ∀ f', ((kids ns met).take (i + 1)).foldl (numS ns f') (List.range (met + 1)) = numS ns f' (((kids ns met).take i).foldl (numS ns f') (List.range (met + 1))) (kids ns met)[i] := fun f' => by
   rw [List.take_succ_eq_append_getElem hil, List.foldl_append]; rfl
  refine T.grd (by rw [bnd_T]; omega) (T.call (ih ((kids ns met)[i], M) ⟨k1, hM⟩ hlt2) ?_)
  rintro ⟨y1, y2, ⟨⟩⟩ ⟨M', rfl, y3, y4⟩
  dsimp only at y3 y4 ⊢
  refine T.cnd (fun hc4 => ?_) (fun hc4 => ?_) <;> simp only [not_T, not_F] at hc4
  ·refine T.out ⟨M', rfl, fun h => (by cases h), fun _ f hf => ?_⟩
   obtain ⟨f', h1, h2⟩ := unf f hf
   rw [h2, ← List.take_append_drop (i + 1) (kids ns met), List.foldl_append, etk, hfold f' h1]
   have ho := (numS_ok hR f' _ (List.range M) k1 (range_ok _ _ hM)).1
   obtain ⟨_, t, e⟩ := fold_ok hR f' ((kids ns met).drop (i + 1)) (fun c hc => (hk c (List.mem_of_mem_drop hc)).1) _ ho
   rw [e]
   exact (y4 hc4 f' (by omega)).app t
  ·obtain ⟨y5, y6⟩ := y3 hc4
   refine T.go ⟨i + 1, M', by omega, y5, fun f' h1 => ?_, by rw [iAdd64 (by omega) (by omega)]; rfl⟩ (by dsimp only; rw [iAdd64 (by omega) (by omega)]; omega)
   rw [etk, hfold f' h1]
   exact y6 f' (by omega)
 ·obtain rfl : i = (kids ns met).length := by omega
  refine T.out ⟨M, rfl, fun _ => ⟨hM, fun f hf => ?_⟩, fun h => (by cases h)⟩
  obtain ⟨f', h1, h2⟩ := unf f hf
  rw [h2]
  have := hfold f' h1
  rwa [List.take_length] at this
end Abs
end Go.Proofs.YtgfnhpadmifiiaaDoor
end
section
namespace Go.Proofs.YtgfnhpadmifiiaaDoor
namespace Abs
section
variable {ns : List DS1} {rk : Nat → Nat}
end
end Abs
end Go.Proofs.YtgfnhpadmifiiaaDoor
end
namespace Go.Proofs.YtgfnhpadmifiiaaDoor
namespace Abs
def vDg (l : List UInt8) : Nat := l.foldl (fun a c => a * 10 + (c.toNat - 48)) 0
theorem vDg_snoc (l : List UInt8) (c : UInt8) : vDg (l ++ [c]) = vDg l * 10 + (c.toNat - 48) := by unfold vDg; rw [List.foldl_append]; rfl
theorem dg8 {k : Nat} (h : k < 10) : (UInt8.ofNat (48 + k)).toNat = 48 + k := by rw [UInt8.toNat_ofNat']; omega
theorem vDg_dec (u : Nat) : vDg (Lib.decDigits u) = u := by
 induction u using Nat.strongRecOn with
 | _ u ih =>
  rw [Lib.decDigits]
  split
  ·rename_i h
   show 0 * 10 + ((UInt8.ofNat (48 + u)).toNat - 48) = u
   rw [dg8 h]; omega
  ·rename_i h
   rw [vDg_snoc, ih (u / 10) (by omega), dg8 (by omega)]; omega
theorem dec_byte (u : Nat) : ∀ b ∈ Lib.decDigits u, 48 ≤ b.toNat ∧ b.toNat ≤ 57 := by
 induction u using Nat.strongRecOn with
 | _ u ih =>
  rw [Lib.decDigits]
  split
  ·rename_i h
   intro b hb
   obtain rfl := List.mem_singleton.1 hb
   rw [dg8 h]; omega
  ·rename_i h
   intro b hb
   rcases List.mem_append.1 hb with q | q
   ·exact ih (u / 10) (by omega) b q
   ·obtain rfl := List.mem_singleton.1 q
    rw [dg8 (by omega)]; omega
theorem itoa_byte (n : Int) : ∀ b ∈ Lib.itoa n, b ≠ 44 ∧ b ≠ 59 := by
 have key : ∀ b : UInt8, (48 ≤ b.toNat ∧ b.toNat ≤ 57) → b ≠ 44 ∧ b ≠ 59 := fun b h => ⟨fun e => by subst e; simp at h, fun e => by subst e; simp at h⟩
 intro b hb
 unfold Lib.itoa at hb
 split at hb
 ·rcases List.mem_cons.1 hb with rfl | q
  ·decide
  ·exact key b (dec_byte _ b q)
 ·exact key b (dec_byte _ b hb)
theorem itoa_inj {a b : Int} (h : Lib.itoa a = Lib.itoa b) : a = b := by
 have ne : ∀ u, Lib.decDigits u ≠ [] := fun u e => by
  have : (Lib.decDigits u).length = 0 := by rw [e]; rfl
  rw [Lib.decDigits] at this
  split at this <;> simp at this
 have hd : ∀ (u : Nat) (t : List UInt8), Lib.decDigits u ≠ 45 :: t := fun u t e => by
  have := (dec_byte u 45 (by rw [e]; simp)).1
  simp at this
 unfold Lib.itoa at h
 split at h <;> split at h
 ·have h2 := (List.cons.inj h).2
  have := congrArg vDg h2
  rw [vDg_dec, vDg_dec] at this
  omega
 ·exact absurd h.symm (hd _ _)
 ·exact absurd h (hd _ _)
 ·have := congrArg vDg h
  rw [vDg_dec, vDg_dec] at this
  omega
def Sep (y : List UInt8) : Prop := y = [] ∨ ∃ t, y = 44 :: t ∨ y = 59 :: t
theorem split_sep : ∀ (x x' y y' : List UInt8), (∀ b ∈ x, b ≠ 44 ∧ b ≠ 59) → (∀ b ∈ x', b ≠ 44 ∧ b ≠ 59) → Sep y → Sep y' → x ++ y = x' ++ y' → x = x' ∧ y = y' := by
 intro x
 induction x with
 | nil =>
  intro x' y y' _ h' hy hy' e
  cases x' with
  | nil => exact ⟨rfl, e⟩
  | cons b x' =>
   obtain ⟨h1, h2⟩ := h' b (by simp)
   have e : y = b :: (x' ++ y') := e
   rcases hy with rfl | ⟨t, rfl | rfl⟩
   ·cases e
   ·exact absurd (List.cons.inj e).1.symm h1
   ·exact absurd (List.cons.inj e).1.symm h2
 | cons a x ih =>
  intro x' y y' h h' hy hy' e
  cases x' with
  | nil =>
   obtain ⟨h1, h2⟩ := h a (by simp)
   have e : a :: (x ++ y) = y' := e
   rcases hy' with rfl | ⟨t, rfl | rfl⟩
   ·cases e
   ·exact absurd (List.cons.inj e).1 h1
   ·exact absurd (List.cons.inj e).1 h2
  | cons b x' =>
   have e : a :: (x ++ y) = b :: (x' ++ y') := e
   obtain ⟨e1, e2⟩ := List.cons.inj e
   obtain ⟨r1, r2⟩ := ih x' y y' (fun c hc => h c (by simp [hc])) (fun c hc => h' c (by simp [hc])) hy hy' e2
   exact ⟨by rw [e1, r1], r2⟩
def pL (cs : List Int) : List UInt8 := cs.flatMap fun c => 44 :: Lib.itoa c
theorem pL_cons (c : Int) (cs : List Int) : pL (c :: cs) = 44 :: (Lib.itoa c ++ pL cs) := by simp [pL]
def End9 (t : List UInt8) : Prop := t = [] ∨ ∃ u, t = 59 :: u
theorem pL_sep (cs : List Int) {t : List UInt8} (h : End9 t) : Sep (pL cs ++ t) := by
 cases cs with
 | nil => rcases h with rfl | ⟨u, rfl⟩; exact .inl rfl; exact .inr ⟨u, .inr rfl⟩
 | cons c cs => rw [pL_cons]; exact .inr ⟨_, .inl rfl⟩
theorem pL_inj : ∀ (cs cs' : List Int) (t t' : List UInt8), End9 t → End9 t' → pL cs ++ t = pL cs' ++ t' → cs = cs' ∧ t = t' := by
 have bad : ∀ {c : Int} {cs : List Int} {t t' : List UInt8}, End9 t' → pL (c :: cs) ++ t = t' → False := by
  intro c cs t t' h e
  rw [pL_cons] at e
  rcases h with rfl | ⟨u, rfl⟩
  ·cases e
  ·have := (List.cons.inj e).1; revert this; decide
 intro cs
 induction cs with
 | nil =>
  intro cs' t t' h h' e
  cases cs' with
  | nil => exact ⟨rfl, e⟩
  | cons c cs' => exact (bad h e.symm).elim
 | cons c cs ih =>
  intro cs' t t' h h' e
  cases cs' with
  | nil => exact (bad h' e).elim
  | cons c' cs' =>
   rw [pL_cons, pL_cons] at e
   have e : (Lib.itoa c ++ pL cs) ++ t = (Lib.itoa c' ++ pL cs') ++ t' := (List.cons.inj e).2
   rw [List.append_assoc, List.append_assoc] at e
   obtain ⟨e1, e2⟩ := split_sep _ _ _ _ (itoa_byte c) (itoa_byte c') (pL_sep cs h) (pL_sep cs' h') e
   obtain ⟨r1, r2⟩ := ih cs' t t' h h' e2
   exact ⟨by rw [itoa_inj e1, r1], r2⟩
theorem keyL_eq (a : Int) (cs ns : List Int) : keyL a cs ns = Lib.itoa a ++ (pL cs ++ 59 :: (pL ns ++ [])) := by unfold keyL pL; rw [List.append_nil, List.append_assoc]
theorem keyL_inj {a a' : Int} {cs cs' ns ns' : List Int} (h : keyL a cs ns = keyL a' cs' ns') : a = a' ∧ cs = cs' ∧ ns = ns' := by
 rw [keyL_eq, keyL_eq] at h
 obtain ⟨e1, e2⟩ := split_sep _ _ _ _ (itoa_byte a) (itoa_byte a') (pL_sep cs (.inr ⟨_, rfl⟩)) (pL_sep cs' (.inr ⟨_, rfl⟩)) h
 obtain ⟨e3, e4⟩ := pL_inj _ _ _ _ (.inr ⟨_, rfl⟩) (.inr ⟨_, rfl⟩) e2
 obtain ⟨e5, _⟩ := pL_inj _ _ _ _ (.inl rfl) (.inl rfl) (List.cons.inj e4).2
 exact ⟨itoa_inj e1, e3, e5⟩
def keyB (x : DS1) : ByteArray := ⟨(keyL x.1 x.2.1 x.2.2.1).toArray⟩
theorem keyB_inj {x y : DS1} (h : keyB x = keyB y) : x = y := by
 obtain ⟨a, cs, ns, ⟨⟩⟩ := x
 obtain ⟨a', cs', ns', ⟨⟩⟩ := y
 have h1 := ByteArray.mk.inj h
 have h2 : (keyL a cs ns).toArray.toList = (keyL a' cs' ns').toArray.toList := congrArg Array.toList h1
 have h2 : keyL a cs ns = keyL a' cs' ns' := h2
 obtain ⟨rfl, rfl, rfl⟩ := keyL_inj h2
 rfl
def VD (dm : List DS3) (ns : List DS1) (root : Int) : Prop :=
 ns.length ≤ 1000 ∧ RefOk ns.length root ∧ (∀ i, i < ns.length → SoundN dm ns (ns.getD i zN)) ∧ (∀ i, i < ns.length → ∀ k, k < i → ns.getD k zN ≠ ns.getD i zN) ∧ numS ns 8 [] root = List.range ns.length
def SzN (ns : List DS1) : Prop := ns.length ≤ 4611686018427387904 ∧ ∀ x ∈ ns, x.2.1.length ≤ 4611686018427387904 ∧ x.2.2.1.length ≤ 4611686018427387904
theorem SzN.at {ns : List DS1} (h : SzN ns) {i : Nat} (hi : i < ns.length) : (ns.getD i zN).2.1.length ≤ 4611686018427387904 ∧ (ns.getD i zN).2.2.1.length ≤ 4611686018427387904 := by
 rw [getD_eq _ _ _ hi]; exact h.2 _ (List.getElem_mem hi)
theorem key_m {dm : List DS3} {ns : List DS1} {x : DS1} (hd : DmOk dm) (hn : ns.length ≤ 1000) (h : SoundN dm ns x) : mKey x.1 x.2.1 x.2.2.1 = some (keyB x, ()) := by
 obtain ⟨l1, l2⟩ := h.len hd
 obtain ⟨h1, h2, h3, h4, h5, h6⟩ := h
 have d2 := hd.2.1
 have hb := hd.at (i := x.1.toNat) (by omega)
 unfold mKey
 rw [if_pos]
 ·rfl
 ·refine ⟨?_, ?_, ?_, by omega⟩
  ·unfold i64B; rw [decide_eq_true_eq]; omega
  ·refine List.all_eq_true.2 fun c hc => ?_
   obtain ⟨k, hk, rfl⟩ := List.getElem_of_mem hc
   have := h5 k hk
   rw [getD_eq _ _ _ hk] at this
   unfold i64B; rw [decide_eq_true_eq]; omega
  ·refine List.all_eq_true.2 fun c hc => ?_
   obtain ⟨k, hk, rfl⟩ := List.getElem_of_mem hc
   have := (h6 k hk).1
   rw [getD_eq _ _ _ hk] at this
   unfold RefOk at this
   unfold i64B; rw [decide_eq_true_eq]; omega
def rkA (ns : List DS1) (r : Nat) : Nat := (6 - (ns.getD r zN).1).toNat
theorem rkA_ok {dm : List DS3} {ns : List DS1} (hd : DmOk dm) (h : ∀ i, i < ns.length → SoundN dm ns (ns.getD i zN)) : Ranked ns (rkA ns) ∧ ∀ r, r < ns.length → rkA ns r + 1 ≤ 8 := by
 have d2 := hd.2.1
 refine ⟨fun r hr => ⟨((h r hr).len hd).2, fun c hc => ?_⟩, fun r hr => ?_⟩
 ·obtain ⟨k, hk, rfl⟩ := List.getElem_of_mem hc
  have h6 := (h r hr).2.2.2.2.2 k hk
  have e : (ns.getD r zN).2.2.1.getD k 0 = (kids ns r)[k] := getD_eq (kids ns r) k 0 hk
  rw [e] at h6
  refine ⟨h6.1.2, fun h0 => ?_⟩
  have hc' : (kids ns r)[k].toNat < ns.length := by have := h6.1.2; omega
  have h7 := h6.2.2 h0
  have h8 := (h _ hc').2.1
  unfold rkA
  omega
 ·have := (h r hr).1
  unfold rkA; omega
theorem mapF_keys (g : Nat → ByteArray) (k : ByteArray) : ∀ (L : List Nat), (mapF sEq k (L.map fun x => (g x, true, ())) = some true ∧ ∃ x ∈ L, k = g x) ∨ (mapF sEq k (L.map fun x => (g x, true, ())) = none ∧ ∀ x ∈ L, k ≠ g x) := by
 intro L
 induction L with
 | nil => exact .inr ⟨rfl, fun x hx => by cases hx⟩
 | cons x L ih =>
  simp only [List.map_cons, mapF]
  cases q : sEq k (g x) with
  | true => exact .inl ⟨rfl, x, by simp, by rwa [sEq_T] at q⟩
  | false =>
   rw [sEq_F] at q
   rcases ih with ⟨h1, y, h2, h3⟩ | ⟨h1, h2⟩
   ·exact .inl ⟨h1, y, by simp [h2], h3⟩
   ·exact .inr ⟨h1, fun y hy => by rcases List.mem_cons.1 hy with rfl | hy; exact q; exact h2 y hy⟩
theorem mapP_new {α β : Type} {eq : α → α → Bool} (k : α) (v : β) : ∀ (es : List (α × β × Unit)), (∀ e ∈ es, eq k e.1 = false) → mapP eq k v es = es ++ [(k, v, ())] := by
 intro es
 induction es with
 | nil => intro _; rfl
 | cons e es ih => intro h; simp only [mapP]; rw [h e (by simp), ih (fun x hx => h x (by simp [hx]))]; rfl
theorem diag_m (l : List DS0) (ns : List DS1) (root : Int) (hz : SzN ns) : T (m31 (l, ()) (ns, root, ())) (fun y => y.1 = true ↔ valS l = 0 ∧ VD (doms l) ns root) := by
 unfold m31
 refine T.callE (val_m _) ?_
 dsimp only
 have hN := lenI_eq ns
 rw [hN]
 refine T.cnd (fun hc => ?_) (fun hc => ?_) <;> simp only [corT_T, corT_F, iNe_T, iNe_F, iLt_T, iLt_F] at hc
 ·refine T.ret ⟨fun h => (by cases h), fun h => ?_⟩
  have h1 := h.1
  have h2 := h.2.1
  omega
 obtain ⟨hv, hn⟩ := hc
 have hd := doms_ok hv
 refine T.callE (ref_m _ _) ?_
 dsimp only
 refine T.cnd (fun hc => ?_) (fun hc => ?_) <;> simp only [not_T, not_F, decide_eq_true_eq, decide_eq_false_iff_not] at hc
 ·exact T.ret ⟨fun h => (by cases h), fun h => absurd h.2.2.1 hc⟩
 refine T.callE (doms_m l hv) ?_
 dsimp only
 generalize doms l = dm at hd ⊢
 refine T.loop (fun q => ∃ i : Nat, i ≤ ns.length ∧ (∀ k, k < i → SoundN dm ns (ns.getD k zN)) ∧ (∀ k, k < i → ∀ j, j < k → ns.getD j zN ≠ ns.getD k zN) ∧ q = (dm, ns, (ns.length : Int), (i : Int), ns, root, (List.range i).map (fun k => (keyB (ns.getD k zN), true, ())), ())) (fun q => ns.length - q.2.2.2.1.toNat) ⟨0, by omega, fun k hk => by omega, fun k hk => by omega, rfl⟩ ?_
 rintro _ ⟨i, hi, hs, hne, rfl⟩
 dsimp only
 have eN : atI ns (i : Int) (0, [], [], ()) = ns.getD i zN := by rw [atI_getD]; rfl
 rw [eN, hN]
 refine T.cnd (fun hc2 => ?_) (fun hc2 => ?_) <;> simp only [iLt_T, iLt_F] at hc2
 ·have hlt : i < ns.length := by omega
  obtain ⟨z1, z2⟩ := hz.at hlt
  refine T.grd (by rw [bnd_T]; omega) (T.call (sound_m hd ns root (ns.getD i zN) z1 z2 hz.1) ?_)
  rintro ⟨y, ⟨⟩⟩ hy
  dsimp only at hy ⊢
  refine T.cnd (fun hc3 => ?_) (fun hc3 => ?_) <;> simp only [not_T, not_F] at hc3
  ·refine T.out ⟨fun h => (by cases h), fun h => ?_⟩
   rw [hy.2 (h.2.2.2.1 i hlt)] at hc3
   cases hc3
  have hsi := hy.1 hc3
  refine T.callE (key_m hd (by omega) hsi) ?_
  dsimp only
  unfold mapG
  rcases mapF_keys (fun k => keyB (ns.getD k zN)) (keyB (ns.getD i zN)) (List.range i) with ⟨h1, x, h2, h3⟩ | ⟨h1, h2⟩
  ·rw [h1]
   refine T.ct rfl (T.out ⟨fun h => (by cases h), fun h => ?_⟩)
   exact absurd (keyB_inj h3).symm (h.2.2.2.2.1 i hlt x (List.mem_range.1 h2))
  ·rw [h1]
   refine T.cf rfl (T.go ⟨i + 1, by omega, fun k hk => ?_, fun k hk j hj => ?_, ?_⟩ (by dsimp only; rw [iAdd64 (by omega) (by omega)]; omega))
   ·rcases Nat.lt_or_ge k i with r | r
    ·exact hs k r
    ·obtain rfl : k = i := by omega
     exact hsi
   ·rcases Nat.lt_or_ge k i with r | r
    ·exact hne k r j hj
    ·obtain rfl : k = i := by omega
     intro e
     exact h2 j (List.mem_range.2 hj) (congrArg keyB e.symm)
   ·rw [iAdd64 (by omega) (by omega), mapP_new _ _ _ (fun e he => ?_), List.range_succ, List.map_append]
    ·rfl
    ·obtain ⟨k, hk, rfl⟩ := List.mem_map.1 he
     rw [sEq_F]; exact h2 k hk
 ·obtain rfl : i = ns.length := by omega
  refine T.mapL ?_
  obtain ⟨hR, hF⟩ := rkA_ok hd hs
  refine T.call (pre_T hR (by omega) root root 0 hc.2 (by omega)) ?_
  rintro ⟨y1, y2, ⟨⟩⟩ ⟨M, e1, h1, h2⟩
  dsimp only at e1 h1 h2 ⊢
  subst e1
  have hf8 : rkI (rkA ns) root ≤ 8 := by
   unfold rkI
   split
   ·omega
   ·exact hF _ (by have := hc.2; omega)
  refine T.ret ?_
  dsimp only
  rw [candF_T, iEq_T]
  refine ⟨fun ⟨q1, q2⟩ => ⟨hv, by omega, hc, hs, hne, ?_⟩, fun h => ?_⟩
  ·have := (h1 q1).2 8 hf8
   rw [show List.range 0 = ([] : List Nat) from rfl] at this
   rw [this, show M = ns.length by omega]
  ·have h5 := h.2.2.2.2.2
   cases q : y2 with
   | false =>
    have := h2 q 8 hf8
    rw [show List.range 0 = ([] : List Nat) from rfl, h5] at this
    exact this.ne.elim
   | true =>
    have := (h1 q).2 8 hf8
    rw [show List.range 0 = ([] : List Nat) from rfl, h5] at this
    have := congrArg List.length this
    rw [List.length_range, List.length_range] at this
    exact ⟨rfl, by omega⟩
theorem same_d (x y : DS2) (hx : SzN x.1) : m14 x y = some (decide (x.1 = y.1 ∧ x.2.1 = y.2.1), ()) := by
 obtain ⟨a, ra, ⟨⟩⟩ := x
 obtain ⟨b, rb, ⟨⟩⟩ := y
 refine T.eq ?_
 unfold m14
 have hA := lenI_eq a
 have hB := lenI_eq b
 dsimp only at hx ⊢
 refine T.cnd (fun hc => ?_) (fun hc => ?_) <;> simp only [corT_T, corT_F, iNe_T, iNe_F] at hc
 ·refine T.ret ?_
  rw [decide_eq_false (fun e => ?_)]
  obtain ⟨rfl, rfl⟩ := e
  exact hc.elim (fun q => q rfl) (fun q => q rfl)
 obtain ⟨rfl, hl⟩ := hc
 have hlen : b.length = a.length := by omega
 refine T.loop (fun q => ∃ i : Nat, i ≤ a.length ∧ (∀ j, j < i → a.getD j zN = b.getD j zN) ∧ q = ((i : Int), a, ra, b, ra, ())) (fun q => a.length - q.1.toNat) ⟨0, by omega, fun j hj => by omega, rfl⟩ ?_
 rintro _ ⟨i, hi, hg, rfl⟩
 dsimp only
 have hsz := hx.1
 have eA : atI a (i : Int) (0, [], [], ()) = a.getD i zN := by rw [atI_getD]; rfl
 have eB : atI b (i : Int) (0, [], [], ()) = b.getD i zN := by rw [atI_getD]; rfl
 rw [eA, eB, hA, hB]
 refine T.cnd (fun hc => ?_) (fun hc => ?_) <;> simp only [iLt_T, iLt_F] at hc
 ·have hlt : i < a.length := by omega
  obtain ⟨z1, z2⟩ := hx.at hlt
  have bad : a.getD i zN ≠ b.getD i zN → decide (a = b ∧ ra = ra) = false := fun h => decide_eq_false fun e => h (by rw [e.1])
  have b1 : bnd (i : Int) (a.length : Int) = true := by rw [bnd_T]; omega
  have b2 : bnd (i : Int) (b.length : Int) = true := by rw [bnd_T]; omega
  refine T.grd b1 (T.grd b2 (T.grd (by rw [or_T]; exact .inl b1) (T.grd (by rw [or_T]; exact .inl b2) (T.cnd (fun hd => ?_) (fun hd => ?_))))) <;> simp only [iNe_T, iNe_F] at hd
  ·refine T.grd (by rw [or_T]; exact .inl b1) (T.grd (by rw [or_T]; exact .inl b2) (T.out ?_))
   rw [bad (fun e => hd (by rw [e]))]
  refine T.callE (same_m _ _ z1) ?_
  refine T.grd (by rw [or_T]; exact .inl b1) (T.grd (by rw [or_T]; exact .inl b2) (T.cnd (fun he => ?_) (fun he => ?_))) <;> simp only [not_T, not_F, decide_eq_true_eq, decide_eq_false_iff_not] at he
  ·refine T.out ?_
   rw [bad (fun e => he (by rw [e]))]
  refine T.callE (same_m _ _ z2) ?_
  dsimp only
  refine T.cnd (fun hf => ?_) (fun hf => ?_) <;> simp only [not_T, not_F, decide_eq_true_eq, decide_eq_false_iff_not] at hf
  ·refine T.out ?_
   rw [bad (fun e => hf (by rw [e]))]
  refine T.go ⟨i + 1, by omega, fun j hj => ?_, by rw [iAdd64 (by omega) (by omega)]; rfl⟩ (by dsimp only; rw [iAdd64 (by omega) (by omega)]; omega)
  rcases Nat.lt_or_ge j i with r | r
  ·exact hg j r
  ·obtain rfl : j = i := by omega
   exact Prod.ext hd (Prod.ext he (Prod.ext hf rfl))
 ·refine T.out ?_
  rw [decide_eq_true]
  refine ⟨?_, rfl⟩
  apply List.ext_getElem (by omega)
  intro j h1 h2
  have := hg j (by omega)
  rwa [getD_eq _ _ _ h1, getD_eq _ _ _ h2] at this
end Abs
end Go.Proofs.YtgfnhpadmifiiaaDoor
section
namespace Go.Proofs.YtgfnhpadmifiiaaDoor
namespace Abs
def sat (n : Int) : Int := min n 17592186044416
theorem sat_mul {x w : Int} (hx : 0 ≤ x) (hw : 0 ≤ w) : sat (sat x * w) = sat (x * w) := by
 unfold sat
 rcases Int.le_total x 17592186044416 with h | h
 ·rw [Int.min_eq_left h]
 ·rw [Int.min_eq_right h]
  rcases Int.lt_or_le 0 w with q | q
  ·have h1 : 17592186044416 * 1 ≤ 17592186044416 * w := Int.mul_le_mul_of_nonneg_left (by omega) (by omega)
   have h2 : 17592186044416 * w ≤ x * w := Int.mul_le_mul_of_nonneg_right h hw
   rw [Int.min_eq_right (by omega), Int.min_eq_right (by omega)]
  ·obtain rfl : w = 0 := by omega
   simp
theorem sat_add {x y : Int} (hx : 0 ≤ x) (hy : 0 ≤ y) : sat (sat x + sat y) = sat (x + y) := by unfold sat; omega
theorem sat_nn {x : Int} (hx : 0 ≤ x) : 0 ≤ sat x ∧ sat x ≤ 17592186044416 := by unfold sat; omega
theorem sat_zero {x : Int} : sat x = 0 ↔ x = 0 := by unfold sat; omega
theorem times_m {a b : Int} (ha : 0 ≤ a ∧ a ≤ 17592186044416) (hb : 0 ≤ b ∧ b ≤ 4611686018427387904) : m82 a b = some (sat (a * b), ()) := by
 refine T.eq ?_
 unfold m82
 refine T.grd ?_ (T.cnd (fun hc => ?_) (fun hc => ?_))
 ·rw [or_T, iNe_T, not_T, bEqT_F, iLt_F]; omega
 ·rw [candF_T, iLt_T, iLt_T] at hc
  have hq : iQuo .i64 17592186044416 a = 17592186044416 / a := by
   unfold iQuo
   rw [Int.tdiv_eq_ediv_of_nonneg (by omega), wrap64]
   ·have := Int.ediv_nonneg (show (0 : Int) ≤ 17592186044416 by omega) ha.1; omega
   ·have := Int.ediv_le_self a (show (0 : Int) ≤ 17592186044416 by omega); omega
  rw [hq] at hc
  refine T.ret ?_
  have h1 : 17592186044416 < a * b := by
   have := (Int.ediv_lt_iff_lt_mul hc.1).1 hc.2
   rw [Int.mul_comm] at this; exact this
  unfold sat
  rw [Int.min_eq_right (by omega)]
 ·rw [candF_F, iLt_F, iLt_F] at hc
  have h1 : a * b ≤ 17592186044416 := by
   rcases Int.lt_or_le 0 a with q | q
   ·have hq : iQuo .i64 17592186044416 a = 17592186044416 / a := by
     unfold iQuo
     rw [Int.tdiv_eq_ediv_of_nonneg (by omega), wrap64]
     ·have := Int.ediv_nonneg (show (0 : Int) ≤ 17592186044416 by omega) ha.1; omega
     ·have := Int.ediv_le_self a (show (0 : Int) ≤ 17592186044416 by omega); omega
    rw [hq] at hc
    rcases hc with r | r
    ·omega
    ·have := (Int.le_ediv_iff_mul_le q).1 r
     rw [Int.mul_comm] at this; exact this
   ·obtain rfl : a = 0 := by omega
    simp
  have h0 : 0 ≤ a * b := Int.mul_nonneg ha.1 hb.1
  refine T.ret ?_
  rw [iMul64 (by omega) (by omega)]
  unfold sat
  rw [Int.min_eq_left h1]
def wid (d : DS3) : Int := d.2.1 - d.1 + 1
def prodW (dm : List DS3) (a b : Nat) : Int := ((dm.take b).drop a).foldl (fun p d => p * wid d) 1
theorem fold_mul (l : List DS3) : ∀ p : Int, l.foldl (fun p d => p * wid d) p = p * l.foldl (fun p d => p * wid d) 1 := by
 induction l with
 | nil => intro p; simp
 | cons d l ih => intro p; rw [List.foldl_cons, List.foldl_cons, ih, ih (1 * wid d), Int.one_mul, Int.mul_assoc]
theorem wid_bd {dm : List DS3} (hd : DmOk dm) {d : DS3} (h : d ∈ dm) : 1 ≤ wid d ∧ wid d ≤ 2000000001 := by
 have := hd.2.2 d h; unfold wid; omega
theorem prodW_pos {dm : List DS3} (hd : DmOk dm) (a b : Nat) : 1 ≤ prodW dm a b := by
 have key : ∀ l : List DS3, (∀ d ∈ l, d ∈ dm) → 1 ≤ l.foldl (fun p d => p * wid d) 1 := by
  intro l
  induction l with
  | nil => intro _; simp
  | cons d l ih =>
   intro h
   rw [List.foldl_cons, fold_mul, Int.one_mul]
   have h1 := (wid_bd hd (h d (by simp))).1
   have h2 := ih (fun x hx => h x (by simp [hx]))
   have : 1 * 1 ≤ wid d * l.foldl (fun p d => p * wid d) 1 := Int.mul_le_mul h1 h2 (by omega) (by omega)
   omega
 exact key _ fun d h => List.mem_of_mem_take (List.mem_of_mem_drop h)
theorem free_m {dm : List DS3} (hd : DmOk dm) {n : Int} (hn : 0 ≤ n) (a b : Nat) (hab : a ≤ b) (hb : b ≤ dm.length) (ns : List DS1) (leaf : Int) (me : List DS3) :
  m81 (sat n) (a : Int) (b : Int) ns dm leaf me = some (sat (n * prodW dm a b), ns, dm, leaf, me, ()) := by
 refine T.eq ?_
 unfold m81
 refine T.grd (by rw [cutOk_T]; omega) ?_
 have eC : cutL (a : Int) (b : Int) dm = (dm.take b).drop a := by unfold cutL; rw [Int.toNat_natCast, Int.toNat_natCast]
 rw [eC]
 generalize hl : (dm.take b).drop a = l
 have hll : l.length ≤ 6 := by
  have := hd.2.1
  rw [← hl, List.length_drop, List.length_take]; omega
 have hmem : ∀ d ∈ l, d ∈ dm := fun d h => by rw [← hl] at h; exact List.mem_of_mem_take (List.mem_of_mem_drop h)
 have hL := lenI_eq l
 rw [hL]
 have fin : prodW dm a b = l.foldl (fun p d => p * wid d) 1 := by unfold prodW; rw [hl]
 have pos : ∀ k, 0 ≤ (l.take k).foldl (fun p d => p * wid d) 1 := by
  intro k
  have key : ∀ l' : List DS3, (∀ d ∈ l', d ∈ dm) → 0 ≤ l'.foldl (fun p d => p * wid d) 1 := by
   intro l'
   induction l' with
   | nil => intro _; simp
   | cons d l' ih =>
    intro h
    rw [List.foldl_cons, fold_mul, Int.one_mul]
    exact Int.mul_nonneg (by have := (wid_bd hd (h d (by simp))).1; omega) (ih (fun x hx => h x (by simp [hx])))
  exact key _ fun d h => hmem d (List.mem_of_mem_take h)
 refine T.loop (fun q => ∃ k : Nat, k ≤ l.length ∧ q = (sat (n * (l.take k).foldl (fun p d => p * wid d) 1), l, (l.length : Int), (k : Int), ns, dm, leaf, me, ())) (fun q => l.length - q.2.2.2.1.toNat) ⟨0, by omega, by simp⟩ ?_
 rintro _ ⟨k, hk, rfl⟩
 dsimp only
 rw [hL]
 have eA : atI l (k : Int) (0, 0, ()) = l.getD k zS := by rw [atI_getD]; rfl
 rw [eA]
 refine T.cnd (fun hc => ?_) (fun hc => ?_) <;> simp only [iLt_T, iLt_F] at hc
 ·have hkl : k < l.length := by omega
  have hw := wid_bd hd (hmem _ (List.getElem_mem hkl))
  have hb3 := hd.2.2 _ (hmem _ (List.getElem_mem hkl))
  rw [getD_eq _ _ _ hkl]
  refine T.grd (by rw [bnd_T]; omega) ?_
  rw [iSub64 (by omega) (by omega), iAdd64 (by omega) (by omega)]
  have h0 := Int.mul_nonneg hn (pos k)
  refine T.callE (times_m (sat_nn h0) ⟨by unfold wid at hw; omega, by unfold wid at hw; omega⟩) ?_
  dsimp only
  refine T.go ⟨k + 1, by omega, ?_⟩ (by dsimp only; rw [iAdd64 (by omega) (by omega)]; omega)
  rw [iAdd64 (by omega) (by omega), List.take_succ_eq_append_getElem hkl, List.foldl_append]
  have : l[k].2.1 - l[k].1 + 1 = wid l[k] := rfl
  rw [this, sat_mul h0 (by omega), Int.mul_assoc]
  rfl
 ·obtain rfl : k = l.length := by omega
  refine T.out ?_
  rw [List.take_length, fin]
def hiK (dm : List DS3) (x : DS1) (k : Nat) : Int := if k < x.2.1.length then x.2.1.getD k 0 else (dm.getD x.1.toNat zS).2.1 + 1
def loK (dm : List DS3) (x : DS1) (k : Nat) : Int := if k = 0 then (dm.getD x.1.toNat zS).1 else hiK dm x (k - 1)
def sumS (g : Nat → Int) : Nat → Int
 | 0 => 0
 | k + 1 => sumS g k + g k
def cntE (dm : List DS3) (ns : List DS1) (leaf : Int) : Nat → Int → Nat → Int
 | 0, _, _ => 0
 | f + 1, r, a => if r < 0 then (if -1 - r = leaf then prodW dm a dm.length else 0) else
   sumS (fun k => cntE dm ns leaf f ((kids ns r.toNat).getD k 0) ((ns.getD r.toNat zN).1.toNat + 1) * (hiK dm (ns.getD r.toNat zN) k - loK dm (ns.getD r.toNat zN) k)) (kids ns r.toNat).length * prodW dm a (ns.getD r.toNat zN).1.toNat
def totE (dm : List DS3) (ns : List DS1) (leaf : Int) (f : Nat) (r : Nat) : Int :=
 sumS (fun k => cntE dm ns leaf f ((kids ns r).getD k 0) ((ns.getD r zN).1.toNat + 1) * (hiK dm (ns.getD r zN) k - loK dm (ns.getD r zN) k)) (kids ns r).length
theorem cntE_node (dm : List DS3) (ns : List DS1) (leaf : Int) (f : Nat) {r : Int} (h : 0 ≤ r) (a : Nat) : cntE dm ns leaf (f + 1) r a = totE dm ns leaf f r.toNat * prodW dm a (ns.getD r.toNat zN).1.toNat := by
 simp only [cntE, totE]; rw [if_neg (by omega)]
theorem cntE_leaf (dm : List DS3) (ns : List DS1) (leaf : Int) (f : Nat) {r : Int} (h : r < 0) (a : Nat) : cntE dm ns leaf (f + 1) r a = if -1 - r = leaf then prodW dm a dm.length else 0 := by
 simp only [cntE]; rw [if_pos h]
theorem sumS_congr {g g' : Nat → Int} : ∀ n, (∀ k, k < n → g k = g' k) → sumS g n = sumS g' n := by
 intro n
 induction n with
 | zero => intro _; rfl
 | succ n ih => intro h; simp only [sumS]; rw [ih (fun k hk => h k (by omega)), h n (by omega)]
theorem sumS_nn {g : Nat → Int} : ∀ n, (∀ k, k < n → 0 ≤ g k) → 0 ≤ sumS g n := by
 intro n
 induction n with
 | zero => intro _; simp [sumS]
 | succ n ih => intro h; simp only [sumS]; have := ih (fun k hk => h k (by omega)); have := h n (by omega); omega
def AllS (dm : List DS3) (ns : List DS1) : Prop := ∀ i, i < ns.length → SoundN dm ns (ns.getD i zN)
section
variable {dm : List DS3} {ns : List DS1} {leaf : Int}
theorem AllS.wid (hs : AllS dm ns) {r : Nat} (hr : r < ns.length) {k : Nat} (hk : k < (kids ns r).length) (hd : DmOk dm) : 1 ≤ hiK dm (ns.getD r zN) k - loK dm (ns.getD r zN) k ∧ -1000000000 ≤ loK dm (ns.getD r zN) k ∧ hiK dm (ns.getD r zN) k ≤ 1000000001 := by
 obtain ⟨h1, h2, h3, h4, h5, h6⟩ := hs r hr
 have hb := hd.at (i := (ns.getD r zN).1.toNat) (by omega)
 have hk' : k < (ns.getD r zN).2.1.length + 1 := by rw [← h4]; exact hk
 have e1 : ¬ k = 0 → hiK dm (ns.getD r zN) (k - 1) = (ns.getD r zN).2.1.getD (k - 1) 0 := fun q => by unfold hiK; rw [if_pos (by omega)]
 unfold loK
 split
 ·unfold hiK
  split
  ·have := h5 k (by omega); omega
  ·omega
 ·rename_i q
  rw [e1 q]
  unfold hiK
  split
  ·have := h5 k (by omega); have := h5 (k - 1) (by omega); have := (h5 k (by omega)).2.2 (by omega); omega
  ·have := h5 (k - 1) (by omega); omega
theorem cntE_nn (hd : DmOk dm) (hs : AllS dm ns) : ∀ (f : Nat) (r : Int) (a : Nat), r < (ns.length : Int) → 0 ≤ cntE dm ns leaf f r a := by
 intro f
 induction f with
 | zero => intro r a _; simp [cntE]
 | succ f ih =>
  intro r a hr
  rcases Int.lt_or_le r 0 with h | h
  ·rw [cntE_leaf _ _ _ _ h]
   split
   ·have := prodW_pos hd a dm.length; omega
   ·omega
  ·rw [cntE_node _ _ _ _ h]
   refine Int.mul_nonneg ?_ (by have := prodW_pos hd a (ns.getD r.toNat zN).1.toNat; omega)
   refine sumS_nn _ fun k hk => Int.mul_nonneg (ih _ _ ?_) (by have := hs.wid (show r.toNat < ns.length by omega) hk hd; omega)
   rw [getD_eq _ _ _ hk]
   exact ((rkA_ok hd hs).1 r.toNat (by omega)).2 _ (List.getElem_mem hk) |>.1
theorem totE_nn (hd : DmOk dm) (hs : AllS dm ns) (f : Nat) {r : Nat} (hr : r < ns.length) (n : Nat) (hn : n ≤ (kids ns r).length) : 0 ≤ sumS (fun k => cntE dm ns leaf f ((kids ns r).getD k 0) ((ns.getD r zN).1.toNat + 1) * (hiK dm (ns.getD r zN) k - loK dm (ns.getD r zN) k)) n := by
 refine sumS_nn _ fun k hk => Int.mul_nonneg (cntE_nn hd hs _ _ _ ?_) (by have := hs.wid hr (show k < (kids ns r).length by omega) hd; omega)
 rw [getD_eq _ _ _ (by omega)]
 exact ((rkA_ok hd hs).1 r hr).2 _ (List.getElem_mem (by omega)) |>.1
theorem cntE_stable (hd : DmOk dm) (hs : AllS dm ns) : ∀ (m f f' : Nat) (r : Int) (a : Nat), rkI (rkA ns) r ≤ m → m + 1 ≤ f → m + 1 ≤ f' → r < (ns.length : Int) → cntE dm ns leaf f r a = cntE dm ns leaf f' r a := by
 intro m
 induction m with
 | zero =>
  intro f f' r a h h1 h2 hr
  have hneg : r < 0 := by unfold rkI at h; split at h; assumption; omega
  obtain ⟨g, rfl⟩ : ∃ g, f = g + 1 := ⟨f - 1, by omega⟩
  obtain ⟨g', rfl⟩ : ∃ g', f' = g' + 1 := ⟨f' - 1, by omega⟩
  rw [cntE_leaf _ _ _ _ hneg, cntE_leaf _ _ _ _ hneg]
 | succ m ih =>
  intro f f' r a h h1 h2 hr
  obtain ⟨g, rfl⟩ : ∃ g, f = g + 1 := ⟨f - 1, by omega⟩
  obtain ⟨g', rfl⟩ : ∃ g', f' = g' + 1 := ⟨f' - 1, by omega⟩
  rcases Int.lt_or_le r 0 with q | q
  ·rw [cntE_leaf _ _ _ _ q, cntE_leaf _ _ _ _ q]
  ·rw [cntE_node _ _ _ _ q, cntE_node _ _ _ _ q]
   congr 1
   refine sumS_congr _ fun k hk => ?_
   have hk2 := ((rkA_ok hd hs).1 r.toNat (by omega)).2 _ (List.getElem_mem hk)
   rw [getD_eq _ _ _ hk]
   rw [ih g g' _ _ ?_ (by omega) (by omega) hk2.1]
   unfold rkI at h ⊢
   rw [if_neg (by omega)] at h
   split
   ·omega
   ·rename_i q2; have := hk2.2 (by omega); omega
theorem cntE_kid (hd : DmOk dm) (hs : AllS dm ns) {r : Nat} (hr : r < ns.length) {k : Nat} (hk : k < (kids ns r).length) (a : Nat) : cntE dm ns leaf 8 ((kids ns r).getD k 0) a = cntE dm ns leaf 9 ((kids ns r).getD k 0) a := by
 have hk2 := ((rkA_ok hd hs).1 r hr).2 _ (List.getElem_mem hk)
 rw [getD_eq _ _ _ hk]
 refine cntE_stable hd hs 7 8 9 _ _ ?_ (by omega) (by omega) hk2.1
 unfold rkI
 split
 ·omega
 ·rename_i q2
  have := hk2.2 (by omega)
  have := (rkA_ok hd hs).2 r hr
  omega
end
def MemoOk (dm : List DS3) (ns : List DS1) (leaf : Int) (me : List DS3) : Prop := ∀ r t, mapF iEq r me = some t → t = sat (totE dm ns leaf 8 r.toNat)
theorem mapF_put {β : Type} (k k' : Int) (v : β) : ∀ es : List (Int × β × Unit), mapF iEq k (mapP iEq k' v es) = if k = k' then some v else mapF iEq k es := by
 intro es
 induction es with
 | nil =>
  simp only [mapP, mapF]
  by_cases h : k = k'
  ·rw [iEq_t h, if_pos h]; rfl
  ·rw [iEq_f h, if_neg h]; rfl
 | cons e es ih =>
  simp only [mapP]
  by_cases h1 : k' = e.1
  ·rw [iEq_t h1]
   simp only [cond_true, mapF]
   by_cases h : k = k'
   ·rw [iEq_t h, if_pos h]; rfl
   ·rw [iEq_f h, if_neg h, iEq_f (fun q => h (q.trans h1.symm))]
    rfl
  ·rw [iEq_f h1]
   simp only [cond_false, mapF, ih]
   by_cases h : k = e.1
   ·have hne : ¬ k = k' := fun q => h1 (q.symm.trans h)
    rw [iEq_t h, if_neg hne, if_neg hne]
   ·rw [iEq_f h]; rfl
theorem mono_51 (x : Int × Int × (List DS1) × (List DS3) × Int × (List DS3) × Unit) : Mo fun s => mb51 s x.1 x.2.1 x.2.2.1 x.2.2.2.1 x.2.2.2.2.1 x.2.2.2.2.2.1 := by
 unfold mb51; (repeat' (first | exact Mo.const _ | exact Mo.self _ | apply Mo.bind | apply Mo.cond | apply Mo.map | apply Mo.join | apply Mo.loop | (intro _)))
end Abs
end Go.Proofs.YtgfnhpadmifiiaaDoor
end
section
namespace Go.Proofs.YtgfnhpadmifiiaaDoor
namespace Abs
section
variable {dm : List DS3} {ns : List DS1} {leaf : Int}
def lvl (dm : List DS3) (ns : List DS1) (r : Int) : Nat := if r < 0 then dm.length else (ns.getD r.toNat zN).1.toNat
theorem lvl_le (hd : DmOk dm) (hs : AllS dm ns) {r : Int} (hr : r < (ns.length : Int)) : lvl dm ns r ≤ dm.length := by
 unfold lvl
 split
 ·omega
 ·have := (hs r.toNat (by omega)).2.1; omega
theorem lvl_kid (hd : DmOk dm) (hs : AllS dm ns) {r : Nat} (hr : r < ns.length) {k : Nat} (hk : k < (kids ns r).length) : (ns.getD r zN).1.toNat + 1 ≤ lvl dm ns ((kids ns r).getD k 0) := by
 obtain ⟨h1, h2, _, _, _, h6⟩ := hs r hr
 have h7 := h6 k hk
 unfold lvl
 split
 ·omega
 ·rename_i q
  have := h7.2.2 (by show 0 ≤ (kids ns r).getD k 0; omega)
  have e : (ns.getD r zN).2.2.1.getD k 0 = (kids ns r).getD k 0 := rfl
  rw [e] at this
  omega
theorem below_T (hd : DmOk dm) (hs : AllS dm ns) (hn : ns.length ≤ 1000) (r : Int) (a : Nat) (me : List DS3) (hr : RefOk ns.length r) (ha : a ≤ lvl dm ns r) (hm : MemoOk dm ns leaf me) :
  T (m51 r (a : Int) ns dm leaf me) (fun y => ∃ me', y = (sat (cntE dm ns leaf 9 r a), ns, dm, leaf, me', ()) ∧ MemoOk dm ns leaf me') := by
 unfold m51
 refine fix_G (ι := Int × Nat × List DS3) mono_51 (fun g => (g.1, (g.2.1 : Int), ns, dm, leaf, g.2.2, ())) (fun g => RefOk ns.length g.1 ∧ g.2.1 ≤ lvl dm ns g.1 ∧ MemoOk dm ns leaf g.2.2)
  (fun g y => ∃ me', y = (sat (cntE dm ns leaf 9 g.1 g.2.1), ns, dm, leaf, me', ()) ∧ MemoOk dm ns leaf me') (fun g => rkI (rkA ns) g.1) ?_ (r, a, me) ⟨hr, ha, hm⟩
 rintro ⟨r, a, me⟩ ⟨hr, ha, hm⟩ s ih
 dsimp only at hr ha hm ih ⊢
 unfold mb51
 have hD := lenI_eq dm
 have hN := lenI_eq ns
 have hd2 := hd.2.1
 have hll := lvl_le hd hs hr.2
 refine T.cnd (fun hc => ?_) (fun hc => ?_) <;> simp only [iLt_T, iLt_F] at hc
 ·have hr1 := hr.1
  refine T.callE (v := (-1 - r, ())) (by show some (iSub .i64 (-1) r, ()) = _; rw [iSub64 (by omega) (by omega)]) ?_
  dsimp only
  rw [cntE_leaf _ _ _ _ hc]
  refine T.cnd (fun hc2 => ?_) (fun hc2 => ?_) <;> simp only [iNe_T, iNe_F] at hc2
  ·rw [if_neg hc2]
   exact T.ret ⟨me, rfl, hm⟩
  ·rw [if_pos hc2, hD]
   have h1 := free_m (n := 1) hd (by omega) a dm.length (by omega) (by omega) ns leaf me
   rw [show sat 1 = 1 by decide, Int.one_mul] at h1
   refine T.callE h1 (T.ret ⟨me, rfl, hm⟩)
 have hrt : r.toNat < ns.length := by have := hr.2; omega
 have hsr := hs r.toNat hrt
 have eN : atI ns r (0, [], [], ()) = ns.getD r.toNat zN := rfl
 have hlv : lvl dm ns r = (ns.getD r.toNat zN).1.toNat := by unfold lvl; rw [if_neg (by omega)]
 rw [hlv] at ha
 have h1 := hsr.1
 have h2 := hsr.2.1
 have h3 := hsr.2.2.1
 have h4 := hsr.2.2.2.1
 have h5 := hsr.2.2.2.2.1
 have eA : (ns.getD r.toNat zN).1 = (((ns.getD r.toNat zN).1.toNat : Nat) : Int) := by omega
 have hlen := hsr.len hd
 have hkl : (kids ns r.toNat).length ≤ 2000000001 := hlen.2
 have eK : (ns.getD r.toNat zN).2.2.1 = kids ns r.toNat := rfl
 have e48 : totE dm ns leaf 8 r.toNat = sumS (fun k => cntE dm ns leaf 8 ((kids ns r.toNat).getD k 0) ((ns.getD r.toNat zN).1.toNat + 1) * (hiK dm (ns.getD r.toNat zN) k - loK dm (ns.getD r.toNat zN) k)) (kids ns r.toNat).length := rfl
 have ht0 : 0 ≤ totE dm ns leaf 8 r.toNat := totE_nn hd hs 8 hrt _ (Nat.le_refl _)
 rw [eN, cntE_node _ _ _ _ hc]
 refine T.grd (by rw [bnd_T]; have := hr.2; omega) (T.cnd (fun hc2 => ?_) (fun hc2 => ?_))
 ·have hno : mapG iEq r me 0 = 0 := by
   unfold mapH at hc2
   unfold mapG
   cases q : mapF iEq r me with
   | none => rfl
   | some t => rw [q] at hc2; cases hc2
  rw [hno]
  refine T.grd (by rw [bnd_T, hD]; omega) ?_
  rw [eK]
  have hK := lenI_eq (kids ns r.toNat)
  have hC := lenI_eq (ns.getD r.toNat zN).2.1
  rw [hK]
  have eD : atI dm (ns.getD r.toNat zN).1 (0, 0, ()) = dm.getD (ns.getD r.toNat zN).1.toNat zS := rfl
  refine T.loop (fun q => ∃ (k : Nat) (me' : List DS3), k ≤ (kids ns r.toNat).length ∧ MemoOk dm ns leaf me' ∧ q = (r, (a : Int), sat (sumS (fun k => cntE dm ns leaf 8 ((kids ns r.toNat).getD k 0) ((ns.getD r.toNat zN).1.toNat + 1) * (hiK dm (ns.getD r.toNat zN) k - loK dm (ns.getD r.toNat zN) k)) k), loK dm (ns.getD r.toNat zN) k, kids ns r.toNat, ((kids ns r.toNat).length : Int), (k : Int), ns, dm, leaf, me', (ns.getD r.toNat zN).1, (ns.getD r.toNat zN).2.1, kids ns r.toNat, ())) (fun q => (kids ns r.toNat).length - q.2.2.2.2.2.2.1.toNat) ⟨0, me, by omega, hm, ?_⟩ ?_
  ·rw [eD]; unfold loK; rw [if_pos rfl]; rfl
  rintro _ ⟨k, me', hk, hm', rfl⟩
  dsimp only
  rw [hC, hD, eD, atI_getD, atI_getD]
  refine T.cnd (fun hc3 => ?_) (fun hc3 => ?_) <;> simp only [iLt_T, iLt_F] at hc3
  ·have hkk : k < (kids ns r.toNat).length := by omega
   have hw := hs.wid hrt hkk hd
   have hb := hd.at (i := (ns.getD r.toNat zN).1.toNat) (by omega)
   have hkid := hsr.2.2.2.2.2 k hkk
   have hrefk : RefOk ns.length ((kids ns r.toNat).getD k 0) := hkid.1
   have hlvk := lvl_kid hd hs hrt hkk
   have hrk : rkI (rkA ns) ((kids ns r.toNat).getD k 0) < rkI (rkA ns) r := by
    have hk2 := ((rkA_ok hd hs).1 r.toNat hrt).2 _ (List.getElem_mem hkk)
    rw [getD_eq _ _ _ hkk]
    unfold rkI
    rw [if_neg (show ¬ r < 0 by omega)]
    split
    ·omega
    ·have := hk2.2 (by omega); omega
   have hcn : 0 ≤ cntE dm ns leaf 8 ((kids ns r.toNat).getD k 0) ((ns.getD r.toNat zN).1.toNat + 1) := cntE_nn hd hs _ _ _ hrefk.2
   have eqc := cntE_kid (leaf := leaf) hd hs hrt hkk ((ns.getD r.toNat zN).1.toNat + 1)
   have hps : 0 ≤ sumS (fun k => cntE dm ns leaf 8 ((kids ns r.toNat).getD k 0) ((ns.getD r.toNat zN).1.toNat + 1) * (hiK dm (ns.getD r.toNat zN) k - loK dm (ns.getD r.toNat zN) k)) k := totE_nn hd hs 8 hrt k (by omega)
   have ei : iAdd .i64 (ns.getD r.toNat zN).1 1 = (((ns.getD r.toNat zN).1.toNat + 1 : Nat) : Int) := by rw [iAdd64 (by omega) (by omega)]; omega
   have nxt : ∀ me2, MemoOk dm ns leaf me2 → ∀ hi : Int, hi = hiK dm (ns.getD r.toNat zN) k → T ((m82 (sat (cntE dm ns leaf 9 ((kids ns r.toNat).getD k 0) ((ns.getD r.toNat zN).1.toNat + 1))) (iSub .i64 hi (loK dm (ns.getD r.toNat zN) k))).bind fun y105 =>
     some (Sum.inl (β := Int × (List DS1) × (List DS3) × Int × (List DS3) × Unit) (r, (a : Int), iMin (iAdd .i64 (sat (sumS (fun k => cntE dm ns leaf 8 ((kids ns r.toNat).getD k 0) ((ns.getD r.toNat zN).1.toNat + 1) * (hiK dm (ns.getD r.toNat zN) k - loK dm (ns.getD r.toNat zN) k)) k)) y105.1) 17592186044416, hi, kids ns r.toNat, ((kids ns r.toNat).length : Int), iAdd .i64 (k : Int) 1, ns, dm, leaf, me2, (ns.getD r.toNat zN).1, (ns.getD r.toNat zN).2.1, kids ns r.toNat, ())))
     (LQ (fun q => ∃ (k : Nat) (me' : List DS3), k ≤ (kids ns r.toNat).length ∧ MemoOk dm ns leaf me' ∧ q = (r, (a : Int), sat (sumS (fun k => cntE dm ns leaf 8 ((kids ns r.toNat).getD k 0) ((ns.getD r.toNat zN).1.toNat + 1) * (hiK dm (ns.getD r.toNat zN) k - loK dm (ns.getD r.toNat zN) k)) k), loK dm (ns.getD r.toNat zN) k, kids ns r.toNat, ((kids ns r.toNat).length : Int), (k : Int), ns, dm, leaf, me', (ns.getD r.toNat zN).1, (ns.getD r.toNat zN).2.1, kids ns r.toNat, ())) (fun q => (kids ns r.toNat).length - q.2.2.2.2.2.2.1.toNat) ((kids ns r.toNat).length - (k : Int).toNat) (fun y => ∃ me', y = (sat (totE dm ns leaf 8 r.toNat * prodW dm a (ns.getD r.toNat zN).1.toNat), ns, dm, leaf, me', ()) ∧ MemoOk dm ns leaf me')) := by
    rintro me2 hm2 _ rfl
    rw [iSub64 (by omega) (by omega), ← eqc]
    refine T.callE (times_m (sat_nn hcn) ⟨by omega, by omega⟩) ?_
    dsimp only
    have hpr := Int.mul_nonneg hcn (show 0 ≤ hiK dm (ns.getD r.toNat zN) k - loK dm (ns.getD r.toNat zN) k by omega)
    refine T.go ⟨k + 1, me2, by omega, hm2, ?_⟩ (by dsimp only; rw [iAdd64 (by omega) (by omega)]; omega)
    have b1 := sat_nn hps
    have b2 := sat_nn hpr
    rw [sat_mul hcn (by omega), iAdd64 (by omega) (by omega), iAdd64 (by omega) (by omega)]
    have : iMin (sat (sumS (fun k => cntE dm ns leaf 8 ((kids ns r.toNat).getD k 0) ((ns.getD r.toNat zN).1.toNat + 1) * (hiK dm (ns.getD r.toNat zN) k - loK dm (ns.getD r.toNat zN) k)) k) + sat (cntE dm ns leaf 8 ((kids ns r.toNat).getD k 0) ((ns.getD r.toNat zN).1.toNat + 1) * (hiK dm (ns.getD r.toNat zN) k - loK dm (ns.getD r.toNat zN) k))) 17592186044416 = sat (sumS (fun k => cntE dm ns leaf 8 ((kids ns r.toNat).getD k 0) ((ns.getD r.toNat zN).1.toNat + 1) * (hiK dm (ns.getD r.toNat zN) k - loK dm (ns.getD r.toNat zN) k)) (k + 1)) := by
     simp only [sumS]
     rw [← sat_add hps hpr]
     unfold iMin sat; omega
    rw [this]
    have el : loK dm (ns.getD r.toNat zN) (k + 1) = hiK dm (ns.getD r.toNat zN) k := by
     unfold loK
     rw [if_neg (by omega), Nat.add_sub_cancel]
    rw [el]
    rfl
   refine T.grd (by rw [bnd_T]; omega) (T.grd (by rw [bnd_T]; omega) (T.cnd (fun hc4 => ?_) (fun hc4 => ?_))) <;> simp only [iLt_T, iLt_F] at hc4
   ·refine T.grd (by rw [bnd_T]; omega) ?_
    rw [ei]
    refine T.call (ih ((kids ns r.toNat).getD k 0, (ns.getD r.toNat zN).1.toNat + 1, me') ⟨hrefk, hlvk, hm'⟩ hrk) ?_
    rintro _ ⟨me2, rfl, hm2⟩
    exact nxt me2 hm2 _ (by unfold hiK; rw [if_pos (by omega)])
   ·rw [ei, iAdd64 (by omega) (by omega)]
    refine T.call (ih ((kids ns r.toNat).getD k 0, (ns.getD r.toNat zN).1.toNat + 1, me') ⟨hrefk, hlvk, hm'⟩ hrk) ?_
    rintro _ ⟨me2, rfl, hm2⟩
    exact nxt me2 hm2 _ (by unfold hiK; rw [if_neg (by omega)])
  ·obtain rfl : k = (kids ns r.toNat).length := by omega
   rw [← e48]
   refine T.mapL ?_
   have hf := free_m (n := totE dm ns leaf 8 r.toNat) hd ht0 a (ns.getD r.toNat zN).1.toNat (by omega) (by omega) ns leaf (mapP iEq r (sat (totE dm ns leaf 8 r.toNat)) me')
   rw [← eA] at hf
   refine T.callE hf (T.ret ⟨_, rfl, fun r' t h => ?_⟩)
   rw [mapF_put] at h
   split at h
   ·rename_i q; subst q; cases h; rfl
   ·exact hm' r' t h
 ·obtain ⟨t, ht⟩ : ∃ t, mapF iEq r me = some t := by
   unfold mapH at hc2
   cases q : mapF iEq r me with
   | none => rw [q] at hc2; cases hc2
   | some t => exact ⟨t, rfl⟩
  have hg : mapG iEq r me 0 = sat (totE dm ns leaf 8 r.toNat) := by unfold mapG; rw [ht]; exact hm r t ht
  rw [hg]
  have hf := free_m (n := totE dm ns leaf 8 r.toNat) hd ht0 a (ns.getD r.toNat zN).1.toNat (by omega) (by omega) ns leaf me
  rw [← eA] at hf
  exact T.callE hf (T.ret ⟨me, rfl, hm⟩)
end
end Abs
end Go.Proofs.YtgfnhpadmifiiaaDoor
end
section
namespace Go.Proofs.YtgfnhpadmifiiaaDoor
namespace Abs
theorem mapF_none (r : Int) : mapF iEq r ([] : List DS3) = none := rfl
theorem VD.alls {dm : List DS3} {ns : List DS1} {root : Int} (h : VD dm ns root) : AllS dm ns := h.2.2.1
theorem count_T (l : List DS0) (ns : List DS1) (root : Int) (leaf : Int) (hz : SzN ns) : T (m26 (l, ()) (ns, root, ()) leaf) (fun y => (0 ≤ leaf ∧ leaf ≤ 255 ∧ valS l = 0 ∧ VD (doms l) ns root → y.1 = sat (cntE (doms l) ns leaf 9 root 0)) ∧ (¬ (0 ≤ leaf ∧ leaf ≤ 255 ∧ valS l = 0 ∧ VD (doms l) ns root) → y.1 = 0)) := by
 unfold m26
 refine T.cnd (fun hc => ?_) (fun hc => ?_) <;> simp only [corT_T, corT_F, iLt_T, iLt_F] at hc
 ·exact T.ret ⟨fun h => by omega, fun _ => rfl⟩
 refine T.call (diag_m l ns root hz) ?_
 rintro ⟨y, ⟨⟩⟩ hy
 dsimp only at hy ⊢
 refine T.cnd (fun hc2 => ?_) (fun hc2 => ?_) <;> simp only [not_T, not_F] at hc2
 ·refine T.ret ⟨fun h => ?_, fun _ => rfl⟩
  rw [hy.2 ⟨h.2.2.1, h.2.2.2⟩] at hc2
  cases hc2
 obtain ⟨hv, hV⟩ := hy.1 hc2
 have hd := doms_ok hv
 refine T.callE (doms_m l hv) ?_
 dsimp only
 refine T.call (below_T hd hV.alls hV.1 root 0 [] hV.2.1 (by omega) (fun r t h => by rw [mapF_none] at h; cases h)) ?_
 rintro _ ⟨me', rfl, _⟩
 exact T.ret ⟨fun _ => rfl, fun h => absurd ⟨by omega, by omega, hv, hV⟩ h⟩
def firstK (p : Nat → Bool) : Nat → Nat → Nat
 | 0, i => i
 | n + 1, i => if p i = true then i else firstK p n (i + 1)
theorem firstK_eq {p : Nat → Bool} : ∀ (n i k : Nat), i ≤ k → k < i + n → (∀ j, i ≤ j → j < k → p j = false) → p k = true → firstK p n i = k := by
 intro n
 induction n with
 | zero => intro i k h1 h2 _ _; omega
 | succ n ih =>
  intro i k h1 h2 h3 h4
  simp only [firstK]
  by_cases e : i = k
  ·subst e; rw [if_pos h4]
  ·rw [if_neg (by rw [h3 i (by omega) (by omega)]; decide)]
   exact ih (i + 1) k (by omega) (by omega) (fun j a b => h3 j (by omega) b) h4
section
variable {dm : List DS3} {ns : List DS1} {leaf : Int}
def kLeast (dm : List DS3) (ns : List DS1) (leaf : Int) (r : Nat) : Nat := firstK (fun k => decide (cntE dm ns leaf 9 ((kids ns r).getD k 0) ((ns.getD r zN).1.toNat + 1) ≠ 0)) (kids ns r).length 0
def leastF (dm : List DS3) (ns : List DS1) (leaf : Int) : Nat → Int → List Int → List Int
 | 0, _, fs => fs
 | f + 1, r, fs => if r < 0 then fs else
   leastF dm ns leaf f ((kids ns r.toNat).getD (kLeast dm ns leaf r.toNat) 0) (if 0 < kLeast dm ns leaf r.toNat then fs.set (ns.getD r.toNat zN).1.toNat ((ns.getD r.toNat zN).2.1.getD (kLeast dm ns leaf r.toNat - 1) 0) else fs)
theorem leastF_leaf (f : Nat) {r : Int} (h : r < 0) (fs : List Int) : leastF dm ns leaf f r fs = fs := by
 cases f with
 | zero => rfl
 | succ f => simp only [leastF]; rw [if_pos h]
theorem sumS_ne {g : Nat → Int} : ∀ n, sumS g n ≠ 0 → ∃ k, k < n ∧ g k ≠ 0 := by
 intro n
 induction n with
 | zero => intro h; exact absurd rfl h
 | succ n ih =>
  intro h
  simp only [sumS] at h
  by_cases q : g n = 0
  ·obtain ⟨k, h1, h2⟩ := ih (by omega); exact ⟨k, by omega, h2⟩
  ·exact ⟨n, by omega, q⟩
theorem kid_ne (hd : DmOk dm) (hs : AllS dm ns) {r : Int} {a : Nat} (h0 : 0 ≤ r) (hr : r < (ns.length : Int)) (h : cntE dm ns leaf 9 r a ≠ 0) : ∃ k, k < (kids ns r.toNat).length ∧ cntE dm ns leaf 9 ((kids ns r.toNat).getD k 0) ((ns.getD r.toNat zN).1.toNat + 1) ≠ 0 := by
 rw [cntE_node _ _ _ _ h0] at h
 have h1 : totE dm ns leaf 8 r.toNat ≠ 0 := fun e => h (by rw [e, Int.zero_mul])
 obtain ⟨k, k1, k2⟩ := sumS_ne _ h1
 refine ⟨k, k1, fun e => k2 ?_⟩
 rw [cntE_kid hd hs (by omega) k1, e, Int.zero_mul]
theorem kLeast_eq {r : Nat} {k : Nat} (hk : k < (kids ns r).length) (h1 : ∀ j, j < k → cntE dm ns leaf 9 ((kids ns r).getD j 0) ((ns.getD r zN).1.toNat + 1) = 0) (h2 : cntE dm ns leaf 9 ((kids ns r).getD k 0) ((ns.getD r zN).1.toNat + 1) ≠ 0) : kLeast dm ns leaf r = k := by
 unfold kLeast
 exact firstK_eq _ 0 k (by omega) (by omega) (fun j _ hj => by simpa using h1 j hj) (by simpa using h2)
end
theorem least_T (l : List DS0) (ns : List DS1) (root : Int) (leaf : Int) (hz : SzN ns) : T (m21 (l, ()) (ns, root, ()) leaf) (fun y => (0 ≤ leaf ∧ leaf ≤ 255 ∧ valS l = 0 ∧ VD (doms l) ns root ∧ cntE (doms l) ns leaf 9 root 0 ≠ 0 → y = (leastF (doms l) ns leaf 9 root ((doms l).map fun d => d.1), true, ())) ∧ (¬ (0 ≤ leaf ∧ leaf ≤ 255 ∧ valS l = 0 ∧ VD (doms l) ns root ∧ cntE (doms l) ns leaf 9 root 0 ≠ 0) → y = ([], false, ()))) := by
 unfold m21
 refine T.cnd (fun hc => ?_) (fun hc => ?_) <;> simp only [corT_T, corT_F, iLt_T, iLt_F] at hc
 ·exact T.ret ⟨fun h => by omega, fun _ => rfl⟩
 refine T.call (diag_m l ns root hz) ?_
 rintro ⟨y, ⟨⟩⟩ hy
 dsimp only at hy ⊢
 refine T.cnd (fun hc2 => ?_) (fun hc2 => ?_) <;> simp only [not_T, not_F] at hc2
 ·refine T.ret ⟨fun h => ?_, fun _ => rfl⟩
  rw [hy.2 ⟨h.2.2.1, h.2.2.2.1⟩] at hc2
  cases hc2
 obtain ⟨hv, hV⟩ := hy.1 hc2
 have hd := doms_ok hv
 refine T.callE (doms_m l hv) ?_
 dsimp only
 generalize hdm : doms l = dm at hd hV
 have hs := hV.alls
 have hn := hV.1
 refine T.call (below_T hd hs hn root 0 [] hV.2.1 (by omega) (fun r t h => by rw [mapF_none] at h; cases h)) ?_
 rintro _ ⟨me', rfl, hme⟩
 dsimp only
 refine T.cnd (fun hc3 => ?_) (fun hc3 => ?_) <;> simp only [iEq_T, iEq_F, sat_zero] at hc3
 ·exact T.ret ⟨fun h => absurd hc3 h.2.2.2.2, fun _ => rfl⟩
 have hD := lenI_eq dm
 have hd2 := hd.2.1
 rw [hD]
 refine T.grd (by rw [fitsI_T]; omega) ?_
 rw [Int.toNat_natCast]
 have good : ∀ y : List Int × Bool × Unit, y = (leastF dm ns leaf 9 root (dm.map fun d => d.1), true, ()) → ((0 ≤ leaf ∧ leaf ≤ 255 ∧ valS l = 0 ∧ VD dm ns root ∧ cntE dm ns leaf 9 root 0 ≠ 0 → y = (leastF dm ns leaf 9 root (dm.map fun d => d.1), true, ())) ∧ (¬ (0 ≤ leaf ∧ leaf ≤ 255 ∧ valS l = 0 ∧ VD dm ns root ∧ cntE dm ns leaf 9 root 0 ≠ 0) → y = ([], false, ()))) := fun y e => ⟨fun _ => e, fun h => absurd ⟨by omega, by omega, hv, hV, hc3⟩ h⟩
 refine T.mono (Q := fun y => y = (leastF dm ns leaf 9 root (dm.map fun d => d.1), true, ())) ?_ good
 refine T.loop (fun q => ∃ (i : Nat) (fs : List Int), i ≤ dm.length ∧ fs.length = dm.length ∧ (∀ j, j < i → fs.getD j 0 = (dm.getD j zS).1) ∧ q = (dm, (dm.length : Int), (i : Int), ns, root, ns, dm, leaf, fs, me', ())) (fun q => dm.length - q.2.2.1.toNat) ⟨0, _, by omega, by simp, fun j hj => by omega, rfl⟩ ?_
 rintro _ ⟨i, fs, hi, hfs, hg, rfl⟩
 dsimp only
 have hF := lenI_eq fs
 have eD : atI dm (i : Int) (0, 0, ()) = dm.getD i zS := by rw [atI_getD]; rfl
 rw [hD, eD]
 refine T.cnd (fun hc4 => ?_) (fun hc4 => ?_) <;> simp only [iLt_T, iLt_F] at hc4
 ·refine T.grd (by rw [bnd_T]; omega) (T.grd (by rw [bnd_T]; omega) (T.grd (by rw [inB_T]; omega) (T.go ⟨i + 1, fs.set i (dm.getD i zS).1, by omega, by rw [List.length_set]; exact hfs, fun j hj => ?_, by rw [iAdd64 (by omega) (by omega)]; rfl⟩ (by dsimp only; rw [iAdd64 (by omega) (by omega)]; omega))))
  rw [List.getD_eq_getElem?_getD]
  by_cases e : i = j
  ·subst e
   rw [List.getElem?_set_self (by omega)]; rfl
  ·rw [List.getElem?_set_ne e, ← List.getD_eq_getElem?_getD]
   exact hg j (by omega)
 obtain rfl : i = dm.length := by omega
 obtain rfl : fs = dm.map fun d => d.1 := by
  apply List.ext_getElem (by rw [hfs, List.length_map])
  intro j h1 h2
  have := hg j (by omega)
  rw [getD_eq _ _ _ h1, getD_eq _ _ _ (by omega)] at this
  rw [this, List.getElem_map]
 refine T.mapL ?_
 have hN := lenI_eq ns
 refine T.loop (fun q => ∃ (f : Nat) (r : Int) (a : Nat) (fs : List Int) (me : List DS3), RefOk ns.length r ∧ rkI (rkA ns) r ≤ f ∧ cntE dm ns leaf 9 r a ≠ 0 ∧ fs.length = dm.length ∧ MemoOk dm ns leaf me ∧ leastF dm ns leaf 9 root (dm.map fun d => d.1) = leastF dm ns leaf f r fs ∧ q = (r, ns, root, ns, dm, leaf, fs, me, ())) (fun q => rkI (rkA ns) q.1) ⟨9, root, 0, _, me', hV.2.1, ?_, hc3, by simp, hme, rfl, rfl⟩ ?_
 ·unfold rkI
  split
  ·omega
  ·have := (rkA_ok hd hs).2 root.toNat (by have := hV.2.1.2; omega); omega
 rintro _ ⟨f, r, a, fs, me, hr, hf, hcn, hfs, hm, hfin, rfl⟩
 dsimp only
 refine T.cnd (fun hc5 => ?_) (fun hc5 => ?_) <;> simp only [iLe_T, iLe_F] at hc5
 ·have hrt : r.toNat < ns.length := by have := hr.2; omega
  have hsr := hs r.toNat hrt
  have h1 := hsr.1
  have h2 := hsr.2.1
  have h4 := hsr.2.2.2.1
  have eN : atI ns r (0, [], [], ()) = ns.getD r.toNat zN := rfl
  have eK : (ns.getD r.toNat zN).2.2.1 = kids ns r.toNat := rfl
  have hK := lenI_eq (kids ns r.toNat)
  have hC := lenI_eq (ns.getD r.toNat zN).2.1
  have hlen := hsr.len hd
  have hkl : (kids ns r.toNat).length ≤ 2000000001 := hlen.2
  rw [eN, eK, hK]
  refine T.grd (by rw [bnd_T]; have := hr.2; omega) ?_
  obtain ⟨k0, k01, k02⟩ := kid_ne hd hs hc5 hr.2 hcn
  obtain ⟨f', rfl⟩ : ∃ f', f = f' + 1 := ⟨f - 1, by unfold rkI at hf; rw [if_neg (by omega)] at hf; omega⟩
  refine T.loop (fun q => ∃ (i : Nat) (me : List DS3), i ≤ k0 ∧ MemoOk dm ns leaf me ∧ (∀ j, j < i → cntE dm ns leaf 9 ((kids ns r.toNat).getD j 0) ((ns.getD r.toNat zN).1.toNat + 1) = 0) ∧ q = (r, kids ns r.toNat, ((kids ns r.toNat).length : Int), (i : Int), ns, root, ns, dm, leaf, fs, (ns.getD r.toNat zN).1, (ns.getD r.toNat zN).2.1, kids ns r.toNat, me, ())) (fun q => (kids ns r.toNat).length - q.2.2.2.1.toNat) ⟨0, me, by omega, hm, fun j hj => by omega, rfl⟩ ?_
  rintro _ ⟨i, me1, hi, hm1, hz0, rfl⟩
  dsimp only
  have hil : i < (kids ns r.toNat).length := by omega
  have hFs := lenI_eq fs
  have ei : iAdd .i64 (ns.getD r.toNat zN).1 1 = (((ns.getD r.toNat zN).1.toNat + 1 : Nat) : Int) := by rw [iAdd64 (by omega) (by omega)]; omega
  have hkid := hsr.2.2.2.2.2 i hil
  have hrefk : RefOk ns.length ((kids ns r.toNat).getD i 0) := hkid.1
  have hrk : rkI (rkA ns) ((kids ns r.toNat).getD i 0) < rkI (rkA ns) r := by
   have hk2 := ((rkA_ok hd hs).1 r.toNat hrt).2 _ (List.getElem_mem hil)
   rw [getD_eq _ _ _ hil]
   unfold rkI
   rw [if_neg (show ¬ r < 0 by omega)]
   split
   ·omega
   ·have := hk2.2 (by omega); omega
  rw [hK, hC, hFs, ei, atI_getD]
  refine T.ct (by rw [iLt_T]; omega) (T.grd (by rw [bnd_T]; omega) (T.call (below_T hd hs hn _ _ me1 hrefk (lvl_kid hd hs hrt hil) hm1) ?_))
  rintro _ ⟨me2, rfl, hm2⟩
  dsimp only
  refine T.cnd (fun hc6 => ?_) (fun hc6 => ?_) <;> simp only [iEq_T, iEq_F, sat_zero] at hc6
  ·refine T.go ⟨i + 1, me2, ?_, hm2, fun j hj => ?_, by rw [iAdd64 (by omega) (by omega)]; rfl⟩ (by dsimp only; rw [iAdd64 (by omega) (by omega)]; omega)
   ·rcases Nat.lt_or_ge i k0 with q | q
    ·omega
    ·obtain rfl : i = k0 := by omega
     exact absurd hc6 k02
   ·rcases Nat.lt_or_ge j i with q | q
    ·exact hz0 j q
    ·obtain rfl : j = i := by omega
     exact hc6
  have hkL : kLeast dm ns leaf r.toNat = i := kLeast_eq hil hz0 hc6
  have hfin2 : leastF dm ns leaf 9 root (dm.map fun d => d.1) = leastF dm ns leaf f' ((kids ns r.toNat).getD i 0) (if 0 < i then fs.set (ns.getD r.toNat zN).1.toNat ((ns.getD r.toNat zN).2.1.getD (i - 1) 0) else fs) := by
   rw [hfin]
   simp only [leastF]
   rw [if_neg (by omega), hkL]
  refine T.cnd (fun hc7 => ?_) (fun hc7 => ?_) <;> simp only [iLt_T, iLt_F] at hc7
  ·have ej : iSub .i64 (i : Int) 1 = ((i - 1 : Nat) : Int) := by rw [iSub64 (by omega) (by omega)]; omega
   rw [ej, atI_getD]
   have hik : i < (ns.getD r.toNat zN).2.1.length + 1 := by rw [← h4]; exact hil
   refine T.grd (by rw [bnd_T]; omega) (T.grd (by rw [bnd_T]; omega) (T.grd (by rw [inB_T]; omega) ?_))
   refine T.out (show LQ _ _ _ _ (Sum.inl _) from ⟨⟨f', _, _, _, me2, hrefk, by omega, hc6, by rw [List.length_set]; exact hfs, hm2, ?_, rfl⟩, by exact hrk⟩)
   rw [hfin2, if_pos (by omega)]
  ·refine T.out (show LQ _ _ _ _ (Sum.inl _) from ⟨⟨f', _, _, _, me2, hrefk, by omega, hc6, hfs, hm2, ?_, rfl⟩, by exact hrk⟩)
   rw [hfin2, if_neg (by omega)]
 ·refine T.out ?_
  rw [hfin, leastF_leaf f hc5]
end Abs
end Go.Proofs.YtgfnhpadmifiiaaDoor
end
namespace Go.Proofs.YtgfnhpadmifiiaaDoor
namespace Abs
def I64 (n : Int) : Prop := -9223372036854775808 ≤ n ∧ n ≤ 9223372036854775807
def testS (l : List DS0) (i lo hi : Int) : DS2 × Int × Unit :=
 if valS l ≠ 0 then (([], 0, ()), valS l, ()) else if i < 0 ∨ (l.length : Int) ≤ i then (([], 0, ()), 7, ()) else
 if hi < lo ∨ (domS (l.getD i.toNat zA)).2 < lo ∨ hi < (domS (l.getD i.toNat zA)).1 then (([], -1, ()), 0, ())
 else if lo ≤ (domS (l.getD i.toNat zA)).1 ∧ (domS (l.getD i.toNat zA)).2 ≤ hi then (([], -2, ()), 0, ())
 else if lo ≤ (domS (l.getD i.toNat zA)).1 then (([(i, [hi + 1], [-2, -1], ())], 0, ()), 0, ())
 else if (domS (l.getD i.toNat zA)).2 ≤ hi then (([(i, [lo], [-1, -2], ())], 0, ()), 0, ())
 else (([(i, [lo, hi + 1], [-1, -2, -1], ())], 0, ()), 0, ())
theorem leaf_m (v : Int) : m17 v = some (([], -1 - max 0 (min v 255), ()), ()) := by
 show some ((([] : List DS1), iSub .i64 (-1) (iMax 0 (iMin v 255)), ()), ()) = _
 unfold iMax iMin
 rw [iSub64 (by omega) (by omega)]
theorem lf_m (v : Int) (h : 0 ≤ v ∧ v ≤ 255) : m40 v = some (-1 - v, ()) := by
 show some (iSub .i64 (-1) v, ()) = _
 rw [iSub64 (by omega) (by omega)]
theorem test_r (l : List DS0) (i lo hi : Int) : m13 (l, ()) i lo hi = some (testS l i lo hi) := by
 refine T.eq ?_
 unfold m13 testS
 refine T.callE (val_r _) ?_
 dsimp only
 have hL := lenI_eq l
 refine T.cnd (fun hc => ?_) (fun hc => ?_) <;> simp only [iNe_T, iNe_F] at hc
 ·rw [if_pos hc]; exact T.ret rfl
 rw [if_neg (by omega)]
 have v := val_ok hc
 refine T.cnd (fun hc2 => ?_) (fun hc2 => ?_) <;> simp only [corT_T, corT_F, iLt_T, iLt_F, iLe_T, iLe_F, hL] at hc2
 ·rw [if_pos hc2]; exact T.ret rfl
 rw [if_neg (by omega)]
 have hil : i.toNat < l.length := by omega
 have ei : i = (i.toNat : Int) := by omega
 have hb := dom_bd (v.2.2 _ (List.getElem_mem hil)).2
 refine T.callE (v := ((domS l[i.toNat]).1, (domS l[i.toNat]).2, ())) (by have q := dom_r l i.toNat hil hc; rwa [← ei] at q) ?_
 dsimp only
 rw [getD_eq l i.toNat zA hil]
 generalize domS l[i.toNat] = d at hb ⊢
 refine T.cnd (fun hc3 => ?_) (fun hc3 => ?_) <;> simp only [corT_T, corT_F, iLt_T, iLt_F] at hc3
 ·rw [if_pos (by omega)]; exact T.ret rfl
 rw [if_neg (by omega)]
 refine T.cnd (fun hc4 => ?_) (fun hc4 => ?_) <;> simp only [candF_T, candF_F, iLe_T, iLe_F] at hc4
 ·rw [if_pos (by omega)]; exact T.ret rfl
 rw [if_neg (by omega)]
 refine T.cnd (fun hc5 => ?_) (fun hc5 => ?_) <;> simp only [iLe_T, iLe_F] at hc5
 ·rw [if_pos (by omega), iAdd64 (by omega) (by omega)]; exact T.ret rfl
 rw [if_neg (by omega)]
 refine T.cnd (fun hc6 => ?_) (fun hc6 => ?_) <;> simp only [iLe_T, iLe_F] at hc6
 ·rw [if_pos (by omega)]; exact T.ret rfl
 ·rw [if_neg (by omega), iAdd64 (by omega) (by omega)]; exact T.ret rfl
theorem test_m (l : List DS0) (i lo hi : Int) : m12 (l, ()) i lo hi = some (testS l i lo hi) := by
 refine T.eq ?_
 unfold m12 testS
 refine T.callE (val_m _) ?_
 dsimp only
 have hL := lenI_eq l
 refine T.cnd (fun hc => ?_) (fun hc => ?_) <;> simp only [iNe_T, iNe_F] at hc
 ·rw [if_pos hc]; exact T.ret rfl
 rw [if_neg (by omega)]
 have v := val_ok hc
 refine T.cnd (fun hc2 => ?_) (fun hc2 => ?_) <;> simp only [corT_T, corT_F, iLt_T, iLt_F, iLe_T, iLe_F, hL] at hc2
 ·rw [if_pos hc2]; exact T.ret rfl
 rw [if_neg (by omega)]
 have hil : i.toNat < l.length := by omega
 have ei : i = (i.toNat : Int) := by omega
 have hb := dom_bd (v.2.2 _ (List.getElem_mem hil)).2
 refine T.callE (v := ((domS l[i.toNat]).1, (domS l[i.toNat]).2, ())) (by have q := dom_sc l i.toNat hil hc; rwa [← ei] at q) ?_
 dsimp only
 rw [getD_eq l i.toNat zA hil]
 generalize domS l[i.toNat] = d at hb ⊢
 obtain ⟨d1, d2⟩ := d
 dsimp only at hb ⊢
 unfold iMin iMax
 refine T.cnd (fun hc3 => ?_) (fun hc3 => ?_) <;> simp only [iLt_T, iLt_F] at hc3
 ·rw [if_pos (by omega)]
  refine T.callE (leaf_m 0) (T.ret rfl)
 rw [if_neg (by omega)]
 refine T.callE (lf_m 1 (by omega)) ?_
 dsimp only
 refine T.join (fun j => j = (i, min hi d2, d2, 0, (if d1 < lo then [lo] else []), (if d1 < lo then [-1, -2] else [-2]), ())) ?_ ?_
 ·refine T.cnd (fun hc4 => ?_) (fun hc4 => ?_) <;> simp only [iLt_T, iLt_F] at hc4
  ·refine T.grd (by rw [fits_T]; exact ⟨by simp, by simp⟩) (T.callE (lf_m 0 (by omega)) (T.callE (lf_m 1 (by omega)) (T.jgo ?_)))
   rw [if_pos (by omega), if_pos (by omega), show max lo d1 = lo by omega]
   rfl
  ·refine T.jgo ?_
   rw [if_neg (by omega), if_neg (by omega)]
   rfl
 rintro _ rfl
 dsimp only
 refine T.cnd (fun hc5 => ?_) (fun hc5 => ?_) <;> simp only [iLt_T, iLt_F] at hc5
 ·rw [iAdd64 (by omega) (by omega), show min hi d2 = hi by omega, if_neg (show ¬ (lo ≤ d1 ∧ d2 ≤ hi) by omega)]
  refine T.grd (by rw [fits_T]; split <;> exact ⟨by simp, by simp⟩) (T.callE (lf_m 0 (by omega)) (T.grd (by rw [fits_T]; split <;> exact ⟨by simp, by simp⟩) (T.cf ?_ ?_)))
  ·rw [iEq_F, lenI_eq]; split <;> simp
  ·refine T.ret ?_
   by_cases q : d1 < lo
   ·rw [if_pos q, if_pos q, if_neg (show ¬ lo ≤ d1 by omega), if_neg (show ¬ d2 ≤ hi by omega)]; rfl
   ·rw [if_neg q, if_neg q, if_pos (show lo ≤ d1 by omega)]; rfl
 ·refine T.cnd (fun hc6 => ?_) (fun hc6 => ?_) <;> simp only [iEq_T, iEq_F, lenI_eq] at hc6
  ·have q : ¬ d1 < lo := fun q => by rw [if_pos q] at hc6; simp at hc6
   refine T.callE (leaf_m 1) (T.ret ?_)
   rw [if_pos (show lo ≤ d1 ∧ d2 ≤ hi by omega)]; rfl
  ·have q : d1 < lo := by
    rcases Int.lt_or_le d1 lo with q | q
    ·exact q
    ·rw [if_neg (by omega)] at hc6; simp at hc6
   refine T.ret ?_
   rw [if_neg (show ¬ (lo ≤ d1 ∧ d2 ≤ hi) by omega), if_neg (show ¬ lo ≤ d1 by omega), if_pos (show d2 ≤ hi by omega), if_pos q, if_pos q]
theorem test_sz (l : List DS0) (i lo hi : Int) : SzN (testS l i lo hi).1.1 := by
 unfold testS
 have e : SzN [] := ⟨by simp, fun x hx => by cases hx⟩
 have o : ∀ x : DS1, x.2.1.length ≤ 4611686018427387904 ∧ x.2.2.1.length ≤ 4611686018427387904 → SzN [x] := fun x h => ⟨by simp, fun y hy => by obtain rfl := List.mem_singleton.1 hy; exact h⟩
 repeat' split
 all_goals first | exact e | exact o _ ⟨by simp, by simp⟩
def l0 : List DS0 := [((bs [120]), 2, [], 1, 9, ())]
def n0 : List DS1 := [(0, [3], [-1, -2], ())]
theorem val0 : valS l0 = 0 := by kernel_rfl
theorem dom0 : doms l0 = [(1, 9, ())] := rfl
theorem test0 : testS l0 0 3 20 = ((n0, 0, ()), 0, ()) := by
 unfold testS
 rw [if_neg (by rw [val0]; omega)]
 rfl
theorem sound0 : SoundN [(1, 9, ())] n0 (0, [3], [-1, -2], ()) := by
 refine ⟨by decide, by decide, by decide, by decide, fun k hk => ?_, fun k hk => ?_⟩
 ·have : k = 0 := by have : k < 1 := hk; omega
  subst this
  exact ⟨by decide, by decide, fun q => by omega⟩
 ·have : k = 0 ∨ k = 1 := by have : k < 2 := hk; omega
  rcases this with rfl | rfl
  ·exact ⟨⟨by decide, by decide⟩, fun q => by omega, fun q => by revert q; decide⟩
  ·exact ⟨⟨by decide, by decide⟩, fun _ => by decide, fun q => by revert q; decide⟩
theorem vd0 : VD (doms l0) n0 0 := by
 rw [dom0]
 refine ⟨by decide, ⟨by decide, by decide⟩, fun i hi => ?_, fun i hi k hk => ?_, by rfl⟩
 ·have : i = 0 := by have : i < 1 := hi; omega
  subst this
  exact sound0
 ·have : i < 1 := hi
  omega
theorem cnt0 : cntE (doms l0) n0 1 9 0 0 = 7 := by rw [dom0]; kernel_rfl
theorem least0 : leastF (doms l0) n0 1 9 0 ((doms l0).map fun d => d.1) = [3] := by rw [dom0]; kernel_rfl
theorem sz0 : SzN n0 := ⟨by decide, fun x hx => by obtain rfl := List.mem_singleton.1 hx; exact ⟨by simp, by simp⟩⟩
theorem awake_m : m11 = some (true, ()) := by
 refine T.eq ?_
 unfold m11
 refine T.callE (show m12 (l0, ()) 0 3 20 = some ((n0, 0, ()), 0, ()) by rw [test_m, test0]) ?_
 dsimp only
 refine T.call (least_T l0 n0 0 1 sz0) ?_
 intro y hy
 obtain rfl := hy.1 ⟨by omega, by omega, val0, vd0, by rw [cnt0]; omega⟩
 rw [least0]
 refine T.grd (by rfl) (T.ct (by rfl) (T.call (count_T l0 n0 0 1 sz0) ?_))
 rintro ⟨y, ⟨⟩⟩ hy
 have e := hy.1 ⟨by omega, by omega, val0, vd0⟩
 rw [cnt0] at e
 dsimp only at e
 subst e
 exact T.ret rfl
theorem awake_T {Q : Bool × Unit → Prop} (h : Q (true, ())) : T ((m11).bind fun y => some (y.1, ())) Q := T.callE awake_m (T.ret h)
theorem same_T {x y : DS2} (hx : SzN x.1) (h : x = y) : m14 x y = some (true, ()) := by
 subst h
 rw [same_d x x hx, decide_eq_true ⟨rfl, rfl⟩]
theorem law_test (s : DS5) (k i lo hi v : Int) (near : Bool) (hk : I64 k) (hi_ : I64 i) (hlo : I64 lo) (hhi : I64 hi) (hv : I64 v) : m3 s k i lo hi v near = some (true, ()) := by
 obtain ⟨l, ⟨⟩⟩ := s
 refine T.eq ?_
 unfold m3
 refine T.cnd (fun _ => awake_T rfl) (fun _ => ?_)
 refine T.callE (test_m l i lo hi) (T.callE (test_r l i lo hi) ?_)
 refine T.callE (same_T (test_sz l i lo hi) rfl) ?_
 refine T.cf (by rw [corT_F, not_F, iNe_F]; exact ⟨rfl, rfl⟩) ?_
 obtain ⟨j, hj, e⟩ := sch_m k hk
 have hv0 := val_ok (sch_val j hj)
 refine T.callE e ?_
 dsimp only
 have hL := lenI_eq (sch j)
 refine T.call (within_T i (lenI (sch j)) hi_ (by omega) (by omega)) ?_
 rintro ⟨w, ⟨⟩⟩ hw
 dsimp only at hw ⊢
 refine T.join (fun q => q.2.2.2.1 = v ∧ q.2.2.2.2.2.2.2.2.1 = sch j) ?_ ?_
 ·refine T.cnd (fun _ => ?_) (fun _ => T.jgo ⟨rfl, rfl⟩)
  refine T.call (within_T lo 14 hlo (by omega) (by omega)) (fun y1 h1 => T.call (within_T hi 28 hhi (by omega) (by omega)) (fun y2 h2 => T.jgo ⟨rfl, rfl⟩))
 rintro ⟨w', lo', hi', v', q1, q2, q3, q4, q5, ⟨⟩⟩ ⟨e1, e2⟩
 dsimp only at e1 e2 ⊢
 subst e1 e2
 refine T.callE (test_m _ _ _ _) (T.callE (test_r _ _ _ _) ?_)
 refine T.callE (same_T (test_sz _ _ _ _) rfl) ?_
 refine T.ct (by rw [candF_T, iEq_T]; exact ⟨rfl, rfl⟩) ?_
 refine T.callE (leaf_m _) ?_
 dsimp only
 refine T.callE (same_T ⟨by simp, fun x hx => by cases hx⟩ ?_) ?_
 ·unfold iMin iMax
  rw [iSub64 (by omega) (by omega)]
  congr 2
  omega
 ·exact T.ct rfl (awake_T rfl)
end Abs
end Go.Proofs.YtgfnhpadmifiiaaDoor
