/- Merged: S1 S2 S3 S4 S5 S6. -/
import Derived.Test.YtgkijjppdaeikaaDoorModels
import Derived.Test.YtgkijjppdaeikaaDoorXK
import Derived.Test.YtgkijjppdaeikaaDoorXP
/- Schema: the deck, names (turned from chapter 05). -/
namespace Go.Proofs.YtgkijjppdaeikaaDoor
namespace Abs
set_option linter.unusedVariables false
set_option linter.unusedSimpArgs false
def DeckOk (L : List Int) (a : Int) : Prop := (∀ x ∈ L, -9223372036854775808 ≤ x ∧ x ≤ 9223372036854775807) ∧ L.length ≤ 9223372036854775807 ∧ 0 ≤ a
theorem next_ok {L : List Int} {a n : Int} (h : DeckOk L a) (hn : 0 < n) (hn2 : n ≤ 4611686018427387904) : ∃ v a', m12 n L a = some (v, L, a', ()) ∧ 0 ≤ v ∧ v < n ∧ DeckOk L a' ∧ a ≤ a' ∧ (a < (L.length : Int) → a' = a + 1) := by
  obtain ⟨h1, h2, h3⟩ := h
  unfold m12
  by_cases hl : (L.length : Int) ≤ a
  · refine ⟨0, a, ?_, by omega, hn, ⟨h1, h2, h3⟩, Int.le_refl _, fun q => by omega⟩
    rw [iLe_t (by simpa [lenI] using hl)]; rfl
  · have hlt : a.toNat < L.length := by omega
    have ha : a = (a.toNat : Int) := by omega
    have hx := h1 L[a.toNat] (List.getElem_mem _)
    have e1 : iSub .i64 (iAdd .i64 a 1) 1 = (a.toNat : Int) := by rw [iAdd64 (by omega) (by omega), iSub64 (by omega) (by omega)]; omega
    have b1 := Int.tmod_lt_of_pos L[a.toNat] hn
    have b2 : -n < L[a.toNat].tmod n := by have := Int.lt_tmod_of_pos L[a.toNat] hn; omega
    have e2 : iAdd .i64 (iRem L[a.toNat] n) n = L[a.toNat].tmod n + n := iAdd64 (by simp only [iRem]; omega) (by simp only [iRem]; omega)
    refine ⟨(L[a.toNat].tmod n + n) % n, a + 1, ?_, Int.emod_nonneg _ (by omega), Int.emod_lt_of_pos _ hn, ⟨h1, h2, by omega⟩, by omega, fun _ => rfl⟩
    rw [iLe_f (by simp only [lenI]; omega), e1]
    simp (disch := omega) only [cond_false, bnd_t, lenI, cond_true, iNe_t, atI_get, e2, iAdd64, iRem_pos]
theorem next_T {L : List Int} {a n : Int} (h : DeckOk L a) (hn : 0 < n) (hn2 : n ≤ 4611686018427387904) : T (m12 n L a) (fun y => DeckOk y.2.1 y.2.2.1 ∧ 0 ≤ y.1 ∧ y.1 < n) := by
  obtain ⟨v, a', e, h1, h2, h3, _⟩ := next_ok h hn hn2
  exact ⟨_, e, h3, h1, h2⟩
theorem sLen_eq (s : ByteArray) : sLen s = (s.size : Int) := rfl
theorem sAt_rng (s : ByteArray) (n : Int) : 0 ≤ sAt s n ∧ sAt s n ≤ 255 := by
  unfold sAt
  have := (s.data.getD n.toNat 0).toNat_lt
  omega
/-- Where bytes of a kind end. -/
def spn (p : Int → Bool) (s : ByteArray) : Nat → Nat → Nat
  | 0, i => i
  | n + 1, i => if p (sAt s (i : Int)) = true then spn p s n (i + 1) else i
def spanS (p : Int → Bool) (s : ByteArray) (i : Nat) : Nat := spn p s (s.size - i) i
theorem spn_ge (p : Int → Bool) (s : ByteArray) : ∀ n i, i ≤ spn p s n i ∧ spn p s n i ≤ i + n := by
  intro n
  induction n with
  | zero => intro i; exact ⟨Nat.le_refl _, Nat.le_refl _⟩
  | succ n ih =>
    intro i
    unfold spn
    split
    · have := ih (i + 1); omega
    · omega
theorem spanS_ge (p : Int → Bool) (s : ByteArray) (i : Nat) (h : i ≤ s.size) : i ≤ spanS p s i ∧ spanS p s i ≤ s.size := by
  have := spn_ge p s (s.size - i) i
  unfold spanS; omega
theorem spanS_step (p : Int → Bool) (s : ByteArray) (i : Nat) (h : i < s.size) : spanS p s i = if p (sAt s (i : Int)) = true then spanS p s (i + 1) else i := by
  unfold spanS
  obtain ⟨n, hn⟩ : ∃ n, s.size - i = n + 1 := ⟨s.size - i - 1, by omega⟩
  rw [hn]
  conv => lhs; unfold spn
  rw [show s.size - (i + 1) = n by omega]
theorem spanS_end (p : Int → Bool) (s : ByteArray) : spanS p s s.size = s.size := by unfold spanS; rw [Nat.sub_self]; rfl
/-- Bytes of a kind. -/
def isLet (c : Int) : Bool := decide (97 ≤ c ∧ c ≤ 122)
def isDig (c : Int) : Bool := decide (48 ≤ c ∧ c ≤ 57)
def isWrd (c : Int) : Bool := isLet c || isDig c || decide (c = 45)
def isHr (c : Int) : Bool := isDig c || decide (c = 45) || decide (c = 84)
def isLine (c : Int) : Bool := decide (c ≠ 10)
theorem let_m (c : Int) : m58 c = some (isLet c, ()) := by unfold m58 isLet iLe; by_cases h : 97 ≤ c <;> simp [h]
theorem let_r (c : Int) : m62 c = some (isLet c, ()) := by unfold m62 isLet iLe; by_cases h : 97 ≤ c <;> simp [h]
theorem dig_m (c : Int) : m70 c = some (isDig c, ()) := by unfold m70 isDig iLe; by_cases h : 48 ≤ c <;> simp [h]
theorem dig_r (c : Int) : m57 c = some (isDig c, ()) := by unfold m57 isDig iLe; by_cases h : 48 ≤ c <;> simp [h]
theorem wrd_m (c : Int) : m60 c = some (isWrd c, ()) := by
  unfold m60 isWrd
  rw [let_m, dig_m]
  simp only [Option.bind_some]
  cases isLet c <;> cases isDig c <;> simp [iEq, BEq.beq]
theorem span1 (s : ByteArray) (i : Nat) (hi : i ≤ s.size) (hs : s.size ≤ 4611686018427387904) : m59 s (i : Int) () = some ((spanS isWrd s i : Int), ()) := by
  refine T.eq ?_
  unfold m59
  refine T.loop (fun q => ∃ j : Nat, j ≤ s.size ∧ spanS isWrd s j = spanS isWrd s i ∧ q = (s, (j : Int), (), ())) (fun q => s.size - q.2.1.toNat) ⟨i, hi, rfl, rfl⟩ ?_
  rintro _ ⟨j, hj, he, rfl⟩
  dsimp only
  have hl := sLen_eq s
  refine T.grd (by first | (simp (disch := omega) only [iLt_T, iLt_F, iLe_T, iLe_F, iEq_T, iEq_F, iNe_T, iNe_F, bnd_T, bnd_F, inB_T, inB_F, fits_T, fitsI_T, cutOk_T, someE_T, someE_F, leN_T, not_T, not_F, and_T, and_F, or_T, or_F, candF_T, candF_F, corT_T, corT_F, bEqT_T, bEqT_F, bEqF_T, bEqF_F, eq_self, or_true, true_or, and_true, true_and, or_false, false_or, and_false, false_and, not_true_eq_false, not_false_eq_true, Bool.true_eq_false, Bool.false_eq_true, iAdd64, iSub64, iMul64, lenI_eq, List.length_append, List.length_cons, List.length_nil, List.length_set, List.length_take, List.length_drop, List.length_replicate]; omega) | (simp (disch := omega) only [iLt_T, iLt_F, iLe_T, iLe_F, iEq_T, iEq_F, iNe_T, iNe_F, bnd_T, bnd_F, inB_T, inB_F, fits_T, fitsI_T, cutOk_T, someE_T, someE_F, leN_T, not_T, not_F, and_T, and_F, or_T, or_F, candF_T, candF_F, corT_T, corT_F, bEqT_T, bEqT_F, bEqF_T, bEqF_F, eq_self, or_true, true_or, and_true, true_and, or_false, false_or, and_false, false_and, not_true_eq_false, not_false_eq_true, Bool.true_eq_false, Bool.false_eq_true, iAdd64, iSub64, iMul64, lenI_eq, List.length_append, List.length_cons, List.length_nil, List.length_set, List.length_take, List.length_drop, List.length_replicate]; done)) ?_
  refine T.cnd (fun hc => ?_) (fun hc => ?_) <;> simp only [iLt_T, iLt_F] at hc
  · rw [spanS_step isWrd s j (by omega)] at he
    refine T.callE (wrd_m _) ?_
    refine T.cnd (fun hp => ?_) (fun hp => T.out ?_)
    · rw [if_pos hp] at he
      refine T.go ⟨j + 1, by omega, he, by rw [iAdd64 (by omega) (by omega)]; rfl⟩ ?_
      dsimp only; rw [iAdd64 (by omega) (by omega)]; omega
    · rw [if_neg (by simpa using hp)] at he
      rw [← he]
  · refine T.out ?_
    have : j = s.size := by omega
    subst this
    rw [spanS_end] at he
    rw [← he]
/-- A word. -/
def wordS (s : ByteArray) : Bool := if s.size = 0 ∨ 16 < s.size then false else if isLet (sAt s 0) = true ∧ ¬ sAt s ((s.size : Int) - 1) = 45 then decide (spanS isWrd s 0 = s.size) else false
theorem word_m (s : ByteArray) (hs : s.size ≤ 4611686018427387904) : m40 s = some (wordS s, ()) := by
  refine T.eq ?_
  unfold m40 wordS
  have hl := sLen_eq s
  refine T.grd (by first | (simp (disch := omega) only [iLt_T, iLt_F, iLe_T, iLe_F, iEq_T, iEq_F, iNe_T, iNe_F, bnd_T, bnd_F, inB_T, inB_F, fits_T, fitsI_T, cutOk_T, someE_T, someE_F, leN_T, not_T, not_F, and_T, and_F, or_T, or_F, candF_T, candF_F, corT_T, corT_F, bEqT_T, bEqT_F, bEqF_T, bEqF_F, eq_self, or_true, true_or, and_true, true_and, or_false, false_or, and_false, false_and, not_true_eq_false, not_false_eq_true, Bool.true_eq_false, Bool.false_eq_true, iAdd64, iSub64, iMul64, lenI_eq, List.length_append, List.length_cons, List.length_nil, List.length_set, List.length_take, List.length_drop, List.length_replicate]; omega) | (simp (disch := omega) only [iLt_T, iLt_F, iLe_T, iLe_F, iEq_T, iEq_F, iNe_T, iNe_F, bnd_T, bnd_F, inB_T, inB_F, fits_T, fitsI_T, cutOk_T, someE_T, someE_F, leN_T, not_T, not_F, and_T, and_F, or_T, or_F, candF_T, candF_F, corT_T, corT_F, bEqT_T, bEqT_F, bEqF_T, bEqF_F, eq_self, or_true, true_or, and_true, true_and, or_false, false_or, and_false, false_and, not_true_eq_false, not_false_eq_true, Bool.true_eq_false, Bool.false_eq_true, iAdd64, iSub64, iMul64, lenI_eq, List.length_append, List.length_cons, List.length_nil, List.length_set, List.length_take, List.length_drop, List.length_replicate]; done)) ?_
  refine T.cnd (fun hc => ?_) (fun hc => ?_) <;> simp only [iLt_T, iLt_F, iLe_T, iLe_F, iEq_T, iEq_F, iNe_T, iNe_F, bnd_T, bnd_F, inB_T, inB_F, fits_T, fitsI_T, cutOk_T, someE_T, someE_F, leN_T, not_T, not_F, and_T, and_F, or_T, or_F, candF_T, candF_F, corT_T, corT_F, bEqT_T, bEqT_F, bEqF_T, bEqF_F, eq_self, or_true, true_or, and_true, true_and, or_false, false_or, and_false, false_and, not_true_eq_false, not_false_eq_true, Bool.true_eq_false, Bool.false_eq_true] at hc
  · refine T.grd (by first | (simp (disch := omega) only [iLt_T, iLt_F, iLe_T, iLe_F, iEq_T, iEq_F, iNe_T, iNe_F, bnd_T, bnd_F, inB_T, inB_F, fits_T, fitsI_T, cutOk_T, someE_T, someE_F, leN_T, not_T, not_F, and_T, and_F, or_T, or_F, candF_T, candF_F, corT_T, corT_F, bEqT_T, bEqT_F, bEqF_T, bEqF_F, eq_self, or_true, true_or, and_true, true_and, or_false, false_or, and_false, false_and, not_true_eq_false, not_false_eq_true, Bool.true_eq_false, Bool.false_eq_true, iAdd64, iSub64, iMul64, lenI_eq, List.length_append, List.length_cons, List.length_nil, List.length_set, List.length_take, List.length_drop, List.length_replicate]; omega) | (simp (disch := omega) only [iLt_T, iLt_F, iLe_T, iLe_F, iEq_T, iEq_F, iNe_T, iNe_F, bnd_T, bnd_F, inB_T, inB_F, fits_T, fitsI_T, cutOk_T, someE_T, someE_F, leN_T, not_T, not_F, and_T, and_F, or_T, or_F, candF_T, candF_F, corT_T, corT_F, bEqT_T, bEqT_F, bEqF_T, bEqF_F, eq_self, or_true, true_or, and_true, true_and, or_false, false_or, and_false, false_and, not_true_eq_false, not_false_eq_true, Bool.true_eq_false, Bool.false_eq_true, iAdd64, iSub64, iMul64, lenI_eq, List.length_append, List.length_cons, List.length_nil, List.length_set, List.length_take, List.length_drop, List.length_replicate]; done)) (T.ret ?_)
    rw [if_pos (by omega)]
  · rw [if_neg (by omega)]
    have e1 : iSub .i64 (sLen s) 1 = (s.size : Int) - 1 := by rw [iSub64 (by omega) (by omega), hl]
    rw [e1]
    refine T.callE (let_m _) ?_
    refine T.grd (by first | (simp (disch := omega) only [iLt_T, iLt_F, iLe_T, iLe_F, iEq_T, iEq_F, iNe_T, iNe_F, bnd_T, bnd_F, inB_T, inB_F, fits_T, fitsI_T, cutOk_T, someE_T, someE_F, leN_T, not_T, not_F, and_T, and_F, or_T, or_F, candF_T, candF_F, corT_T, corT_F, bEqT_T, bEqT_F, bEqF_T, bEqF_F, eq_self, or_true, true_or, and_true, true_and, or_false, false_or, and_false, false_and, not_true_eq_false, not_false_eq_true, Bool.true_eq_false, Bool.false_eq_true, iAdd64, iSub64, iMul64, lenI_eq, List.length_append, List.length_cons, List.length_nil, List.length_set, List.length_take, List.length_drop, List.length_replicate]; omega) | (simp (disch := omega) only [iLt_T, iLt_F, iLe_T, iLe_F, iEq_T, iEq_F, iNe_T, iNe_F, bnd_T, bnd_F, inB_T, inB_F, fits_T, fitsI_T, cutOk_T, someE_T, someE_F, leN_T, not_T, not_F, and_T, and_F, or_T, or_F, candF_T, candF_F, corT_T, corT_F, bEqT_T, bEqT_F, bEqF_T, bEqF_F, eq_self, or_true, true_or, and_true, true_and, or_false, false_or, and_false, false_and, not_true_eq_false, not_false_eq_true, Bool.true_eq_false, Bool.false_eq_true, iAdd64, iSub64, iMul64, lenI_eq, List.length_append, List.length_cons, List.length_nil, List.length_set, List.length_take, List.length_drop, List.length_replicate]; done)) ?_
    refine T.cnd (fun hc => T.ret ?_) (fun hc => ?_) <;> simp only [iLt_T, iLt_F, iLe_T, iLe_F, iEq_T, iEq_F, iNe_T, iNe_F, bnd_T, bnd_F, inB_T, inB_F, fits_T, fitsI_T, cutOk_T, someE_T, someE_F, leN_T, not_T, not_F, and_T, and_F, or_T, or_F, candF_T, candF_F, corT_T, corT_F, bEqT_T, bEqT_F, bEqF_T, bEqF_F, eq_self, or_true, true_or, and_true, true_and, or_false, false_or, and_false, false_and, not_true_eq_false, not_false_eq_true, Bool.true_eq_false, Bool.false_eq_true] at hc
    · rw [if_neg]
      rintro ⟨q1, q2⟩
      rcases hc with q | q
      · rw [q1] at q; cases q
      · exact q2 q
    · rw [if_pos ⟨hc.1, hc.2⟩]
      refine T.callE (span1 s 0 (by omega) hs) (T.ret ?_)
      congr 1
      rw [hl, Bool.eq_iff_iff]
      simp only [iEq_T, decide_eq_true_eq]
      omega
theorem spanS_all (p : Int → Bool) (s : ByteArray) : ∀ (n i : Nat), i + n = s.size → (spanS p s i = s.size ↔ ∀ j, i ≤ j → j < s.size → p (sAt s (j : Int)) = true) := by
  intro n
  induction n with
  | zero =>
    intro i hi
    have : i = s.size := by omega
    subst this
    rw [spanS_end]
    exact ⟨fun _ j h1 h2 => by omega, fun _ => rfl⟩
  | succ n ih =>
    intro i hi
    rw [spanS_step p s i (by omega)]
    have := ih (i + 1) (by omega)
    by_cases hp : p (sAt s (i : Int)) = true
    · rw [if_pos hp, this]
      constructor
      · intro h j h1 h2
        rcases Nat.eq_or_lt_of_le h1 with q | q
        · rw [← q]; exact hp
        · exact h j q h2
      · intro h j h1 h2; exact h j (by omega) h2
    · rw [if_neg hp]
      constructor
      · intro h; omega
      · intro h; exact absurd (h i (Nat.le_refl _) (by omega)) hp
theorem word_r (s : ByteArray) (hs : s.size ≤ 4611686018427387904) : m43 s = some (wordS s, ()) := by
  refine T.eq ?_
  unfold m43 wordS
  have hl := sLen_eq s
  refine T.grd (by first | (simp (disch := omega) only [iLt_T, iLt_F, iLe_T, iLe_F, iEq_T, iEq_F, iNe_T, iNe_F, bnd_T, bnd_F, inB_T, inB_F, fits_T, fitsI_T, cutOk_T, someE_T, someE_F, leN_T, not_T, not_F, and_T, and_F, or_T, or_F, candF_T, candF_F, corT_T, corT_F, bEqT_T, bEqT_F, bEqF_T, bEqF_F, eq_self, or_true, true_or, and_true, true_and, or_false, false_or, and_false, false_and, not_true_eq_false, not_false_eq_true, Bool.true_eq_false, Bool.false_eq_true, iAdd64, iSub64, iMul64, lenI_eq, List.length_append, List.length_cons, List.length_nil, List.length_set, List.length_take, List.length_drop, List.length_replicate]; omega) | (simp (disch := omega) only [iLt_T, iLt_F, iLe_T, iLe_F, iEq_T, iEq_F, iNe_T, iNe_F, bnd_T, bnd_F, inB_T, inB_F, fits_T, fitsI_T, cutOk_T, someE_T, someE_F, leN_T, not_T, not_F, and_T, and_F, or_T, or_F, candF_T, candF_F, corT_T, corT_F, bEqT_T, bEqT_F, bEqF_T, bEqF_F, eq_self, or_true, true_or, and_true, true_and, or_false, false_or, and_false, false_and, not_true_eq_false, not_false_eq_true, Bool.true_eq_false, Bool.false_eq_true, iAdd64, iSub64, iMul64, lenI_eq, List.length_append, List.length_cons, List.length_nil, List.length_set, List.length_take, List.length_drop, List.length_replicate]; done)) ?_
  refine T.cnd (fun hc => ?_) (fun hc => ?_) <;> simp only [iLt_T, iLt_F, iLe_T, iLe_F, iEq_T, iEq_F, iNe_T, iNe_F, bnd_T, bnd_F, inB_T, inB_F, fits_T, fitsI_T, cutOk_T, someE_T, someE_F, leN_T, not_T, not_F, and_T, and_F, or_T, or_F, candF_T, candF_F, corT_T, corT_F, bEqT_T, bEqT_F, bEqF_T, bEqF_F, eq_self, or_true, true_or, and_true, true_and, or_false, false_or, and_false, false_and, not_true_eq_false, not_false_eq_true, Bool.true_eq_false, Bool.false_eq_true] at hc
  · refine T.grd (by first | (simp (disch := omega) only [iLt_T, iLt_F, iLe_T, iLe_F, iEq_T, iEq_F, iNe_T, iNe_F, bnd_T, bnd_F, inB_T, inB_F, fits_T, fitsI_T, cutOk_T, someE_T, someE_F, leN_T, not_T, not_F, and_T, and_F, or_T, or_F, candF_T, candF_F, corT_T, corT_F, bEqT_T, bEqT_F, bEqF_T, bEqF_F, eq_self, or_true, true_or, and_true, true_and, or_false, false_or, and_false, false_and, not_true_eq_false, not_false_eq_true, Bool.true_eq_false, Bool.false_eq_true, iAdd64, iSub64, iMul64, lenI_eq, List.length_append, List.length_cons, List.length_nil, List.length_set, List.length_take, List.length_drop, List.length_replicate]; omega) | (simp (disch := omega) only [iLt_T, iLt_F, iLe_T, iLe_F, iEq_T, iEq_F, iNe_T, iNe_F, bnd_T, bnd_F, inB_T, inB_F, fits_T, fitsI_T, cutOk_T, someE_T, someE_F, leN_T, not_T, not_F, and_T, and_F, or_T, or_F, candF_T, candF_F, corT_T, corT_F, bEqT_T, bEqT_F, bEqF_T, bEqF_F, eq_self, or_true, true_or, and_true, true_and, or_false, false_or, and_false, false_and, not_true_eq_false, not_false_eq_true, Bool.true_eq_false, Bool.false_eq_true, iAdd64, iSub64, iMul64, lenI_eq, List.length_append, List.length_cons, List.length_nil, List.length_set, List.length_take, List.length_drop, List.length_replicate]; done)) (T.ret ?_)
    rw [if_pos (by omega)]
  · rw [if_neg (by omega)]
    have e1 : iSub .i64 (sLen s) 1 = (s.size : Int) - 1 := by rw [iSub64 (by omega) (by omega), hl]
    rw [e1]
    refine T.callE (let_r _) ?_
    refine T.grd (by first | (simp (disch := omega) only [iLt_T, iLt_F, iLe_T, iLe_F, iEq_T, iEq_F, iNe_T, iNe_F, bnd_T, bnd_F, inB_T, inB_F, fits_T, fitsI_T, cutOk_T, someE_T, someE_F, leN_T, not_T, not_F, and_T, and_F, or_T, or_F, candF_T, candF_F, corT_T, corT_F, bEqT_T, bEqT_F, bEqF_T, bEqF_F, eq_self, or_true, true_or, and_true, true_and, or_false, false_or, and_false, false_and, not_true_eq_false, not_false_eq_true, Bool.true_eq_false, Bool.false_eq_true, iAdd64, iSub64, iMul64, lenI_eq, List.length_append, List.length_cons, List.length_nil, List.length_set, List.length_take, List.length_drop, List.length_replicate]; omega) | (simp (disch := omega) only [iLt_T, iLt_F, iLe_T, iLe_F, iEq_T, iEq_F, iNe_T, iNe_F, bnd_T, bnd_F, inB_T, inB_F, fits_T, fitsI_T, cutOk_T, someE_T, someE_F, leN_T, not_T, not_F, and_T, and_F, or_T, or_F, candF_T, candF_F, corT_T, corT_F, bEqT_T, bEqT_F, bEqF_T, bEqF_F, eq_self, or_true, true_or, and_true, true_and, or_false, false_or, and_false, false_and, not_true_eq_false, not_false_eq_true, Bool.true_eq_false, Bool.false_eq_true, iAdd64, iSub64, iMul64, lenI_eq, List.length_append, List.length_cons, List.length_nil, List.length_set, List.length_take, List.length_drop, List.length_replicate]; done)) ?_
    refine T.cnd (fun hc => T.ret ?_) (fun hc => ?_) <;> simp only [iLt_T, iLt_F, iLe_T, iLe_F, iEq_T, iEq_F, iNe_T, iNe_F, bnd_T, bnd_F, inB_T, inB_F, fits_T, fitsI_T, cutOk_T, someE_T, someE_F, leN_T, not_T, not_F, and_T, and_F, or_T, or_F, candF_T, candF_F, corT_T, corT_F, bEqT_T, bEqT_F, bEqF_T, bEqF_F, eq_self, or_true, true_or, and_true, true_and, or_false, false_or, and_false, false_and, not_true_eq_false, not_false_eq_true, Bool.true_eq_false, Bool.false_eq_true] at hc
    · rw [if_neg]
      rintro ⟨q1, q2⟩
      rcases hc with q | q
      · rw [q1] at q; cases q
      · exact q2 q
    · rw [if_pos ⟨hc.1, hc.2⟩]
      have key := spanS_all isWrd s s.size 0 (by omega)
      refine T.loop (fun q => ∃ j : Nat, j ≤ s.size ∧ (∀ k, k < j → isWrd (sAt s (k : Int)) = true) ∧ q = (s, (j : Int), ())) (fun q => s.size - q.2.1.toNat) ⟨0, by omega, fun k hk => by omega, rfl⟩ ?_
      rintro _ ⟨j, hj, he, rfl⟩
      dsimp only
      have go : j < s.size → isWrd (sAt s (j : Int)) = true → T (some (Sum.inl (β := Bool × Unit) (s, iAdd .i64 (j : Int) 1, ()))) (LQ (fun q => ∃ j : Nat, j ≤ s.size ∧ (∀ k, k < j → isWrd (sAt s (k : Int)) = true) ∧ q = (s, (j : Int), ())) (fun q => s.size - q.2.1.toNat) (s.size - (j : Int).toNat) (fun x => x = (decide (spanS isWrd s 0 = s.size), ()))) := fun hlt hw => by
        refine T.go ⟨j + 1, by omega, fun k hk => ?_, by rw [iAdd64 (by omega) (by omega)]; rfl⟩ ?_
        · rcases Nat.lt_or_ge k j with q | q
          · exact he k q
          · rw [show k = j by omega]; exact hw
        · dsimp only; rw [iAdd64 (by omega) (by omega)]; omega
      refine T.cnd (fun hc => ?_) (fun hc => ?_) <;> simp only [iLt_T, iLt_F] at hc
      · have hlt : j < s.size := by omega
        refine T.grd (by first | (simp (disch := omega) only [iLt_T, iLt_F, iLe_T, iLe_F, iEq_T, iEq_F, iNe_T, iNe_F, bnd_T, bnd_F, inB_T, inB_F, fits_T, fitsI_T, cutOk_T, someE_T, someE_F, leN_T, not_T, not_F, and_T, and_F, or_T, or_F, candF_T, candF_F, corT_T, corT_F, bEqT_T, bEqT_F, bEqF_T, bEqF_F, eq_self, or_true, true_or, and_true, true_and, or_false, false_or, and_false, false_and, not_true_eq_false, not_false_eq_true, Bool.true_eq_false, Bool.false_eq_true, iAdd64, iSub64, iMul64, lenI_eq, List.length_append, List.length_cons, List.length_nil, List.length_set, List.length_take, List.length_drop, List.length_replicate]; omega) | (simp (disch := omega) only [iLt_T, iLt_F, iLe_T, iLe_F, iEq_T, iEq_F, iNe_T, iNe_F, bnd_T, bnd_F, inB_T, inB_F, fits_T, fitsI_T, cutOk_T, someE_T, someE_F, leN_T, not_T, not_F, and_T, and_F, or_T, or_F, candF_T, candF_F, corT_T, corT_F, bEqT_T, bEqT_F, bEqF_T, bEqF_F, eq_self, or_true, true_or, and_true, true_and, or_false, false_or, and_false, false_and, not_true_eq_false, not_false_eq_true, Bool.true_eq_false, Bool.false_eq_true, iAdd64, iSub64, iMul64, lenI_eq, List.length_append, List.length_cons, List.length_nil, List.length_set, List.length_take, List.length_drop, List.length_replicate]; done)) ?_
        refine T.callE (let_r _) ?_
        refine T.grd (by first | (simp (disch := omega) only [iLt_T, iLt_F, iLe_T, iLe_F, iEq_T, iEq_F, iNe_T, iNe_F, bnd_T, bnd_F, inB_T, inB_F, fits_T, fitsI_T, cutOk_T, someE_T, someE_F, leN_T, not_T, not_F, and_T, and_F, or_T, or_F, candF_T, candF_F, corT_T, corT_F, bEqT_T, bEqT_F, bEqF_T, bEqF_F, eq_self, or_true, true_or, and_true, true_and, or_false, false_or, and_false, false_and, not_true_eq_false, not_false_eq_true, Bool.true_eq_false, Bool.false_eq_true, iAdd64, iSub64, iMul64, lenI_eq, List.length_append, List.length_cons, List.length_nil, List.length_set, List.length_take, List.length_drop, List.length_replicate]; omega) | (simp (disch := omega) only [iLt_T, iLt_F, iLe_T, iLe_F, iEq_T, iEq_F, iNe_T, iNe_F, bnd_T, bnd_F, inB_T, inB_F, fits_T, fitsI_T, cutOk_T, someE_T, someE_F, leN_T, not_T, not_F, and_T, and_F, or_T, or_F, candF_T, candF_F, corT_T, corT_F, bEqT_T, bEqT_F, bEqF_T, bEqF_F, eq_self, or_true, true_or, and_true, true_and, or_false, false_or, and_false, false_and, not_true_eq_false, not_false_eq_true, Bool.true_eq_false, Bool.false_eq_true, iAdd64, iSub64, iMul64, lenI_eq, List.length_append, List.length_cons, List.length_nil, List.length_set, List.length_take, List.length_drop, List.length_replicate]; done)) ?_
        refine T.cnd (fun h1 => ?_) (fun h1 => ?_) <;> simp only [not_T, not_F] at h1
        · refine T.callE (dig_r _) ?_
          refine T.grd (by first | (simp (disch := omega) only [iLt_T, iLt_F, iLe_T, iLe_F, iEq_T, iEq_F, iNe_T, iNe_F, bnd_T, bnd_F, inB_T, inB_F, fits_T, fitsI_T, cutOk_T, someE_T, someE_F, leN_T, not_T, not_F, and_T, and_F, or_T, or_F, candF_T, candF_F, corT_T, corT_F, bEqT_T, bEqT_F, bEqF_T, bEqF_F, eq_self, or_true, true_or, and_true, true_and, or_false, false_or, and_false, false_and, not_true_eq_false, not_false_eq_true, Bool.true_eq_false, Bool.false_eq_true, iAdd64, iSub64, iMul64, lenI_eq, List.length_append, List.length_cons, List.length_nil, List.length_set, List.length_take, List.length_drop, List.length_replicate]; omega) | (simp (disch := omega) only [iLt_T, iLt_F, iLe_T, iLe_F, iEq_T, iEq_F, iNe_T, iNe_F, bnd_T, bnd_F, inB_T, inB_F, fits_T, fitsI_T, cutOk_T, someE_T, someE_F, leN_T, not_T, not_F, and_T, and_F, or_T, or_F, candF_T, candF_F, corT_T, corT_F, bEqT_T, bEqT_F, bEqF_T, bEqF_F, eq_self, or_true, true_or, and_true, true_and, or_false, false_or, and_false, false_and, not_true_eq_false, not_false_eq_true, Bool.true_eq_false, Bool.false_eq_true, iAdd64, iSub64, iMul64, lenI_eq, List.length_append, List.length_cons, List.length_nil, List.length_set, List.length_take, List.length_drop, List.length_replicate]; done)) ?_
          refine T.cnd (fun h2 => T.out ?_) (fun h2 => ?_) <;> simp only [iLt_T, iLt_F, iLe_T, iLe_F, iEq_T, iEq_F, iNe_T, iNe_F, bnd_T, bnd_F, inB_T, inB_F, fits_T, fitsI_T, cutOk_T, someE_T, someE_F, leN_T, not_T, not_F, and_T, and_F, or_T, or_F, candF_T, candF_F, corT_T, corT_F, bEqT_T, bEqT_F, bEqF_T, bEqF_F, eq_self, or_true, true_or, and_true, true_and, or_false, false_or, and_false, false_and, not_true_eq_false, not_false_eq_true, Bool.true_eq_false, Bool.false_eq_true] at h2
          · rw [decide_eq_false]
            intro q
            have := key.1 q j (by omega) hlt
            unfold isWrd at this
            rw [h1, h2.1] at this
            simp at this
            exact h2.2 this
          · refine go hlt ?_
            unfold isWrd
            rcases h2 with q | q
            · rw [q]; simp
            · rw [decide_eq_true q]; simp
        · refine T.grd (by first | (simp (disch := omega) only [iLt_T, iLt_F, iLe_T, iLe_F, iEq_T, iEq_F, iNe_T, iNe_F, bnd_T, bnd_F, inB_T, inB_F, fits_T, fitsI_T, cutOk_T, someE_T, someE_F, leN_T, not_T, not_F, and_T, and_F, or_T, or_F, candF_T, candF_F, corT_T, corT_F, bEqT_T, bEqT_F, bEqF_T, bEqF_F, eq_self, or_true, true_or, and_true, true_and, or_false, false_or, and_false, false_and, not_true_eq_false, not_false_eq_true, Bool.true_eq_false, Bool.false_eq_true, iAdd64, iSub64, iMul64, lenI_eq, List.length_append, List.length_cons, List.length_nil, List.length_set, List.length_take, List.length_drop, List.length_replicate]; omega) | (simp (disch := omega) only [iLt_T, iLt_F, iLe_T, iLe_F, iEq_T, iEq_F, iNe_T, iNe_F, bnd_T, bnd_F, inB_T, inB_F, fits_T, fitsI_T, cutOk_T, someE_T, someE_F, leN_T, not_T, not_F, and_T, and_F, or_T, or_F, candF_T, candF_F, corT_T, corT_F, bEqT_T, bEqT_F, bEqF_T, bEqF_F, eq_self, or_true, true_or, and_true, true_and, or_false, false_or, and_false, false_and, not_true_eq_false, not_false_eq_true, Bool.true_eq_false, Bool.false_eq_true, iAdd64, iSub64, iMul64, lenI_eq, List.length_append, List.length_cons, List.length_nil, List.length_set, List.length_take, List.length_drop, List.length_replicate]; done)) (go hlt ?_)
          unfold isWrd; rw [h1]; rfl
      · refine T.out ?_
        rw [decide_eq_true]
        exact key.2 fun k _ hk => he k (by omega)
theorem cond_some (a b : Bool) : (cond a (some (true, ())) (some (b, ())) : Option (Bool × Unit)) = some (a || b, ()) := by cases a <;> rfl
/-- A reserved word. -/
noncomputable def resS (s : ByteArray) : Bool := (m41 s).elim false fun y => y.1
theorem res_m (s : ByteArray) : m41 s = some (resS s, ()) := by
  have h : ∃ b, m41 s = some (b, ()) := by
    unfold m41
    simp only [cond_some]
    exact ⟨_, rfl⟩
  obtain ⟨b, h⟩ := h
  unfold resS
  rw [h]; rfl
theorem res_r (s : ByteArray) : m44 s = some (resS s, ()) := (show m44 s = m41 s from rfl).trans (res_m s)
noncomputable def nameS (s : ByteArray) : Bool := wordS s && !resS s
theorem name_m (s : ByteArray) (hs : s.size ≤ 4611686018427387904) : m26 s = some (nameS s, ()) := by
  unfold m26 nameS
  rw [word_m s hs, res_m]
  cases wordS s <;> rfl
theorem name_r (s : ByteArray) (hs : s.size ≤ 4611686018427387904) : m29 s = some (nameS s, ()) := by
  unfold m29 nameS
  rw [word_r s hs, res_r]
  cases wordS s <;> rfl
end Abs
end Go.Proofs.YtgkijjppdaeikaaDoor

/- Schema: bytes, digits (turned from chapter 05). -/
namespace Go.Proofs.YtgkijjppdaeikaaDoor
namespace Abs
set_option linter.unusedVariables false
set_option linter.unusedSimpArgs false
def Byt (bs : List Int) : Prop := ∀ x ∈ bs, 0 ≤ x ∧ x ≤ 255
theorem bl_len (s : ByteArray) : (bytesI s).length = s.size := by simp [bytesI]
theorem bl_byt (s : ByteArray) : Byt (bytesI s) := by
  intro x hx
  unfold bytesI at hx
  obtain ⟨c, _, rfl⟩ := List.mem_map.1 hx
  have := c.toNat_lt
  omega
theorem bl_get (s : ByteArray) (k : Nat) (h : k < (bytesI s).length) : (bytesI s)[k] = sAt s (k : Int) := by
  have hk : k < s.data.size := by rw [bl_len] at h; exact h
  have hk' : k < s.size := hk
  simp only [bytesI, List.getElem_map, Array.getElem_toList]
  unfold sAt
  have e : s.data.getD (Int.toNat (k : Int)) 0 = s.data[k] := by simp [Array.getD, hk']
  rw [e]
theorem bl_at (s : ByteArray) (k : Nat) : sAt s (k : Int) = (bytesI s).getD k 0 := by
  rcases Nat.lt_or_ge k (bytesI s).length with h | h
  · rw [getD_get _ h, bl_get]
  · have hk : ¬ k < s.size := by rw [bl_len] at h; exact Nat.not_lt.2 h
    unfold sAt
    simp [Array.getD, hk, List.getD, List.getElem?_eq_none h]
theorem bl_inj {a b : ByteArray} (h : bytesI a = bytesI b) : a = b := by
  have key : ∀ (l m : List UInt8), (l.map fun c => (c.toNat : Int)) = (m.map fun c => (c.toNat : Int)) → l = m := by
    intro l
    induction l with
    | nil => intro m h; cases m with
      | nil => rfl
      | cons => cases h
    | cons x l ih =>
      intro m h
      cases m with
      | nil => cases h
      | cons y m =>
        simp only [List.map_cons, List.cons.injEq] at h
        have : x = y := UInt8.toNat_inj.1 (by omega)
        rw [this, ih m h.2]
  have := key _ _ h
  cases a; cases b
  simp at this; rw [this]
theorem bl_bsI {xs : List Int} (h : Byt xs) : bytesI (bsI xs) = xs := by
  unfold bytesI bsI
  simp only [List.map_map]
  have : ∀ x ∈ xs, ((fun c : UInt8 => (c.toNat : Int)) ∘ fun n : Int => UInt8.ofNat n.toNat) x = x := by
    intro x hx
    have := h x hx
    simp only [Function.comp, UInt8.toNat_ofNat']
    omega
  conv => rhs; rw [← List.map_id xs]
  exact List.map_congr_left fun x hx => by rw [this x hx]; rfl
theorem bsI_bl (s : ByteArray) : bsI (bytesI s) = s := bl_inj (bl_bsI (bl_byt s))
theorem bl_cat (a b : ByteArray) : bytesI (sCat a b) = bytesI a ++ bytesI b := by
  unfold bytesI sCat
  rw [← List.map_append]
  congr 1
theorem bl_cut (l u : Nat) (s : ByteArray) : bytesI (cutS (l : Int) (u : Int) s) = ((bytesI s).take u).drop l := by
  unfold bytesI cutS
  rw [← List.map_take, ← List.map_drop]
  congr 1
  show (s.extract l u).data.toList = _
  rw [ByteArray.data_extract, Array.toList_extract, List.drop_take]
theorem cut_bs (l u : Nat) (s : ByteArray) : cutS (l : Int) (u : Int) s = bsI (((bytesI s).take u).drop l) := by rw [← bl_cut, bsI_bl]
theorem span_tw (p : Int → Bool) (s : ByteArray) : ∀ (n i : Nat), i + n = s.size → spanS p s i = i + (((bytesI s).drop i).takeWhile p).length := by
  intro n
  induction n with
  | zero =>
    intro i hi
    have : i = s.size := by omega
    subst this
    rw [spanS_end, List.drop_eq_nil_of_le (by rw [bl_len]; exact Nat.le_refl _)]; rfl
  | succ n ih =>
    intro i hi
    have hlt : i < (bytesI s).length := by rw [bl_len]; omega
    rw [spanS_step p s i (by omega), List.drop_eq_getElem_cons hlt, bl_get, List.takeWhile_cons]
    by_cases hp : p (sAt s (i : Int)) = true
    · rw [if_pos hp, if_pos hp, ih (i + 1) (by omega), List.length_cons]; omega
    · rw [if_neg hp, if_neg hp]; rfl
theorem sEq_nil (s : ByteArray) : sEq s (bs []) = decide (bytesI s = []) := by
  rw [Bool.eq_iff_iff, sEq_T, decide_eq_true_eq]
  constructor
  · intro h; rw [h]; rfl
  · intro h; exact bl_inj (by rw [h]; rfl)



theorem sEq_dec (a b : ByteArray) : sEq a b = decide (bytesI a = bytesI b) := by
  rcases h : sEq a b with _ | _
  · rw [sEq_F] at h; symm; rw [decide_eq_false_iff_not]; exact fun q => h (bl_inj q)
  · rw [sEq_T] at h; subst h; symm; rw [decide_eq_true_eq]
theorem bEq_self (a : Bool) : bEq a a = true := by cases a <;> rfl
theorem cat_size (a b : ByteArray) : (sCat a b).size = a.size + b.size := by unfold sCat; rw [ByteArray.size_append]
theorem bl_sz {s : ByteArray} {l : List Int} (h : bytesI s = l) : s.size = l.length := by rw [← h, bl_len]
theorem bsI_size (l : List Int) : (bsI l).size = l.length := by show (l.map _).toArray.size = _; simp
theorem sFits_t {a b : ByteArray} (h : a.size + b.size ≤ 9223372036854775807) : sFits a b = true := by unfold sFits; rw [decide_eq_true_eq]; exact h
theorem rem_pos {a b : Int} (h : 0 ≤ a) : iRem a b = a % b := by unfold iRem; rw [Int.tmod_eq_emod_of_nonneg h]
def val (ds : List Int) : Int := ds.foldl (fun a c => a * 10 + (c - 48)) 0
def AllD (ds : List Int) : Prop := ∀ x ∈ ds, isDig x = true
theorem dig_bd {c : Int} (h : isDig c = true) : 48 ≤ c ∧ c ≤ 57 := of_decide_eq_true h
theorem p10 (n : Nat) : (1 : Int) ≤ 10 ^ n := Int.pow_pos (by decide)
theorem fold_val (ds : List Int) : ∀ a : Int, ds.foldl (fun a c => a * 10 + (c - 48)) a = a * 10 ^ ds.length + val ds := by
  unfold val
  induction ds with
  | nil => intro a; simp
  | cons c ds ih =>
    intro a
    rw [List.foldl_cons, ih, List.foldl_cons, ih (0 * 10 + (c - 48)), List.length_cons, Int.pow_succ, Int.zero_mul, Int.zero_add, Int.add_mul, Int.add_assoc, Int.mul_assoc, Int.mul_comm 10]
theorem val_cons (c : Int) (ds : List Int) : val (c :: ds) = (c - 48) * 10 ^ ds.length + val ds := by
  unfold val; rw [List.foldl_cons, fold_val]; unfold val; rw [Int.zero_mul, Int.zero_add]
theorem val_snoc (ds : List Int) (c : Int) : val (ds ++ [c]) = val ds * 10 + (c - 48) := by
  unfold val; rw [List.foldl_append]; rfl
theorem val_bd : ∀ ds : List Int, AllD ds → 0 ≤ val ds ∧ val ds < 10 ^ ds.length := by
  intro ds
  induction ds with
  | nil => intro _; exact ⟨by decide, by decide⟩
  | cons c ds ih =>
    intro h
    have h1 := ih fun x hx => h x (by simp [hx])
    have h2 := dig_bd (h c (by simp))
    have hp := p10 ds.length
    rw [val_cons, List.length_cons, Int.pow_succ]
    generalize (10 : Int) ^ ds.length = p at *
    have a1 : 0 ≤ (c - 48) * p := Int.mul_nonneg (by omega) (by omega)
    have a2 : (c - 48) * p ≤ 9 * p := Int.mul_le_mul_of_nonneg_right (by omega) (by omega)
    omega
theorem bl_cons {c : Int} (h : 0 ≤ c ∧ c ≤ 255) (s : ByteArray) : bytesI (sCat (bsI [c]) s) = c :: bytesI s := by
  rw [bl_cat, bl_bsI (fun x hx => by rw [List.mem_singleton.1 hx]; exact h)]; rfl
theorem digits_T (n k : Int) (h : 0 ≤ n) (hn : n ≤ 100000000000000000) (hk : 1 ≤ k ∧ k ≤ 4) : T (m52 n k) (fun y => ∃ ds, bytesI y.1 = ds ∧ AllD ds ∧ val ds = n ∧ k ≤ (ds.length : Int) ∧ (∀ j : Nat, k ≤ (j : Int) → n < 10 ^ j → ds.length ≤ j) ∧ (k < (ds.length : Int) → 49 ≤ ds.getD 0 0)) := by
  unfold m52
  refine T.loop (fun q => ∃ (x : Int) (s : ByteArray), 0 ≤ x ∧ AllD (bytesI s) ∧ x * 10 ^ (bytesI s).length + val (bytesI s) = n ∧ (∀ j : Nat, k ≤ (j : Int) → n < 10 ^ j → (bytesI s).length ≤ j) ∧ (k < ((bytesI s).length : Int) → 0 < x ∨ 49 ≤ (bytesI s).getD 0 0) ∧ q = (x, k, s, ())) (fun q => q.1.toNat + (k - (q.2.2.1.size : Int)).toNat) ⟨n, bs [], h, fun x hx => (by cases hx), by show n * 1 + 0 = n; omega, fun j _ _ => Nat.zero_le _, fun q => by exfalso; have : ((bytesI (bs [])).length : Int) = 0 := rfl; omega, rfl⟩ ?_
  rintro _ ⟨x, s, x0, hd, hv, hj, hh, rfl⟩
  dsimp only
  have hsz := bl_len s
  have vb := val_bd _ hd
  have hp := p10 (bytesI s).length
  have hx1 : x * 1 ≤ x * 10 ^ (bytesI s).length := Int.mul_le_mul_of_nonneg_left hp x0
  refine T.cnd (fun hc => ?_) (fun hc => ?_) <;> simp only [corT_T, corT_F, iLt_T, iLt_F, sLen_eq] at hc
  · refine T.grd rfl ?_
    have e : IntKind.wrap .u8 (iAdd .i64 48 (iRem x 10)) = 48 + x % 10 := by rw [rem_pos x0, iAdd64 (by omega) (by omega), wrap8 (by omega) (by omega)]
    have e2 : iQuo .i64 x 10 = x / 10 := by unfold iQuo; rw [Int.tdiv_eq_ediv_of_nonneg x0, wrap64 (by omega) (by omega)]
    rw [e, e2]
    have hs1 : (bsI [48 + x % 10]).size = 1 := rfl
    have hl19 : (bytesI s).length ≤ 19 := hj 19 (by omega) (by rw [show (10 : Int) ^ 19 = 10000000000000000000 from rfl]; omega)
    refine T.grd (sFits_t (by omega)) ?_
    refine T.grd rfl ?_
    have hb := bl_cons (c := 48 + x % 10) (by omega) s
    have hdig : isDig (48 + x % 10) = true := by unfold isDig; rw [decide_eq_true_eq]; omega
    refine T.go ⟨x / 10, _, by omega, ?_, ?_, ?_, ?_, rfl⟩ (by dsimp only; rw [cat_size]; omega)
    · rw [hb]; intro y hy; rcases List.mem_cons.1 hy with rfl | hy
      · exact hdig
      · exact hd y hy
    · rw [hb, List.length_cons, val_cons, Int.pow_succ]
      generalize (10 : Int) ^ (bytesI s).length = p at *
      rw [show (48 + x % 10 - 48 : Int) = x % 10 by omega, Int.mul_comm p 10, ← Int.mul_assoc, ← Int.add_assoc, ← Int.add_mul, show x / 10 * 10 + x % 10 = x by omega]
      exact hv
    · intro j h1 h2
      rw [hb, List.length_cons]
      rcases Int.lt_or_le 0 x with q | q
      · have hx2 : 1 * 10 ^ (bytesI s).length ≤ x * 10 ^ (bytesI s).length := Int.mul_le_mul_of_nonneg_right (by omega) (by omega)
        have : ¬ j ≤ (bytesI s).length := fun hle => by
          have : (10 : Int) ^ j ≤ 10 ^ (bytesI s).length := by
            obtain ⟨t, ht⟩ : ∃ t, (bytesI s).length = j + t := ⟨_, (Nat.add_sub_cancel' hle).symm⟩
            rw [ht, Int.pow_add]
            have := Int.mul_le_mul_of_nonneg_left (p10 t) (show (0 : Int) ≤ 10 ^ j by have := p10 j; omega)
            omega
          omega
        omega
      · omega
    · intro q
      rw [hb, List.length_cons] at q
      rw [hb]
      show 0 < x / 10 ∨ 49 ≤ 48 + x % 10
      omega
  · refine T.out ⟨bytesI s, rfl, hd, ?_, by omega, hj, fun q => ?_⟩
    · obtain rfl : x = 0 := by omega
      omega
    · rcases hh q with q | q
      · omega
      · exact q
theorem digits_fix (n : Int) (k : Nat) (h : 0 ≤ n) (hn : n < 10 ^ k) (hk : 1 ≤ k ∧ k ≤ 4) : T (m52 n (k : Int)) (fun y => ∃ ds, bytesI y.1 = ds ∧ AllD ds ∧ val ds = n ∧ ds.length = k) := by
  have : (10 : Int) ^ k ≤ 10000 := by
    have : k = 1 ∨ k = 2 ∨ k = 3 ∨ k = 4 := by omega
    rcases this with rfl | rfl | rfl | rfl <;> decide
  refine (digits_T n k h (by omega) (by omega)).mono ?_
  rintro v ⟨ds, h1, h2, h3, h4, h5, h6⟩
  exact ⟨ds, h1, h2, h3, by have := h5 k (by omega) hn; omega⟩



end Abs
end Go.Proofs.YtgkijjppdaeikaaDoor

/- Schema: attributes, validity. -/
namespace Go.Proofs.YtgkijjppdaeikaaDoor
namespace Abs
set_option linter.unusedVariables false
set_option linter.unusedSimpArgs false
def eqB (a b : ByteArray) : Bool := decide (bytesI a = bytesI b)
theorem sEq_eqB (a b : ByteArray) : sEq a b = eqB a b := sEq_dec a b
theorem eqB_T {a b : ByteArray} : (eqB a b = true) = (a = b) := by rw [← sEq_eqB, sEq_T]
theorem eqB_F {a b : ByteArray} : (eqB a b = false) = (¬ a = b) := by rw [← sEq_eqB, sEq_F]
def RES : List ByteArray := [bs [97, 110, 100], bs [97, 118, 101, 114, 97, 103, 101], bs [99, 111, 105, 110, 115, 117, 114, 97, 110, 99, 101], bs [99, 111, 110, 100, 105, 116, 105, 111, 110], bs [99, 111, 118, 101, 114], bs [100, 101, 100, 117, 99, 116, 105, 98, 108, 101], bs [100, 101, 102, 105, 110, 101], bs [101, 110, 100], bs [101, 110, 100, 111, 114, 115, 101], bs [101, 120, 99, 108, 117, 100, 101], bs [102, 97, 108, 115, 101], bs [102, 114, 97, 110, 99, 104, 105, 115, 101], bs [102, 114, 111, 109], bs [105, 110], bs [108, 105, 109, 105, 116], bs [110, 111, 116], bs [111, 114], bs [114, 101, 109, 111, 118, 101], bs [115, 117, 98, 108, 105, 109, 105, 116], bs [116, 111], bs [116, 114, 117, 101], bs [117, 110, 108, 101, 115, 115], bs [119, 104, 101, 110]]
theorem res_dec (s : ByteArray) : resS s = RES.any (fun w => eqB s w) := by
  unfold resS m41
  simp only [cond_some, sEq_eqB, Option.elim, RES, List.any_cons, List.any_nil, Bool.or_false]
def nameD (s : ByteArray) : Bool := wordS s && !RES.any (fun w => eqB s w)
theorem nameS_D (s : ByteArray) : nameS s = nameD s := by unfold nameS nameD; rw [res_dec]
theorem word_all (s : ByteArray) : m40 s = some (wordS s, ()) := by
  by_cases h : s.size ≤ 4611686018427387904
  · exact word_m s h
  · refine T.eq ?_
    unfold m40 wordS
    have hl := sLen_eq s
    refine T.grd (by rw [or_T, bnd_T]; left; omega) ?_
    refine T.ct (by rw [corT_T, iEq_T, iLt_T]; omega) ?_
    refine T.grd (by rw [or_T]; right; rfl) (T.ret ?_)
    rw [if_pos (by omega)]
theorem word_allr (s : ByteArray) : m43 s = some (wordS s, ()) := by
  by_cases h : s.size ≤ 4611686018427387904
  · exact word_r s h
  · refine T.eq ?_
    unfold m43 wordS
    have hl := sLen_eq s
    refine T.grd (by rw [or_T, bnd_T]; left; omega) ?_
    refine T.ct (by rw [corT_T, iLt_T, iLt_T]; omega) ?_
    refine T.grd (by rw [or_T]; right; rfl) (T.ret ?_)
    rw [if_pos (by omega)]
theorem nm (s : ByteArray) : m26 s = some (nameD s, ()) := by
  rw [← nameS_D]
  unfold m26 nameS
  rw [word_all s, res_m]
  cases wordS s <;> rfl
theorem nr (s : ByteArray) : m29 s = some (nameD s, ()) := by
  rw [← nameS_D]
  unfold m29 nameS
  rw [word_allr s, res_r]
  cases wordS s <;> rfl
theorem name_sz {s : ByteArray} (h : nameD s = true) : s.size ≤ 16 := by
  unfold nameD wordS at h
  by_cases q : s.size = 0 ∨ 16 < s.size
  · rw [if_pos q] at h; simp at h
  · omega
/-- slices.Contains. -/
theorem contains_m (l : List ByteArray) (w : ByteArray) (hl : l.length ≤ 9223372036854775807) : m61 l w = some (l.any (fun x => eqB w x), ()) := by
  refine T.eq ?_
  unfold m61 m54
  refine T.call (P := fun y => (0 ≤ y.1 ↔ l.any (fun x => eqB w x) = true)) ?_ ?_
  · refine T.loop (fun q => ∃ i : Nat, i ≤ l.length ∧ (l.take i).any (fun x => eqB w x) = false ∧ q = (l, w, lenI l, (i : Int), ())) (fun q => l.length - q.2.2.2.1.toNat) ⟨0, by omega, rfl, rfl⟩ ?_
    rintro _ ⟨i, hi, hf, rfl⟩
    dsimp only
    refine T.cnd (fun hc => ?_) (fun hc => ?_) <;> simp only [iLt_T, iLt_F, lenI_eq] at hc
    · have hlt : i < l.length := by omega
      refine T.grd (by rw [bnd_T, lenI_eq]; omega) ?_
      have ea : atI l (i : Int) ByteArray.empty = l[i] := by unfold atI; rw [Int.toNat_natCast, List.getD_eq_getElem?_getD, List.getElem?_eq_getElem hlt]; rfl
      rw [ea, sEq_eqB]
      refine T.cnd (fun hc2 => T.out ?_) (fun hc2 => T.go ⟨i + 1, by omega, ?_, ?_⟩ ?_)
      · dsimp only
        refine ⟨fun _ => List.any_eq_true.2 ⟨l[i], List.getElem_mem hlt, hc2⟩, fun _ => by omega⟩
      · rw [List.take_succ_eq_append_getElem hlt, List.any_append, hf]
        simp [hc2]
      · rw [iAdd64 (by omega) (by omega)]; rfl
      · dsimp only; rw [iAdd64 (by omega) (by omega)]; omega
    · refine T.out ?_
      obtain rfl : i = l.length := by omega
      rw [List.take_length] at hf
      dsimp only
      rw [hf]; simp
  · rintro ⟨v, _⟩ hv
    refine T.ret ?_
    dsimp only at hv ⊢
    congr 1
    rcases h : l.any (fun x => eqB w x) with _ | _
    · rw [h] at hv; rw [iLe_F]; have : ¬ 0 ≤ v := fun q => by have := hv.1 q; cases this
      omega
    · rw [h] at hv; rw [iLe_T]; exact hv.2 rfl
def dupW (l : List ByteArray) (i : Nat) : Bool := (l.take i).any (fun x => eqB (l.getD i ByteArray.empty) x)
def wordsS (l : List ByteArray) : Int := if l.length = 0 then 19 else if 12 < l.length then 4 else if l.all nameD = true then (if (List.range l.length).any (dupW l) = true then 8 else 0) else 6
theorem at_get {α : Type} (l : List α) (i : Nat) (z : α) (h : i < l.length) : atI l (i : Int) z = l[i] := by unfold atI; rw [Int.toNat_natCast, List.getD_eq_getElem?_getD, List.getElem?_eq_getElem h]; rfl
theorem all_take {α : Type} (l : List α) (p : α → Bool) (i : Nat) (h : i < l.length) (hf : (l.take i).all p = true) (hp : p l[i] = true) : (l.take (i + 1)).all p = true := by
  rw [List.take_succ_eq_append_getElem h, List.all_append, hf]; simp [hp]
theorem all_not {α : Type} (l : List α) (p : α → Bool) (i : Nat) (h : i < l.length) (hp : p l[i] = false) : l.all p = false := by
  rcases q : l.all p with _ | _
  · rfl
  · have := List.all_eq_true.1 q l[i] (List.getElem_mem h); rw [hp] at this; cases this
theorem words_m (l : List ByteArray) : m42 l = some (wordsS l, ()) := by
  refine T.eq ?_
  unfold m42 wordsS
  refine T.cnd (fun hc => T.ret ?_) (fun hc => ?_) <;> simp only [iEq_T, iEq_F, lenI_eq] at hc
  · rw [if_pos (by omega)]
  rw [if_neg (by omega)]
  refine T.cnd (fun hc => T.ret ?_) (fun hc => ?_) <;> simp only [iLt_T, iLt_F, lenI_eq] at hc
  · rw [if_pos (by omega)]
  rw [if_neg (by omega)]
  have hL := lenI_eq l
  refine T.loop (fun q => ∃ i : Nat, i ≤ l.length ∧ (l.take i).all nameD = true ∧ q = (l, l, lenI l, (i : Int), ())) (fun q => l.length - q.2.2.2.1.toNat) ⟨0, by omega, rfl, rfl⟩ ?_
  rintro _ ⟨i, hi, hf, rfl⟩
  dsimp only
  refine T.cnd (fun hc => ?_) (fun hc => ?_) <;> simp only [iLt_T, iLt_F] at hc
  · have hlt : i < l.length := by omega
    refine T.grd (by rw [bnd_T]; omega) ?_
    rw [at_get l i _ hlt]
    refine T.callE (nm _) ?_
    dsimp only
    refine T.cnd (fun hc2 => T.out ?_) (fun hc2 => T.go ⟨i + 1, by omega, ?_, ?_⟩ ?_)
    · rw [not_T] at hc2; rw [if_neg (by rw [all_not l nameD i hlt hc2]; simp)]
    · rw [not_F] at hc2; exact all_take l nameD i hlt hf hc2
    · rw [iAdd64 (by omega) (by omega)]; rfl
    · dsimp only; rw [iAdd64 (by omega) (by omega)]; omega
  obtain rfl : i = l.length := by omega
  rw [List.take_length] at hf
  rw [if_pos hf]
  refine T.mapL ?_
  refine T.loop (fun q => ∃ i : Nat, i ≤ l.length ∧ (List.range i).any (dupW l) = false ∧ q = (l, l, lenI l, (i : Int), ())) (fun q => l.length - q.2.2.2.1.toNat) ⟨0, by omega, rfl, rfl⟩ ?_
  rintro _ ⟨i, hi, hg, rfl⟩
  dsimp only
  refine T.cnd (fun hc => ?_) (fun hc => ?_) <;> simp only [iLt_T, iLt_F] at hc
  · have hlt : i < l.length := by omega
    refine T.grd (by rw [bnd_T]; omega) ?_
    refine T.grd (by rw [cutOk_T]; omega) ?_
    have hcut : cutL 0 (i : Int) l = l.take i := by unfold cutL; rw [Int.toNat_natCast]; rfl
    rw [hcut]
    refine T.callE (contains_m _ _ (by rw [List.length_take]; omega)) ?_
    have hd : (l.take i).any (fun x => eqB (atI l (i : Int) ByteArray.empty) x) = dupW l i := by unfold dupW atI; rw [Int.toNat_natCast]
    rw [hd]
    dsimp only
    refine T.cnd (fun hc2 => T.out ?_) (fun hc2 => T.go ⟨i + 1, by omega, ?_, ?_⟩ ?_)
    · rw [if_pos (List.any_eq_true.2 ⟨i, List.mem_range.2 hlt, hc2⟩)]
    · rw [List.range_succ, List.any_append, hg]; simp [hc2]
    · rw [iAdd64 (by omega) (by omega)]; rfl
    · dsimp only; rw [iAdd64 (by omega) (by omega)]; omega
  · obtain rfl : i = l.length := by omega
    refine T.out ?_
    rw [if_neg (by rw [hg]; simp)]
theorem names_r (l : List ByteArray) (hl : l.length ≤ 12) : m45 l = some (l.all nameD, ()) := by
  refine T.eq ?_
  unfold m45
  have hL := lenI_eq l
  refine T.loop (fun q => ∃ i : Nat, i ≤ l.length ∧ (l.take i).all nameD = true ∧ q = (l, (i : Int), ())) (fun q => l.length - q.2.1.toNat) ⟨0, by omega, rfl, rfl⟩ ?_
  rintro _ ⟨i, hi, hf, rfl⟩
  dsimp only
  refine T.cnd (fun hc => ?_) (fun hc => ?_) <;> simp only [iLt_T, iLt_F] at hc
  · have hlt : i < l.length := by omega
    refine T.grd (by rw [bnd_T]; omega) ?_
    rw [at_get l i _ hlt]
    refine T.callE (nr _) ?_
    dsimp only
    refine T.cnd (fun hc2 => T.out ?_) (fun hc2 => T.go ⟨i + 1, by omega, ?_, ?_⟩ ?_)
    · rw [not_T] at hc2; rw [all_not l nameD i hlt hc2]
    · rw [not_F] at hc2; exact all_take l nameD i hlt hf hc2
    · rw [iAdd64 (by omega) (by omega)]; rfl
    · dsimp only; rw [iAdd64 (by omega) (by omega)]; omega
  · obtain rfl : i = l.length := by omega
    rw [List.take_length] at hf
    exact T.out (by rw [hf])
theorem distinct_r (l : List ByteArray) (hl : l.length ≤ 12) : m46 l = some (!(List.range l.length).any (dupW l), ()) := by
  refine T.eq ?_
  unfold m46
  have hL := lenI_eq l
  refine T.loop (fun q => ∃ i : Nat, i ≤ l.length ∧ (List.range i).any (dupW l) = false ∧ q = (l, (i : Int), ())) (fun q => l.length - q.2.1.toNat) ⟨0, by omega, rfl, rfl⟩ ?_
  rintro _ ⟨i, hi, hg, rfl⟩
  dsimp only
  refine T.cnd (fun hc => ?_) (fun hc => ?_) <;> simp only [iLt_T, iLt_F] at hc
  · have hlt : i < l.length := by omega
    have hd : dupW l i = (l.take i).any (fun x => eqB l[i] x) := by unfold dupW; rw [List.getD_eq_getElem?_getD, List.getElem?_eq_getElem hlt]; rfl
    refine T.loop (fun q => ∃ j : Nat, j ≤ i ∧ (l.take j).any (fun x => eqB l[i] x) = false ∧ q = (l, (i : Int), (j : Int), ())) (fun q => i - q.2.2.1.toNat) ⟨0, by omega, rfl, rfl⟩ ?_
    rintro _ ⟨j, hj, hf, rfl⟩
    dsimp only
    refine T.cnd (fun hc2 => ?_) (fun hc2 => ?_) <;> simp only [iLt_T, iLt_F] at hc2
    · have hjl : j < l.length := by omega
      refine T.grd (by rw [bnd_T]; omega) ?_
      refine T.grd (by rw [bnd_T]; omega) ?_
      rw [at_get l i _ hlt, at_get l j _ hjl, sEq_eqB]
      refine T.cnd (fun hc3 => T.out ?_) (fun hc3 => T.go ⟨j + 1, by omega, ?_, ?_⟩ ?_)
      · show _ = _
        have : dupW l i = true := by
          rw [hd]; refine List.any_eq_true.2 ⟨l[j], ?_, hc3⟩
          exact List.mem_iff_getElem.2 ⟨j, by rw [List.length_take]; omega, by rw [List.getElem_take]⟩
        rw [List.any_eq_true.2 ⟨i, List.mem_range.2 hlt, this⟩]; rfl
      · rw [List.take_succ_eq_append_getElem hjl, List.any_append, hf]; simp [hc3]
      · rw [iAdd64 (by omega) (by omega)]; rfl
      · dsimp only; rw [iAdd64 (by omega) (by omega)]; omega
    · obtain rfl : j = i := by omega
      refine T.out ⟨⟨j + 1, by omega, ?_, ?_⟩, ?_⟩
      · rw [List.range_succ, List.any_append, hg]; simp [hd, hf]
      · rw [iAdd64 (by omega) (by omega)]; rfl
      · dsimp only; rw [iAdd64 (by omega) (by omega)]; omega
  · obtain rfl : i = l.length := by omega
    exact T.out (by rw [hg]; rfl)
def attrS (a : DS0) : Int :=
  if a.2.1 = 1 then (if a.2.2.2.1 ≠ 0 ∨ a.2.2.2.2.1 ≠ 0 then 20 else wordsS a.2.2.1)
  else if a.2.1 = 2 then (if 0 < a.2.2.1.length then 20 else if a.2.2.2.2.1 < a.2.2.2.1 ∨ a.2.2.2.1 < -1000000000 ∨ 1000000000 < a.2.2.2.2.1 then 1 else 0)
  else if a.2.1 = 3 then (if 0 < a.2.2.1.length ∨ a.2.2.2.1 ≠ 0 ∨ a.2.2.2.2.1 ≠ 0 then 20 else 0) else 11
theorem attr_m (a : DS0) : m28 a = some (attrS a, ()) := by
  refine T.eq ?_
  unfold m28 attrS
  have hL := lenI_eq a.2.2.1
  refine T.cnd (fun c1 => ?_) (fun c1 => ?_) <;> simp only [iEq_T, iEq_F] at c1
  · rw [if_pos c1]
    refine T.cnd (fun c2 => T.ret ?_) (fun c2 => ?_) <;> simp only [corT_T, corT_F, iNe_T, iNe_F] at c2
    · rw [if_pos (by omega)]
    · rw [if_neg (by omega)]; exact T.callE (words_m _) (T.ret rfl)
  rw [if_neg c1]
  refine T.cnd (fun c1 => ?_) (fun c1 => ?_) <;> simp only [iEq_T, iEq_F] at c1
  · rw [if_pos c1]
    refine T.cnd (fun c2 => T.ret ?_) (fun c2 => ?_) <;> simp only [iLt_T, iLt_F] at c2
    · rw [if_pos (by omega)]
    · rw [if_neg (by omega)]
      refine T.cnd (fun c2 => T.ret ?_) (fun c2 => T.ret ?_) <;> simp only [corT_T, corT_F, iLt_T, iLt_F] at c2
      · rw [if_pos (by omega)]
      · rw [if_neg (by omega)]
  rw [if_neg c1]
  refine T.cnd (fun c1 => ?_) (fun c1 => ?_) <;> simp only [iEq_T, iEq_F] at c1
  · rw [if_pos c1]
    refine T.cnd (fun c2 => T.ret ?_) (fun c2 => T.ret ?_) <;> simp only [corT_T, corT_F, iLt_T, iLt_F, iNe_T, iNe_F] at c2
    · rw [if_pos (by omega)]
    · rw [if_neg (by omega)]
  · rw [if_neg c1]; exact T.ret rfl
theorem attr_r (a : DS0) : m30 a = some (attrS a, ()) := by
  refine T.eq ?_
  unfold m30 attrS
  have hL := lenI_eq a.2.2.1
  refine T.cnd (fun c1 => ?_) (fun c1 => ?_) <;> simp only [iEq_T, iEq_F] at c1
  · rw [if_pos c1]
    refine T.cnd (fun c2 => T.ret ?_) (fun c2 => ?_) <;> simp only [corT_T, corT_F, iNe_T, iNe_F] at c2
    · rw [if_pos (by omega)]
    · rw [if_neg (by omega)]
      unfold wordsS
      refine T.cnd (fun c2 => T.ret ?_) (fun c2 => ?_) <;> simp only [iEq_T, iEq_F] at c2
      · rw [if_pos (by omega)]
      rw [if_neg (by omega)]
      refine T.cnd (fun c2 => T.ret ?_) (fun c2 => ?_) <;> simp only [iLt_T, iLt_F] at c2
      · rw [if_pos (by omega)]
      rw [if_neg (by omega)]
      refine T.callE (names_r _ (by omega)) ?_
      dsimp only
      refine T.cnd (fun c3 => T.ret ?_) (fun c3 => ?_) <;> simp only [not_T, not_F] at c3
      · rw [if_neg (by rw [c3]; simp)]
      rw [if_pos c3]
      refine T.callE (distinct_r _ (by omega)) ?_
      dsimp only
      refine T.cnd (fun c4 => T.ret ?_) (fun c4 => T.ret ?_) <;> simp only [not_T, not_F] at c4
      · rw [if_pos c4]
      · rw [if_neg (by rw [c4]; simp)]
  rw [if_neg c1]
  refine T.cnd (fun c1 => ?_) (fun c1 => ?_) <;> simp only [iEq_T, iEq_F] at c1
  · rw [if_pos c1]
    refine T.cnd (fun c2 => T.ret ?_) (fun c2 => ?_) <;> simp only [iLt_T, iLt_F] at c2
    · rw [if_pos (by omega)]
    rw [if_neg (by omega)]
    refine T.cnd (fun c3 => T.ret ?_) (fun c3 => ?_) <;> simp only [iLt_T, iLt_F] at c3
    · rw [if_pos (by omega)]
    unfold m47
    refine T.bind (T.ret ?_)
    refine T.cnd (fun c4 => T.ret ?_) (fun c4 => ?_) <;> simp only [corT_T, corT_F, iLt_T, iLt_F] at c4
    · rw [if_pos (by omega)]
    refine T.bind (T.ret ?_)
    refine T.cnd (fun c5 => T.ret ?_) (fun c5 => T.ret ?_) <;> simp only [corT_T, corT_F, iLt_T, iLt_F] at c5
    · rw [if_pos (by omega)]
    · rw [if_neg (by omega)]
  rw [if_neg c1]
  refine T.cnd (fun c1 => ?_) (fun c1 => ?_) <;> simp only [iEq_T, iEq_F] at c1
  · rw [if_pos c1]
    refine T.cnd (fun c2 => T.ret ?_) (fun c2 => T.ret ?_) <;> simp only [corT_T, corT_F, iLt_T, iLt_F, iNe_T, iNe_F] at c2
    · rw [if_pos (by omega)]
    · rw [if_neg (by omega)]
  · rw [if_neg c1]; exact T.ret rfl
end Abs
end Go.Proofs.YtgkijjppdaeikaaDoor

/- Schema: validity, domains, facts. -/
namespace Go.Proofs.YtgkijjppdaeikaaDoor
namespace Abs
set_option linter.unusedVariables false
set_option linter.unusedSimpArgs false
def zA : DS0 := (ByteArray.empty, 0, [], 0, 0, ())
def dupN (l : List DS0) (i : Nat) : Bool := (l.take i).any (fun x => eqB x.1 (l.getD i zA).1)
def chk (l : List DS0) (i : Nat) : Int := if nameD (l.getD i zA).1 = false then 6 else if dupN l i = true then 8 else attrS (l.getD i zA)
def valF (l : List DS0) : Nat → Nat → Int
  | 0, _ => 0
  | n + 1, i => if chk l i ≠ 0 then chk l i else valF l n (i + 1)
def valS (l : List DS0) : Int := if l.length = 0 then 19 else if 6 < l.length then 4 else valF l l.length 0
theorem getD_eq {α : Type} (l : List α) (i : Nat) (z : α) (h : i < l.length) : l.getD i z = l[i] := by rw [List.getD_eq_getElem?_getD, List.getElem?_eq_getElem h]; rfl
theorem atI_getD {α : Type} (l : List α) (i : Nat) (z : α) : atI l (i : Int) z = l.getD i z := by unfold atI; rw [Int.toNat_natCast]
theorem index_T (l : List DS0) (i : Nat) (hi : i < l.length) (hl : l.length ≤ 6) : T (m27 (l, ()) (l.getD i zA).1) (fun y => (y.1 < (i : Int)) ↔ dupN l i = true) := by
  unfold m27
  have hL := lenI_eq l
  generalize hw : (l.getD i zA).1 = w
  have hd : dupN l i = (l.take i).any (fun x => eqB x.1 w) := by unfold dupN; rw [hw]
  rw [hd]
  refine T.loop (fun q => ∃ j : Nat, j ≤ i ∧ (l.take j).any (fun x => eqB x.1 w) = false ∧ q = (w, l, lenI l, (j : Int), ())) (fun q => l.length - q.2.2.2.1.toNat) ⟨0, by omega, rfl, rfl⟩ ?_
  rintro _ ⟨j, hj, hf, rfl⟩
  dsimp only
  refine T.ct (by rw [iLt_T]; omega) ?_
  have hjl : j < l.length := by omega
  refine T.grd (by rw [bnd_T]; omega) ?_
  rw [at_get l j _ hjl, sEq_eqB]
  refine T.cnd (fun hc => T.out ?_) (fun hc => T.go ⟨j + 1, ?_, ?_, ?_⟩ ?_)
  · dsimp only
    constructor
    · intro q
      refine List.any_eq_true.2 ⟨l[j], List.mem_iff_getElem.2 ⟨j, by rw [List.length_take]; omega, by rw [List.getElem_take]⟩, hc⟩
    · intro q
      rcases Nat.lt_or_ge j i with r | r
      · omega
      · obtain rfl : j = i := by omega
        rw [hf] at q; cases q
  · rcases Nat.lt_or_ge j i with r | r
    · omega
    · obtain rfl : j = i := by omega
      rw [getD_eq l j _ hjl] at hw
      rw [hw] at hc
      have : eqB w w = true := by rw [eqB_T]
      rw [this] at hc; cases hc
  · rw [List.take_succ_eq_append_getElem hjl, List.any_append, hf]; simp [hc]
  · rw [iAdd64 (by omega) (by omega)]; rfl
  · dsimp only; rw [iAdd64 (by omega) (by omega)]; omega
theorem val_m (s : DS1) : m14 s = some (valS s.1, ()) := by
  obtain ⟨l, ⟨⟩⟩ := s
  refine T.eq ?_
  unfold m14 valS
  dsimp only
  have hL := lenI_eq l
  refine T.cnd (fun hc => T.ret ?_) (fun hc => ?_) <;> simp only [iEq_T, iEq_F] at hc
  · rw [if_pos (by omega)]
  rw [if_neg (by omega)]
  refine T.cnd (fun hc => T.ret ?_) (fun hc => ?_) <;> simp only [iLt_T, iLt_F] at hc
  · rw [if_pos (by omega)]
  rw [if_neg (by omega)]
  generalize htg : valF l l.length 0 = tgt
  refine T.loop (fun q => ∃ n i : Nat, i + n = l.length ∧ valF l n i = tgt ∧ q = (l, lenI l, (i : Int), l, ())) (fun q => l.length - q.2.2.1.toNat) ⟨l.length, 0, by omega, htg, rfl⟩ ?_
  rintro _ ⟨n, i, hn, he, rfl⟩
  dsimp only
  refine T.cnd (fun hc1 => ?_) (fun hc1 => ?_) <;> simp only [iLt_T, iLt_F] at hc1
  · have hi : i < l.length := by omega
    obtain ⟨n, rfl⟩ : ∃ m, n = m + 1 := ⟨n - 1, by omega⟩
    simp only [valF] at he
    refine T.grd (by rw [bnd_T]; omega) ?_
    have ea : atI l (i : Int) (ByteArray.empty, 0, [], 0, 0, ()) = l.getD i zA := atI_getD l i zA
    rw [ea]
    refine T.callE (nm _) ?_
    dsimp only
    refine T.cnd (fun c1 => T.out ?_) (fun c1 => ?_) <;> simp only [not_T, not_F] at c1
    · rw [show chk l i = 6 by unfold chk; rw [if_pos c1], if_pos (by decide)] at he; exact he ▸ rfl
    have k1 : chk l i = if dupN l i = true then 8 else attrS (l.getD i zA) := by unfold chk; rw [if_neg (by rw [c1]; simp)]
    refine T.call (index_T l i hi (by omega)) (fun y hy => ?_)
    refine T.cnd (fun c2 => T.out ?_) (fun c2 => ?_) <;> simp only [iLt_T, iLt_F] at c2
    · rw [if_pos (hy.1 c2)] at k1; rw [k1, if_pos (by decide)] at he; exact he ▸ rfl
    rw [if_neg (fun q => by have := hy.2 q; omega)] at k1
    rw [k1] at he
    refine T.callE (attr_m (l.getD i zA)) ?_
    dsimp only
    refine T.cnd (fun c3 => T.out ?_) (fun c3 => T.go ⟨n, i + 1, by omega, ?_, ?_⟩ ?_) <;> simp only [iNe_T, iNe_F] at c3
    · rw [if_pos c3] at he; exact he ▸ rfl
    · rw [if_neg (by rw [c3]; simp)] at he; exact he
    · rw [iAdd64 (by omega) (by omega)]; rfl
    · dsimp only; rw [iAdd64 (by omega) (by omega)]; omega
  · obtain rfl : n = 0 := by omega
    exact T.out (he ▸ rfl)
theorem val_r (s : DS1) : m15 s = some (valS s.1, ()) := by
  obtain ⟨l, ⟨⟩⟩ := s
  refine T.eq ?_
  unfold m15 valS
  dsimp only
  have hL := lenI_eq l
  refine T.cnd (fun hc => T.ret ?_) (fun hc => ?_) <;> simp only [iEq_T, iEq_F] at hc
  · rw [if_pos (by omega)]
  rw [if_neg (by omega)]
  refine T.cnd (fun hc => T.ret ?_) (fun hc => ?_) <;> simp only [iLt_T, iLt_F] at hc
  · rw [if_pos (by omega)]
  rw [if_neg (by omega)]
  generalize htg : valF l l.length 0 = tgt
  refine T.loop (fun q => ∃ n i : Nat, i + n = l.length ∧ valF l n i = tgt ∧ q = ((i : Int), l, ())) (fun q => l.length - q.1.toNat) ⟨l.length, 0, by omega, htg, rfl⟩ ?_
  rintro _ ⟨n, i, hn, he, rfl⟩
  dsimp only
  refine T.cnd (fun hc1 => ?_) (fun hc1 => ?_) <;> simp only [iLt_T, iLt_F] at hc1
  · have hi : i < l.length := by omega
    obtain ⟨n, rfl⟩ : ∃ m, n = m + 1 := ⟨n - 1, by omega⟩
    simp only [valF] at he
    refine T.grd (by rw [bnd_T]; omega) ?_
    have ea : atI l (i : Int) (ByteArray.empty, 0, [], 0, 0, ()) = l.getD i zA := atI_getD l i zA
    rw [ea]
    refine T.callE (nr _) ?_
    dsimp only
    refine T.cnd (fun c1 => T.out ?_) (fun c1 => ?_) <;> simp only [not_T, not_F] at c1
    · rw [show chk l i = 6 by unfold chk; rw [if_pos c1], if_pos (by decide)] at he; exact he ▸ rfl
    have k1 : chk l i = if dupN l i = true then 8 else attrS (l.getD i zA) := by unfold chk; rw [if_neg (by rw [c1]; simp)]
    obtain ⟨w, hw⟩ : ∃ w, l.getD i zA = w := ⟨_, rfl⟩
    have hd : dupN l i = (l.take i).any (fun x => eqB x.1 w.1) := by unfold dupN; rw [hw]
    rw [hw, hd] at k1
    rw [hw]
    refine T.loop (fun q => ∃ j : Nat, j ≤ i ∧ (l.take j).any (fun x => eqB x.1 w.1) = false ∧ q = ((i : Int), (j : Int), l, w.1, w.2.1, w.2.2.1, w.2.2.2.1, w.2.2.2.2.1, ())) (fun q => i - q.2.1.toNat) ⟨0, by omega, rfl, rfl⟩ ?_
    rintro _ ⟨j, hj, hf, rfl⟩
    dsimp only
    refine T.cnd (fun hc2 => ?_) (fun hc2 => ?_) <;> simp only [iLt_T, iLt_F] at hc2
    · have hjl : j < l.length := by omega
      refine T.grd (by rw [bnd_T]; omega) ?_
      rw [at_get l j _ hjl, sEq_eqB]
      refine T.cnd (fun hc3 => T.out ?_) (fun hc3 => T.go ⟨j + 1, by omega, ?_, ?_⟩ ?_)
      · show ((8 : Int), ()) = (tgt, ())
        rw [if_pos (List.any_eq_true.2 ⟨l[j], List.mem_iff_getElem.2 ⟨j, by rw [List.length_take]; omega, by rw [List.getElem_take]⟩, hc3⟩)] at k1
        rw [k1, if_pos (by decide)] at he
        exact he ▸ rfl
      · rw [List.take_succ_eq_append_getElem hjl, List.any_append, hf]; simp [hc3]
      · rw [iAdd64 (by omega) (by omega)]; rfl
      · dsimp only; rw [iAdd64 (by omega) (by omega)]; omega
    · obtain rfl : j = i := by omega
      rw [if_neg (by rw [hf]; simp)] at k1
      rw [k1] at he
      refine T.mapL ?_
      refine T.callE (attr_r (w.1, w.2.1, w.2.2.1, w.2.2.2.1, w.2.2.2.2.1, ())) ?_
      have ew : ((w.1, w.2.1, w.2.2.1, w.2.2.2.1, w.2.2.2.2.1, ()) : DS0) = w := rfl
      rw [ew]
      dsimp only
      refine T.cnd (fun c3 => T.ret ?_) (fun c3 => T.ret ⟨⟨n, j + 1, by omega, ?_, ?_⟩, ?_⟩) <;> simp only [iNe_T, iNe_F] at c3
      · show (attrS w, ()) = (tgt, ())
        rw [if_pos c3] at he; exact he ▸ rfl
      · rw [if_neg (by rw [c3]; simp)] at he; exact he
      · rw [iAdd64 (by omega) (by omega)]; rfl
      · dsimp only; rw [iAdd64 (by omega) (by omega)]; omega
  · obtain rfl : n = 0 := by omega
    exact T.out (he ▸ rfl)
/-- What a valid schema is. -/
theorem valF_ok (l : List DS0) : ∀ n i, valF l n i = 0 → ∀ j, i ≤ j → j < i + n → chk l j = 0 := by
  intro n
  induction n with
  | zero => intro i _ j h1 h2; omega
  | succ n ih =>
    intro i h j h1 h2
    simp only [valF] at h
    by_cases q : chk l i ≠ 0
    · rw [if_pos q] at h; exact absurd h q
    · rw [if_neg q] at h
      rcases Nat.eq_or_lt_of_le h1 with r | r
      · subst r; simpa using q
      · exact ih (i + 1) h j (by omega) (by omega)
theorem val_ok {l : List DS0} (h : valS l = 0) : 1 ≤ l.length ∧ l.length ≤ 6 ∧ ∀ a ∈ l, nameD a.1 = true ∧ attrS a = 0 := by
  unfold valS at h
  by_cases q : l.length = 0
  · rw [if_pos q] at h; cases h
  rw [if_neg q] at h
  by_cases q2 : 6 < l.length
  · rw [if_pos q2] at h; cases h
  rw [if_neg q2] at h
  refine ⟨by omega, by omega, fun a ha => ?_⟩
  obtain ⟨j, hj, rfl⟩ := List.mem_iff_getElem.1 ha
  have := valF_ok l l.length 0 h j (by omega) (by omega)
  unfold chk at this
  rw [getD_eq l j zA hj] at this
  rcases c : nameD (l[j]).1 with _ | _
  · rw [if_pos c] at this; cases this
  · rw [if_neg (by rw [c]; simp)] at this
    by_cases d : dupN l j = true
    · rw [if_pos d] at this; cases this
    · rw [if_neg d] at this; exact ⟨rfl, this⟩
def domS (a : DS0) : Int × Int := if a.2.1 = 1 then (0, (a.2.2.1.length : Int) - 1) else if a.2.1 = 2 then (a.2.2.2.1, a.2.2.2.2.1) else (0, 1)
theorem words_len {l : List ByteArray} (h : wordsS l = 0) : 1 ≤ l.length ∧ l.length ≤ 12 ∧ ∀ w ∈ l, nameD w = true := by
  unfold wordsS at h
  by_cases q : l.length = 0
  · rw [if_pos q] at h; cases h
  rw [if_neg q] at h
  by_cases q2 : 12 < l.length
  · rw [if_pos q2] at h; cases h
  rw [if_neg q2] at h
  by_cases q3 : l.all nameD = true
  · exact ⟨by omega, by omega, fun w hw => List.all_eq_true.1 q3 w hw⟩
  · rw [if_neg q3] at h; cases h
theorem attr_ok {a : DS0} (h : attrS a = 0) : (a.2.1 = 1 ∧ 1 ≤ a.2.2.1.length ∧ a.2.2.1.length ≤ 12 ∧ (∀ w ∈ a.2.2.1, nameD w = true)) ∨ (a.2.1 = 2 ∧ a.2.2.2.1 ≤ a.2.2.2.2.1 ∧ -1000000000 ≤ a.2.2.2.1 ∧ a.2.2.2.2.1 ≤ 1000000000) ∨ a.2.1 = 3 := by
  unfold attrS at h
  by_cases c1 : a.2.1 = 1
  · rw [if_pos c1] at h
    by_cases c2 : a.2.2.2.1 ≠ 0 ∨ a.2.2.2.2.1 ≠ 0
    · rw [if_pos c2] at h; cases h
    · rw [if_neg c2] at h; have := words_len h; exact .inl ⟨c1, this.1, this.2.1, this.2.2⟩
  rw [if_neg c1] at h
  by_cases c2 : a.2.1 = 2
  · rw [if_pos c2] at h
    by_cases c3 : 0 < a.2.2.1.length
    · rw [if_pos c3] at h; cases h
    rw [if_neg c3] at h
    by_cases c4 : a.2.2.2.2.1 < a.2.2.2.1 ∨ a.2.2.2.1 < -1000000000 ∨ 1000000000 < a.2.2.2.2.1
    · rw [if_pos c4] at h; cases h
    · exact .inr (.inl ⟨c2, by omega, by omega, by omega⟩)
  rw [if_neg c2] at h
  by_cases c3 : a.2.1 = 3
  · exact .inr (.inr c3)
  · rw [if_neg c3] at h; cases h
theorem dom_bd {a : DS0} (h : attrS a = 0) : (domS a).1 ≤ (domS a).2 ∧ -1000000000 ≤ (domS a).1 ∧ (domS a).2 ≤ 1000000000 := by
  unfold domS
  rcases attr_ok h with ⟨k, h1, h2, _⟩ | ⟨k, h1, h2, h3⟩ | k
  · rw [if_pos k]; dsimp only; omega
  · rw [if_neg (by omega), if_pos k]; exact ⟨h1, h2, h3⟩
  · rw [if_neg (by omega), if_neg (by omega)]; decide
theorem dom_m {a : DS0} (h : attrS a = 0) : m32 a = some ((domS a).1, (domS a).2, ()) := by
  refine T.eq ?_
  unfold m32 domS
  have hL := lenI_eq a.2.2.1
  refine T.cnd (fun c1 => ?_) (fun c1 => ?_) <;> simp only [iEq_T, iEq_F] at c1
  · rcases attr_ok h with ⟨k, h1, h2, _⟩ | ⟨k, _⟩ | k
    · rw [if_pos c1, iSub64 (by omega) (by omega), hL]; exact T.ret rfl
    · omega
    · omega
  rw [if_neg c1]
  refine T.cnd (fun c2 => ?_) (fun c2 => ?_) <;> simp only [iEq_T, iEq_F] at c2
  · rw [if_pos c2]; exact T.ret rfl
  · rw [if_neg c2]; exact T.ret rfl
theorem dom_r (l : List DS0) (i : Nat) (hi : i < l.length) (h : valS l = 0) : m31 (l, ()) (i : Int) = some ((domS l[i]).1, (domS l[i]).2, ()) := by
  refine T.eq ?_
  unfold m31
  have hL := lenI_eq l
  obtain ⟨v1, v2, v3⟩ := val_ok h
  have ha := (v3 _ (List.getElem_mem hi)).2
  refine T.callE (val_r (l, ())) ?_
  dsimp only
  refine T.cf (by rw [corT_F, corT_F, iNe_F, iLt_F, iLe_F]; omega) ?_
  refine T.grd (by rw [bnd_T]; omega) ?_
  rw [at_get l i _ hi]
  unfold domS
  have hL2 := lenI_eq (l[i]).2.2.1
  refine T.cnd (fun c1 => ?_) (fun c1 => ?_) <;> simp only [iEq_T, iEq_F] at c1
  · rcases attr_ok ha with ⟨k, h1, h2, _⟩ | ⟨k, _⟩ | k
    · rw [if_pos c1, iSub64 (by omega) (by omega), hL2]; exact T.ret rfl
    · omega
    · omega
  rw [if_neg c1]
  refine T.cnd (fun c2 => ?_) (fun c2 => ?_) <;> simp only [iEq_T, iEq_F] at c2
  · rw [if_pos c2]; exact T.ret rfl
  · rw [if_neg c2]; exact T.ret rfl
/-- Facts of a schema. -/
def inD (l : List DS0) (f : List Int) (i : Nat) : Bool := decide ((domS (l.getD i zA)).1 ≤ f.getD i 0 ∧ f.getD i 0 ≤ (domS (l.getD i zA)).2)
def validS (l : List DS0) (f : List Int) : Bool := decide (valS l = 0) && decide (f.length = l.length) && (List.range l.length).all (inD l f)
theorem all_range (n i : Nat) (p : Nat → Bool) (h : i < n) (hp : p i = false) : (List.range n).all p = false := by
  rcases q : (List.range n).all p with _ | _
  · rfl
  · have := List.all_eq_true.1 q i (List.mem_range.2 h); rw [hp] at this; cases this
theorem valid_m (s : DS1) (f : List Int) (hf : f.length ≤ 9223372036854775807) : m17 s f = some (validS s.1 f, ()) := by
  obtain ⟨l, ⟨⟩⟩ := s
  refine T.eq ?_
  unfold m17 validS
  have hL := lenI_eq l
  have hLf := lenI_eq f
  refine T.callE (val_m _) ?_
  dsimp only
  refine T.cnd (fun hc => T.ret ?_) (fun hc => ?_) <;> simp only [corT_T, corT_F, iNe_T, iNe_F] at hc
  · congr 1; symm
    rcases hc with q | q
    · rw [decide_eq_false q]; rfl
    · rw [decide_eq_false (show ¬ f.length = l.length by omega), Bool.and_false]; rfl
  have h0 : valS l = 0 := hc.1
  have hfl : f.length = l.length := by omega
  obtain ⟨v1, v2, v3⟩ := val_ok h0
  rw [decide_eq_true h0, decide_eq_true hfl, Bool.and_true, Bool.true_and]
  refine T.loop (fun q => ∃ i : Nat, i ≤ l.length ∧ (List.range i).all (inD l f) = true ∧ q = (f, lenI f, (i : Int), l, ())) (fun q => l.length - q.2.2.1.toNat) ⟨0, by omega, rfl, rfl⟩ ?_
  rintro _ ⟨i, hi, hg, rfl⟩
  dsimp only
  refine T.cnd (fun hc1 => ?_) (fun hc1 => ?_) <;> simp only [iLt_T, iLt_F] at hc1
  · have hlt : i < l.length := by omega
    refine T.grd (by rw [bnd_T]; omega) (T.grd (by rw [bnd_T]; omega) ?_)
    rw [at_get l i _ hlt]
    refine T.callE (dom_m (v3 _ (List.getElem_mem hlt)).2) ?_
    have ed : inD l f i = decide ((domS l[i]).1 ≤ atI f (i : Int) 0 ∧ atI f (i : Int) 0 ≤ (domS l[i]).2) := by unfold inD; rw [getD_eq l i _ hlt, atI_getD]
    dsimp only
    refine T.cnd (fun hc2 => T.out ?_) (fun hc2 => T.go ⟨i + 1, by omega, ?_, ?_⟩ ?_) <;> simp only [corT_T, corT_F, iLt_T, iLt_F] at hc2
    · rw [all_range l.length i _ hlt (by rw [ed, decide_eq_false_iff_not]; omega)]
    · rw [List.range_succ, List.all_append, hg]
      have : inD l f i = true := by rw [ed, decide_eq_true_eq]; omega
      simp [this]
    · rw [iAdd64 (by omega) (by omega)]; rfl
    · dsimp only; rw [iAdd64 (by omega) (by omega)]; omega
  · obtain rfl : i = l.length := by omega
    exact T.out (by rw [hg])
theorem valid_r (s : DS1) (f : List Int) (hf : f.length ≤ 9223372036854775807) : m18 s f = some (validS s.1 f, ()) := by
  obtain ⟨l, ⟨⟩⟩ := s
  refine T.eq ?_
  unfold m18 validS
  have hL := lenI_eq l
  have hLf := lenI_eq f
  refine T.callE (val_r _) ?_
  dsimp only
  refine T.cnd (fun hc => T.ret ?_) (fun hc => ?_) <;> simp only [corT_T, corT_F, iNe_T, iNe_F] at hc
  · congr 1; symm
    rcases hc with q | q
    · rw [decide_eq_false q]; rfl
    · rw [decide_eq_false (show ¬ f.length = l.length by omega), Bool.and_false]; rfl
  have h0 : valS l = 0 := hc.1
  have hfl : f.length = l.length := by omega
  obtain ⟨v1, v2, v3⟩ := val_ok h0
  rw [decide_eq_true h0, decide_eq_true hfl, Bool.and_true, Bool.true_and]
  refine T.loop (fun q => ∃ i : Nat, i ≤ l.length ∧ (List.range i).all (inD l f) = true ∧ q = (f, (i : Int), l, ())) (fun q => l.length - q.2.1.toNat) ⟨0, by omega, rfl, rfl⟩ ?_
  rintro _ ⟨i, hi, hg, rfl⟩
  dsimp only
  refine T.cnd (fun hc1 => ?_) (fun hc1 => ?_) <;> simp only [iLt_T, iLt_F] at hc1
  · have hlt : i < l.length := by omega
    refine T.callE (dom_r l i hlt h0) ?_
    have ed : inD l f i = decide ((domS l[i]).1 ≤ atI f (i : Int) 0 ∧ atI f (i : Int) 0 ≤ (domS l[i]).2) := by unfold inD; rw [getD_eq l i _ hlt, atI_getD]
    have hb : bnd (i : Int) (lenI f) = true := by rw [bnd_T]; omega
    dsimp only
    refine T.grd hb (T.grd (by rw [hb]; rfl) ?_)
    refine T.cnd (fun hc2 => T.out ?_) (fun hc2 => T.go ⟨i + 1, by omega, ?_, ?_⟩ ?_) <;> simp only [corT_T, corT_F, iLt_T, iLt_F] at hc2
    · rw [all_range l.length i _ hlt (by rw [ed, decide_eq_false_iff_not]; omega)]
    · rw [List.range_succ, List.all_append, hg]
      have : inD l f i = true := by rw [ed, decide_eq_true_eq]; omega
      simp [this]
    · rw [iAdd64 (by omega) (by omega)]; rfl
    · dsimp only; rw [iAdd64 (by omega) (by omega)]; omega
  · obtain rfl : i = l.length := by omega
    exact T.out (by rw [hg])
end Abs
end Go.Proofs.YtgkijjppdaeikaaDoor

/- Schema: decimals, texts of facts. -/
namespace Go.Proofs.YtgkijjppdaeikaaDoor
namespace Abs
set_option linter.unusedVariables false
set_option linter.unusedSimpArgs false
def decB (u : Nat) : List Int := (Lib.decDigits u).map fun c => (c.toNat : Int)
theorem decB_lo {u : Nat} (h : u < 10) : decB u = [48 + (u : Int)] := by
  unfold decB; rw [Lib.decDigits, dif_pos h]
  show [((UInt8.ofNat (48 + u)).toNat : Int)] = _
  have : (UInt8.ofNat (48 + u)).toNat = 48 + u := by simp [UInt8.toNat_ofNat']; omega
  rw [this]; simp
theorem decB_hi {u : Nat} (h : 10 ≤ u) : decB u = decB (u / 10) ++ [48 + ((u % 10 : Nat) : Int)] := by
  unfold decB; rw [Lib.decDigits, dif_neg (by omega), List.map_append]
  congr 1
  show [((UInt8.ofNat (48 + u % 10)).toNat : Int)] = _
  have : (UInt8.ofNat (48 + u % 10)).toNat = 48 + u % 10 := by simp [UInt8.toNat_ofNat']; omega
  rw [this]; simp
theorem decB_len (u : Nat) : 1 ≤ (decB u).length ∧ (decB u).length ≤ u + 1 := by
  induction u using Nat.strongRecOn with
  | ind u ih =>
    by_cases h : u < 10
    · rw [decB_lo h]; simp
    · rw [decB_hi (by omega), List.length_append, List.length_singleton]
      have := ih (u / 10) (by omega); omega
theorem digits_m (n : Nat) (hn : n ≤ 10000000000) : T (m52 (n : Int) 1) (fun y => bytesI y.1 = decB n) := by
  unfold m52
  have hdl := decB_len n
  refine T.loop (fun q => ∃ (x : Nat) (s : ByteArray), x ≤ n ∧ (0 < x → decB x ++ bytesI s = decB n) ∧ (x = 0 → bytesI s = decB n ∨ (n = 0 ∧ s = bs [])) ∧ q = ((x : Int), 1, s, ())) (fun q => q.1.toNat + (1 - q.2.2.1.size)) ⟨n, bs [], by omega, fun _ => List.append_nil _, fun h => .inr ⟨h, rfl⟩, rfl⟩ ?_
  rintro _ ⟨x, s, hx, h1, h2, rfl⟩
  dsimp only
  have hb := bl_len s
  refine T.cnd (fun hc => ?_) (fun hc => ?_) <;> simp only [corT_T, corT_F, iLt_T, iLt_F, sLen_eq] at hc
  · have hs : s.size ≤ n + 1 := by
      by_cases q : 0 < x
      · have := congrArg List.length (h1 q); rw [List.length_append] at this; omega
      · rcases h2 (by omega) with r | ⟨_, r⟩
        · have := congrArg List.length r; omega
        · rw [r]; exact Nat.zero_le _
    have e : IntKind.wrap .u8 (iAdd .i64 48 (iRem (x : Int) 10)) = 48 + ((x % 10 : Nat) : Int) := by rw [rem_pos (by omega), iAdd64 (by omega) (by omega), wrap8 (by omega) (by omega)]; simp
    have e2 : iQuo .i64 (x : Int) 10 = ((x / 10 : Nat) : Int) := by unfold iQuo; rw [Int.tdiv_eq_ediv_of_nonneg (by omega), wrap64 (by omega) (by omega)]; simp
    rw [e, e2]
    refine T.grd rfl (T.grd (sFits_t (by have : (bsI [48 + ((x % 10 : Nat) : Int)]).size = 1 := rfl; omega)) (T.grd rfl ?_))
    have hcat := bl_cons (c := 48 + ((x % 10 : Nat) : Int)) (by omega) s
    refine T.go ⟨x / 10, _, by omega, fun q => ?_, fun q => .inl ?_, rfl⟩ ?_
    · rw [hcat, ← h1 (by omega), decB_hi (show 10 ≤ x by omega), List.append_assoc]; rfl
    · rw [hcat]
      by_cases q2 : 0 < x
      · rw [← h1 q2, decB_lo (show x < 10 by omega), show x % 10 = x by omega]; rfl
      · have hx0 : x = 0 := by omega
        subst hx0
        rcases h2 rfl with r | ⟨r1, r2⟩
        · rw [r] at hb; omega
        · subst r1 r2; rw [decB_lo (by omega)]; rfl
    · dsimp only; rw [cat_size]
      have : (bsI [48 + ((x % 10 : Nat) : Int)]).size = 1 := rfl
      omega
  · have hx0 : x = 0 := by omega
    subst hx0
    refine T.out ?_
    rcases h2 rfl with r | ⟨r1, r2⟩
    · exact r
    · subst r2; have : (bs []).size = 0 := rfl
      omega
theorem itoa_bl (n : Int) : bytesI (itoaB n) = if n < 0 then 45 :: decB n.natAbs else decB n.toNat := by
  unfold itoaB bytesI Lib.itoa decB
  by_cases h : n < 0
  · rw [if_pos h, if_pos h]; rfl
  · rw [if_neg h, if_neg h]
theorem itoa_sz (n : Int) : (itoaB n).size ≤ n.natAbs + 2 := by
  rw [← bl_len, itoa_bl]
  have h1 := decB_len n.natAbs
  have h2 := decB_len n.toNat
  split
  · rw [List.length_cons]; omega
  · omega
theorem dec_m (n : Int) (h : -10000000000 ≤ n ∧ n ≤ 10000000000) : m35 n = some (itoaB n, ()) := by
  refine T.eq ?_
  unfold m35
  have hi := itoa_bl n
  refine T.cnd (fun hc => ?_) (fun hc => ?_) <;> simp only [iLt_T, iLt_F] at hc
  · rw [if_pos hc] at hi
    have e : iNeg .i64 n = ((n.natAbs : Nat) : Int) := by unfold iNeg; rw [wrap64 (by omega) (by omega)]; omega
    rw [e]
    refine T.call (digits_m n.natAbs (by omega)) (fun y hy => ?_)
    have hs : y.1.size ≤ n.natAbs + 1 := by rw [← bl_len, hy]; exact (decB_len _).2
    refine T.grd (sFits_t (by have : (bs [45]).size = 1 := rfl; omega)) (T.ret ?_)
    congr 1
    refine bl_inj ?_
    rw [bl_cat, hy, hi]; rfl
  · rw [if_neg (by omega)] at hi
    rw [show n = ((n.toNat : Nat) : Int) by omega]
    refine T.call (digits_m n.toNat (by omega)) (fun y hy => T.ret ?_)
    congr 1
    refine bl_inj ?_
    rw [hy, show ((n.toNat : Nat) : Int) = n by omega, hi]
noncomputable def valueS (a : DS0) (v : Int) : ByteArray := if a.2.1 = 1 then atI a.2.2.1 v ByteArray.empty else if a.2.1 = 2 then itoaB v else if v = 1 then bs [121, 101, 115] else bs [110, 111]
noncomputable def partS (a : DS0) (v : Int) : ByteArray := sCat (sCat a.1 (bs [61])) (valueS a v)
/-- A value of an attribute's domain. -/
def InDom (a : DS0) (v : Int) : Prop := (domS a).1 ≤ v ∧ v ≤ (domS a).2
theorem value_bd {a : DS0} {v : Int} (h : attrS a = 0) (hv : InDom a v) : (a.2.1 = 1 → 0 ≤ v ∧ v < a.2.2.1.length) ∧ (a.2.1 = 2 → -1000000000 ≤ v ∧ v ≤ 1000000000) ∧ (valueS a v).size ≤ 2000000000 := by
  have hb := dom_bd h
  unfold InDom at hv
  refine ⟨fun k => ?_, fun k => ⟨by omega, by omega⟩, ?_⟩
  · unfold domS at hv; rw [if_pos k] at hv; dsimp only at hv; omega
  · unfold valueS
    rcases attr_ok h with ⟨k, h1, h2, h3⟩ | ⟨k, _⟩ | k
    · rw [if_pos k]
      unfold domS at hv; rw [if_pos k] at hv; dsimp only at hv
      have hm : atI a.2.2.1 v ByteArray.empty ∈ a.2.2.1 := by
        unfold atI; rw [getD_eq _ _ _ (by omega)]; exact List.getElem_mem _
      have := name_sz (h3 _ hm); omega
    · rw [if_neg (by omega), if_pos k]; have := itoa_sz v; omega
    · rw [if_neg (by omega), if_neg (by omega)]; split <;> decide
theorem value_m {a : DS0} {v : Int} (h : attrS a = 0) (hv : InDom a v) : m33 a v = some (valueS a v, ()) := by
  obtain ⟨b1, b2, _⟩ := value_bd h hv
  refine T.eq ?_
  unfold m33 valueS
  refine T.cnd (fun c1 => ?_) (fun c1 => ?_) <;> simp only [iEq_T, iEq_F] at c1
  · rw [if_pos c1]; have := b1 c1
    exact T.grd (by rw [bnd_T, lenI_eq]; omega) (T.ret rfl)
  rw [if_neg c1]
  refine T.cnd (fun c2 => ?_) (fun c2 => ?_) <;> simp only [iEq_T, iEq_F] at c2
  · rw [if_pos c2]; have := b2 c2
    refine T.callE (show mItoa v = some (itoaB v, ()) by unfold mItoa; rw [if_pos (by omega)]) (T.ret rfl)
  rw [if_neg c2]
  refine T.cnd (fun c3 => ?_) (fun c3 => ?_) <;> simp only [iEq_T, iEq_F] at c3
  · rw [if_pos c3]; exact T.ret rfl
  · rw [if_neg c3]; exact T.ret rfl
/-- Joined texts. -/
theorem join_snoc (xs : List ByteArray) (x sep : ByteArray) : joinB (xs ++ [x]) sep = if xs = [] then x else sCat (sCat (joinB xs sep) sep) x := by
  cases xs with
  | nil =>
    rw [if_pos rfl]
    unfold joinB
    show (⟨(Lib.join [x.data.toList] sep.data.toList).toArray⟩ : ByteArray) = x
    rw [Lib.join_one]
  | cons y xs =>
    rw [if_neg (by simp)]
    unfold joinB sCat
    rw [List.cons_append, List.map_cons, List.map_cons, Lib.join_cons, Lib.join_cons, List.map_append]
    unfold Lib.joinTail
    apply ByteArray.ext
    simp [ByteArray.data_append]
theorem join_nil (sep : ByteArray) : joinB [] sep = bs [] := rfl
theorem join_sz (sep : ByteArray) (hs : sep.size = 2) : ∀ (n : Nat) (xs : List ByteArray), xs.length = n → (∀ x ∈ xs, x.size ≤ 2000000100) → (joinB xs sep).size ≤ n * 2000000200 := by
  intro n
  induction n with
  | zero => intro xs h _; obtain rfl := List.length_eq_zero_iff.1 h; exact Nat.zero_le _
  | succ n ih =>
    intro xs hn h
    rcases List.eq_nil_or_concat xs with rfl | ⟨ys, x, rfl⟩
    · cases hn
    · rw [List.concat_eq_append] at hn h ⊢
      rw [List.length_append, List.length_singleton] at hn
      have h1 := ih ys (by omega) fun y hy => h y (by simp [hy])
      have h2 := h x (by simp)
      rw [join_snoc]
      split
      · omega
      · rw [cat_size, cat_size]; omega
def SEP : ByteArray := bs [59, 32]
noncomputable def partsS (l : List DS0) (f : List Int) (i : Nat) : List ByteArray := (List.range i).map fun j => partS (l.getD j zA) (f.getD j 0)
noncomputable def fmtS (l : List DS0) (f : List Int) : ByteArray × Int × Unit := if valS l ≠ 0 then (bs [], valS l, ()) else if validS l f = false then (bs [], 16, ()) else (joinB (partsS l f l.length) SEP, 0, ())
theorem valid_ok {l : List DS0} {f : List Int} (h : validS l f = true) : valS l = 0 ∧ f.length = l.length ∧ ∀ (i : Nat) (hi : i < l.length), InDom l[i] (f.getD i 0) := by
  unfold validS at h
  simp only [Bool.and_eq_true, decide_eq_true_eq] at h
  refine ⟨h.1.1, h.1.2, fun i hi => ?_⟩
  have := List.all_eq_true.1 h.2 i (List.mem_range.2 hi)
  unfold inD at this
  rw [decide_eq_true_eq, getD_eq l i zA hi] at this
  exact this
theorem parts_sz {l : List DS0} {f : List Int} (h : validS l f = true) {i : Nat} (hi : i ≤ l.length) : ∀ x ∈ partsS l f i, x.size ≤ 2000000100 := by
  intro x hx
  obtain ⟨h0, h1, h2⟩ := valid_ok h
  obtain ⟨v1, v2, v3⟩ := val_ok h0
  unfold partsS at hx
  obtain ⟨j, hj, rfl⟩ := List.mem_map.1 hx
  have hjl : j < l.length := by have := List.mem_range.1 hj; omega
  rw [getD_eq l j zA hjl]
  have ha := v3 _ (List.getElem_mem hjl)
  have b := (value_bd ha.2 (h2 j hjl)).2.2
  have c := name_sz ha.1
  unfold partS
  rw [cat_size, cat_size]
  have : (bs [61]).size = 1 := rfl
  omega
theorem parts_succ (l : List DS0) (f : List Int) (i : Nat) : partsS l f (i + 1) = partsS l f i ++ [partS (l.getD i zA) (f.getD i 0)] := by
  unfold partsS; rw [List.range_succ, List.map_append]; rfl
theorem parts_len (l : List DS0) (f : List Int) (i : Nat) : (partsS l f i).length = i := by unfold partsS; rw [List.length_map, List.length_range]
theorem fmt_m (s : DS1) (f : List Int) (hf : f.length ≤ 9223372036854775807) : m19 s f = some (fmtS s.1 f) := by
  obtain ⟨l, ⟨⟩⟩ := s
  refine T.eq ?_
  unfold m19 fmtS
  have hL := lenI_eq l
  have hLf := lenI_eq f
  refine T.callE (val_m _) ?_
  dsimp only
  refine T.cnd (fun c1 => T.ret ?_) (fun c1 => ?_) <;> simp only [iNe_T, iNe_F] at c1
  · rw [if_pos c1]
  rw [if_neg (by rw [c1]; simp)]
  refine T.callE (valid_m _ _ hf) ?_
  dsimp only
  refine T.cnd (fun c2 => T.ret ?_) (fun c2 => ?_) <;> simp only [not_T, not_F] at c2
  · rw [if_pos c2]
  rw [if_neg (by rw [c2]; simp)]
  obtain ⟨h0, h1, h2⟩ := valid_ok c2
  obtain ⟨v1, v2, v3⟩ := val_ok h0
  refine T.grd (by rw [fitsI_T]; omega) ?_
  have e0 : (f, l, lenI l, (0 : Int), List.replicate (Int.toNat (lenI f)) (bs []), ()) = (f, l, lenI l, ((0 : Nat) : Int), partsS l f 0 ++ List.replicate (l.length - 0) (bs []), ()) := by
    rw [show Int.toNat (lenI f) = l.length - 0 by omega]; rfl
  rw [e0]
  refine T.along l.length (fun i : Nat => (f, l, lenI l, (i : Int), partsS l f i ++ List.replicate (l.length - i) (bs []), ())) (fun i hi => ?_) ?_
  · dsimp only
    have hpl := parts_len l f i
    have hll : (partsS l f i ++ List.replicate (l.length - i) (bs [])).length = l.length := by rw [List.length_append, hpl, List.length_replicate]; omega
    have ha := v3 _ (List.getElem_mem hi)
    have hn := name_sz ha.1
    have s61 : (bs [61]).size = 1 := rfl
    have hb := (value_bd ha.2 (h2 i hi)).2.2
    refine T.ct (by rw [iLt_T]; omega) ?_
    refine T.grd (by rw [bnd_T]; omega) ?_
    rw [at_get l i _ hi, atI_getD]
    refine T.grd (sFits_t (by omega)) (T.grd (by rw [bnd_T]; omega) ?_)
    refine T.callE (value_m (a := l[i]) ha.2 (h2 i hi)) ?_
    refine T.grd (sFits_t (by rw [cat_size]; dsimp only; omega)) (T.grd (by rw [bnd_T, lenI_eq, hll]; omega) (T.grd (by rw [inB_T, hll]; omega) ?_))
    refine T.go ?_ (by omega)
    have e1 : ((i : Int)).toNat = i := by omega
    obtain ⟨m, hm⟩ : ∃ m, l.length - i = m + 1 := ⟨l.length - i - 1, by omega⟩
    rw [iAdd64 (by omega) (by omega), e1, hm, show l.length - (i + 1) = m by omega, List.replicate_succ, List.set_append_right _ _ (by omega), hpl, Nat.sub_self, List.set_cons_zero, parts_succ, List.append_assoc, getD_eq l i zA hi]
    rfl
  · dsimp only
    refine T.cf (by rw [iLt_F]; omega) (T.mapL ?_)
    have e : partsS l f l.length ++ List.replicate (l.length - l.length) (bs []) = partsS l f l.length := by rw [Nat.sub_self, List.replicate_zero, List.append_nil]
    rw [e]
    have hz := join_sz SEP rfl l.length (partsS l f l.length) (parts_len l f _) (parts_sz c2 (Nat.le_refl _))
    have hz2 : (joinB (partsS l f l.length) SEP).size ≤ 140737488355328 := by
      have : l.length * 2000000200 ≤ 6 * 2000000200 := Nat.mul_le_mul_right _ v2
      omega
    refine T.callE (show mJoin (partsS l f l.length) SEP = some (joinB (partsS l f l.length) SEP, ()) by unfold mJoin; rw [if_pos ⟨by rw [parts_len]; omega, hz2⟩]) (T.ret rfl)
end Abs
end Go.Proofs.YtgkijjppdaeikaaDoor

/- Schema: the laws on facts and their texts. -/
namespace Go.Proofs.YtgkijjppdaeikaaDoor
namespace Abs
set_option linter.unusedVariables false
set_option linter.unusedSimpArgs false
theorem cat_assoc (a b c : ByteArray) : sCat (sCat a b) c = sCat a (sCat b c) := bl_inj (by simp only [bl_cat, List.append_assoc])
theorem fmt_r (s : DS1) (f : List Int) (hf : f.length ≤ 9223372036854775807) : m20 s f = some (fmtS s.1 f) := by
  obtain ⟨l, ⟨⟩⟩ := s
  refine T.eq ?_
  unfold m20 fmtS
  have hL := lenI_eq l
  have hLf := lenI_eq f
  refine T.callE (val_r _) ?_
  dsimp only
  refine T.cnd (fun c1 => T.ret ?_) (fun c1 => ?_) <;> simp only [iNe_T, iNe_F] at c1
  · rw [if_pos c1]
  rw [if_neg (by rw [c1]; simp)]
  refine T.callE (valid_r _ _ hf) ?_
  dsimp only
  refine T.cnd (fun c2 => T.ret ?_) (fun c2 => ?_) <;> simp only [not_T, not_F] at c2
  · rw [if_pos c2]
  rw [if_neg (by rw [c2]; simp)]
  obtain ⟨h0, h1, h2⟩ := valid_ok c2
  obtain ⟨v1, v2, v3⟩ := val_ok h0
  refine T.along l.length (fun i : Nat => (f, joinB (partsS l f i) SEP, (i : Int), l, ())) (fun i hi => ?_) ?_
  · dsimp only
    have hpl := parts_len l f i
    have ha := v3 _ (List.getElem_mem hi)
    have hn := name_sz ha.1
    have s61 : (bs [61]).size = 1 := rfl
    have s2 : (bs [59, 32]).size = 2 := rfl
    obtain ⟨b1, b2, hb⟩ := value_bd ha.2 (h2 i hi)
    have hz := join_sz SEP rfl i (partsS l f i) hpl (parts_sz c2 (by omega))
    have hz2 : (joinB (partsS l f i) SEP).size ≤ 20000000000 := by
      have : i * 2000000200 ≤ 6 * 2000000200 := Nat.mul_le_mul_right _ (by omega)
      omega
    have hj := join_snoc (partsS l f i) (partS l[i] (f.getD i 0)) SEP
    have hps : partsS l f (i + 1) = partsS l f i ++ [partS l[i] (f.getD i 0)] := by rw [parts_succ, getD_eq l i zA hi]
    rw [← hps] at hj
    have hy3 : (bs [121, 101, 115]).size = 3 := rfl
    have hn2 : (bs [110, 111]).size = 2 := rfl
    have hi1 : iAdd .i64 (i : Int) 1 = ((i + 1 : Nat) : Int) := by rw [iAdd64 (by omega) (by omega)]; rfl
    refine T.ct (by rw [iLt_T]; omega) ?_
    refine T.grd (by rw [bnd_T]; omega) ?_
    rw [at_get l i _ hi, atI_getD, hi1]
    generalize hv : f.getD i 0 = v at *
    generalize ha' : l[i] = a at *
    generalize hJ : joinB (partsS l f i) SEP = J at *
    have fin : ∀ r : ByteArray, r = joinB (partsS l f (i + 1)) SEP → T (some (Sum.inl (β := ByteArray × Int × Unit) (f, r, ((i + 1 : Nat) : Int), l, ()))) (LQ (fun s => s = (f, joinB (partsS l f (i + 1)) SEP, ((i + 1 : Nat) : Int), l, ())) (fun _ => 0) 1 (fun x => x = (joinB (partsS l f l.length) SEP, 0, ()))) := by
      intro r hr; rw [hr]; exact T.go rfl (by omega)
    have hval : valueS a v = if a.2.1 = 1 then atI a.2.2.1 v ByteArray.empty else if a.2.1 = 2 then itoaB v else if v = 1 then bs [121, 101, 115] else bs [110, 111] := rfl
    refine T.cnd (fun c3 => ?_) (fun c3 => ?_) <;> simp only [iLt_T, iLt_F] at c3
    · rw [if_neg (fun q => by rw [q] at hpl; simp at hpl; omega)] at hj
      have key : ∀ x : ByteArray, x = valueS a v → sCat (sCat (sCat (sCat J (bs [59, 32])) a.1) (bs [61])) x = joinB (partsS l f (i + 1)) SEP := by
        intro x hx; rw [hj, hx]; unfold partS; simp only [cat_assoc]; rfl
      refine T.grd (sFits_t (by omega)) (T.grd (sFits_t (by rw [cat_size]; omega)) (T.grd (sFits_t (by simp only [cat_size]; omega)) ?_))
      refine T.cnd (fun k1 => ?_) (fun k1 => ?_) <;> simp only [iEq_T, iEq_F] at k1
      · rw [if_pos k1] at hval
        have := b1 k1
        refine T.grd (by rw [bnd_T]; omega) (T.grd (by rw [bnd_T, lenI_eq]; omega) (T.grd (sFits_t (by simp only [cat_size, ← hval]; omega)) (fin _ (key _ hval.symm))))
      rw [if_neg k1] at hval
      refine T.cnd (fun k2 => ?_) (fun k2 => ?_) <;> simp only [iEq_T, iEq_F] at k2
      · rw [if_pos k2] at hval
        have := b2 k2
        refine T.grd (by rw [bnd_T]; omega) (T.callE (dec_m v (by omega)) ?_)
        exact T.grd (sFits_t (by simp only [cat_size, ← hval]; omega)) (fin _ (key _ hval.symm))
      rw [if_neg k2] at hval
      refine T.grd (by rw [bnd_T]; omega) ?_
      refine T.cnd (fun k3 => ?_) (fun k3 => ?_) <;> simp only [iEq_T, iEq_F] at k3
      · rw [if_pos k3] at hval
        exact T.grd (sFits_t (by simp only [cat_size]; omega)) (fin _ (key _ hval.symm))
      · rw [if_neg k3] at hval
        exact T.grd (sFits_t (by simp only [cat_size]; omega)) (fin _ (key _ hval.symm))
    · have hi0 : i = 0 := by omega
      subst hi0
      rw [if_pos (show partsS l f 0 = [] from rfl)] at hj
      have hJ0 : J = bs [] := by rw [← hJ]; rfl
      have hJs : J.size = 0 := by rw [hJ0]; rfl
      have key : ∀ x : ByteArray, x = valueS a v → sCat (sCat (sCat J a.1) (bs [61])) x = joinB (partsS l f (0 + 1)) SEP := by
        intro x hx; rw [hj, hx, hJ0]; unfold partS
        refine bl_inj ?_
        simp only [bl_cat]; rfl
      refine T.grd (sFits_t (by omega)) (T.grd (sFits_t (by simp only [cat_size]; omega)) ?_)
      refine T.cnd (fun k1 => ?_) (fun k1 => ?_) <;> simp only [iEq_T, iEq_F] at k1
      · rw [if_pos k1] at hval
        have := b1 k1
        refine T.grd (by rw [bnd_T]; omega) (T.grd (by rw [bnd_T, lenI_eq]; omega) (T.grd (sFits_t (by simp only [cat_size, ← hval]; omega)) (fin _ (key _ hval.symm))))
      rw [if_neg k1] at hval
      refine T.cnd (fun k2 => ?_) (fun k2 => ?_) <;> simp only [iEq_T, iEq_F] at k2
      · rw [if_pos k2] at hval
        have := b2 k2
        refine T.grd (by rw [bnd_T]; omega) (T.callE (dec_m v (by omega)) ?_)
        exact T.grd (sFits_t (by simp only [cat_size, ← hval]; omega)) (fin _ (key _ hval.symm))
      rw [if_neg k2] at hval
      refine T.grd (by rw [bnd_T]; omega) ?_
      refine T.cnd (fun k3 => ?_) (fun k3 => ?_) <;> simp only [iEq_T, iEq_F] at k3
      · rw [if_pos k3] at hval
        exact T.grd (sFits_t (by simp only [cat_size]; omega)) (fin _ (key _ hval.symm))
      · rw [if_neg k3] at hval
        exact T.grd (sFits_t (by simp only [cat_size]; omega)) (fin _ (key _ hval.symm))
  · dsimp only
    exact T.cf (by rw [iLt_F]; omega) (T.out rfl)
/-- Within. -/
theorem within_T (a n : Int) (ha : -9223372036854775808 ≤ a ∧ a ≤ 9223372036854775807) (hn : 0 < n) (hn2 : n ≤ 4611686018427387904) : T (m10 a n) (fun y => 0 ≤ y.1 ∧ y.1 < n) := by
  unfold m10
  refine T.grd (by rw [iNe_T]; omega) (T.grd (by rw [iNe_T]; omega) (T.ret ?_))
  have h1 : iRem a n = a.tmod n := rfl
  have h2 : a.tmod n < n := Int.tmod_lt_of_pos a hn
  have h3 : -n < a.tmod n := by have := Int.lt_tmod_of_pos a hn; omega
  dsimp only
  rw [h1, iAdd64 (by omega) (by omega)]
  have h4 : iRem (a.tmod n + n) n = (a.tmod n + n) % n := rem_pos (by omega)
  rw [h4]
  exact ⟨Int.emod_nonneg _ (by omega), Int.emod_lt_of_pos _ hn⟩
def sch : Nat → List DS0
  | 0 => ([((bs [112, 101, 114, 105, 108]), 1, ([(bs [102, 105, 114, 101]), (bs [102, 108, 111, 111, 100]), (bs [119, 105, 110, 100]), (bs [116, 104, 101, 102, 116])] : List ByteArray), 0, 0, ()), ((bs [115, 116, 111, 114, 101, 121, 115]), 2, ([] : List ByteArray), 1, 9, ()), ((bs [97, 108, 97, 114, 109]), 3, ([] : List ByteArray), 0, 0, ())] : List DS0)
  | 1 => ([((bs [110]), 2, ([] : List ByteArray), (-5), 20, ())] : List DS0)
  | 2 => ([((bs [97]), 3, ([] : List ByteArray), 0, 0, ()), ((bs [114, 111, 108, 101]), 1, ([(bs [99, 114, 101, 119]), (bs [103, 117, 101, 115, 116])] : List ByteArray), 0, 0, ()), ((bs [98]), 3, ([] : List ByteArray), 0, 0, ())] : List DS0)
  | 3 => ([((bs [110]), 2, ([] : List ByteArray), (-1000000000), 1000000000, ()), ((bs [116]), 3, ([] : List ByteArray), 0, 0, ())] : List DS0)
  | 4 => ([((bs [111, 110, 101]), 1, ([(bs [111, 110, 108, 121])] : List ByteArray), 0, 0, ()), ((bs [112, 101, 114, 105, 108]), 1, ([(bs [102, 105, 114, 101]), (bs [102, 108, 111, 111, 100]), (bs [119, 105, 110, 100]), (bs [116, 104, 101, 102, 116])] : List ByteArray), 0, 0, ()), ((bs [110]), 2, ([] : List ByteArray), 0, 6, ()), ((bs [116]), 3, ([] : List ByteArray), 0, 0, ())] : List DS0)
  | _ => ([((bs [116]), 3, ([] : List ByteArray), 0, 0, ())] : List DS0)
theorem sch_m (k : Int) (hk : -9223372036854775808 ≤ k ∧ k ≤ 9223372036854775807) : ∃ j : Nat, j < 6 ∧ m9 k = some ((sch j, ()), ()) := by
  obtain ⟨⟨v, _⟩, h1, h2, h3⟩ := within_T k 6 hk (by omega) (by omega)
  unfold m9
  rw [h1]
  dsimp only at h2 h3 ⊢
  refine ⟨v.toNat, by omega, ?_⟩
  have : v = 0 ∨ v = 1 ∨ v = 2 ∨ v = 3 ∨ v = 4 ∨ v = 5 := by omega
  rcases this with rfl | rfl | rfl | rfl | rfl | rfl <;> rfl
theorem sch_val : ∀ j : Nat, j < 6 → valS (sch j) = 0 := by
  intro j hj
  match j, hj with
  | 0, _ => exact (by kernel_rfl : valS (sch 0) = 0)
  | 1, _ => exact (by kernel_rfl : valS (sch 1) = 0)
  | 2, _ => exact (by kernel_rfl : valS (sch 2) = 0)
  | 3, _ => exact (by kernel_rfl : valS (sch 3) = 0)
  | 4, _ => exact (by kernel_rfl : valS (sch 4) = 0)
  | 5, _ => exact (by kernel_rfl : valS (sch 5) = 0)
theorem aw_valid : validS (sch 0) [1, 3, 0] = true := by kernel_rfl
theorem aw_text : joinB (partsS (sch 0) [1, 3, 0] 3) SEP = bs [112, 101, 114, 105, 108, 61, 102, 108, 111, 111, 100, 59, 32, 115, 116, 111, 114, 101, 121, 115, 61, 51, 59, 32, 97, 108, 97, 114, 109, 61, 110, 111] := by
  have e : itoaB 3 = bs [51] := by
    refine bl_inj ?_
    rw [itoa_bl, if_neg (by decide), show (3 : Int).toNat = 3 from rfl, decB_lo (by decide)]; rfl
  have p0 : partS ((sch 0).getD 0 zA) (([1, 3, 0] : List Int).getD 0 0) = bs [112, 101, 114, 105, 108, 61, 102, 108, 111, 111, 100] := by kernel_rfl
  have p1 : partS ((sch 0).getD 1 zA) (([1, 3, 0] : List Int).getD 1 0) = bs [115, 116, 111, 114, 101, 121, 115, 61, 51] := by
    show sCat (sCat (bs [115, 116, 111, 114, 101, 121, 115]) (bs [61])) (itoaB 3) = _
    rw [e]; rfl
  have p2 : partS ((sch 0).getD 2 zA) (([1, 3, 0] : List Int).getD 2 0) = bs [97, 108, 97, 114, 109, 61, 110, 111] := by kernel_rfl
  have : partsS (sch 0) [1, 3, 0] 3 = [bs [112, 101, 114, 105, 108, 61, 102, 108, 111, 111, 100], bs [115, 116, 111, 114, 101, 121, 115, 61, 51], bs [97, 108, 97, 114, 109, 61, 110, 111]] := by
    rw [parts_succ, parts_succ, parts_succ, p0, p1, p2]; rfl
  rw [this]; rfl
theorem aw_fmt : fmtS (sch 0) [1, 3, 0] = (bs [112, 101, 114, 105, 108, 61, 102, 108, 111, 111, 100, 59, 32, 115, 116, 111, 114, 101, 121, 115, 61, 51, 59, 32, 97, 108, 97, 114, 109, 61, 110, 111], 0, ()) := by
  unfold fmtS
  rw [if_neg (by rw [sch_val 0 (by decide)]; simp), if_neg (by rw [aw_valid]; simp)]
  rw [← aw_text]; rfl
theorem aw_count : m24 (sch 0, ()) = some (72, ()) := by
  refine T.eq ?_
  unfold m24
  refine T.callE (val_m (sch 0, ())) ?_
  refine T.cf (by rw [iNe_F]; exact sch_val 0 (by decide)) ?_
  refine T.loop (fun q => q = (1, sch 0, 3, 0, ()) ∨ q = (4, sch 0, 3, 1, ()) ∨ q = (36, sch 0, 3, 2, ()) ∨ q = (72, sch 0, 3, 3, ())) (fun q => 3 - q.2.2.2.1.toNat) (.inl rfl) ?_
  rintro _ (rfl | rfl | rfl | rfl)
  · exact ⟨_, rfl, .inr (.inl rfl), by decide⟩
  · exact ⟨_, rfl, .inr (.inr (.inl rfl)), by decide⟩
  · exact ⟨_, rfl, .inr (.inr (.inr rfl)), by decide⟩
  · exact ⟨_, rfl, rfl⟩
theorem awake_ok : m8 = some (true, ()) := by
  refine T.eq ?_
  unfold m8
  have e9 : m9 0 = some ((sch 0, ()), ()) := rfl
  rw [e9]
  refine T.bind (T.ret ?_)
  refine T.callE (fmt_m (sch 0, ()) [1, 3, 0] (by decide)) ?_
  rw [aw_fmt]
  refine T.ct (by rw [candF_T, sEq_T, iEq_T]; exact ⟨rfl, rfl⟩) ?_
  refine T.bind (T.ret ?_)
  refine T.callE aw_count (T.ret rfl)
/-- Facts that a deck gives. -/
theorem facts_T (l : List DS0) (h : valS l = 0) {L : List Int} (hd : DeckOk L 0) : T (m16 (l, ()) L 0) (fun y => validS l y.2.2.1 = true) := by
  unfold m16
  have hL := lenI_eq l
  obtain ⟨v1, v2, v3⟩ := val_ok h
  refine T.loop (fun q => ∃ (i : Nat) (K : List Int) (a : Int) (f : List Int), i ≤ l.length ∧ DeckOk K a ∧ f.length = i ∧ (List.range i).all (inD l f) = true ∧ q = ((i : Int), K, a, l, f, ())) (fun q => l.length - q.1.toNat) ⟨0, L, 0, [], by omega, hd, rfl, rfl, rfl⟩ ?_
  rintro _ ⟨i, K, a, f, hi, hk, hf, hg, rfl⟩
  dsimp only
  refine T.cnd (fun hc => ?_) (fun hc => ?_) <;> simp only [iLt_T, iLt_F] at hc
  · have hlt : i < l.length := by omega
    have hb := dom_bd (v3 _ (List.getElem_mem hlt)).2
    refine T.callE (dom_r l i hlt h) ?_
    dsimp only
    have ed : ∀ v : Int, (domS l[i]).1 ≤ v → v ≤ (domS l[i]).2 → (List.range (i + 1)).all (inD l (f ++ [v])) = true := by
      intro v a1 a2
      refine List.all_eq_true.2 fun j hj => ?_
      have hj := List.mem_range.1 hj
      rcases Nat.lt_or_ge j i with r | r
      · have := List.all_eq_true.1 hg j (List.mem_range.2 r)
        unfold inD at this ⊢
        rw [List.getD_eq_getElem?_getD (l := f ++ [v]), List.getElem?_append_left (by omega), ← List.getD_eq_getElem?_getD]
        exact this
      · obtain rfl : j = i := by omega
        unfold inD
        rw [decide_eq_true_eq, getD_eq l j zA hlt, List.getD_eq_getElem?_getD, List.getElem?_append_right (by omega), hf, Nat.sub_self]
        exact ⟨a1, a2⟩
    have add : ∀ (K' : List Int) (a' v : Int), DeckOk K' a' → (domS l[i]).1 ≤ v → v ≤ (domS l[i]).2 → T (cond (fits (List.length f + List.length ([v] : List Int)) 8) (some (Sum.inl (β := List Int × Int × List Int × Unit) (iAdd .i64 (i : Int) 1, K', a', l, f ++ [v], ()))) none) (LQ (fun q => ∃ (i : Nat) (K : List Int) (a : Int) (f : List Int), i ≤ l.length ∧ DeckOk K a ∧ f.length = i ∧ (List.range i).all (inD l f) = true ∧ q = ((i : Int), K, a, l, f, ())) (fun q => l.length - q.1.toNat) (l.length - (i : Int).toNat) (fun y => validS l y.2.2.1 = true)) := by
      intro K' a' v k1 k2 k3
      refine T.grd (by rw [fits_T, List.length_singleton]; omega) (T.go ⟨i + 1, K', a', f ++ [v], by omega, k1, by rw [List.length_append, List.length_singleton, hf], ed v k2 k3, ?_⟩ ?_)
      · rw [iAdd64 (by omega) (by omega)]; rfl
      · dsimp only; rw [iAdd64 (by omega) (by omega)]; omega
    rw [iSub64 (by omega) (by omega), iAdd64 (by omega) (by omega)]
    refine T.call (next_T hk (by omega) (by omega)) (fun y ⟨n1, n2, n3⟩ => ?_)
    refine T.call (next_T n1 (by omega) (by omega)) (fun z ⟨z1, z2, z3⟩ => ?_)
    refine T.cnd (fun _ => ?_) (fun _ => ?_)
    · exact add _ _ _ z1 (by omega) (by omega)
    refine T.cnd (fun _ => ?_) (fun _ => ?_)
    · exact add _ _ _ z1 (by omega) (by omega)
    refine T.cnd (fun _ => ?_) (fun _ => ?_)
    · refine T.call (next_T z1 (by omega) (by omega)) (fun u ⟨u1, u2, u3⟩ => ?_)
      rw [iSub64 (by omega) (by omega)]
      refine add _ _ _ u1 ?_ ?_
      · unfold iMin iMax; omega
      · unfold iMin iMax; omega
    · rw [iAdd64 (by omega) (by omega)]
      exact add _ _ _ z1 (by omega) (by omega)
  · obtain rfl : i = l.length := by omega
    refine T.out ?_
    dsimp only
    unfold validS
    rw [decide_eq_true h, decide_eq_true hf, hg]; rfl
end Abs
end Go.Proofs.YtgkijjppdaeikaaDoor
