/- Schema: the deck, names (turned from chapter 05). -/
import Derived.Test.YtgkijjppdaeikaaDoorModels
import Derived.Test.YtgkijjppdaeikaaDoorXK
import Derived.Test.YtgkijjppdaeikaaDoorXP
namespace Go.Proofs.YtgkijjppdaeikaaDoor
namespace Abs
set_option linter.unusedVariables false
set_option linter.unusedSimpArgs false
def DeckOk (L : List Int) (a : Int) : Prop := (∀ x ∈ L, -9223372036854775808 ≤ x ∧ x ≤ 9223372036854775807) ∧ L.length ≤ 9223372036854775807 ∧ 0 ≤ a
theorem next_ok {L : List Int} {a n : Int} (h : DeckOk L a) (hn : 0 < n) (hn2 : n ≤ 4611686018427387904) : ∃ v a', m12 n L a = some (v, L, a', ()) ∧ 0 ≤ v ∧ v < n ∧ DeckOk L a' ∧ a ≤ a' ∧ (a < (L.length : Int) → a' = a + 1) := by
  obtain ⟨h1, h2, h3⟩ := h
  unfold m12
  by_cases hl : (L.length : Int) ≤ a
  · refine ⟨0, a, ?_, by omega, hn, ⟨h1, h2, h3⟩, Int.le_refl _, fun q => by omega⟩
    rw [iLe_t (by simpa [lenI] using hl)]; rfl
  · have hlt : a.toNat < L.length := by omega
    have ha : a = (a.toNat : Int) := by omega
    have hx := h1 L[a.toNat] (List.getElem_mem _)
    have e1 : iSub .i64 (iAdd .i64 a 1) 1 = (a.toNat : Int) := by rw [iAdd64 (by omega) (by omega), iSub64 (by omega) (by omega)]; omega
    have b1 := Int.tmod_lt_of_pos L[a.toNat] hn
    have b2 : -n < L[a.toNat].tmod n := by have := Int.lt_tmod_of_pos L[a.toNat] hn; omega
    have e2 : iAdd .i64 (iRem L[a.toNat] n) n = L[a.toNat].tmod n + n := iAdd64 (by simp only [iRem]; omega) (by simp only [iRem]; omega)
    refine ⟨(L[a.toNat].tmod n + n) % n, a + 1, ?_, Int.emod_nonneg _ (by omega), Int.emod_lt_of_pos _ hn, ⟨h1, h2, by omega⟩, by omega, fun _ => rfl⟩
    rw [iLe_f (by simp only [lenI]; omega), e1]
    simp (disch := omega) only [cond_false, bnd_t, lenI, cond_true, iNe_t, atI_get, e2, iAdd64, iRem_pos]
theorem next_T {L : List Int} {a n : Int} (h : DeckOk L a) (hn : 0 < n) (hn2 : n ≤ 4611686018427387904) : T (m12 n L a) (fun y => DeckOk y.2.1 y.2.2.1 ∧ 0 ≤ y.1 ∧ y.1 < n) := by
  obtain ⟨v, a', e, h1, h2, h3, _⟩ := next_ok h hn hn2
  exact ⟨_, e, h3, h1, h2⟩
theorem sLen_eq (s : ByteArray) : sLen s = (s.size : Int) := rfl
theorem sAt_rng (s : ByteArray) (n : Int) : 0 ≤ sAt s n ∧ sAt s n ≤ 255 := by
  unfold sAt
  have := (s.data.getD n.toNat 0).toNat_lt
  omega
/-- Where bytes of a kind end. -/
def spn (p : Int → Bool) (s : ByteArray) : Nat → Nat → Nat
  | 0, i => i
  | n + 1, i => if p (sAt s (i : Int)) = true then spn p s n (i + 1) else i
def spanS (p : Int → Bool) (s : ByteArray) (i : Nat) : Nat := spn p s (s.size - i) i
theorem spn_ge (p : Int → Bool) (s : ByteArray) : ∀ n i, i ≤ spn p s n i ∧ spn p s n i ≤ i + n := by
  intro n
  induction n with
  | zero => intro i; exact ⟨Nat.le_refl _, Nat.le_refl _⟩
  | succ n ih =>
    intro i
    unfold spn
    split
    · have := ih (i + 1); omega
    · omega
theorem spanS_ge (p : Int → Bool) (s : ByteArray) (i : Nat) (h : i ≤ s.size) : i ≤ spanS p s i ∧ spanS p s i ≤ s.size := by
  have := spn_ge p s (s.size - i) i
  unfold spanS; omega
theorem spanS_step (p : Int → Bool) (s : ByteArray) (i : Nat) (h : i < s.size) : spanS p s i = if p (sAt s (i : Int)) = true then spanS p s (i + 1) else i := by
  unfold spanS
  obtain ⟨n, hn⟩ : ∃ n, s.size - i = n + 1 := ⟨s.size - i - 1, by omega⟩
  rw [hn]
  conv => lhs; unfold spn
  rw [show s.size - (i + 1) = n by omega]
theorem spanS_end (p : Int → Bool) (s : ByteArray) : spanS p s s.size = s.size := by unfold spanS; rw [Nat.sub_self]; rfl
/-- Bytes of a kind. -/
def isLet (c : Int) : Bool := decide (97 ≤ c ∧ c ≤ 122)
def isDig (c : Int) : Bool := decide (48 ≤ c ∧ c ≤ 57)
def isWrd (c : Int) : Bool := isLet c || isDig c || decide (c = 45)
def isHr (c : Int) : Bool := isDig c || decide (c = 45) || decide (c = 84)
def isLine (c : Int) : Bool := decide (c ≠ 10)
theorem let_m (c : Int) : m58 c = some (isLet c, ()) := by unfold m58 isLet iLe; by_cases h : 97 ≤ c <;> simp [h]
theorem let_r (c : Int) : m62 c = some (isLet c, ()) := by unfold m62 isLet iLe; by_cases h : 97 ≤ c <;> simp [h]
theorem dig_m (c : Int) : m70 c = some (isDig c, ()) := by unfold m70 isDig iLe; by_cases h : 48 ≤ c <;> simp [h]
theorem dig_r (c : Int) : m57 c = some (isDig c, ()) := by unfold m57 isDig iLe; by_cases h : 48 ≤ c <;> simp [h]
theorem wrd_m (c : Int) : m60 c = some (isWrd c, ()) := by
  unfold m60 isWrd
  rw [let_m, dig_m]
  simp only [Option.bind_some]
  cases isLet c <;> cases isDig c <;> simp [iEq, BEq.beq]
theorem span1 (s : ByteArray) (i : Nat) (hi : i ≤ s.size) (hs : s.size ≤ 4611686018427387904) : m59 s (i : Int) () = some ((spanS isWrd s i : Int), ()) := by
  refine T.eq ?_
  unfold m59
  refine T.loop (fun q => ∃ j : Nat, j ≤ s.size ∧ spanS isWrd s j = spanS isWrd s i ∧ q = (s, (j : Int), (), ())) (fun q => s.size - q.2.1.toNat) ⟨i, hi, rfl, rfl⟩ ?_
  rintro _ ⟨j, hj, he, rfl⟩
  dsimp only
  have hl := sLen_eq s
  refine T.grd (by first | (simp (disch := omega) only [iLt_T, iLt_F, iLe_T, iLe_F, iEq_T, iEq_F, iNe_T, iNe_F, bnd_T, bnd_F, inB_T, inB_F, fits_T, fitsI_T, cutOk_T, someE_T, someE_F, leN_T, not_T, not_F, and_T, and_F, or_T, or_F, candF_T, candF_F, corT_T, corT_F, bEqT_T, bEqT_F, bEqF_T, bEqF_F, eq_self, or_true, true_or, and_true, true_and, or_false, false_or, and_false, false_and, not_true_eq_false, not_false_eq_true, Bool.true_eq_false, Bool.false_eq_true, iAdd64, iSub64, iMul64, lenI_eq, List.length_append, List.length_cons, List.length_nil, List.length_set, List.length_take, List.length_drop, List.length_replicate]; omega) | (simp (disch := omega) only [iLt_T, iLt_F, iLe_T, iLe_F, iEq_T, iEq_F, iNe_T, iNe_F, bnd_T, bnd_F, inB_T, inB_F, fits_T, fitsI_T, cutOk_T, someE_T, someE_F, leN_T, not_T, not_F, and_T, and_F, or_T, or_F, candF_T, candF_F, corT_T, corT_F, bEqT_T, bEqT_F, bEqF_T, bEqF_F, eq_self, or_true, true_or, and_true, true_and, or_false, false_or, and_false, false_and, not_true_eq_false, not_false_eq_true, Bool.true_eq_false, Bool.false_eq_true, iAdd64, iSub64, iMul64, lenI_eq, List.length_append, List.length_cons, List.length_nil, List.length_set, List.length_take, List.length_drop, List.length_replicate]; done)) ?_
  refine T.cnd (fun hc => ?_) (fun hc => ?_) <;> simp only [iLt_T, iLt_F] at hc
  · rw [spanS_step isWrd s j (by omega)] at he
    refine T.callE (wrd_m _) ?_
    refine T.cnd (fun hp => ?_) (fun hp => T.out ?_)
    · rw [if_pos hp] at he
      refine T.go ⟨j + 1, by omega, he, by rw [iAdd64 (by omega) (by omega)]; rfl⟩ ?_
      dsimp only; rw [iAdd64 (by omega) (by omega)]; omega
    · rw [if_neg (by simpa using hp)] at he
      rw [← he]
  · refine T.out ?_
    have : j = s.size := by omega
    subst this
    rw [spanS_end] at he
    rw [← he]
/-- A word. -/
def wordS (s : ByteArray) : Bool := if s.size = 0 ∨ 16 < s.size then false else if isLet (sAt s 0) = true ∧ ¬ sAt s ((s.size : Int) - 1) = 45 then decide (spanS isWrd s 0 = s.size) else false
theorem word_m (s : ByteArray) (hs : s.size ≤ 4611686018427387904) : m40 s = some (wordS s, ()) := by
  refine T.eq ?_
  unfold m40 wordS
  have hl := sLen_eq s
  refine T.grd (by first | (simp (disch := omega) only [iLt_T, iLt_F, iLe_T, iLe_F, iEq_T, iEq_F, iNe_T, iNe_F, bnd_T, bnd_F, inB_T, inB_F, fits_T, fitsI_T, cutOk_T, someE_T, someE_F, leN_T, not_T, not_F, and_T, and_F, or_T, or_F, candF_T, candF_F, corT_T, corT_F, bEqT_T, bEqT_F, bEqF_T, bEqF_F, eq_self, or_true, true_or, and_true, true_and, or_false, false_or, and_false, false_and, not_true_eq_false, not_false_eq_true, Bool.true_eq_false, Bool.false_eq_true, iAdd64, iSub64, iMul64, lenI_eq, List.length_append, List.length_cons, List.length_nil, List.length_set, List.length_take, List.length_drop, List.length_replicate]; omega) | (simp (disch := omega) only [iLt_T, iLt_F, iLe_T, iLe_F, iEq_T, iEq_F, iNe_T, iNe_F, bnd_T, bnd_F, inB_T, inB_F, fits_T, fitsI_T, cutOk_T, someE_T, someE_F, leN_T, not_T, not_F, and_T, and_F, or_T, or_F, candF_T, candF_F, corT_T, corT_F, bEqT_T, bEqT_F, bEqF_T, bEqF_F, eq_self, or_true, true_or, and_true, true_and, or_false, false_or, and_false, false_and, not_true_eq_false, not_false_eq_true, Bool.true_eq_false, Bool.false_eq_true, iAdd64, iSub64, iMul64, lenI_eq, List.length_append, List.length_cons, List.length_nil, List.length_set, List.length_take, List.length_drop, List.length_replicate]; done)) ?_
  refine T.cnd (fun hc => ?_) (fun hc => ?_) <;> simp only [iLt_T, iLt_F, iLe_T, iLe_F, iEq_T, iEq_F, iNe_T, iNe_F, bnd_T, bnd_F, inB_T, inB_F, fits_T, fitsI_T, cutOk_T, someE_T, someE_F, leN_T, not_T, not_F, and_T, and_F, or_T, or_F, candF_T, candF_F, corT_T, corT_F, bEqT_T, bEqT_F, bEqF_T, bEqF_F, eq_self, or_true, true_or, and_true, true_and, or_false, false_or, and_false, false_and, not_true_eq_false, not_false_eq_true, Bool.true_eq_false, Bool.false_eq_true] at hc
  · refine T.grd (by first | (simp (disch := omega) only [iLt_T, iLt_F, iLe_T, iLe_F, iEq_T, iEq_F, iNe_T, iNe_F, bnd_T, bnd_F, inB_T, inB_F, fits_T, fitsI_T, cutOk_T, someE_T, someE_F, leN_T, not_T, not_F, and_T, and_F, or_T, or_F, candF_T, candF_F, corT_T, corT_F, bEqT_T, bEqT_F, bEqF_T, bEqF_F, eq_self, or_true, true_or, and_true, true_and, or_false, false_or, and_false, false_and, not_true_eq_false, not_false_eq_true, Bool.true_eq_false, Bool.false_eq_true, iAdd64, iSub64, iMul64, lenI_eq, List.length_append, List.length_cons, List.length_nil, List.length_set, List.length_take, List.length_drop, List.length_replicate]; omega) | (simp (disch := omega) only [iLt_T, iLt_F, iLe_T, iLe_F, iEq_T, iEq_F, iNe_T, iNe_F, bnd_T, bnd_F, inB_T, inB_F, fits_T, fitsI_T, cutOk_T, someE_T, someE_F, leN_T, not_T, not_F, and_T, and_F, or_T, or_F, candF_T, candF_F, corT_T, corT_F, bEqT_T, bEqT_F, bEqF_T, bEqF_F, eq_self, or_true, true_or, and_true, true_and, or_false, false_or, and_false, false_and, not_true_eq_false, not_false_eq_true, Bool.true_eq_false, Bool.false_eq_true, iAdd64, iSub64, iMul64, lenI_eq, List.length_append, List.length_cons, List.length_nil, List.length_set, List.length_take, List.length_drop, List.length_replicate]; done)) (T.ret ?_)
    rw [if_pos (by omega)]
  · rw [if_neg (by omega)]
    have e1 : iSub .i64 (sLen s) 1 = (s.size : Int) - 1 := by rw [iSub64 (by omega) (by omega), hl]
    rw [e1]
    refine T.callE (let_m _) ?_
    refine T.grd (by first | (simp (disch := omega) only [iLt_T, iLt_F, iLe_T, iLe_F, iEq_T, iEq_F, iNe_T, iNe_F, bnd_T, bnd_F, inB_T, inB_F, fits_T, fitsI_T, cutOk_T, someE_T, someE_F, leN_T, not_T, not_F, and_T, and_F, or_T, or_F, candF_T, candF_F, corT_T, corT_F, bEqT_T, bEqT_F, bEqF_T, bEqF_F, eq_self, or_true, true_or, and_true, true_and, or_false, false_or, and_false, false_and, not_true_eq_false, not_false_eq_true, Bool.true_eq_false, Bool.false_eq_true, iAdd64, iSub64, iMul64, lenI_eq, List.length_append, List.length_cons, List.length_nil, List.length_set, List.length_take, List.length_drop, List.length_replicate]; omega) | (simp (disch := omega) only [iLt_T, iLt_F, iLe_T, iLe_F, iEq_T, iEq_F, iNe_T, iNe_F, bnd_T, bnd_F, inB_T, inB_F, fits_T, fitsI_T, cutOk_T, someE_T, someE_F, leN_T, not_T, not_F, and_T, and_F, or_T, or_F, candF_T, candF_F, corT_T, corT_F, bEqT_T, bEqT_F, bEqF_T, bEqF_F, eq_self, or_true, true_or, and_true, true_and, or_false, false_or, and_false, false_and, not_true_eq_false, not_false_eq_true, Bool.true_eq_false, Bool.false_eq_true, iAdd64, iSub64, iMul64, lenI_eq, List.length_append, List.length_cons, List.length_nil, List.length_set, List.length_take, List.length_drop, List.length_replicate]; done)) ?_
    refine T.cnd (fun hc => T.ret ?_) (fun hc => ?_) <;> simp only [iLt_T, iLt_F, iLe_T, iLe_F, iEq_T, iEq_F, iNe_T, iNe_F, bnd_T, bnd_F, inB_T, inB_F, fits_T, fitsI_T, cutOk_T, someE_T, someE_F, leN_T, not_T, not_F, and_T, and_F, or_T, or_F, candF_T, candF_F, corT_T, corT_F, bEqT_T, bEqT_F, bEqF_T, bEqF_F, eq_self, or_true, true_or, and_true, true_and, or_false, false_or, and_false, false_and, not_true_eq_false, not_false_eq_true, Bool.true_eq_false, Bool.false_eq_true] at hc
    · rw [if_neg]
      rintro ⟨q1, q2⟩
      rcases hc with q | q
      · rw [q1] at q; cases q
      · exact q2 q
    · rw [if_pos ⟨hc.1, hc.2⟩]
      refine T.callE (span1 s 0 (by omega) hs) (T.ret ?_)
      congr 1
      rw [hl, Bool.eq_iff_iff]
      simp only [iEq_T, decide_eq_true_eq]
      omega
theorem spanS_all (p : Int → Bool) (s : ByteArray) : ∀ (n i : Nat), i + n = s.size → (spanS p s i = s.size ↔ ∀ j, i ≤ j → j < s.size → p (sAt s (j : Int)) = true) := by
  intro n
  induction n with
  | zero =>
    intro i hi
    have : i = s.size := by omega
    subst this
    rw [spanS_end]
    exact ⟨fun _ j h1 h2 => by omega, fun _ => rfl⟩
  | succ n ih =>
    intro i hi
    rw [spanS_step p s i (by omega)]
    have := ih (i + 1) (by omega)
    by_cases hp : p (sAt s (i : Int)) = true
    · rw [if_pos hp, this]
      constructor
      · intro h j h1 h2
        rcases Nat.eq_or_lt_of_le h1 with q | q
        · rw [← q]; exact hp
        · exact h j q h2
      · intro h j h1 h2; exact h j (by omega) h2
    · rw [if_neg hp]
      constructor
      · intro h; omega
      · intro h; exact absurd (h i (Nat.le_refl _) (by omega)) hp
theorem word_r (s : ByteArray) (hs : s.size ≤ 4611686018427387904) : m43 s = some (wordS s, ()) := by
  refine T.eq ?_
  unfold m43 wordS
  have hl := sLen_eq s
  refine T.grd (by first | (simp (disch := omega) only [iLt_T, iLt_F, iLe_T, iLe_F, iEq_T, iEq_F, iNe_T, iNe_F, bnd_T, bnd_F, inB_T, inB_F, fits_T, fitsI_T, cutOk_T, someE_T, someE_F, leN_T, not_T, not_F, and_T, and_F, or_T, or_F, candF_T, candF_F, corT_T, corT_F, bEqT_T, bEqT_F, bEqF_T, bEqF_F, eq_self, or_true, true_or, and_true, true_and, or_false, false_or, and_false, false_and, not_true_eq_false, not_false_eq_true, Bool.true_eq_false, Bool.false_eq_true, iAdd64, iSub64, iMul64, lenI_eq, List.length_append, List.length_cons, List.length_nil, List.length_set, List.length_take, List.length_drop, List.length_replicate]; omega) | (simp (disch := omega) only [iLt_T, iLt_F, iLe_T, iLe_F, iEq_T, iEq_F, iNe_T, iNe_F, bnd_T, bnd_F, inB_T, inB_F, fits_T, fitsI_T, cutOk_T, someE_T, someE_F, leN_T, not_T, not_F, and_T, and_F, or_T, or_F, candF_T, candF_F, corT_T, corT_F, bEqT_T, bEqT_F, bEqF_T, bEqF_F, eq_self, or_true, true_or, and_true, true_and, or_false, false_or, and_false, false_and, not_true_eq_false, not_false_eq_true, Bool.true_eq_false, Bool.false_eq_true, iAdd64, iSub64, iMul64, lenI_eq, List.length_append, List.length_cons, List.length_nil, List.length_set, List.length_take, List.length_drop, List.length_replicate]; done)) ?_
  refine T.cnd (fun hc => ?_) (fun hc => ?_) <;> simp only [iLt_T, iLt_F, iLe_T, iLe_F, iEq_T, iEq_F, iNe_T, iNe_F, bnd_T, bnd_F, inB_T, inB_F, fits_T, fitsI_T, cutOk_T, someE_T, someE_F, leN_T, not_T, not_F, and_T, and_F, or_T, or_F, candF_T, candF_F, corT_T, corT_F, bEqT_T, bEqT_F, bEqF_T, bEqF_F, eq_self, or_true, true_or, and_true, true_and, or_false, false_or, and_false, false_and, not_true_eq_false, not_false_eq_true, Bool.true_eq_false, Bool.false_eq_true] at hc
  · refine T.grd (by first | (simp (disch := omega) only [iLt_T, iLt_F, iLe_T, iLe_F, iEq_T, iEq_F, iNe_T, iNe_F, bnd_T, bnd_F, inB_T, inB_F, fits_T, fitsI_T, cutOk_T, someE_T, someE_F, leN_T, not_T, not_F, and_T, and_F, or_T, or_F, candF_T, candF_F, corT_T, corT_F, bEqT_T, bEqT_F, bEqF_T, bEqF_F, eq_self, or_true, true_or, and_true, true_and, or_false, false_or, and_false, false_and, not_true_eq_false, not_false_eq_true, Bool.true_eq_false, Bool.false_eq_true, iAdd64, iSub64, iMul64, lenI_eq, List.length_append, List.length_cons, List.length_nil, List.length_set, List.length_take, List.length_drop, List.length_replicate]; omega) | (simp (disch := omega) only [iLt_T, iLt_F, iLe_T, iLe_F, iEq_T, iEq_F, iNe_T, iNe_F, bnd_T, bnd_F, inB_T, inB_F, fits_T, fitsI_T, cutOk_T, someE_T, someE_F, leN_T, not_T, not_F, and_T, and_F, or_T, or_F, candF_T, candF_F, corT_T, corT_F, bEqT_T, bEqT_F, bEqF_T, bEqF_F, eq_self, or_true, true_or, and_true, true_and, or_false, false_or, and_false, false_and, not_true_eq_false, not_false_eq_true, Bool.true_eq_false, Bool.false_eq_true, iAdd64, iSub64, iMul64, lenI_eq, List.length_append, List.length_cons, List.length_nil, List.length_set, List.length_take, List.length_drop, List.length_replicate]; done)) (T.ret ?_)
    rw [if_pos (by omega)]
  · rw [if_neg (by omega)]
    have e1 : iSub .i64 (sLen s) 1 = (s.size : Int) - 1 := by rw [iSub64 (by omega) (by omega), hl]
    rw [e1]
    refine T.callE (let_r _) ?_
    refine T.grd (by first | (simp (disch := omega) only [iLt_T, iLt_F, iLe_T, iLe_F, iEq_T, iEq_F, iNe_T, iNe_F, bnd_T, bnd_F, inB_T, inB_F, fits_T, fitsI_T, cutOk_T, someE_T, someE_F, leN_T, not_T, not_F, and_T, and_F, or_T, or_F, candF_T, candF_F, corT_T, corT_F, bEqT_T, bEqT_F, bEqF_T, bEqF_F, eq_self, or_true, true_or, and_true, true_and, or_false, false_or, and_false, false_and, not_true_eq_false, not_false_eq_true, Bool.true_eq_false, Bool.false_eq_true, iAdd64, iSub64, iMul64, lenI_eq, List.length_append, List.length_cons, List.length_nil, List.length_set, List.length_take, List.length_drop, List.length_replicate]; omega) | (simp (disch := omega) only [iLt_T, iLt_F, iLe_T, iLe_F, iEq_T, iEq_F, iNe_T, iNe_F, bnd_T, bnd_F, inB_T, inB_F, fits_T, fitsI_T, cutOk_T, someE_T, someE_F, leN_T, not_T, not_F, and_T, and_F, or_T, or_F, candF_T, candF_F, corT_T, corT_F, bEqT_T, bEqT_F, bEqF_T, bEqF_F, eq_self, or_true, true_or, and_true, true_and, or_false, false_or, and_false, false_and, not_true_eq_false, not_false_eq_true, Bool.true_eq_false, Bool.false_eq_true, iAdd64, iSub64, iMul64, lenI_eq, List.length_append, List.length_cons, List.length_nil, List.length_set, List.length_take, List.length_drop, List.length_replicate]; done)) ?_
    refine T.cnd (fun hc => T.ret ?_) (fun hc => ?_) <;> simp only [iLt_T, iLt_F, iLe_T, iLe_F, iEq_T, iEq_F, iNe_T, iNe_F, bnd_T, bnd_F, inB_T, inB_F, fits_T, fitsI_T, cutOk_T, someE_T, someE_F, leN_T, not_T, not_F, and_T, and_F, or_T, or_F, candF_T, candF_F, corT_T, corT_F, bEqT_T, bEqT_F, bEqF_T, bEqF_F, eq_self, or_true, true_or, and_true, true_and, or_false, false_or, and_false, false_and, not_true_eq_false, not_false_eq_true, Bool.true_eq_false, Bool.false_eq_true] at hc
    · rw [if_neg]
      rintro ⟨q1, q2⟩
      rcases hc with q | q
      · rw [q1] at q; cases q
      · exact q2 q
    · rw [if_pos ⟨hc.1, hc.2⟩]
      have key := spanS_all isWrd s s.size 0 (by omega)
      refine T.loop (fun q => ∃ j : Nat, j ≤ s.size ∧ (∀ k, k < j → isWrd (sAt s (k : Int)) = true) ∧ q = (s, (j : Int), ())) (fun q => s.size - q.2.1.toNat) ⟨0, by omega, fun k hk => by omega, rfl⟩ ?_
      rintro _ ⟨j, hj, he, rfl⟩
      dsimp only
      have go : j < s.size → isWrd (sAt s (j : Int)) = true → T (some (Sum.inl (β := Bool × Unit) (s, iAdd .i64 (j : Int) 1, ()))) (LQ (fun q => ∃ j : Nat, j ≤ s.size ∧ (∀ k, k < j → isWrd (sAt s (k : Int)) = true) ∧ q = (s, (j : Int), ())) (fun q => s.size - q.2.1.toNat) (s.size - (j : Int).toNat) (fun x => x = (decide (spanS isWrd s 0 = s.size), ()))) := fun hlt hw => by
        refine T.go ⟨j + 1, by omega, fun k hk => ?_, by rw [iAdd64 (by omega) (by omega)]; rfl⟩ ?_
        · rcases Nat.lt_or_ge k j with q | q
          · exact he k q
          · rw [show k = j by omega]; exact hw
        · dsimp only; rw [iAdd64 (by omega) (by omega)]; omega
      refine T.cnd (fun hc => ?_) (fun hc => ?_) <;> simp only [iLt_T, iLt_F] at hc
      · have hlt : j < s.size := by omega
        refine T.grd (by first | (simp (disch := omega) only [iLt_T, iLt_F, iLe_T, iLe_F, iEq_T, iEq_F, iNe_T, iNe_F, bnd_T, bnd_F, inB_T, inB_F, fits_T, fitsI_T, cutOk_T, someE_T, someE_F, leN_T, not_T, not_F, and_T, and_F, or_T, or_F, candF_T, candF_F, corT_T, corT_F, bEqT_T, bEqT_F, bEqF_T, bEqF_F, eq_self, or_true, true_or, and_true, true_and, or_false, false_or, and_false, false_and, not_true_eq_false, not_false_eq_true, Bool.true_eq_false, Bool.false_eq_true, iAdd64, iSub64, iMul64, lenI_eq, List.length_append, List.length_cons, List.length_nil, List.length_set, List.length_take, List.length_drop, List.length_replicate]; omega) | (simp (disch := omega) only [iLt_T, iLt_F, iLe_T, iLe_F, iEq_T, iEq_F, iNe_T, iNe_F, bnd_T, bnd_F, inB_T, inB_F, fits_T, fitsI_T, cutOk_T, someE_T, someE_F, leN_T, not_T, not_F, and_T, and_F, or_T, or_F, candF_T, candF_F, corT_T, corT_F, bEqT_T, bEqT_F, bEqF_T, bEqF_F, eq_self, or_true, true_or, and_true, true_and, or_false, false_or, and_false, false_and, not_true_eq_false, not_false_eq_true, Bool.true_eq_false, Bool.false_eq_true, iAdd64, iSub64, iMul64, lenI_eq, List.length_append, List.length_cons, List.length_nil, List.length_set, List.length_take, List.length_drop, List.length_replicate]; done)) ?_
        refine T.callE (let_r _) ?_
        refine T.grd (by first | (simp (disch := omega) only [iLt_T, iLt_F, iLe_T, iLe_F, iEq_T, iEq_F, iNe_T, iNe_F, bnd_T, bnd_F, inB_T, inB_F, fits_T, fitsI_T, cutOk_T, someE_T, someE_F, leN_T, not_T, not_F, and_T, and_F, or_T, or_F, candF_T, candF_F, corT_T, corT_F, bEqT_T, bEqT_F, bEqF_T, bEqF_F, eq_self, or_true, true_or, and_true, true_and, or_false, false_or, and_false, false_and, not_true_eq_false, not_false_eq_true, Bool.true_eq_false, Bool.false_eq_true, iAdd64, iSub64, iMul64, lenI_eq, List.length_append, List.length_cons, List.length_nil, List.length_set, List.length_take, List.length_drop, List.length_replicate]; omega) | (simp (disch := omega) only [iLt_T, iLt_F, iLe_T, iLe_F, iEq_T, iEq_F, iNe_T, iNe_F, bnd_T, bnd_F, inB_T, inB_F, fits_T, fitsI_T, cutOk_T, someE_T, someE_F, leN_T, not_T, not_F, and_T, and_F, or_T, or_F, candF_T, candF_F, corT_T, corT_F, bEqT_T, bEqT_F, bEqF_T, bEqF_F, eq_self, or_true, true_or, and_true, true_and, or_false, false_or, and_false, false_and, not_true_eq_false, not_false_eq_true, Bool.true_eq_false, Bool.false_eq_true, iAdd64, iSub64, iMul64, lenI_eq, List.length_append, List.length_cons, List.length_nil, List.length_set, List.length_take, List.length_drop, List.length_replicate]; done)) ?_
        refine T.cnd (fun h1 => ?_) (fun h1 => ?_) <;> simp only [not_T, not_F] at h1
        · refine T.callE (dig_r _) ?_
          refine T.grd (by first | (simp (disch := omega) only [iLt_T, iLt_F, iLe_T, iLe_F, iEq_T, iEq_F, iNe_T, iNe_F, bnd_T, bnd_F, inB_T, inB_F, fits_T, fitsI_T, cutOk_T, someE_T, someE_F, leN_T, not_T, not_F, and_T, and_F, or_T, or_F, candF_T, candF_F, corT_T, corT_F, bEqT_T, bEqT_F, bEqF_T, bEqF_F, eq_self, or_true, true_or, and_true, true_and, or_false, false_or, and_false, false_and, not_true_eq_false, not_false_eq_true, Bool.true_eq_false, Bool.false_eq_true, iAdd64, iSub64, iMul64, lenI_eq, List.length_append, List.length_cons, List.length_nil, List.length_set, List.length_take, List.length_drop, List.length_replicate]; omega) | (simp (disch := omega) only [iLt_T, iLt_F, iLe_T, iLe_F, iEq_T, iEq_F, iNe_T, iNe_F, bnd_T, bnd_F, inB_T, inB_F, fits_T, fitsI_T, cutOk_T, someE_T, someE_F, leN_T, not_T, not_F, and_T, and_F, or_T, or_F, candF_T, candF_F, corT_T, corT_F, bEqT_T, bEqT_F, bEqF_T, bEqF_F, eq_self, or_true, true_or, and_true, true_and, or_false, false_or, and_false, false_and, not_true_eq_false, not_false_eq_true, Bool.true_eq_false, Bool.false_eq_true, iAdd64, iSub64, iMul64, lenI_eq, List.length_append, List.length_cons, List.length_nil, List.length_set, List.length_take, List.length_drop, List.length_replicate]; done)) ?_
          refine T.cnd (fun h2 => T.out ?_) (fun h2 => ?_) <;> simp only [iLt_T, iLt_F, iLe_T, iLe_F, iEq_T, iEq_F, iNe_T, iNe_F, bnd_T, bnd_F, inB_T, inB_F, fits_T, fitsI_T, cutOk_T, someE_T, someE_F, leN_T, not_T, not_F, and_T, and_F, or_T, or_F, candF_T, candF_F, corT_T, corT_F, bEqT_T, bEqT_F, bEqF_T, bEqF_F, eq_self, or_true, true_or, and_true, true_and, or_false, false_or, and_false, false_and, not_true_eq_false, not_false_eq_true, Bool.true_eq_false, Bool.false_eq_true] at h2
          · rw [decide_eq_false]
            intro q
            have := key.1 q j (by omega) hlt
            unfold isWrd at this
            rw [h1, h2.1] at this
            simp at this
            exact h2.2 this
          · refine go hlt ?_
            unfold isWrd
            rcases h2 with q | q
            · rw [q]; simp
            · rw [decide_eq_true q]; simp
        · refine T.grd (by first | (simp (disch := omega) only [iLt_T, iLt_F, iLe_T, iLe_F, iEq_T, iEq_F, iNe_T, iNe_F, bnd_T, bnd_F, inB_T, inB_F, fits_T, fitsI_T, cutOk_T, someE_T, someE_F, leN_T, not_T, not_F, and_T, and_F, or_T, or_F, candF_T, candF_F, corT_T, corT_F, bEqT_T, bEqT_F, bEqF_T, bEqF_F, eq_self, or_true, true_or, and_true, true_and, or_false, false_or, and_false, false_and, not_true_eq_false, not_false_eq_true, Bool.true_eq_false, Bool.false_eq_true, iAdd64, iSub64, iMul64, lenI_eq, List.length_append, List.length_cons, List.length_nil, List.length_set, List.length_take, List.length_drop, List.length_replicate]; omega) | (simp (disch := omega) only [iLt_T, iLt_F, iLe_T, iLe_F, iEq_T, iEq_F, iNe_T, iNe_F, bnd_T, bnd_F, inB_T, inB_F, fits_T, fitsI_T, cutOk_T, someE_T, someE_F, leN_T, not_T, not_F, and_T, and_F, or_T, or_F, candF_T, candF_F, corT_T, corT_F, bEqT_T, bEqT_F, bEqF_T, bEqF_F, eq_self, or_true, true_or, and_true, true_and, or_false, false_or, and_false, false_and, not_true_eq_false, not_false_eq_true, Bool.true_eq_false, Bool.false_eq_true, iAdd64, iSub64, iMul64, lenI_eq, List.length_append, List.length_cons, List.length_nil, List.length_set, List.length_take, List.length_drop, List.length_replicate]; done)) (go hlt ?_)
          unfold isWrd; rw [h1]; rfl
      · refine T.out ?_
        rw [decide_eq_true]
        exact key.2 fun k _ hk => he k (by omega)
theorem cond_some (a b : Bool) : (cond a (some (true, ())) (some (b, ())) : Option (Bool × Unit)) = some (a || b, ()) := by cases a <;> rfl
/-- A reserved word. -/
noncomputable def resS (s : ByteArray) : Bool := (m41 s).elim false fun y => y.1
theorem res_m (s : ByteArray) : m41 s = some (resS s, ()) := by
  have h : ∃ b, m41 s = some (b, ()) := by
    unfold m41
    simp only [cond_some]
    exact ⟨_, rfl⟩
  obtain ⟨b, h⟩ := h
  unfold resS
  rw [h]; rfl
theorem res_r (s : ByteArray) : m44 s = some (resS s, ()) := (show m44 s = m41 s from rfl).trans (res_m s)
noncomputable def nameS (s : ByteArray) : Bool := wordS s && !resS s
theorem name_m (s : ByteArray) (hs : s.size ≤ 4611686018427387904) : m26 s = some (nameS s, ()) := by
  unfold m26 nameS
  rw [word_m s hs, res_m]
  cases wordS s <;> rfl
theorem name_r (s : ByteArray) (hs : s.size ≤ 4611686018427387904) : m29 s = some (nameS s, ()) := by
  unfold m29 nameS
  rw [word_r s hs, res_r]
  cases wordS s <;> rfl
end Abs
end Go.Proofs.YtgkijjppdaeikaaDoor
