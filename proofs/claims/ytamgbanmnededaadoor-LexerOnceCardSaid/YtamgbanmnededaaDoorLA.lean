/- Merged: L1 L2 L3 L4 L5 L6. -/
import Derived.Test.YtamgbanmnededaaDoorXP
import Derived.Test.YtamgbanmnededaaDoorModels
import Derived.Test.YtamgbanmnededaaDoorXK
import Derived.Test.YtamgbanmnededaaDoorCivP
/- Lexer: words and names. -/
namespace Go.Proofs.YtamgbanmnededaaDoor
namespace Abs
set_option linter.unusedVariables false
set_option linter.unusedSimpArgs false
def DeckOk (L : List Int) (a : Int) : Prop := (∀ x ∈ L, -9223372036854775808 ≤ x ∧ x ≤ 9223372036854775807) ∧ L.length ≤ 9223372036854775807 ∧ 0 ≤ a
theorem next_ok {L : List Int} {a n : Int} (h : DeckOk L a) (hn : 0 < n) (hn2 : n ≤ 4611686018427387904) : ∃ v a', m22 n L a = some (v, L, a', ()) ∧ 0 ≤ v ∧ v < n ∧ DeckOk L a' ∧ a ≤ a' ∧ (a < (L.length : Int) → a' = a + 1) := by
  obtain ⟨h1, h2, h3⟩ := h
  unfold m22
  by_cases hl : (L.length : Int) ≤ a
  · refine ⟨0, a, ?_, by omega, hn, ⟨h1, h2, h3⟩, Int.le_refl _, fun q => by omega⟩
    rw [iLe_t (by simpa [lenI] using hl)]; rfl
  · have hlt : a.toNat < L.length := by omega
    have ha : a = (a.toNat : Int) := by omega
    have hx := h1 L[a.toNat] (List.getElem_mem _)
    have e1 : iSub .i64 (iAdd .i64 a 1) 1 = (a.toNat : Int) := by rw [iAdd64 (by omega) (by omega), iSub64 (by omega) (by omega)]; omega
    have b1 := Int.tmod_lt_of_pos L[a.toNat] hn
    have b2 : -n < L[a.toNat].tmod n := by have := Int.lt_tmod_of_pos L[a.toNat] hn; omega
    have e2 : iAdd .i64 (iRem L[a.toNat] n) n = L[a.toNat].tmod n + n := iAdd64 (by simp only [iRem]; omega) (by simp only [iRem]; omega)
    refine ⟨(L[a.toNat].tmod n + n) % n, a + 1, ?_, Int.emod_nonneg _ (by omega), Int.emod_lt_of_pos _ hn, ⟨h1, h2, by omega⟩, by omega, fun _ => rfl⟩
    rw [iLe_f (by simp only [lenI]; omega), e1]
    simp (disch := omega) only [cond_false, bnd_t, lenI, cond_true, iNe_t, atI_get, e2, iAdd64, iRem_pos]
theorem next_T {L : List Int} {a n : Int} (h : DeckOk L a) (hn : 0 < n) (hn2 : n ≤ 4611686018427387904) : T (m22 n L a) (fun y => DeckOk y.2.1 y.2.2.1 ∧ 0 ≤ y.1 ∧ y.1 < n) := by
  obtain ⟨v, a', e, h1, h2, h3, _⟩ := next_ok h hn hn2
  exact ⟨_, e, h3, h1, h2⟩
theorem upto_T {L : List Int} {a n : Int} (h : DeckOk L a) (h0 : 0 ≤ n) (h1 : n ≤ 4611686018427387903) : T (m26 n L a) (fun y => DeckOk y.2.1 y.2.2.1 ∧ 0 ≤ y.1 ∧ y.1 ≤ n) := by
  unfold m26
  have e1 : iAdd .i64 n 1 = n + 1 := iAdd64 (by omega) (by omega)
  refine T.call (next_T h (by omega) (by omega)) (fun y ⟨d, y0, y1⟩ => ?_)
  refine T.cnd (fun hc => ?_) (fun hc => ?_)
  · refine T.call (next_T d (by omega) (by omega)) (fun z ⟨d, z0, z1⟩ => T.ret ⟨d, ?_, ?_⟩) <;> show _ ≤ _ <;> simp only [iMin] <;> omega
  refine T.cnd (fun hc => ?_) (fun hc => ?_)
  · refine T.call (next_T d (by omega) (by omega)) (fun z ⟨d, z0, z1⟩ => T.ret ⟨d, ?_, ?_⟩) <;> show _ ≤ _ <;> simp only [iMin] <;> omega
  refine T.cnd (fun hc => ?_) (fun hc => ?_)
  · refine T.call (next_T d (by omega) (by omega)) (fun z ⟨d, z0, z1⟩ => T.ret ⟨d, ?_, ?_⟩) <;> show _ ≤ _ <;> simp only [iMin] <;> omega
  rw [e1]
  refine T.cnd (fun hc => ?_) (fun hc => ?_)
  · have e2 : iMin 3 (n + 1) = min 3 (n + 1) := rfl
    rw [e2]
    refine T.call (next_T d (by omega) (by omega)) (fun z ⟨d, z0, z1⟩ => T.ret ⟨d, ?_, ?_⟩) <;> show _ ≤ _ <;> rw [iSub64 (by omega) (by omega)] <;> omega
  · exact T.call (next_T d (by omega) (by omega)) (fun z ⟨d, z0, z1⟩ => T.ret ⟨d, z0, by show _ ≤ _; omega⟩)
theorem sLen_eq (s : ByteArray) : sLen s = (s.size : Int) := rfl
theorem sAt_rng (s : ByteArray) (n : Int) : 0 ≤ sAt s n ∧ sAt s n ≤ 255 := by
  unfold sAt
  have := (s.data.getD n.toNat 0).toNat_lt
  omega
/-- Where bytes of a kind end. -/
def spn (p : Int → Bool) (s : ByteArray) : Nat → Nat → Nat
  | 0, i => i
  | n + 1, i => if p (sAt s (i : Int)) = true then spn p s n (i + 1) else i
def spanS (p : Int → Bool) (s : ByteArray) (i : Nat) : Nat := spn p s (s.size - i) i
theorem spn_ge (p : Int → Bool) (s : ByteArray) : ∀ n i, i ≤ spn p s n i ∧ spn p s n i ≤ i + n := by
  intro n
  induction n with
  | zero => intro i; exact ⟨Nat.le_refl _, Nat.le_refl _⟩
  | succ n ih =>
    intro i
    unfold spn
    split
    · have := ih (i + 1); omega
    · omega
theorem spanS_ge (p : Int → Bool) (s : ByteArray) (i : Nat) (h : i ≤ s.size) : i ≤ spanS p s i ∧ spanS p s i ≤ s.size := by
  have := spn_ge p s (s.size - i) i
  unfold spanS; omega
theorem spanS_step (p : Int → Bool) (s : ByteArray) (i : Nat) (h : i < s.size) : spanS p s i = if p (sAt s (i : Int)) = true then spanS p s (i + 1) else i := by
  unfold spanS
  obtain ⟨n, hn⟩ : ∃ n, s.size - i = n + 1 := ⟨s.size - i - 1, by omega⟩
  rw [hn]
  conv => lhs; unfold spn
  rw [show s.size - (i + 1) = n by omega]
theorem spanS_end (p : Int → Bool) (s : ByteArray) : spanS p s s.size = s.size := by unfold spanS; rw [Nat.sub_self]; rfl
/-- Bytes of a kind. -/
def isLet (c : Int) : Bool := decide (97 ≤ c ∧ c ≤ 122)
def isDig (c : Int) : Bool := decide (48 ≤ c ∧ c ≤ 57)
def isWrd (c : Int) : Bool := isLet c || isDig c || decide (c = 45)
def isHr (c : Int) : Bool := isDig c || decide (c = 45) || decide (c = 84)
def isLine (c : Int) : Bool := decide (c ≠ 10)
theorem let_m (c : Int) : m32 c = some (isLet c, ()) := by unfold m32 isLet iLe; by_cases h : 97 ≤ c <;> simp [h]
theorem let_r (c : Int) : m40 c = some (isLet c, ()) := by unfold m40 isLet iLe; by_cases h : 97 ≤ c <;> simp [h]
theorem dig_m (c : Int) : m46 c = some (isDig c, ()) := by unfold m46 isDig iLe; by_cases h : 48 ≤ c <;> simp [h]
theorem dig_r (c : Int) : m41 c = some (isDig c, ()) := by unfold m41 isDig iLe; by_cases h : 48 ≤ c <;> simp [h]
theorem wrd_m (c : Int) : m39 c = some (isWrd c, ()) := by
  unfold m39 isWrd
  rw [let_m, dig_m]
  simp only [Option.bind_some]
  cases isLet c <;> cases isDig c <;> simp [iEq, BEq.beq]
theorem hr_m (c : Int) : m48 c = some (isHr c, ()) := by
  unfold m48 isHr
  rw [dig_m]
  simp only [Option.bind_some]
  cases isDig c <;> by_cases h : c = 45 <;> by_cases h2 : c = 84 <;> simp [h, h2, iEq]
theorem line_m (c : Int) : m30 c = some (isLine c, ()) := by
  unfold m30 isLine iNe; by_cases h : c = 10 <;> simp [h]
theorem span0 (s : ByteArray) (i : Nat) (hi : i ≤ s.size) (hs : s.size ≤ 4611686018427387904) : m29 s (i : Int) () = some ((spanS isLine s i : Int), ()) := by
  refine T.eq ?_
  unfold m29
  refine T.loop (fun q => ∃ j : Nat, j ≤ s.size ∧ spanS isLine s j = spanS isLine s i ∧ q = (s, (j : Int), (), ())) (fun q => s.size - q.2.1.toNat) ⟨i, hi, rfl, rfl⟩ ?_
  rintro _ ⟨j, hj, he, rfl⟩
  dsimp only
  have hl := sLen_eq s
  refine T.grd (by first | (simp (disch := omega) only [iLt_T, iLt_F, iLe_T, iLe_F, iEq_T, iEq_F, iNe_T, iNe_F, bnd_T, bnd_F, inB_T, inB_F, fits_T, fitsI_T, cutOk_T, someE_T, someE_F, leN_T, not_T, not_F, and_T, and_F, or_T, or_F, candF_T, candF_F, corT_T, corT_F, bEqT_T, bEqT_F, bEqF_T, bEqF_F, eq_self, or_true, true_or, and_true, true_and, or_false, false_or, and_false, false_and, not_true_eq_false, not_false_eq_true, Bool.true_eq_false, Bool.false_eq_true, iAdd64, iSub64, iMul64, lenI_eq, List.length_append, List.length_cons, List.length_nil, List.length_set, List.length_take, List.length_drop, List.length_replicate]; omega) | (simp (disch := omega) only [iLt_T, iLt_F, iLe_T, iLe_F, iEq_T, iEq_F, iNe_T, iNe_F, bnd_T, bnd_F, inB_T, inB_F, fits_T, fitsI_T, cutOk_T, someE_T, someE_F, leN_T, not_T, not_F, and_T, and_F, or_T, or_F, candF_T, candF_F, corT_T, corT_F, bEqT_T, bEqT_F, bEqF_T, bEqF_F, eq_self, or_true, true_or, and_true, true_and, or_false, false_or, and_false, false_and, not_true_eq_false, not_false_eq_true, Bool.true_eq_false, Bool.false_eq_true, iAdd64, iSub64, iMul64, lenI_eq, List.length_append, List.length_cons, List.length_nil, List.length_set, List.length_take, List.length_drop, List.length_replicate]; done)) ?_
  refine T.cnd (fun hc => ?_) (fun hc => ?_) <;> simp only [iLt_T, iLt_F] at hc
  · rw [spanS_step isLine s j (by omega)] at he
    refine T.callE (line_m _) ?_
    refine T.cnd (fun hp => ?_) (fun hp => T.out ?_)
    · rw [if_pos hp] at he
      refine T.go ⟨j + 1, by omega, he, by rw [iAdd64 (by omega) (by omega)]; rfl⟩ ?_
      dsimp only; rw [iAdd64 (by omega) (by omega)]; omega
    · rw [if_neg (by simpa using hp)] at he
      rw [← he]
  · refine T.out ?_
    have : j = s.size := by omega
    subst this
    rw [spanS_end] at he
    rw [← he]
theorem span1 (s : ByteArray) (i : Nat) (hi : i ≤ s.size) (hs : s.size ≤ 4611686018427387904) : m29_1 s (i : Int) () = some ((spanS isWrd s i : Int), ()) := by
  refine T.eq ?_
  unfold m29_1
  refine T.loop (fun q => ∃ j : Nat, j ≤ s.size ∧ spanS isWrd s j = spanS isWrd s i ∧ q = (s, (j : Int), (), ())) (fun q => s.size - q.2.1.toNat) ⟨i, hi, rfl, rfl⟩ ?_
  rintro _ ⟨j, hj, he, rfl⟩
  dsimp only
  have hl := sLen_eq s
  refine T.grd (by first | (simp (disch := omega) only [iLt_T, iLt_F, iLe_T, iLe_F, iEq_T, iEq_F, iNe_T, iNe_F, bnd_T, bnd_F, inB_T, inB_F, fits_T, fitsI_T, cutOk_T, someE_T, someE_F, leN_T, not_T, not_F, and_T, and_F, or_T, or_F, candF_T, candF_F, corT_T, corT_F, bEqT_T, bEqT_F, bEqF_T, bEqF_F, eq_self, or_true, true_or, and_true, true_and, or_false, false_or, and_false, false_and, not_true_eq_false, not_false_eq_true, Bool.true_eq_false, Bool.false_eq_true, iAdd64, iSub64, iMul64, lenI_eq, List.length_append, List.length_cons, List.length_nil, List.length_set, List.length_take, List.length_drop, List.length_replicate]; omega) | (simp (disch := omega) only [iLt_T, iLt_F, iLe_T, iLe_F, iEq_T, iEq_F, iNe_T, iNe_F, bnd_T, bnd_F, inB_T, inB_F, fits_T, fitsI_T, cutOk_T, someE_T, someE_F, leN_T, not_T, not_F, and_T, and_F, or_T, or_F, candF_T, candF_F, corT_T, corT_F, bEqT_T, bEqT_F, bEqF_T, bEqF_F, eq_self, or_true, true_or, and_true, true_and, or_false, false_or, and_false, false_and, not_true_eq_false, not_false_eq_true, Bool.true_eq_false, Bool.false_eq_true, iAdd64, iSub64, iMul64, lenI_eq, List.length_append, List.length_cons, List.length_nil, List.length_set, List.length_take, List.length_drop, List.length_replicate]; done)) ?_
  refine T.cnd (fun hc => ?_) (fun hc => ?_) <;> simp only [iLt_T, iLt_F] at hc
  · rw [spanS_step isWrd s j (by omega)] at he
    refine T.callE (wrd_m _) ?_
    refine T.cnd (fun hp => ?_) (fun hp => T.out ?_)
    · rw [if_pos hp] at he
      refine T.go ⟨j + 1, by omega, he, by rw [iAdd64 (by omega) (by omega)]; rfl⟩ ?_
      dsimp only; rw [iAdd64 (by omega) (by omega)]; omega
    · rw [if_neg (by simpa using hp)] at he
      rw [← he]
  · refine T.out ?_
    have : j = s.size := by omega
    subst this
    rw [spanS_end] at he
    rw [← he]
theorem span2 (s : ByteArray) (i : Nat) (hi : i ≤ s.size) (hs : s.size ≤ 4611686018427387904) : m29_2 s (i : Int) () = some ((spanS isDig s i : Int), ()) := by
  refine T.eq ?_
  unfold m29_2
  refine T.loop (fun q => ∃ j : Nat, j ≤ s.size ∧ spanS isDig s j = spanS isDig s i ∧ q = (s, (j : Int), (), ())) (fun q => s.size - q.2.1.toNat) ⟨i, hi, rfl, rfl⟩ ?_
  rintro _ ⟨j, hj, he, rfl⟩
  dsimp only
  have hl := sLen_eq s
  refine T.grd (by first | (simp (disch := omega) only [iLt_T, iLt_F, iLe_T, iLe_F, iEq_T, iEq_F, iNe_T, iNe_F, bnd_T, bnd_F, inB_T, inB_F, fits_T, fitsI_T, cutOk_T, someE_T, someE_F, leN_T, not_T, not_F, and_T, and_F, or_T, or_F, candF_T, candF_F, corT_T, corT_F, bEqT_T, bEqT_F, bEqF_T, bEqF_F, eq_self, or_true, true_or, and_true, true_and, or_false, false_or, and_false, false_and, not_true_eq_false, not_false_eq_true, Bool.true_eq_false, Bool.false_eq_true, iAdd64, iSub64, iMul64, lenI_eq, List.length_append, List.length_cons, List.length_nil, List.length_set, List.length_take, List.length_drop, List.length_replicate]; omega) | (simp (disch := omega) only [iLt_T, iLt_F, iLe_T, iLe_F, iEq_T, iEq_F, iNe_T, iNe_F, bnd_T, bnd_F, inB_T, inB_F, fits_T, fitsI_T, cutOk_T, someE_T, someE_F, leN_T, not_T, not_F, and_T, and_F, or_T, or_F, candF_T, candF_F, corT_T, corT_F, bEqT_T, bEqT_F, bEqF_T, bEqF_F, eq_self, or_true, true_or, and_true, true_and, or_false, false_or, and_false, false_and, not_true_eq_false, not_false_eq_true, Bool.true_eq_false, Bool.false_eq_true, iAdd64, iSub64, iMul64, lenI_eq, List.length_append, List.length_cons, List.length_nil, List.length_set, List.length_take, List.length_drop, List.length_replicate]; done)) ?_
  refine T.cnd (fun hc => ?_) (fun hc => ?_) <;> simp only [iLt_T, iLt_F] at hc
  · rw [spanS_step isDig s j (by omega)] at he
    refine T.callE (dig_m _) ?_
    refine T.cnd (fun hp => ?_) (fun hp => T.out ?_)
    · rw [if_pos hp] at he
      refine T.go ⟨j + 1, by omega, he, by rw [iAdd64 (by omega) (by omega)]; rfl⟩ ?_
      dsimp only; rw [iAdd64 (by omega) (by omega)]; omega
    · rw [if_neg (by simpa using hp)] at he
      rw [← he]
  · refine T.out ?_
    have : j = s.size := by omega
    subst this
    rw [spanS_end] at he
    rw [← he]
theorem span3 (s : ByteArray) (i : Nat) (hi : i ≤ s.size) (hs : s.size ≤ 4611686018427387904) : m29_3 s (i : Int) () = some ((spanS isHr s i : Int), ()) := by
  refine T.eq ?_
  unfold m29_3
  refine T.loop (fun q => ∃ j : Nat, j ≤ s.size ∧ spanS isHr s j = spanS isHr s i ∧ q = (s, (j : Int), (), ())) (fun q => s.size - q.2.1.toNat) ⟨i, hi, rfl, rfl⟩ ?_
  rintro _ ⟨j, hj, he, rfl⟩
  dsimp only
  have hl := sLen_eq s
  refine T.grd (by first | (simp (disch := omega) only [iLt_T, iLt_F, iLe_T, iLe_F, iEq_T, iEq_F, iNe_T, iNe_F, bnd_T, bnd_F, inB_T, inB_F, fits_T, fitsI_T, cutOk_T, someE_T, someE_F, leN_T, not_T, not_F, and_T, and_F, or_T, or_F, candF_T, candF_F, corT_T, corT_F, bEqT_T, bEqT_F, bEqF_T, bEqF_F, eq_self, or_true, true_or, and_true, true_and, or_false, false_or, and_false, false_and, not_true_eq_false, not_false_eq_true, Bool.true_eq_false, Bool.false_eq_true, iAdd64, iSub64, iMul64, lenI_eq, List.length_append, List.length_cons, List.length_nil, List.length_set, List.length_take, List.length_drop, List.length_replicate]; omega) | (simp (disch := omega) only [iLt_T, iLt_F, iLe_T, iLe_F, iEq_T, iEq_F, iNe_T, iNe_F, bnd_T, bnd_F, inB_T, inB_F, fits_T, fitsI_T, cutOk_T, someE_T, someE_F, leN_T, not_T, not_F, and_T, and_F, or_T, or_F, candF_T, candF_F, corT_T, corT_F, bEqT_T, bEqT_F, bEqF_T, bEqF_F, eq_self, or_true, true_or, and_true, true_and, or_false, false_or, and_false, false_and, not_true_eq_false, not_false_eq_true, Bool.true_eq_false, Bool.false_eq_true, iAdd64, iSub64, iMul64, lenI_eq, List.length_append, List.length_cons, List.length_nil, List.length_set, List.length_take, List.length_drop, List.length_replicate]; done)) ?_
  refine T.cnd (fun hc => ?_) (fun hc => ?_) <;> simp only [iLt_T, iLt_F] at hc
  · rw [spanS_step isHr s j (by omega)] at he
    refine T.callE (hr_m _) ?_
    refine T.cnd (fun hp => ?_) (fun hp => T.out ?_)
    · rw [if_pos hp] at he
      refine T.go ⟨j + 1, by omega, he, by rw [iAdd64 (by omega) (by omega)]; rfl⟩ ?_
      dsimp only; rw [iAdd64 (by omega) (by omega)]; omega
    · rw [if_neg (by simpa using hp)] at he
      rw [← he]
  · refine T.out ?_
    have : j = s.size := by omega
    subst this
    rw [spanS_end] at he
    rw [← he]
/-- A word. -/
def wordS (s : ByteArray) : Bool := if s.size = 0 ∨ 16 < s.size then false else if isLet (sAt s 0) = true ∧ ¬ sAt s ((s.size : Int) - 1) = 45 then decide (spanS isWrd s 0 = s.size) else false
theorem word_m (s : ByteArray) (hs : s.size ≤ 4611686018427387904) : m23 s = some (wordS s, ()) := by
  refine T.eq ?_
  unfold m23 wordS
  have hl := sLen_eq s
  refine T.grd (by first | (simp (disch := omega) only [iLt_T, iLt_F, iLe_T, iLe_F, iEq_T, iEq_F, iNe_T, iNe_F, bnd_T, bnd_F, inB_T, inB_F, fits_T, fitsI_T, cutOk_T, someE_T, someE_F, leN_T, not_T, not_F, and_T, and_F, or_T, or_F, candF_T, candF_F, corT_T, corT_F, bEqT_T, bEqT_F, bEqF_T, bEqF_F, eq_self, or_true, true_or, and_true, true_and, or_false, false_or, and_false, false_and, not_true_eq_false, not_false_eq_true, Bool.true_eq_false, Bool.false_eq_true, iAdd64, iSub64, iMul64, lenI_eq, List.length_append, List.length_cons, List.length_nil, List.length_set, List.length_take, List.length_drop, List.length_replicate]; omega) | (simp (disch := omega) only [iLt_T, iLt_F, iLe_T, iLe_F, iEq_T, iEq_F, iNe_T, iNe_F, bnd_T, bnd_F, inB_T, inB_F, fits_T, fitsI_T, cutOk_T, someE_T, someE_F, leN_T, not_T, not_F, and_T, and_F, or_T, or_F, candF_T, candF_F, corT_T, corT_F, bEqT_T, bEqT_F, bEqF_T, bEqF_F, eq_self, or_true, true_or, and_true, true_and, or_false, false_or, and_false, false_and, not_true_eq_false, not_false_eq_true, Bool.true_eq_false, Bool.false_eq_true, iAdd64, iSub64, iMul64, lenI_eq, List.length_append, List.length_cons, List.length_nil, List.length_set, List.length_take, List.length_drop, List.length_replicate]; done)) ?_
  refine T.cnd (fun hc => ?_) (fun hc => ?_) <;> simp only [iLt_T, iLt_F, iLe_T, iLe_F, iEq_T, iEq_F, iNe_T, iNe_F, bnd_T, bnd_F, inB_T, inB_F, fits_T, fitsI_T, cutOk_T, someE_T, someE_F, leN_T, not_T, not_F, and_T, and_F, or_T, or_F, candF_T, candF_F, corT_T, corT_F, bEqT_T, bEqT_F, bEqF_T, bEqF_F, eq_self, or_true, true_or, and_true, true_and, or_false, false_or, and_false, false_and, not_true_eq_false, not_false_eq_true, Bool.true_eq_false, Bool.false_eq_true] at hc
  · refine T.grd (by first | (simp (disch := omega) only [iLt_T, iLt_F, iLe_T, iLe_F, iEq_T, iEq_F, iNe_T, iNe_F, bnd_T, bnd_F, inB_T, inB_F, fits_T, fitsI_T, cutOk_T, someE_T, someE_F, leN_T, not_T, not_F, and_T, and_F, or_T, or_F, candF_T, candF_F, corT_T, corT_F, bEqT_T, bEqT_F, bEqF_T, bEqF_F, eq_self, or_true, true_or, and_true, true_and, or_false, false_or, and_false, false_and, not_true_eq_false, not_false_eq_true, Bool.true_eq_false, Bool.false_eq_true, iAdd64, iSub64, iMul64, lenI_eq, List.length_append, List.length_cons, List.length_nil, List.length_set, List.length_take, List.length_drop, List.length_replicate]; omega) | (simp (disch := omega) only [iLt_T, iLt_F, iLe_T, iLe_F, iEq_T, iEq_F, iNe_T, iNe_F, bnd_T, bnd_F, inB_T, inB_F, fits_T, fitsI_T, cutOk_T, someE_T, someE_F, leN_T, not_T, not_F, and_T, and_F, or_T, or_F, candF_T, candF_F, corT_T, corT_F, bEqT_T, bEqT_F, bEqF_T, bEqF_F, eq_self, or_true, true_or, and_true, true_and, or_false, false_or, and_false, false_and, not_true_eq_false, not_false_eq_true, Bool.true_eq_false, Bool.false_eq_true, iAdd64, iSub64, iMul64, lenI_eq, List.length_append, List.length_cons, List.length_nil, List.length_set, List.length_take, List.length_drop, List.length_replicate]; done)) (T.ret ?_)
    rw [if_pos (by omega)]
  · rw [if_neg (by omega)]
    have e1 : iSub .i64 (sLen s) 1 = (s.size : Int) - 1 := by rw [iSub64 (by omega) (by omega), hl]
    rw [e1]
    refine T.callE (let_m _) ?_
    refine T.grd (by first | (simp (disch := omega) only [iLt_T, iLt_F, iLe_T, iLe_F, iEq_T, iEq_F, iNe_T, iNe_F, bnd_T, bnd_F, inB_T, inB_F, fits_T, fitsI_T, cutOk_T, someE_T, someE_F, leN_T, not_T, not_F, and_T, and_F, or_T, or_F, candF_T, candF_F, corT_T, corT_F, bEqT_T, bEqT_F, bEqF_T, bEqF_F, eq_self, or_true, true_or, and_true, true_and, or_false, false_or, and_false, false_and, not_true_eq_false, not_false_eq_true, Bool.true_eq_false, Bool.false_eq_true, iAdd64, iSub64, iMul64, lenI_eq, List.length_append, List.length_cons, List.length_nil, List.length_set, List.length_take, List.length_drop, List.length_replicate]; omega) | (simp (disch := omega) only [iLt_T, iLt_F, iLe_T, iLe_F, iEq_T, iEq_F, iNe_T, iNe_F, bnd_T, bnd_F, inB_T, inB_F, fits_T, fitsI_T, cutOk_T, someE_T, someE_F, leN_T, not_T, not_F, and_T, and_F, or_T, or_F, candF_T, candF_F, corT_T, corT_F, bEqT_T, bEqT_F, bEqF_T, bEqF_F, eq_self, or_true, true_or, and_true, true_and, or_false, false_or, and_false, false_and, not_true_eq_false, not_false_eq_true, Bool.true_eq_false, Bool.false_eq_true, iAdd64, iSub64, iMul64, lenI_eq, List.length_append, List.length_cons, List.length_nil, List.length_set, List.length_take, List.length_drop, List.length_replicate]; done)) ?_
    refine T.cnd (fun hc => T.ret ?_) (fun hc => ?_) <;> simp only [iLt_T, iLt_F, iLe_T, iLe_F, iEq_T, iEq_F, iNe_T, iNe_F, bnd_T, bnd_F, inB_T, inB_F, fits_T, fitsI_T, cutOk_T, someE_T, someE_F, leN_T, not_T, not_F, and_T, and_F, or_T, or_F, candF_T, candF_F, corT_T, corT_F, bEqT_T, bEqT_F, bEqF_T, bEqF_F, eq_self, or_true, true_or, and_true, true_and, or_false, false_or, and_false, false_and, not_true_eq_false, not_false_eq_true, Bool.true_eq_false, Bool.false_eq_true] at hc
    · rw [if_neg]
      rintro ⟨q1, q2⟩
      rcases hc with q | q
      · rw [q1] at q; cases q
      · exact q2 q
    · rw [if_pos ⟨hc.1, hc.2⟩]
      refine T.callE (span1 s 0 (by omega) hs) (T.ret ?_)
      congr 1
      rw [hl, Bool.eq_iff_iff]
      simp only [iEq_T, decide_eq_true_eq]
      omega
theorem spanS_all (p : Int → Bool) (s : ByteArray) : ∀ (n i : Nat), i + n = s.size → (spanS p s i = s.size ↔ ∀ j, i ≤ j → j < s.size → p (sAt s (j : Int)) = true) := by
  intro n
  induction n with
  | zero =>
    intro i hi
    have : i = s.size := by omega
    subst this
    rw [spanS_end]
    exact ⟨fun _ j h1 h2 => by omega, fun _ => rfl⟩
  | succ n ih =>
    intro i hi
    rw [spanS_step p s i (by omega)]
    have := ih (i + 1) (by omega)
    by_cases hp : p (sAt s (i : Int)) = true
    · rw [if_pos hp, this]
      constructor
      · intro h j h1 h2
        rcases Nat.eq_or_lt_of_le h1 with q | q
        · rw [← q]; exact hp
        · exact h j q h2
      · intro h j h1 h2; exact h j (by omega) h2
    · rw [if_neg hp]
      constructor
      · intro h; omega
      · intro h; exact absurd (h i (Nat.le_refl _) (by omega)) hp
theorem word_r (s : ByteArray) (hs : s.size ≤ 4611686018427387904) : m24 s = some (wordS s, ()) := by
  refine T.eq ?_
  unfold m24 wordS
  have hl := sLen_eq s
  refine T.grd (by first | (simp (disch := omega) only [iLt_T, iLt_F, iLe_T, iLe_F, iEq_T, iEq_F, iNe_T, iNe_F, bnd_T, bnd_F, inB_T, inB_F, fits_T, fitsI_T, cutOk_T, someE_T, someE_F, leN_T, not_T, not_F, and_T, and_F, or_T, or_F, candF_T, candF_F, corT_T, corT_F, bEqT_T, bEqT_F, bEqF_T, bEqF_F, eq_self, or_true, true_or, and_true, true_and, or_false, false_or, and_false, false_and, not_true_eq_false, not_false_eq_true, Bool.true_eq_false, Bool.false_eq_true, iAdd64, iSub64, iMul64, lenI_eq, List.length_append, List.length_cons, List.length_nil, List.length_set, List.length_take, List.length_drop, List.length_replicate]; omega) | (simp (disch := omega) only [iLt_T, iLt_F, iLe_T, iLe_F, iEq_T, iEq_F, iNe_T, iNe_F, bnd_T, bnd_F, inB_T, inB_F, fits_T, fitsI_T, cutOk_T, someE_T, someE_F, leN_T, not_T, not_F, and_T, and_F, or_T, or_F, candF_T, candF_F, corT_T, corT_F, bEqT_T, bEqT_F, bEqF_T, bEqF_F, eq_self, or_true, true_or, and_true, true_and, or_false, false_or, and_false, false_and, not_true_eq_false, not_false_eq_true, Bool.true_eq_false, Bool.false_eq_true, iAdd64, iSub64, iMul64, lenI_eq, List.length_append, List.length_cons, List.length_nil, List.length_set, List.length_take, List.length_drop, List.length_replicate]; done)) ?_
  refine T.cnd (fun hc => ?_) (fun hc => ?_) <;> simp only [iLt_T, iLt_F, iLe_T, iLe_F, iEq_T, iEq_F, iNe_T, iNe_F, bnd_T, bnd_F, inB_T, inB_F, fits_T, fitsI_T, cutOk_T, someE_T, someE_F, leN_T, not_T, not_F, and_T, and_F, or_T, or_F, candF_T, candF_F, corT_T, corT_F, bEqT_T, bEqT_F, bEqF_T, bEqF_F, eq_self, or_true, true_or, and_true, true_and, or_false, false_or, and_false, false_and, not_true_eq_false, not_false_eq_true, Bool.true_eq_false, Bool.false_eq_true] at hc
  · refine T.grd (by first | (simp (disch := omega) only [iLt_T, iLt_F, iLe_T, iLe_F, iEq_T, iEq_F, iNe_T, iNe_F, bnd_T, bnd_F, inB_T, inB_F, fits_T, fitsI_T, cutOk_T, someE_T, someE_F, leN_T, not_T, not_F, and_T, and_F, or_T, or_F, candF_T, candF_F, corT_T, corT_F, bEqT_T, bEqT_F, bEqF_T, bEqF_F, eq_self, or_true, true_or, and_true, true_and, or_false, false_or, and_false, false_and, not_true_eq_false, not_false_eq_true, Bool.true_eq_false, Bool.false_eq_true, iAdd64, iSub64, iMul64, lenI_eq, List.length_append, List.length_cons, List.length_nil, List.length_set, List.length_take, List.length_drop, List.length_replicate]; omega) | (simp (disch := omega) only [iLt_T, iLt_F, iLe_T, iLe_F, iEq_T, iEq_F, iNe_T, iNe_F, bnd_T, bnd_F, inB_T, inB_F, fits_T, fitsI_T, cutOk_T, someE_T, someE_F, leN_T, not_T, not_F, and_T, and_F, or_T, or_F, candF_T, candF_F, corT_T, corT_F, bEqT_T, bEqT_F, bEqF_T, bEqF_F, eq_self, or_true, true_or, and_true, true_and, or_false, false_or, and_false, false_and, not_true_eq_false, not_false_eq_true, Bool.true_eq_false, Bool.false_eq_true, iAdd64, iSub64, iMul64, lenI_eq, List.length_append, List.length_cons, List.length_nil, List.length_set, List.length_take, List.length_drop, List.length_replicate]; done)) (T.ret ?_)
    rw [if_pos (by omega)]
  · rw [if_neg (by omega)]
    have e1 : iSub .i64 (sLen s) 1 = (s.size : Int) - 1 := by rw [iSub64 (by omega) (by omega), hl]
    rw [e1]
    refine T.callE (let_r _) ?_
    refine T.grd (by first | (simp (disch := omega) only [iLt_T, iLt_F, iLe_T, iLe_F, iEq_T, iEq_F, iNe_T, iNe_F, bnd_T, bnd_F, inB_T, inB_F, fits_T, fitsI_T, cutOk_T, someE_T, someE_F, leN_T, not_T, not_F, and_T, and_F, or_T, or_F, candF_T, candF_F, corT_T, corT_F, bEqT_T, bEqT_F, bEqF_T, bEqF_F, eq_self, or_true, true_or, and_true, true_and, or_false, false_or, and_false, false_and, not_true_eq_false, not_false_eq_true, Bool.true_eq_false, Bool.false_eq_true, iAdd64, iSub64, iMul64, lenI_eq, List.length_append, List.length_cons, List.length_nil, List.length_set, List.length_take, List.length_drop, List.length_replicate]; omega) | (simp (disch := omega) only [iLt_T, iLt_F, iLe_T, iLe_F, iEq_T, iEq_F, iNe_T, iNe_F, bnd_T, bnd_F, inB_T, inB_F, fits_T, fitsI_T, cutOk_T, someE_T, someE_F, leN_T, not_T, not_F, and_T, and_F, or_T, or_F, candF_T, candF_F, corT_T, corT_F, bEqT_T, bEqT_F, bEqF_T, bEqF_F, eq_self, or_true, true_or, and_true, true_and, or_false, false_or, and_false, false_and, not_true_eq_false, not_false_eq_true, Bool.true_eq_false, Bool.false_eq_true, iAdd64, iSub64, iMul64, lenI_eq, List.length_append, List.length_cons, List.length_nil, List.length_set, List.length_take, List.length_drop, List.length_replicate]; done)) ?_
    refine T.cnd (fun hc => T.ret ?_) (fun hc => ?_) <;> simp only [iLt_T, iLt_F, iLe_T, iLe_F, iEq_T, iEq_F, iNe_T, iNe_F, bnd_T, bnd_F, inB_T, inB_F, fits_T, fitsI_T, cutOk_T, someE_T, someE_F, leN_T, not_T, not_F, and_T, and_F, or_T, or_F, candF_T, candF_F, corT_T, corT_F, bEqT_T, bEqT_F, bEqF_T, bEqF_F, eq_self, or_true, true_or, and_true, true_and, or_false, false_or, and_false, false_and, not_true_eq_false, not_false_eq_true, Bool.true_eq_false, Bool.false_eq_true] at hc
    · rw [if_neg]
      rintro ⟨q1, q2⟩
      rcases hc with q | q
      · rw [q1] at q; cases q
      · exact q2 q
    · rw [if_pos ⟨hc.1, hc.2⟩]
      have key := spanS_all isWrd s s.size 0 (by omega)
      refine T.loop (fun q => ∃ j : Nat, j ≤ s.size ∧ (∀ k, k < j → isWrd (sAt s (k : Int)) = true) ∧ q = (s, (j : Int), ())) (fun q => s.size - q.2.1.toNat) ⟨0, by omega, fun k hk => by omega, rfl⟩ ?_
      rintro _ ⟨j, hj, he, rfl⟩
      dsimp only
      have go : j < s.size → isWrd (sAt s (j : Int)) = true → T (some (Sum.inl (β := Bool × Unit) (s, iAdd .i64 (j : Int) 1, ()))) (LQ (fun q => ∃ j : Nat, j ≤ s.size ∧ (∀ k, k < j → isWrd (sAt s (k : Int)) = true) ∧ q = (s, (j : Int), ())) (fun q => s.size - q.2.1.toNat) (s.size - (j : Int).toNat) (fun x => x = (decide (spanS isWrd s 0 = s.size), ()))) := fun hlt hw => by
        refine T.go ⟨j + 1, by omega, fun k hk => ?_, by rw [iAdd64 (by omega) (by omega)]; rfl⟩ ?_
        · rcases Nat.lt_or_ge k j with q | q
          · exact he k q
          · rw [show k = j by omega]; exact hw
        · dsimp only; rw [iAdd64 (by omega) (by omega)]; omega
      refine T.cnd (fun hc => ?_) (fun hc => ?_) <;> simp only [iLt_T, iLt_F] at hc
      · have hlt : j < s.size := by omega
        refine T.grd (by first | (simp (disch := omega) only [iLt_T, iLt_F, iLe_T, iLe_F, iEq_T, iEq_F, iNe_T, iNe_F, bnd_T, bnd_F, inB_T, inB_F, fits_T, fitsI_T, cutOk_T, someE_T, someE_F, leN_T, not_T, not_F, and_T, and_F, or_T, or_F, candF_T, candF_F, corT_T, corT_F, bEqT_T, bEqT_F, bEqF_T, bEqF_F, eq_self, or_true, true_or, and_true, true_and, or_false, false_or, and_false, false_and, not_true_eq_false, not_false_eq_true, Bool.true_eq_false, Bool.false_eq_true, iAdd64, iSub64, iMul64, lenI_eq, List.length_append, List.length_cons, List.length_nil, List.length_set, List.length_take, List.length_drop, List.length_replicate]; omega) | (simp (disch := omega) only [iLt_T, iLt_F, iLe_T, iLe_F, iEq_T, iEq_F, iNe_T, iNe_F, bnd_T, bnd_F, inB_T, inB_F, fits_T, fitsI_T, cutOk_T, someE_T, someE_F, leN_T, not_T, not_F, and_T, and_F, or_T, or_F, candF_T, candF_F, corT_T, corT_F, bEqT_T, bEqT_F, bEqF_T, bEqF_F, eq_self, or_true, true_or, and_true, true_and, or_false, false_or, and_false, false_and, not_true_eq_false, not_false_eq_true, Bool.true_eq_false, Bool.false_eq_true, iAdd64, iSub64, iMul64, lenI_eq, List.length_append, List.length_cons, List.length_nil, List.length_set, List.length_take, List.length_drop, List.length_replicate]; done)) ?_
        refine T.callE (let_r _) ?_
        refine T.grd (by first | (simp (disch := omega) only [iLt_T, iLt_F, iLe_T, iLe_F, iEq_T, iEq_F, iNe_T, iNe_F, bnd_T, bnd_F, inB_T, inB_F, fits_T, fitsI_T, cutOk_T, someE_T, someE_F, leN_T, not_T, not_F, and_T, and_F, or_T, or_F, candF_T, candF_F, corT_T, corT_F, bEqT_T, bEqT_F, bEqF_T, bEqF_F, eq_self, or_true, true_or, and_true, true_and, or_false, false_or, and_false, false_and, not_true_eq_false, not_false_eq_true, Bool.true_eq_false, Bool.false_eq_true, iAdd64, iSub64, iMul64, lenI_eq, List.length_append, List.length_cons, List.length_nil, List.length_set, List.length_take, List.length_drop, List.length_replicate]; omega) | (simp (disch := omega) only [iLt_T, iLt_F, iLe_T, iLe_F, iEq_T, iEq_F, iNe_T, iNe_F, bnd_T, bnd_F, inB_T, inB_F, fits_T, fitsI_T, cutOk_T, someE_T, someE_F, leN_T, not_T, not_F, and_T, and_F, or_T, or_F, candF_T, candF_F, corT_T, corT_F, bEqT_T, bEqT_F, bEqF_T, bEqF_F, eq_self, or_true, true_or, and_true, true_and, or_false, false_or, and_false, false_and, not_true_eq_false, not_false_eq_true, Bool.true_eq_false, Bool.false_eq_true, iAdd64, iSub64, iMul64, lenI_eq, List.length_append, List.length_cons, List.length_nil, List.length_set, List.length_take, List.length_drop, List.length_replicate]; done)) ?_
        refine T.cnd (fun h1 => ?_) (fun h1 => ?_) <;> simp only [not_T, not_F] at h1
        · refine T.callE (dig_r _) ?_
          refine T.grd (by first | (simp (disch := omega) only [iLt_T, iLt_F, iLe_T, iLe_F, iEq_T, iEq_F, iNe_T, iNe_F, bnd_T, bnd_F, inB_T, inB_F, fits_T, fitsI_T, cutOk_T, someE_T, someE_F, leN_T, not_T, not_F, and_T, and_F, or_T, or_F, candF_T, candF_F, corT_T, corT_F, bEqT_T, bEqT_F, bEqF_T, bEqF_F, eq_self, or_true, true_or, and_true, true_and, or_false, false_or, and_false, false_and, not_true_eq_false, not_false_eq_true, Bool.true_eq_false, Bool.false_eq_true, iAdd64, iSub64, iMul64, lenI_eq, List.length_append, List.length_cons, List.length_nil, List.length_set, List.length_take, List.length_drop, List.length_replicate]; omega) | (simp (disch := omega) only [iLt_T, iLt_F, iLe_T, iLe_F, iEq_T, iEq_F, iNe_T, iNe_F, bnd_T, bnd_F, inB_T, inB_F, fits_T, fitsI_T, cutOk_T, someE_T, someE_F, leN_T, not_T, not_F, and_T, and_F, or_T, or_F, candF_T, candF_F, corT_T, corT_F, bEqT_T, bEqT_F, bEqF_T, bEqF_F, eq_self, or_true, true_or, and_true, true_and, or_false, false_or, and_false, false_and, not_true_eq_false, not_false_eq_true, Bool.true_eq_false, Bool.false_eq_true, iAdd64, iSub64, iMul64, lenI_eq, List.length_append, List.length_cons, List.length_nil, List.length_set, List.length_take, List.length_drop, List.length_replicate]; done)) ?_
          refine T.cnd (fun h2 => T.out ?_) (fun h2 => ?_) <;> simp only [iLt_T, iLt_F, iLe_T, iLe_F, iEq_T, iEq_F, iNe_T, iNe_F, bnd_T, bnd_F, inB_T, inB_F, fits_T, fitsI_T, cutOk_T, someE_T, someE_F, leN_T, not_T, not_F, and_T, and_F, or_T, or_F, candF_T, candF_F, corT_T, corT_F, bEqT_T, bEqT_F, bEqF_T, bEqF_F, eq_self, or_true, true_or, and_true, true_and, or_false, false_or, and_false, false_and, not_true_eq_false, not_false_eq_true, Bool.true_eq_false, Bool.false_eq_true] at h2
          · rw [decide_eq_false]
            intro q
            have := key.1 q j (by omega) hlt
            unfold isWrd at this
            rw [h1, h2.1] at this
            simp at this
            exact h2.2 this
          · refine go hlt ?_
            unfold isWrd
            rcases h2 with q | q
            · rw [q]; simp
            · rw [decide_eq_true q]; simp
        · refine T.grd (by first | (simp (disch := omega) only [iLt_T, iLt_F, iLe_T, iLe_F, iEq_T, iEq_F, iNe_T, iNe_F, bnd_T, bnd_F, inB_T, inB_F, fits_T, fitsI_T, cutOk_T, someE_T, someE_F, leN_T, not_T, not_F, and_T, and_F, or_T, or_F, candF_T, candF_F, corT_T, corT_F, bEqT_T, bEqT_F, bEqF_T, bEqF_F, eq_self, or_true, true_or, and_true, true_and, or_false, false_or, and_false, false_and, not_true_eq_false, not_false_eq_true, Bool.true_eq_false, Bool.false_eq_true, iAdd64, iSub64, iMul64, lenI_eq, List.length_append, List.length_cons, List.length_nil, List.length_set, List.length_take, List.length_drop, List.length_replicate]; omega) | (simp (disch := omega) only [iLt_T, iLt_F, iLe_T, iLe_F, iEq_T, iEq_F, iNe_T, iNe_F, bnd_T, bnd_F, inB_T, inB_F, fits_T, fitsI_T, cutOk_T, someE_T, someE_F, leN_T, not_T, not_F, and_T, and_F, or_T, or_F, candF_T, candF_F, corT_T, corT_F, bEqT_T, bEqT_F, bEqF_T, bEqF_F, eq_self, or_true, true_or, and_true, true_and, or_false, false_or, and_false, false_and, not_true_eq_false, not_false_eq_true, Bool.true_eq_false, Bool.false_eq_true, iAdd64, iSub64, iMul64, lenI_eq, List.length_append, List.length_cons, List.length_nil, List.length_set, List.length_take, List.length_drop, List.length_replicate]; done)) (go hlt ?_)
          unfold isWrd; rw [h1]; rfl
      · refine T.out ?_
        rw [decide_eq_true]
        exact key.2 fun k _ hk => he k (by omega)
theorem cond_some (a b : Bool) : (cond a (some (true, ())) (some (b, ())) : Option (Bool × Unit)) = some (a || b, ()) := by cases a <;> rfl
/-- A reserved word. -/
noncomputable def resS (s : ByteArray) : Bool := (m14 s).elim false fun y => y.1
theorem res_m (s : ByteArray) : m14 s = some (resS s, ()) := by
  have h : ∃ b, m14 s = some (b, ()) := by
    unfold m14
    simp only [cond_some]
    exact ⟨_, rfl⟩
  obtain ⟨b, h⟩ := h
  unfold resS
  rw [h]; rfl
theorem res_r (s : ByteArray) : m15 s = some (resS s, ()) := (show m15 s = m14 s from rfl).trans (res_m s)
noncomputable def nameS (s : ByteArray) : Bool := wordS s && !resS s
theorem name_m (s : ByteArray) (hs : s.size ≤ 4611686018427387904) : m12 s = some (nameS s, ()) := by
  unfold m12 nameS
  rw [word_m s hs, res_m]
  cases wordS s <;> rfl
theorem name_r (s : ByteArray) (hs : s.size ≤ 4611686018427387904) : m13 s = some (nameS s, ()) := by
  unfold m13 nameS
  rw [word_r s hs, res_r]
  cases wordS s <;> rfl
end Abs
end Go.Proofs.YtamgbanmnededaaDoor

/- Lexer: a string's bytes; numbers, tokens, Scan. -/
namespace Go.Proofs.YtamgbanmnededaaDoor
namespace Abs
set_option linter.unusedVariables false
set_option linter.unusedSimpArgs false
def Byt (bs : List Int) : Prop := ∀ x ∈ bs, 0 ≤ x ∧ x ≤ 255
theorem bl_len (s : ByteArray) : (bytesI s).length = s.size := by simp [bytesI]
theorem bl_byt (s : ByteArray) : Byt (bytesI s) := by
  intro x hx
  unfold bytesI at hx
  obtain ⟨c, _, rfl⟩ := List.mem_map.1 hx
  have := c.toNat_lt
  omega
theorem bl_get (s : ByteArray) (k : Nat) (h : k < (bytesI s).length) : (bytesI s)[k] = sAt s (k : Int) := by
  have hk : k < s.data.size := by rw [bl_len] at h; exact h
  have hk' : k < s.size := hk
  simp only [bytesI, List.getElem_map, Array.getElem_toList]
  unfold sAt
  have e : s.data.getD (Int.toNat (k : Int)) 0 = s.data[k] := by simp [Array.getD, hk']
  rw [e]
theorem bl_at (s : ByteArray) (k : Nat) : sAt s (k : Int) = (bytesI s).getD k 0 := by
  rcases Nat.lt_or_ge k (bytesI s).length with h | h
  · rw [getD_get _ h, bl_get]
  · have hk : ¬ k < s.size := by rw [bl_len] at h; exact Nat.not_lt.2 h
    unfold sAt
    simp [Array.getD, hk, List.getD, List.getElem?_eq_none h]
theorem bl_inj {a b : ByteArray} (h : bytesI a = bytesI b) : a = b := by
  have key : ∀ (l m : List UInt8), (l.map fun c => (c.toNat : Int)) = (m.map fun c => (c.toNat : Int)) → l = m := by
    intro l
    induction l with
    | nil => intro m h; cases m with
      | nil => rfl
      | cons => cases h
    | cons x l ih =>
      intro m h
      cases m with
      | nil => cases h
      | cons y m =>
        simp only [List.map_cons, List.cons.injEq] at h
        have : x = y := UInt8.toNat_inj.1 (by omega)
        rw [this, ih m h.2]
  have := key _ _ h
  cases a; cases b
  simp at this; rw [this]
theorem bl_bsI {xs : List Int} (h : Byt xs) : bytesI (bsI xs) = xs := by
  unfold bytesI bsI
  simp only [List.map_map]
  have : ∀ x ∈ xs, ((fun c : UInt8 => (c.toNat : Int)) ∘ fun n : Int => UInt8.ofNat n.toNat) x = x := by
    intro x hx
    have := h x hx
    simp only [Function.comp, UInt8.toNat_ofNat']
    omega
  conv => rhs; rw [← List.map_id xs]
  exact List.map_congr_left fun x hx => by rw [this x hx]; rfl
theorem bsI_bl (s : ByteArray) : bsI (bytesI s) = s := bl_inj (bl_bsI (bl_byt s))
theorem bl_cat (a b : ByteArray) : bytesI (sCat a b) = bytesI a ++ bytesI b := by
  unfold bytesI sCat
  rw [← List.map_append]
  congr 1
theorem bl_cut (l u : Nat) (s : ByteArray) : bytesI (cutS (l : Int) (u : Int) s) = ((bytesI s).take u).drop l := by
  unfold bytesI cutS
  rw [← List.map_take, ← List.map_drop]
  congr 1
  show (s.extract l u).data.toList = _
  rw [ByteArray.data_extract, Array.toList_extract, List.drop_take]
theorem cut_bs (l u : Nat) (s : ByteArray) : cutS (l : Int) (u : Int) s = bsI (((bytesI s).take u).drop l) := by rw [← bl_cut, bsI_bl]
theorem span_tw (p : Int → Bool) (s : ByteArray) : ∀ (n i : Nat), i + n = s.size → spanS p s i = i + (((bytesI s).drop i).takeWhile p).length := by
  intro n
  induction n with
  | zero =>
    intro i hi
    have : i = s.size := by omega
    subst this
    rw [spanS_end, List.drop_eq_nil_of_le (by rw [bl_len]; exact Nat.le_refl _)]; rfl
  | succ n ih =>
    intro i hi
    have hlt : i < (bytesI s).length := by rw [bl_len]; omega
    rw [spanS_step p s i (by omega), List.drop_eq_getElem_cons hlt, bl_get, List.takeWhile_cons]
    by_cases hp : p (sAt s (i : Int)) = true
    · rw [if_pos hp, if_pos hp, ih (i + 1) (by omega), List.length_cons]; omega
    · rw [if_neg hp, if_neg hp]; rfl
/-- The value of digits, at most the greatest amount. -/
def numL : List Int → Int → Option Int
  | [], n => some n
  | c :: r, n => if 17592186044416 < n * 10 + (c - 48) then none else numL r (n * 10 + (c - 48))
/-- The number that digits, which a hyphen may precede, stand for. -/
def numberL (l : List Int) : Int × Int :=
  let d := if l.getD 0 0 = 45 then l.drop 1 else l
  if d = [] then (0, 5) else if d.getD 0 0 = 48 ∧ (l.getD 0 0 = 45 ∨ 1 < d.length) then (0, 5) else
  match numL d 0 with
  | none => (0, 1)
  | some n => (if l.getD 0 0 = 45 then -n else n, 0)
theorem num_loop (s : ByteArray) (ng : Bool) (hd : ∀ x ∈ bytesI s, isDig x = true) (hs : s.size ≤ 100000) : loopO (S := Bool × ByteArray × Int × Int × Int × Unit) (R := Int × Int × Unit) (fun s28 =>
 cond (iLt s28.2.2.2.2.1 s28.2.2.2.1)
 (cond (bnd s28.2.2.2.2.1 (sLen s28.2.1))
 (cond (iLt 17592186044416 (iAdd .i64 (iMul .i64 s28.2.2.1 10) (IntKind.wrap .i64 (iSub .u8 (sAt s28.2.1 s28.2.2.2.2.1) 48))))
 (some (.inr (0, 1, ())))
 (some (.inl (s28.1, s28.2.1, iAdd .i64 (iMul .i64 s28.2.2.1 10) (IntKind.wrap .i64 (iSub .u8 (sAt s28.2.1 s28.2.2.2.2.1) 48)), s28.2.2.2.1, iAdd .i64 s28.2.2.2.2.1 1, ())))) none)
 (Option.map Sum.inr (cond s28.1
 (some (iNeg .i64 s28.2.2.1, 0, ()))
 (some (s28.2.2.1, 0, ())))))
 (ng, s, 0, sLen s, 0, ()) = some (match numL (bytesI s) 0 with | none => (0, 1, ()) | some n => (if ng = true then -n else n, 0, ())) := by
  refine T.eq ?_
  have hl := sLen_eq s
  refine T.loop (fun q => ∃ (k : Nat) (n : Int), k ≤ s.size ∧ (0 ≤ n ∧ n ≤ 17592186044416) ∧ numL ((bytesI s).drop k) n = numL (bytesI s) 0 ∧ q = (ng, s, n, sLen s, (k : Int), ())) (fun q => s.size - q.2.2.2.2.1.toNat) ⟨0, 0, by omega, ⟨by omega, by omega⟩, rfl, rfl⟩ ?_
  rintro _ ⟨k, n, hk, ⟨n0, n1⟩, he, rfl⟩
  dsimp only
  rw [← he]
  refine T.cnd (fun hc => ?_) (fun hc => ?_) <;> simp only [iLt_T, iLt_F] at hc
  · have hlt : k < (bytesI s).length := by rw [bl_len]; omega
    refine T.grd (by first | (simp (disch := omega) only [iLt_T, iLt_F, iLe_T, iLe_F, iEq_T, iEq_F, iNe_T, iNe_F, bnd_T, bnd_F, inB_T, inB_F, fits_T, fitsI_T, cutOk_T, someE_T, someE_F, leN_T, not_T, not_F, and_T, and_F, or_T, or_F, candF_T, candF_F, corT_T, corT_F, bEqT_T, bEqT_F, bEqF_T, bEqF_F, eq_self, or_true, true_or, and_true, true_and, or_false, false_or, and_false, false_and, not_true_eq_false, not_false_eq_true, Bool.true_eq_false, Bool.false_eq_true, iAdd64, iSub64, iMul64, lenI_eq, List.length_append, List.length_cons, List.length_nil, List.length_set, List.length_take, List.length_drop, List.length_replicate]; omega) | (simp (disch := omega) only [iLt_T, iLt_F, iLe_T, iLe_F, iEq_T, iEq_F, iNe_T, iNe_F, bnd_T, bnd_F, inB_T, inB_F, fits_T, fitsI_T, cutOk_T, someE_T, someE_F, leN_T, not_T, not_F, and_T, and_F, or_T, or_F, candF_T, candF_F, corT_T, corT_F, bEqT_T, bEqT_F, bEqF_T, bEqF_F, eq_self, or_true, true_or, and_true, true_and, or_false, false_or, and_false, false_and, not_true_eq_false, not_false_eq_true, Bool.true_eq_false, Bool.false_eq_true, iAdd64, iSub64, iMul64, lenI_eq, List.length_append, List.length_cons, List.length_nil, List.length_set, List.length_take, List.length_drop, List.length_replicate]; done)) ?_
    have hdk := hd _ (List.getElem_mem hlt)
    rw [bl_get] at hdk
    have hdk := of_decide_eq_true hdk
    have e1 : IntKind.wrap .i64 (iSub .u8 (sAt s (k : Int)) 48) = sAt s (k : Int) - 48 := by
      have : iSub .u8 (sAt s (k : Int)) 48 = sAt s (k : Int) - 48 := wrap8 (by omega) (by omega)
      rw [this]; exact wrap64 (by omega) (by omega)
    have e2 : iAdd .i64 (iMul .i64 n 10) (sAt s (k : Int) - 48) = n * 10 + (sAt s (k : Int) - 48) := by rw [iMul64 (by omega) (by omega), iAdd64 (by omega) (by omega)]
    rw [e1, e2]
    rw [List.drop_eq_getElem_cons hlt, bl_get]
    simp only [numL]
    refine T.cnd (fun hq => T.out ?_) (fun hq => ?_) <;> simp only [iLt_T, iLt_F] at hq
    · rw [if_pos hq]
    · rw [if_neg (by omega)]
      refine T.go ⟨k + 1, n * 10 + (sAt s (k : Int) - 48), by omega, ⟨by omega, by omega⟩, ?_, by rw [iAdd64 (by omega) (by omega)]; rfl⟩ (by dsimp only; rw [iAdd64 (by omega) (by omega)]; omega)
      rfl
  · refine T.mapL ?_
    rw [List.drop_eq_nil_of_le (by rw [bl_len]; omega)]
    simp only [numL]
    cases ng with
    | true => exact T.ct rfl (T.ret (by rw [iNeg64 (by omega) (by omega)]; rfl))
    | false => exact T.cf rfl (T.ret rfl)
theorem sEq_nil (s : ByteArray) : sEq s (bs []) = decide (bytesI s = []) := by
  rw [Bool.eq_iff_iff, sEq_T, decide_eq_true_eq]
  constructor
  · intro h; rw [h]; rfl
  · intro h; exact bl_inj (by rw [h]; rfl)
theorem number_m (s : ByteArray) (hs : s.size ≤ 100000) (h0 : 0 < s.size) (h1 : isDig (sAt s 0) = true ∨ sAt s 0 = 45) (hd : ∀ x ∈ (bytesI s).drop 1, isDig x = true) : m47 s = some ((numberL (bytesI s)).1, (numberL (bytesI s)).2, ()) := by
  have hl := sLen_eq s
  have hb0 : (bytesI s).getD 0 0 = sAt s 0 := (bl_at s 0).symm
  unfold m47 numberL
  rw [bnd_t (by omega) (by omega)]
  simp only [cond_true]
  by_cases hn : sAt s 0 = 45
  · rw [iEq_t hn]
    simp only [cond_true, hb0, hn, if_true, true_or, and_true]
    rw [cutOk_t (by omega) (by omega) (by omega)]
    have hc : bytesI (cutS 1 ((ByteArray.size s : Nat) : Int) s) = (bytesI s).drop 1 := by
      have := bl_cut 1 s.size s
      rw [List.take_of_length_le (by rw [bl_len]; exact Nat.le_refl _)] at this
      exact this
    have hcl : (cutS 1 ((ByteArray.size s : Nat) : Int) s).size = s.size - 1 := by rw [← bl_len, hc, List.length_drop, bl_len]
    have hc0 : sAt (cutS 1 ((ByteArray.size s : Nat) : Int) s) 0 = ((bytesI s).drop 1).getD 0 0 := by rw [← hc]; exact bl_at _ 0
    generalize cutS 1 ((ByteArray.size s : Nat) : Int) s = t at hc hcl hc0
    rw [sEq_nil, hc, hc0]
    by_cases he : (bytesI s).drop 1 = []
    · rw [if_pos he, decide_eq_true he]
      have e0 : (bnd 0 (sLen t) || !bEq true false) = true := by cases bnd 0 (sLen t) <;> rfl
      rw [e0]; rfl
    · have hlen : 0 < ((bytesI s).drop 1).length := by
        cases hq : (bytesI s).drop 1 with
        | nil => exact absurd hq he
        | cons => simp
      rw [List.length_drop, bl_len] at hlen
      rw [if_neg he, decide_eq_false he, bnd_t (by omega) (by rw [sLen_eq]; omega)]
      simp only [cond_true, cond_false, Bool.true_or]
      have hloop := num_loop t true (by rw [hc]; exact hd) (by omega)
      rw [hc] at hloop
      by_cases h48 : ((bytesI s).drop 1).getD 0 0 = 48
      · rw [if_pos h48, iEq_t h48]; rfl
      · rw [if_neg h48, iEq_f h48]
        simp only [cond_false]
        rw [hloop]
        cases numL ((bytesI s).drop 1) 0 <;> rfl
  · rw [iEq_f hn]
    have hdig := h1.resolve_right hn
    have hne : bytesI s ≠ [] := by
      intro q
      have := bl_len s
      rw [q] at this; simp at this; omega
    simp only [cond_false, hb0, hn, if_false, false_or]
    rw [sEq_nil, if_neg hne, decide_eq_false hne]
    simp only [Bool.true_or, cond_true, cond_false]
    have hall : ∀ x ∈ bytesI s, isDig x = true := by
      intro x hx
      cases hq : bytesI s with
      | nil => exact absurd hq hne
      | cons c r =>
        rw [hq] at hx hd hb0
        rcases List.mem_cons.1 hx with rfl | hx
        · have : x = sAt s 0 := by simpa using hb0
          rw [this]; exact hdig
        · exact hd x (by simpa using hx)
    have hloop := num_loop s false hall hs
    by_cases h48 : sAt s 0 = 48
    · rw [iEq_t h48]
      simp only [cond_true]
      by_cases hlen : 1 < (bytesI s).length
      · rw [if_pos ⟨h48, hlen⟩, iLt_t (by rw [bl_len] at hlen; omega)]; rfl
      · rw [if_neg (fun q => hlen q.2), iLt_f (by rw [bl_len] at hlen; omega)]
        simp only [cond_false]
        rw [hloop]
        cases numL (bytesI s) 0 <;> rfl
    · rw [iEq_f h48, if_neg (fun q => h48 q.1)]
      simp only [cond_false]
      rw [hloop]
      cases numL (bytesI s) 0 <;> rfl
end Abs
end Go.Proofs.YtamgbanmnededaaDoor

/- Lexer: tokens and Scan. -/
namespace Go.Proofs.YtamgbanmnededaaDoor
namespace Abs
set_option linter.unusedVariables false
set_option linter.unusedSimpArgs false
theorem sub_T (s : ByteArray) (hs : s.size ≤ 100) : T (m57 s) (fun _ => True) := by
  unfold m57
  have hl := sLen_eq s
  refine T.loop (fun q => q.1 = s ∧ q.2.2.1 = sLen s ∧ 0 ≤ q.2.2.2.1) (fun q => (sLen s - q.2.2.2.1).toNat) ⟨rfl, rfl, by simp⟩ (fun q ⟨e1, e2, k0⟩ => ?_)
  rw [e1, e2]
  repeat' (first | (refine T.grd ?_ ?_) | (refine T.cnd (fun hc => ?_) (fun hc => ?_) <;> try simp only [iLt_T, iLt_F, iLe_T, iLe_F, iEq_T, iEq_F, iNe_T, iNe_F, bnd_T, bnd_F, inB_T, inB_F, fits_T, fitsI_T, cutOk_T, someE_T, someE_F, leN_T, not_T, not_F, and_T, and_F, or_T, or_F, candF_T, candF_F, corT_T, corT_F, bEqT_T, bEqT_F, bEqF_T, bEqF_F, eq_self, or_true, true_or, and_true, true_and, or_false, false_or, and_false, false_and, not_true_eq_false, not_false_eq_true, Bool.true_eq_false, Bool.false_eq_true] at hc) | (refine T.mapL ?_) | (refine T.mapJ ?_) | (refine T.go ?_ ?_) | (refine T.out ?_) | (refine T.jgo ?_) | (refine T.jout ?_) | (refine T.ret ?_))
  · first | (simp (disch := omega) only [iLt_T, iLt_F, iLe_T, iLe_F, iEq_T, iEq_F, iNe_T, iNe_F, bnd_T, bnd_F, inB_T, inB_F, fits_T, fitsI_T, cutOk_T, someE_T, someE_F, leN_T, not_T, not_F, and_T, and_F, or_T, or_F, candF_T, candF_F, corT_T, corT_F, bEqT_T, bEqT_F, bEqF_T, bEqF_F, eq_self, or_true, true_or, and_true, true_and, or_false, false_or, and_false, false_and, not_true_eq_false, not_false_eq_true, Bool.true_eq_false, Bool.false_eq_true, iAdd64, iSub64, iMul64, lenI_eq, List.length_append, List.length_cons, List.length_nil, List.length_set, List.length_take, List.length_drop, List.length_replicate]; omega) | (simp (disch := omega) only [iLt_T, iLt_F, iLe_T, iLe_F, iEq_T, iEq_F, iNe_T, iNe_F, bnd_T, bnd_F, inB_T, inB_F, fits_T, fitsI_T, cutOk_T, someE_T, someE_F, leN_T, not_T, not_F, and_T, and_F, or_T, or_F, candF_T, candF_F, corT_T, corT_F, bEqT_T, bEqT_F, bEqF_T, bEqF_F, eq_self, or_true, true_or, and_true, true_and, or_false, false_or, and_false, false_and, not_true_eq_false, not_false_eq_true, Bool.true_eq_false, Bool.false_eq_true, iAdd64, iSub64, iMul64, lenI_eq, List.length_append, List.length_cons, List.length_nil, List.length_set, List.length_take, List.length_drop, List.length_replicate]; done)
  · exact ⟨rfl, rfl, by simp (disch := omega) only [iAdd64]; omega⟩
  · simp (disch := omega) only [iAdd64]; omega
  · trivial
theorem tab_rng (k : Int) : 0 ≤ atI ([31, 28, 31, 30, 31, 30, 31, 31, 30, 31, 30, 31] : List Int) k 0 ∧ atI ([31, 28, 31, 30, 31, 30, 31, 31, 30, 31, 30, 31] : List Int) k 0 ≤ 31 := by
  unfold atI
  generalize k.toNat = n
  match n with
  | 0 | 1 | 2 | 3 | 4 | 5 | 6 | 7 | 8 | 9 | 10 | 11 => decide
  | n + 12 => simp
theorem length_T (y m : Int) (h : 1 ≤ m ∧ m ≤ 12) : T (m65 y m) (fun r => 0 ≤ r.1 ∧ r.1 ≤ 31) := by
  unfold m65
  repeat' (first | (refine T.grd ?_ ?_) | (refine T.cnd (fun hc => ?_) (fun hc => ?_) <;> try simp only [iLt_T, iLt_F, iLe_T, iLe_F, iEq_T, iEq_F, iNe_T, iNe_F, bnd_T, bnd_F, inB_T, inB_F, fits_T, fitsI_T, cutOk_T, someE_T, someE_F, leN_T, not_T, not_F, and_T, and_F, or_T, or_F, candF_T, candF_F, corT_T, corT_F, bEqT_T, bEqT_F, bEqF_T, bEqF_F, eq_self, or_true, true_or, and_true, true_and, or_false, false_or, and_false, false_and, not_true_eq_false, not_false_eq_true, Bool.true_eq_false, Bool.false_eq_true] at hc) | (refine T.mapL ?_) | (refine T.mapJ ?_) | (refine T.go ?_ ?_) | (refine T.out ?_) | (refine T.jgo ?_) | (refine T.jout ?_) | (refine T.ret ?_))
  · first | (simp (disch := omega) only [iLt_T, iLt_F, iLe_T, iLe_F, iEq_T, iEq_F, iNe_T, iNe_F, bnd_T, bnd_F, inB_T, inB_F, fits_T, fitsI_T, cutOk_T, someE_T, someE_F, leN_T, not_T, not_F, and_T, and_F, or_T, or_F, candF_T, candF_F, corT_T, corT_F, bEqT_T, bEqT_F, bEqF_T, bEqF_F, eq_self, or_true, true_or, and_true, true_and, or_false, false_or, and_false, false_and, not_true_eq_false, not_false_eq_true, Bool.true_eq_false, Bool.false_eq_true, iAdd64, iSub64, iMul64, lenI_eq, List.length_append, List.length_cons, List.length_nil, List.length_set, List.length_take, List.length_drop, List.length_replicate]; omega) | (simp (disch := omega) only [iLt_T, iLt_F, iLe_T, iLe_F, iEq_T, iEq_F, iNe_T, iNe_F, bnd_T, bnd_F, inB_T, inB_F, fits_T, fitsI_T, cutOk_T, someE_T, someE_F, leN_T, not_T, not_F, and_T, and_F, or_T, or_F, candF_T, candF_F, corT_T, corT_F, bEqT_T, bEqT_F, bEqF_T, bEqF_F, eq_self, or_true, true_or, and_true, true_and, or_false, false_or, and_false, false_and, not_true_eq_false, not_false_eq_true, Bool.true_eq_false, Bool.false_eq_true, iAdd64, iSub64, iMul64, lenI_eq, List.length_append, List.length_cons, List.length_nil, List.length_set, List.length_take, List.length_drop, List.length_replicate]; done)
  · exact ⟨by simp, by simp⟩
  · first | (simp (disch := omega) only [iLt_T, iLt_F, iLe_T, iLe_F, iEq_T, iEq_F, iNe_T, iNe_F, bnd_T, bnd_F, inB_T, inB_F, fits_T, fitsI_T, cutOk_T, someE_T, someE_F, leN_T, not_T, not_F, and_T, and_F, or_T, or_F, candF_T, candF_F, corT_T, corT_F, bEqT_T, bEqT_F, bEqF_T, bEqF_F, eq_self, or_true, true_or, and_true, true_and, or_false, false_or, and_false, false_and, not_true_eq_false, not_false_eq_true, Bool.true_eq_false, Bool.false_eq_true, iAdd64, iSub64, iMul64, lenI_eq, List.length_append, List.length_cons, List.length_nil, List.length_set, List.length_take, List.length_drop, List.length_replicate]; omega) | (simp (disch := omega) only [iLt_T, iLt_F, iLe_T, iLe_F, iEq_T, iEq_F, iNe_T, iNe_F, bnd_T, bnd_F, inB_T, inB_F, fits_T, fitsI_T, cutOk_T, someE_T, someE_F, leN_T, not_T, not_F, and_T, and_F, or_T, or_F, candF_T, candF_F, corT_T, corT_F, bEqT_T, bEqT_F, bEqF_T, bEqF_F, eq_self, or_true, true_or, and_true, true_and, or_false, false_or, and_false, false_and, not_true_eq_false, not_false_eq_true, Bool.true_eq_false, Bool.false_eq_true, iAdd64, iSub64, iMul64, lenI_eq, List.length_append, List.length_cons, List.length_nil, List.length_set, List.length_take, List.length_drop, List.length_replicate]; done)
  · exact tab_rng _
theorem year_T (y : Int) : T (m66 y) (fun r => 0 ≤ r.1 ∧ r.1 ≤ 366) := by
  unfold m66
  repeat' (first | (refine T.grd ?_ ?_) | (refine T.cnd (fun hc => ?_) (fun hc => ?_) <;> try simp only [iLt_T, iLt_F, iLe_T, iLe_F, iEq_T, iEq_F, iNe_T, iNe_F, bnd_T, bnd_F, inB_T, inB_F, fits_T, fitsI_T, cutOk_T, someE_T, someE_F, leN_T, not_T, not_F, and_T, and_F, or_T, or_F, candF_T, candF_F, corT_T, corT_F, bEqT_T, bEqT_F, bEqF_T, bEqF_F, eq_self, or_true, true_or, and_true, true_and, or_false, false_or, and_false, false_and, not_true_eq_false, not_false_eq_true, Bool.true_eq_false, Bool.false_eq_true] at hc) | (refine T.mapL ?_) | (refine T.mapJ ?_) | (refine T.go ?_ ?_) | (refine T.out ?_) | (refine T.jgo ?_) | (refine T.jout ?_) | (refine T.ret ?_))
  · first | (simp (disch := omega) only [iLt_T, iLt_F, iLe_T, iLe_F, iEq_T, iEq_F, iNe_T, iNe_F, bnd_T, bnd_F, inB_T, inB_F, fits_T, fitsI_T, cutOk_T, someE_T, someE_F, leN_T, not_T, not_F, and_T, and_F, or_T, or_F, candF_T, candF_F, corT_T, corT_F, bEqT_T, bEqT_F, bEqF_T, bEqF_F, eq_self, or_true, true_or, and_true, true_and, or_false, false_or, and_false, false_and, not_true_eq_false, not_false_eq_true, Bool.true_eq_false, Bool.false_eq_true, iAdd64, iSub64, iMul64, lenI_eq, List.length_append, List.length_cons, List.length_nil, List.length_set, List.length_take, List.length_drop, List.length_replicate]; omega) | (simp (disch := omega) only [iLt_T, iLt_F, iLe_T, iLe_F, iEq_T, iEq_F, iNe_T, iNe_F, bnd_T, bnd_F, inB_T, inB_F, fits_T, fitsI_T, cutOk_T, someE_T, someE_F, leN_T, not_T, not_F, and_T, and_F, or_T, or_F, candF_T, candF_F, corT_T, corT_F, bEqT_T, bEqT_F, bEqF_T, bEqF_F, eq_self, or_true, true_or, and_true, true_and, or_false, false_or, and_false, false_and, not_true_eq_false, not_false_eq_true, Bool.true_eq_false, Bool.false_eq_true, iAdd64, iSub64, iMul64, lenI_eq, List.length_append, List.length_cons, List.length_nil, List.length_set, List.length_take, List.length_drop, List.length_replicate]; done)
  · exact ⟨by simp, by simp⟩
  · exact ⟨by simp, by simp⟩
theorem hour58_T (d : DS2) (h : Int) : T (m58 d h) (fun _ => True) := by
  unfold m58
  refine T.cnd (fun _ => T.ret trivial) (fun hc => ?_)
  simp only [iLt_T, iLt_F, iLe_T, iLe_F, iEq_T, iEq_F, iNe_T, iNe_F, bnd_T, bnd_F, inB_T, inB_F, fits_T, fitsI_T, cutOk_T, someE_T, someE_F, leN_T, not_T, not_F, and_T, and_F, or_T, or_F, candF_T, candF_F, corT_T, corT_F, bEqT_T, bEqT_F, bEqF_T, bEqF_F, eq_self, or_true, true_or, and_true, true_and, or_false, false_or, and_false, false_and, not_true_eq_false, not_false_eq_true, Bool.true_eq_false, Bool.false_eq_true] at hc
  refine T.call (length_T _ _ ⟨by omega, by omega⟩) (fun y ⟨y0, y1⟩ => ?_)
  refine T.cnd (fun _ => T.ret trivial) (fun hc1 => ?_)
  refine T.cnd (fun _ => T.ret trivial) (fun hc2 => ?_)
  simp only [iLt_T, iLt_F, iLe_T, iLe_F, iEq_T, iEq_F, iNe_T, iNe_F, bnd_T, bnd_F, inB_T, inB_F, fits_T, fitsI_T, cutOk_T, someE_T, someE_F, leN_T, not_T, not_F, and_T, and_F, or_T, or_F, candF_T, candF_F, corT_T, corT_F, bEqT_T, bEqT_F, bEqF_T, bEqF_F, eq_self, or_true, true_or, and_true, true_and, or_false, false_or, and_false, false_and, not_true_eq_false, not_false_eq_true, Bool.true_eq_false, Bool.false_eq_true] at hc1 hc2
  have e1 : iSub .i64 d.2.2.1 1 = d.2.2.1 - 1 := iSub64 (by omega) (by omega)
  rw [e1]
  refine T.loop (fun q => (2000 ≤ q.2.2.1 ∧ q.2.2.1 ≤ 2100) ∧ q.2.2.2.1 = d.1 ∧ q.2.2.2.2.1 = d.2.1) (fun q => (2100 - q.2.2.1).toNat) ⟨⟨by simp, by simp⟩, rfl, rfl⟩ (fun q ⟨⟨q0, q1⟩, q2, q3⟩ => ?_)
  refine T.cnd (fun hc3 => ?_) (fun hc3 => ?_)
  · simp only [q2, iLt_T] at hc3
    refine T.call (year_T _) (fun _ _ => T.go ⟨?_, q2, q3⟩ ?_)
    · dsimp only; rw [iAdd64 (by omega) (by omega)]; omega
    · dsimp only; rw [iAdd64 (by omega) (by omega)]; omega
  · refine T.mapL ?_
    refine T.loop (fun r => (1 ≤ r.2.2.1 ∧ r.2.2.1 ≤ 12) ∧ r.2.2.2.2.1 = d.2.1) (fun r => (12 - r.2.2.1).toNat) ⟨⟨by simp, by simp⟩, q3⟩ (fun r ⟨⟨r0, r1⟩, r3⟩ => ?_)
    refine T.cnd (fun hc4 => ?_) (fun hc4 => T.out trivial)
    simp only [r3, iLt_T] at hc4
    refine T.call (length_T _ _ ⟨r0, r1⟩) (fun _ _ => T.go ⟨?_, r3⟩ ?_)
    · dsimp only; rw [iAdd64 (by omega) (by omega)]; omega
    · dsimp only; rw [iAdd64 (by omega) (by omega)]; omega
theorem fits_T' (c k : Int) : T (m56 c k) (fun _ => True) := by
  unfold m56
  repeat' (first | (refine T.grd ?_ ?_) | (refine T.cnd (fun hc => ?_) (fun hc => ?_) <;> try simp only [iLt_T, iLt_F, iLe_T, iLe_F, iEq_T, iEq_F, iNe_T, iNe_F, bnd_T, bnd_F, inB_T, inB_F, fits_T, fitsI_T, cutOk_T, someE_T, someE_F, leN_T, not_T, not_F, and_T, and_F, or_T, or_F, candF_T, candF_F, corT_T, corT_F, bEqT_T, bEqT_F, bEqF_T, bEqF_F, eq_self, or_true, true_or, and_true, true_and, or_false, false_or, and_false, false_and, not_true_eq_false, not_false_eq_true, Bool.true_eq_false, Bool.false_eq_true] at hc) | (refine T.mapL ?_) | (refine T.mapJ ?_) | (refine T.go ?_ ?_) | (refine T.out ?_) | (refine T.jgo ?_) | (refine T.jout ?_) | (refine T.ret ?_))
  all_goals trivial
theorem cut_size (l u : Nat) (s : ByteArray) (h : u ≤ s.size) (h2 : l ≤ u) : (cutS (l : Int) (u : Int) s).size = u - l := by
  rw [← bl_len, bl_cut, List.length_drop, List.length_take, bl_len]; omega
theorem parse_T (s : ByteArray) : T (m49 s) (fun _ => True) := by
  unfold m49
  have hl := sLen_eq s
  refine T.cnd (fun _ => T.ret trivial) (fun hc => ?_)
  simp only [iLt_T, iLt_F, iLe_T, iLe_F, iEq_T, iEq_F, iNe_T, iNe_F, bnd_T, bnd_F, inB_T, inB_F, fits_T, fitsI_T, cutOk_T, someE_T, someE_F, leN_T, not_T, not_F, and_T, and_F, or_T, or_F, candF_T, candF_F, corT_T, corT_F, bEqT_T, bEqT_F, bEqF_T, bEqF_F, eq_self, or_true, true_or, and_true, true_and, or_false, false_or, and_false, false_and, not_true_eq_false, not_false_eq_true, Bool.true_eq_false, Bool.false_eq_true] at hc
  refine T.loop (fun q => q.1 = s ∧ q.2.1 = sLen s ∧ 0 ≤ q.2.2.1) (fun q => (sLen s - q.2.2.1).toNat) ⟨rfl, rfl, by simp⟩ (fun q ⟨e1, e2, k0⟩ => ?_)
  rw [e1, e2]
  refine T.cnd (fun hc1 => ?_) (fun hc1 => ?_) <;> simp only [iLt_T, iLt_F] at hc1
  · refine T.grd (by first | (simp (disch := omega) only [iLt_T, iLt_F, iLe_T, iLe_F, iEq_T, iEq_F, iNe_T, iNe_F, bnd_T, bnd_F, inB_T, inB_F, fits_T, fitsI_T, cutOk_T, someE_T, someE_F, leN_T, not_T, not_F, and_T, and_F, or_T, or_F, candF_T, candF_F, corT_T, corT_F, bEqT_T, bEqT_F, bEqF_T, bEqF_F, eq_self, or_true, true_or, and_true, true_and, or_false, false_or, and_false, false_and, not_true_eq_false, not_false_eq_true, Bool.true_eq_false, Bool.false_eq_true, iAdd64, iSub64, iMul64, lenI_eq, List.length_append, List.length_cons, List.length_nil, List.length_set, List.length_take, List.length_drop, List.length_replicate]; omega) | (simp (disch := omega) only [iLt_T, iLt_F, iLe_T, iLe_F, iEq_T, iEq_F, iNe_T, iNe_F, bnd_T, bnd_F, inB_T, inB_F, fits_T, fitsI_T, cutOk_T, someE_T, someE_F, leN_T, not_T, not_F, and_T, and_F, or_T, or_F, candF_T, candF_F, corT_T, corT_F, bEqT_T, bEqT_F, bEqF_T, bEqF_F, eq_self, or_true, true_or, and_true, true_and, or_false, false_or, and_false, false_and, not_true_eq_false, not_false_eq_true, Bool.true_eq_false, Bool.false_eq_true, iAdd64, iSub64, iMul64, lenI_eq, List.length_append, List.length_cons, List.length_nil, List.length_set, List.length_take, List.length_drop, List.length_replicate]; done)) ?_
    refine T.call (fits_T' _ _) (fun _ _ => ?_)
    refine T.cnd (fun _ => T.out trivial) (fun _ => T.go ⟨rfl, rfl, ?_⟩ ?_)
    · dsimp only; rw [iAdd64 (by omega) (by omega)]; omega
    · dsimp only; rw [iAdd64 (by omega) (by omega)]; omega
  · refine T.mapL ?_
    have c1 : (cutS 0 4 s).size = 4 := by have := cut_size 0 4 s (by omega) (by omega); exact this
    have c2 : (cutS 5 7 s).size = 2 := by have := cut_size 5 7 s (by omega) (by omega); exact this
    have c3 : (cutS 8 10 s).size = 2 := by have := cut_size 8 10 s (by omega) (by omega); exact this
    refine T.cnd (fun hc2 => ?_) (fun hc2 => ?_)
    · simp only [iEq_T] at hc2
      have c4 : (cutS 11 ((ByteArray.size s : Nat) : Int) s).size = s.size - 11 := by have := cut_size 11 s.size s (Nat.le_refl _) (by omega); exact this
      refine T.grd (cutOk_t (by omega) (by omega) (by omega)) ?_
      refine T.call (sub_T _ (by omega)) (fun _ _ => ?_)
      refine T.grd (cutOk_t (by omega) (by omega) (by omega)) ?_
      refine T.call (sub_T _ (by omega)) (fun _ _ => ?_)
      refine T.grd (cutOk_t (by omega) (by omega) (by omega)) ?_
      refine T.call (sub_T _ (by omega)) (fun _ _ => ?_)
      refine T.grd (cutOk_t (by omega) (by omega) (by omega)) ?_
      refine T.call (sub_T _ (by omega)) (fun _ _ => ?_)
      exact T.call (hour58_T _ _) (fun _ _ => T.ret trivial)
    · refine T.grd (cutOk_t (by omega) (by omega) (by omega)) ?_
      refine T.call (sub_T _ (by omega)) (fun _ _ => ?_)
      refine T.grd (cutOk_t (by omega) (by omega) (by omega)) ?_
      refine T.call (sub_T _ (by omega)) (fun _ _ => ?_)
      refine T.grd (cutOk_t (by omega) (by omega) (by omega)) ?_
      refine T.call (sub_T _ (by omega)) (fun _ _ => ?_)
      exact T.call (hour58_T _ _) (fun _ _ => T.ret trivial)
/-- The hour that a text stands for, or its error. -/
noncomputable def hourS (s : ByteArray) : Int × Int × Unit := (m49 s).getD (0, 0, ())
theorem parse_m (s : ByteArray) : m49 s = some (hourS s) := by
  obtain ⟨v, h, _⟩ := parse_T s
  unfold hourS
  rw [h]; rfl
def isMark (c : Int) : Bool := decide (c = 59 ∨ c = 58 ∨ c = 44 ∨ c = 40 ∨ c = 41)
theorem mark_m (c : Int) : m50 c = some (isMark c, ()) := by
  unfold m50 isMark
  refine T.eq ?_
  repeat' (first | (refine T.grd ?_ ?_) | (refine T.cnd (fun hc => ?_) (fun hc => ?_) <;> try simp only [iLt_T, iLt_F, iLe_T, iLe_F, iEq_T, iEq_F, iNe_T, iNe_F, bnd_T, bnd_F, inB_T, inB_F, fits_T, fitsI_T, cutOk_T, someE_T, someE_F, leN_T, not_T, not_F, and_T, and_F, or_T, or_F, candF_T, candF_F, corT_T, corT_F, bEqT_T, bEqT_F, bEqF_T, bEqF_F, eq_self, or_true, true_or, and_true, true_and, or_false, false_or, and_false, false_and, not_true_eq_false, not_false_eq_true, Bool.true_eq_false, Bool.false_eq_true] at hc) | (refine T.mapL ?_) | (refine T.mapJ ?_) | (refine T.go ?_ ?_) | (refine T.out ?_) | (refine T.jgo ?_) | (refine T.jout ?_) | (refine T.ret ?_))
  all_goals (congr 1; symm; first | (rw [decide_eq_true_eq]; omega) | (rw [decide_eq_false_iff_not]; omega))
def zTok : DS0 := (0, bs [], 0, 0, ())
/-- The token at the beginning of bytes: the token, its length, the error. -/
noncomputable def tokL (r : List Int) (i : Int) : DS0 × Nat × Int :=
  let c := r.getD 0 0
  if isLet c = true then (if wordS (bsI (r.takeWhile isWrd)) = true then ((1, bsI (r.takeWhile isWrd), 0, i, ()), (r.takeWhile isWrd).length, 0) else (zTok, 0, 6))
  else if isDig c = true ∨ c = 45 then
    (if (numberL (c :: (r.drop 1).takeWhile isDig)).2 ≠ 0 then (zTok, 0, (numberL (c :: (r.drop 1).takeWhile isDig)).2) else ((2, bs [], (numberL (c :: (r.drop 1).takeWhile isDig)).1, i, ()), 1 + ((r.drop 1).takeWhile isDig).length, 0))
  else if c = 64 then
    (if (hourS (bsI ((r.drop 1).takeWhile isHr))).2.1 ≠ 0 then (zTok, 0, (hourS (bsI ((r.drop 1).takeWhile isHr))).2.1) else ((3, bs [], (hourS (bsI ((r.drop 1).takeWhile isHr))).1, i, ()), 1 + ((r.drop 1).takeWhile isHr).length, 0))
  else if isMark c = true then ((4, bsI [c], 0, i, ()), 1, 0) else (zTok, 0, 5)
theorem drop_take_cut {xs : List Int} {i k : Nat} : (xs.take (i + k)).drop i = (xs.drop i).take k := by rw [List.drop_take]; congr 1; omega
theorem cut_at (s : ByteArray) (i k : Nat) : cutS (i : Int) ((i + k : Nat) : Int) s = bsI (((bytesI s).drop i).take k) := by rw [cut_bs, drop_take_cut]
theorem tw_take (p : Int → Bool) (r : List Int) : r.take (r.takeWhile p).length = r.takeWhile p := by
  induction r with
  | nil => rfl
  | cons x r ih =>
    rw [List.takeWhile_cons]
    split
    · simp only [List.length_cons, List.take_succ_cons, ih]
    · rfl
theorem tw_le (p : Int → Bool) (r : List Int) : (r.takeWhile p).length ≤ r.length := by
  induction r with
  | nil => exact Nat.le_refl _
  | cons x r ih => rw [List.takeWhile_cons]; split <;> simp <;> omega
theorem tw_mem {p : Int → Bool} {r : List Int} : ∀ x ∈ r.takeWhile p, p x = true := by
  induction r with
  | nil => intro x hx; cases hx
  | cons y r ih =>
    intro x hx
    rw [List.takeWhile_cons] at hx
    split at hx
    · rcases List.mem_cons.1 hx with rfl | hx
      · assumption
      · exact ih x hx
    · cases hx
theorem tw_in {p : Int → Bool} {r : List Int} {x : Int} (h : x ∈ r.takeWhile p) : x ∈ r := by rw [← tw_take] at h; exact List.mem_of_mem_take h
theorem byt_drop {l : List Int} (h : Byt l) (n : Nat) : Byt (l.drop n) := fun x hx => h x (List.mem_of_mem_drop hx)
theorem byt_take {l : List Int} (h : Byt l) (n : Nat) : Byt (l.take n) := fun x hx => h x (List.mem_of_mem_take hx)
theorem token_m (s : ByteArray) (i : Nat) (hi : i < s.size) (hs : s.size ≤ 100000) : m31 s (i : Int) = some ((tokL ((bytesI s).drop i) (i : Int)).1, (if (tokL ((bytesI s).drop i) (i : Int)).2.2 = 0 then ((i + (tokL ((bytesI s).drop i) (i : Int)).2.1 : Nat) : Int) else 0), (tokL ((bytesI s).drop i) (i : Int)).2.2, ()) := by
  have hl := sLen_eq s
  have hbl := bl_len s
  generalize hr : (bytesI s).drop i = r
  have hrl : r.length = s.size - i := by rw [← hr, List.length_drop, hbl]
  have hc : r.getD 0 0 = sAt s (i : Int) := by
    have hlt : i < (bytesI s).length := by omega
    rw [← hr, List.drop_eq_getElem_cons hlt, bl_get]; rfl
  have hr1 : (bytesI s).drop (i + 1) = r.drop 1 := by rw [← hr, List.drop_drop]
  have hbr : Byt r := by rw [← hr]; exact byt_drop (bl_byt s) i
  have hcons : r = sAt s (i : Int) :: r.drop 1 := by
    cases hq : r with
    | nil => rw [hq] at hrl; simp at hrl; omega
    | cons c r' => rw [hq] at hc; simp at hc; rw [← hc]; rfl
  unfold m31 tokL
  dsimp only
  rw [hc, bnd_t (by omega) (by omega), let_m]
  simp only [cond_true, Option.bind_some]
  by_cases h1 : isLet (sAt s (i : Int)) = true
  · rw [if_pos h1, h1]
    simp only [cond_true]
    rw [span1 s i (by omega) (by omega), span_tw isWrd s (s.size - i) i (by omega), hr]
    have hk := tw_le isWrd r
    simp only [Option.bind_some]
    rw [cutOk_t (by omega) (by omega) (by omega), cut_at, hr, tw_take]
    simp only [cond_true]
    rw [word_m _ (by rw [← bl_len, bl_bsI (fun x hx => hbr x (tw_in hx))]; omega)]
    simp only [Option.bind_some]
    by_cases hw : wordS (bsI (r.takeWhile isWrd)) = true
    · rw [if_pos hw, hw]; rfl
    · rw [if_neg hw, Bool.eq_false_iff.2 hw]; rfl
  · rw [if_neg h1, Bool.eq_false_iff.2 h1]
    simp only [cond_false]
    rw [dig_m]
    simp only [Option.bind_some]
    by_cases h2 : isDig (sAt s (i : Int)) = true ∨ sAt s (i : Int) = 45
    · have hcd : (cond (isDig (sAt s (i : Int))) true (iEq (sAt s (i : Int)) 45)) = true := by
        rcases h2 with q | q
        · rw [q]; rfl
        · rw [iEq_t q]; cases isDig (sAt s (i : Int)) <;> rfl
      rw [hcd, if_pos h2, iAdd64 (by omega) (by omega)]
      simp only [cond_true]
      have hsp := span2 s (i + 1) (by omega) (by omega)
      rw [span_tw isDig s (s.size - (i + 1)) (i + 1) (by omega), hr1] at hsp
      rw [show (i : Int) + 1 = ((i + 1 : Nat) : Int) by omega, hsp]
      have hk := tw_le isDig (r.drop 1)
      rw [List.length_drop, hrl] at hk
      simp only [Option.bind_some]
      have hcut : cutS (i : Int) ((i + 1 + ((r.drop 1).takeWhile isDig).length : Nat) : Int) s = bsI (sAt s (i : Int) :: (r.drop 1).takeWhile isDig) := by
        rw [show i + 1 + ((r.drop 1).takeWhile isDig).length = i + (1 + ((r.drop 1).takeWhile isDig).length) by omega, cut_at, hr]
        have e : ∀ q : List Int, (sAt s (i : Int) :: q).take (1 + (q.takeWhile isDig).length) = sAt s (i : Int) :: q.takeWhile isDig := fun q => by rw [Nat.add_comm, List.take_succ_cons, tw_take]
        have e := e (r.drop 1)
        rw [← hcons] at e
        rw [e]
      have hbt : Byt (sAt s (i : Int) :: (r.drop 1).takeWhile isDig) := by
        intro x hx
        rcases List.mem_cons.1 hx with rfl | hx
        · exact sAt_rng s _
        · exact hbr x (List.mem_of_mem_drop (tw_in hx))
      rw [cutOk_t (by omega) (by omega) (by omega), hcut]
      simp only [cond_true]
      have hbb := bl_bsI hbt
      generalize bsI (sAt s (i : Int) :: (r.drop 1).takeWhile isDig) = t at hbb
      have htl : t.size = 1 + ((r.drop 1).takeWhile isDig).length := by rw [← bl_len, hbb, List.length_cons]; omega
      have ht0 : sAt t 0 = sAt s (i : Int) := by have := bl_at t 0; rw [hbb] at this; exact this
      rw [number_m t (by omega) (by omega) (by rw [ht0]; exact h2) (by rw [hbb]; exact tw_mem), hbb]
      simp only [Option.bind_some]
      by_cases hz : (numberL (sAt s (i : Int) :: (r.drop 1).takeWhile isDig)).2 = 0
      · rw [iNe_f hz, if_neg (by simpa using hz)]
        simp only [cond_false, if_true]
        rw [show i + 1 + ((r.drop 1).takeWhile isDig).length = i + (1 + ((r.drop 1).takeWhile isDig).length) by omega]
      · rw [iNe_t hz, if_pos hz]
        simp only [cond_true]
        rw [if_neg hz]; rfl
    · have hcd : (cond (isDig (sAt s (i : Int))) true (iEq (sAt s (i : Int)) 45)) = false := by
        cases hq : isDig (sAt s (i : Int)) with
        | true => exact absurd (.inl hq) h2
        | false => exact iEq_f (fun q => h2 (.inr q))
      rw [hcd, if_neg h2]
      simp only [cond_false]
      by_cases h3 : sAt s (i : Int) = 64
      · rw [iEq_t h3, if_pos h3, iAdd64 (by omega) (by omega)]
        simp only [cond_true]
        have hsp := span3 s (i + 1) (by omega) (by omega)
        rw [span_tw isHr s (s.size - (i + 1)) (i + 1) (by omega), hr1] at hsp
        rw [show (i : Int) + 1 = ((i + 1 : Nat) : Int) by omega, hsp]
        have hk := tw_le isHr (r.drop 1)
        rw [List.length_drop, hrl] at hk
        simp only [Option.bind_some]
        rw [cutOk_t (by omega) (by omega) (by omega), cut_at, hr1, tw_take, parse_m]
        simp only [cond_true, Option.bind_some]
        by_cases hz : (hourS (bsI ((r.drop 1).takeWhile isHr))).2.1 = 0
        · rw [iNe_f hz, if_neg (by simpa using hz)]
          simp only [cond_false, if_true]
          rw [show i + 1 + ((r.drop 1).takeWhile isHr).length = i + (1 + ((r.drop 1).takeWhile isHr).length) by omega]
        · rw [iNe_t hz, if_pos hz]
          simp only [cond_true]
          rw [if_neg hz]; rfl
      · rw [iEq_f h3, if_neg h3, mark_m]
        simp only [cond_false, Option.bind_some]
        by_cases h4 : isMark (sAt s (i : Int)) = true
        · rw [if_pos h4, h4]
          simp only [cond_true, if_true]
          rw [iAdd64 (by omega) (by omega), cutOk_t (by omega) (by omega) (by omega), show (i : Int) + 1 = ((i + 1 : Nat) : Int) by omega, cut_at, hr]
          have : r.take 1 = [sAt s (i : Int)] := by
            conv => lhs; rw [hcons]
            rfl
          rw [this]; rfl
        · rw [if_neg h4, Bool.eq_false_iff.2 h4]; rfl
end Abs
end Go.Proofs.YtamgbanmnededaaDoor

/- Lexer: Scan; the law on names. -/
namespace Go.Proofs.YtamgbanmnededaaDoor
namespace Abs
set_option linter.unusedVariables false
set_option linter.unusedSimpArgs false
/-- What Scan answers, from a place on: so many rounds at most. -/
noncomputable def scanL : Nat → Nat → List DS0 → List Int → List DS0 × Int × Int × Unit
  | 0, _, toks, _ => (toks, 0, 0, ())
  | _ + 1, _, toks, [] => (toks, 0, 0, ())
  | n + 1, i, toks, c :: r =>
    if c = 32 ∨ c = 10 then scanL n (i + 1) toks r
    else if c = 35 then scanL n (i + ((c :: r).takeWhile isLine).length) toks ((c :: r).drop ((c :: r).takeWhile isLine).length)
    else if (tokL (c :: r) (i : Int)).2.2 ≠ 0 then ([], (i : Int), (tokL (c :: r) (i : Int)).2.2, ())
    else if toks.length = 4000 then ([], (i : Int), 4, ())
    else if (tokL (c :: r) (i : Int)).1.1 = 2 ∧ (c :: r).drop (tokL (c :: r) (i : Int)).2.1 ≠ [] ∧ (isLet (((c :: r).drop (tokL (c :: r) (i : Int)).2.1).getD 0 0) = true ∨ ((c :: r).drop (tokL (c :: r) (i : Int)).2.1).getD 0 0 = 45) then ([], ((i + (tokL (c :: r) (i : Int)).2.1 : Nat) : Int), 5, ())
    else scanL n (i + (tokL (c :: r) (i : Int)).2.1) (toks ++ [(tokL (c :: r) (i : Int)).1]) ((c :: r).drop (tokL (c :: r) (i : Int)).2.1)
noncomputable def scanS (s : ByteArray) : List DS0 × Int × Int × Unit := if 16384 < s.size then ([], 0, 4, ()) else scanL s.size 0 [] (bytesI s)
/-- A token has bytes. -/
theorem tok_pos (r : List Int) (i : Int) (h : (tokL r i).2.2 = 0) : 1 ≤ (tokL r i).2.1 ∧ (0 < r.length → (tokL r i).2.1 ≤ r.length) := by
  unfold tokL at h ⊢
  dsimp only at h ⊢
  have hd := tw_le isDig (r.drop 1)
  have hh := tw_le isHr (r.drop 1)
  rw [List.length_drop] at hd hh
  split at h
  · rename_i h1
    rw [if_pos h1]
    split at h
    · rename_i h2
      rw [if_pos h2]
      have hw := tw_le isWrd r
      refine ⟨?_, fun _ => hw⟩
      cases r with
      | nil => simp [isLet] at h1
      | cons c r =>
        have : isWrd c = true := by
          have h1 : isLet c = true := h1
          unfold isWrd; rw [h1]; rfl
        simp only [List.takeWhile_cons, this, if_true, List.length_cons]; omega
    · cases h
  · rename_i h1
    rw [if_neg h1]
    split at h
    · rename_i h2
      rw [if_pos h2]
      split at h
      · rename_i h3; exact absurd h h3
      · rename_i h3; rw [if_neg h3]; exact ⟨by dsimp only; omega, fun _ => by dsimp only; omega⟩
    · rename_i h2
      rw [if_neg h2]
      split at h
      · rename_i h3
        rw [if_pos h3]
        split at h
        · rename_i h4; exact absurd h h4
        · rename_i h4; rw [if_neg h4]; exact ⟨by dsimp only; omega, fun _ => by dsimp only; omega⟩
      · rename_i h3
        rw [if_neg h3]
        split at h
        · rename_i h4; rw [if_pos h4]; exact ⟨by simp, fun q => by dsimp only; omega⟩
        · cases h
theorem scan_m (s : ByteArray) (hs : s.size ≤ 4611686018427387904) : m18 s = some (scanS s) := by
  refine T.eq ?_
  unfold m18 scanS
  have hl := sLen_eq s
  have hbl := bl_len s
  refine T.cnd (fun hc => T.ret ?_) (fun hc => ?_) <;> simp only [iLt_T, iLt_F] at hc
  · rw [if_pos (by omega)]
  rw [if_neg (by omega)]
  generalize htg : scanL s.size 0 [] (bytesI s) = tgt
  refine T.loop (fun q => ∃ (n i : Nat) (toks : List DS0), i ≤ s.size ∧ s.size - i ≤ n ∧ toks.length ≤ 4000 ∧ scanL n i toks ((bytesI s).drop i) = tgt ∧ q = (s, (i : Int), toks, ())) (fun q => s.size - q.2.1.toNat) ⟨s.size, 0, [], by omega, by omega, by simp, htg, rfl⟩ ?_
  rintro _ ⟨n, i, toks, hi, hn, ht, he, rfl⟩
  dsimp only
  refine T.cnd (fun hc1 => ?_) (fun hc1 => ?_) <;> simp only [iLt_T, iLt_F] at hc1
  case refine_2 =>
    refine T.out ?_
    have hd : (bytesI s).drop i = [] := List.drop_eq_nil_of_le (by omega)
    rw [hd] at he
    rw [← he]
    cases n <;> rfl
  have hlt : i < (bytesI s).length := by omega
  obtain ⟨n, rfl⟩ : ∃ m, n = m + 1 := ⟨n - 1, by omega⟩
  have hr := List.drop_eq_getElem_cons hlt
  rw [bl_get] at hr
  have htok := token_m s i (by omega) (by omega)
  have hpos := tok_pos ((bytesI s).drop i) (i : Int)
  have hspan := span_tw isLine s (s.size - i) i (by omega)
  have hnx : ∀ k : Nat, ((bytesI s).drop i).drop k = (bytesI s).drop (i + k) := fun k => by rw [List.drop_drop]
  have hdl : ((bytesI s).drop i).length = s.size - i := by rw [List.length_drop]; omega
  have htl := tw_le isLine ((bytesI s).drop i)
  have hlast : ∀ k : Nat, ((bytesI s).drop (i + k)).getD 0 0 = sAt s ((i + k : Nat) : Int) := fun k => by rw [bl_at]; simp
  generalize hrr : (bytesI s).drop (i + 1) = r at hr
  rw [hr] at htok hpos hspan he hnx hdl htl
  simp only [scanL] at he
  have go : ∀ (k : Nat) (tk : List DS0) (x : Int), x = ((i + k : Nat) : Int) → 1 ≤ k → i + k ≤ s.size → tk.length ≤ 4000 → scanL n (i + k) tk ((bytesI s).drop (i + k)) = tgt → T (some (Sum.inl (β := List DS0 × Int × Int × Unit) (s, x, tk, ()))) (LQ (fun q => ∃ (n i : Nat) (toks : List DS0), i ≤ s.size ∧ s.size - i ≤ n ∧ toks.length ≤ 4000 ∧ scanL n i toks ((bytesI s).drop i) = tgt ∧ q = (s, (i : Int), toks, ())) (fun q => s.size - q.2.1.toNat) (s.size - (i : Int).toNat) (fun x => x = tgt)) := by
    intro k tk x hx h1 h2 h3 h4
    subst hx
    exact T.go ⟨n, i + k, tk, h2, by omega, h3, h4, rfl⟩ (by dsimp only; omega)
  have go1 : scanL n (i + 1) toks r = tgt → T (some (Sum.inl (β := List DS0 × Int × Int × Unit) (s, iAdd .i64 (i : Int) 1, toks, ()))) (LQ (fun q => ∃ (n i : Nat) (toks : List DS0), i ≤ s.size ∧ s.size - i ≤ n ∧ toks.length ≤ 4000 ∧ scanL n i toks ((bytesI s).drop i) = tgt ∧ q = (s, (i : Int), toks, ())) (fun q => s.size - q.2.1.toNat) (s.size - (i : Int).toNat) (fun x => x = tgt)) := fun h =>
    go 1 toks _ (by rw [iAdd64 (by omega) (by omega)]; rfl) (by omega) (by omega) ht (by rw [hrr]; exact h)
  refine T.grd (by rw [bnd_T]; omega) ?_
  refine T.cnd (fun c1 => ?_) (fun c1 => ?_) <;> simp only [iEq_T, iEq_F] at c1
  · rw [if_pos (Or.inl c1)] at he; exact go1 he
  refine T.cnd (fun c2 => ?_) (fun c2 => ?_) <;> simp only [iEq_T, iEq_F] at c2
  · rw [if_pos (Or.inr c2)] at he; exact go1 he
  rw [if_neg (by rintro (h | h); exact c1 h; exact c2 h)] at he
  refine T.cnd (fun c3 => ?_) (fun c3 => ?_) <;> simp only [iEq_T, iEq_F] at c3
  · rw [if_pos c3, hnx] at he
    refine T.callE (span0 s i hi (by omega)) ?_
    refine go _ toks _ (by rw [hspan]) ?_ (by omega) ht he
    rw [List.takeWhile_cons, if_pos (by rw [c3]; rfl), List.length_cons]; omega
  rw [if_neg c3] at he
  refine T.callE htok ?_
  dsimp only
  generalize hk : tokL (sAt s (i : Int) :: r) (i : Int) = tk at he hpos
  obtain ⟨tok, k, fl⟩ := tk
  dsimp only at he hpos ⊢
  refine T.cnd (fun c4 => ?_) (fun c4 => ?_) <;> simp only [iNe_T, iNe_F] at c4
  · rw [if_pos c4] at he; exact T.out he
  rw [if_neg (by simpa using c4)] at he
  have hp := hpos c4
  rw [if_pos c4]
  have hk2 : i + k ≤ s.size := by have := hp.2 (by simp); omega
  refine T.cnd (fun c5 => ?_) (fun c5 => ?_) <;> simp only [iEq_T, iEq_F, lenI_eq] at c5
  · rw [if_pos (by omega)] at he; exact T.out he
  rw [if_neg (by omega), hnx] at he
  have hlen : (toks ++ [tok]).length ≤ 4000 := by rw [List.length_append, List.length_singleton]; omega
  refine T.grd (by rw [fits_T]; simp only [List.length_singleton]; omega) ?_
  have hne : ((bytesI s).drop (i + k) ≠ []) ↔ i + k < s.size := by
    rw [Ne, List.drop_eq_nil_iff]; omega
  rw [hlast] at he
  by_cases c6 : tok.1 = 2 ∧ i + k < s.size
  · refine T.grd (by simp only [iLt_T, iLt_F, iLe_T, iLe_F, iEq_T, iEq_F, iNe_T, iNe_F, bnd_T, bnd_F, inB_T, inB_F, fits_T, fitsI_T, cutOk_T, someE_T, someE_F, leN_T, not_T, not_F, and_T, and_F, or_T, or_F, candF_T, candF_F, corT_T, corT_F, bEqT_T, bEqT_F, bEqF_T, bEqF_F, eq_self, or_true, true_or, and_true, true_and, or_false, false_or, and_false, false_and, not_true_eq_false, not_false_eq_true, Bool.true_eq_false, Bool.false_eq_true]; left; omega) ?_
    refine T.ct (by simp only [iLt_T, iLt_F, iLe_T, iLe_F, iEq_T, iEq_F, iNe_T, iNe_F, bnd_T, bnd_F, inB_T, inB_F, fits_T, fitsI_T, cutOk_T, someE_T, someE_F, leN_T, not_T, not_F, and_T, and_F, or_T, or_F, candF_T, candF_F, corT_T, corT_F, bEqT_T, bEqT_F, bEqF_T, bEqF_F, eq_self, or_true, true_or, and_true, true_and, or_false, false_or, and_false, false_and, not_true_eq_false, not_false_eq_true, Bool.true_eq_false, Bool.false_eq_true]; omega) ?_
    refine T.callE (let_m _) ?_
    dsimp only
    refine T.grd (by simp only [iLt_T, iLt_F, iLe_T, iLe_F, iEq_T, iEq_F, iNe_T, iNe_F, bnd_T, bnd_F, inB_T, inB_F, fits_T, fitsI_T, cutOk_T, someE_T, someE_F, leN_T, not_T, not_F, and_T, and_F, or_T, or_F, candF_T, candF_F, corT_T, corT_F, bEqT_T, bEqT_F, bEqF_T, bEqF_F, eq_self, or_true, true_or, and_true, true_and, or_false, false_or, and_false, false_and, not_true_eq_false, not_false_eq_true, Bool.true_eq_false, Bool.false_eq_true]; left; omega) ?_
    refine T.cnd (fun c7 => ?_) (fun c7 => ?_) <;> simp only [corT_T, corT_F, iEq_T, iEq_F] at c7
    · rw [if_pos ⟨c6.1, hne.2 c6.2, c7⟩] at he
      exact T.out he
    · rw [if_neg (fun h => by rcases h.2.2 with h | h; rw [h] at c7; simp at c7; exact c7.2 h)] at he
      exact go k _ _ rfl hp.1 hk2 hlen he
  · rw [if_neg (fun h => c6 ⟨h.1, hne.1 h.2.1⟩)] at he
    have hcf : cond (iEq tok.1 2) (iLt ((i + k : Nat) : Int) (sLen s)) false = false := by
      simp only [candF_F, iEq_F, iLt_F]; by_cases h : tok.1 = 2
      · right; have : ¬ i + k < s.size := fun q => c6 ⟨h, q⟩
        omega
      · left; exact h
    refine T.grd (by rw [hcf]; simp [bEq]) ?_
    refine T.cf hcf ?_
    exact go k _ _ rfl hp.1 hk2 hlen he
theorem aw_scan : scanS (bs [97, 58, 49]) = ([(1, bs [97], 0, 0, ()), (4, bs [58], 0, 1, ()), (2, bs [], 1, 2, ())], 0, 0, ()) := by
  rfl
theorem sEq_dec (a b : ByteArray) : sEq a b = decide (bytesI a = bytesI b) := by
  rcases h : sEq a b with _ | _
  · rw [sEq_F] at h; symm; rw [decide_eq_false_iff_not]; exact fun q => h (bl_inj q)
  · rw [sEq_T] at h; subst h; symm; rw [decide_eq_true_eq]
theorem bEq_self (a : Bool) : bEq a a = true := by cases a <;> rfl
theorem aw_n1 : nameS (bs [97, 45, 49]) = true := by unfold nameS resS m14; simp only [sEq_dec]; rfl
theorem aw_n2 : nameS (bs [110, 111, 116]) = false := by unfold nameS resS m14; simp only [sEq_dec]; rfl
theorem awake_ok : m9 = some (true, ()) := by
  unfold m9
  rw [scan_m _ (by decide), aw_scan]
  rw [name_m _ (by decide), name_m _ (by decide), aw_n1, aw_n2]
  simp only [sEq_dec]
  rfl
theorem word_T {L : List Int} {a : Int} (h : DeckOk L a) : T (m10 L a) (fun y => DeckOk y.2.1 y.2.2.1 ∧ y.1.size ≤ 16) := by
  unfold m10
  refine T.call (next_T h (by omega) (by omega)) (fun y ⟨h1, h2, h3⟩ => ?_)
  refine T.grd (by rw [bnd_T]; refine ⟨h2, ?_⟩; rw [lenI_eq]; exact h3) ?_
  refine T.grd (by rw [inB_T]; simp only [List.length_cons, List.length_nil]; omega) ?_
  refine T.ret ⟨h1, ?_⟩
  dsimp only
  generalize y.1.toNat = k
  match k with
  | 0 | 1 | 2 | 3 | 4 | 5 | 6 | 7 | 8 | 9 => decide
  | k + 10 => simp
theorem law_names (s : ByteArray) (L : List Int) (b : Int) (h : DeckOk L 0) : m3 s L b = some (true, ()) := by
  refine T.eq ?_
  unfold m3
  rw [awake_ok]
  refine T.cnd (fun hc => T.ret rfl) (fun hc => ?_)
  have hs : s.size ≤ 4611686018427387904 := by rw [iLt_F, sLen_eq] at hc; omega
  refine T.callE (show m11 L = some (L, 0, ()) from rfl) ?_
  refine T.call (word_T h) (fun y ⟨h1, h2⟩ => ?_)
  have hsz : (bsI [b]).size = 1 := rfl
  have hcs : (sCat y.1 (bsI [b])).size = y.1.size + 1 := by unfold sCat; rw [ByteArray.size_append, hsz]
  refine T.grd (by unfold sFits; rw [decide_eq_true_eq, hsz]; omega) ?_
  rw [name_m s hs, name_r s hs, res_m, res_r, name_m _ (by omega), name_r _ (by omega), res_m, res_r, name_m _ (by omega), name_r _ (by omega)]
  simp only [Option.bind_some, bEq_self, cond_true]
  exact T.ret rfl
theorem deck_ok {L : List Int} (h : OkT (.list (.int .i64)) L) : DeckOk L 0 := ⟨fun x hx => ok_i64 ((ok_list (e := .int .i64) h).2 x hx), (ok_list (e := .int .i64) h).1, by omega⟩
end Abs
end Go.Proofs.YtamgbanmnededaaDoor

/- Lexer: steps of Scan; the law on limits. -/
namespace Go.Proofs.YtamgbanmnededaaDoor
namespace Abs
set_option linter.unusedVariables false
set_option linter.unusedSimpArgs false
theorem mark_cases {c : Int} (h : isMark c = true) : c = 59 ∨ c = 58 ∨ c = 44 ∨ c = 40 ∨ c = 41 := of_decide_eq_true h
theorem tok_mark {c : Int} (h : isMark c = true) (r : List Int) (i : Int) : tokL (c :: r) i = ((4, bsI [c], 0, i, ()), 1, 0) := by
  have h2 := mark_cases h
  have e : (c :: r).getD 0 0 = c := rfl
  unfold tokL
  dsimp only
  rw [e, if_neg (by unfold isLet; rw [decide_eq_true_eq]; omega), if_neg (by unfold isDig; rw [decide_eq_true_eq]; omega), if_neg (by omega), if_pos h]
theorem scan_sp {c : Int} (h : c = 32 ∨ c = 10) (n i : Nat) (toks : List DS0) (r : List Int) : scanL (n + 1) i toks (c :: r) = scanL n (i + 1) toks r := by
  simp only [scanL]; rw [if_pos h]
theorem scan_mark {c : Int} (h : isMark c = true) (n i : Nat) (toks : List DS0) (ht : toks.length < 4000) (r : List Int) : scanL (n + 1) i toks (c :: r) = scanL n (i + 1) (toks ++ [(4, bsI [c], 0, (i : Int), ())]) r := by
  have h2 := mark_cases h
  simp only [scanL]
  rw [tok_mark h, if_neg (by omega), if_neg (by omega), if_neg (by simp), if_neg (by omega), if_neg (by simp)]
  rfl
theorem scan_full {c : Int} (h : isMark c = true) (n i : Nat) (toks : List DS0) (ht : toks.length = 4000) (r : List Int) : scanL (n + 1) i toks (c :: r) = ([], (i : Int), 4, ()) := by
  have h2 := mark_cases h
  simp only [scanL]
  rw [tok_mark h, if_neg (by omega), if_neg (by omega), if_neg (by simp), if_pos ht]
theorem scan_end (n i : Nat) (toks : List DS0) : scanL n i toks [] = (toks, 0, 0, ()) := by cases n <;> rfl
theorem scan_sps : ∀ (k n i : Nat) (toks : List DS0) (r : List Int), scanL (n + k) i toks (List.replicate k 32 ++ r) = scanL n (i + k) toks r := by
  intro k
  induction k with
  | zero => intro n i toks r; rfl
  | succ k ih =>
    intro n i toks r
    rw [List.replicate_succ, List.cons_append, ← Nat.add_assoc, scan_sp (.inl rfl), ih]
    congr 1; omega
theorem scan_marks {c : Int} (h : isMark c = true) : ∀ (k n i : Nat) (toks : List DS0) (r : List Int), toks.length + k ≤ 4000 → ∃ t', t'.length = toks.length + k ∧ scanL (n + k) i toks (List.replicate k c ++ r) = scanL n (i + k) t' r := by
  intro k
  induction k with
  | zero => intro n i toks r _; exact ⟨toks, rfl, rfl⟩
  | succ k ih =>
    intro n i toks r hl
    rw [List.replicate_succ, List.cons_append, show n + (k + 1) = (n + k) + 1 from rfl, scan_mark h _ _ _ (by omega)]
    obtain ⟨t', h1, h2⟩ := ih n (i + 1) (toks ++ [(4, bsI [c], 0, (i : Int), ())]) r (by rw [List.length_append, List.length_singleton]; omega)
    refine ⟨t', by rw [h1, List.length_append, List.length_singleton]; omega, ?_⟩
    rw [h2]; congr 1; omega
theorem cat_size (a b : ByteArray) : (sCat a b).size = a.size + b.size := by unfold sCat; rw [ByteArray.size_append]
theorem bl_sz {s : ByteArray} {l : List Int} (h : bytesI s = l) : s.size = l.length := by rw [← h, bl_len]
theorem bsI_size (l : List Int) : (bsI l).size = l.length := by show (l.map _).toArray.size = _; simp
theorem sFits_t {a b : ByteArray} (h : a.size + b.size ≤ 9223372036854775807) : sFits a b = true := by unfold sFits; rw [decide_eq_true_eq]; exact h
theorem byt_rep {n : Nat} {c : Int} (h : 0 ≤ c ∧ c ≤ 255) : Byt (List.replicate n c) := fun x hx => by rw [List.eq_of_mem_replicate hx]; exact h
theorem mark5 (a : Int) (h : 0 ≤ a ∧ a ≤ 255) : 0 ≤ iRem (IntKind.wrap .i64 a) 5 ∧ iRem (IntKind.wrap .i64 a) 5 < 5 ∧ isMark (sAt (bs [59, 58, 44, 40, 41]) (iRem (IntKind.wrap .i64 a) 5)) = true := by
  rw [wrap64 (by omega) (by omega)]
  have e : iRem a 5 = a % 5 := by unfold iRem; rw [Int.tmod_eq_emod_of_nonneg h.1]
  rw [e]
  refine ⟨by omega, by omega, ?_⟩
  have : a % 5 = 0 ∨ a % 5 = 1 ∨ a % 5 = 2 ∨ a % 5 = 3 ∨ a % 5 = 4 := by omega
  rcases this with q | q | q | q | q <;> rw [q] <;> rfl
theorem law_limits (d : Bool) (a : Int) (h : 0 ≤ a ∧ a ≤ 255) : m5 d a = some (true, ()) := by
  refine T.eq ?_
  unfold m5
  obtain ⟨h1, h2, h3⟩ := mark5 a h
  refine T.grd rfl ?_
  refine T.grd (by rw [bnd_T]; exact ⟨h1, h2⟩) ?_
  generalize sAt (bs [59, 58, 44, 40, 41]) (iRem (IntKind.wrap .i64 a) 5) = c at h3
  have hc : 0 ≤ c ∧ c ≤ 255 := by have := mark_cases h3; omega
  have hb1 : bytesI (bsI [c]) = [c] := bl_bsI (fun x hx => by rw [List.mem_singleton.1 hx]; exact hc)
  have hs1 : (bsI [c]).size = 1 := rfl
  refine T.loop (fun q => ∃ (k : Nat) (s : ByteArray), k ≤ 500 ∧ bytesI s = List.replicate k c ∧ q = (d, s, [c], ())) (fun q => 500 - q.2.1.size) ⟨0, bs [], by omega, rfl, rfl⟩ ?_
  rintro _ ⟨k, s, hk, hs, rfl⟩
  dsimp only
  have hsz : s.size = k := by rw [bl_sz hs, List.length_replicate]
  refine T.cnd (fun hc1 => ?_) (fun hc1 => ?_) <;> simp only [iLt_T, iLt_F, sLen_eq] at hc1
  · refine T.grd (sFits_t (by omega)) ?_
    refine T.go ⟨k + 1, _, by omega, ?_, rfl⟩ (by dsimp only; rw [cat_size]; omega)
    rw [bl_cat, hs, hb1, ← List.replicate_succ']
  obtain rfl : k = 500 := by omega
  refine T.mapL ?_
  refine T.cnd (fun _ => ?_) (fun _ => ?_)
  · refine T.grd (sFits_t (by omega)) ?_
    refine T.grd (sFits_t (by simp only [cat_size]; omega)) ?_
    refine T.grd (sFits_t (by simp only [cat_size]; omega)) ?_
    refine T.grd (sFits_t (by simp only [cat_size]; omega)) ?_
    have hB : bytesI (sCat (sCat (sCat (sCat s s) s) s) (sCat (sCat (sCat s s) s) s)) = List.replicate 4000 c := by
      simp only [bl_cat, hs, List.replicate_append_replicate]
    generalize sCat (sCat (sCat (sCat s s) s) s) (sCat (sCat (sCat s s) s) s) = X at hB
    have hX : X.size = 4000 := by rw [bl_sz hB, List.length_replicate]
    have hs2 : (bs [32]).size = 1 := rfl
    have hY : (sCat (sCat X (bs [32])) (bsI [c])).size = 4002 := by rw [cat_size, cat_size]; omega
    have hYB : bytesI (sCat (sCat X (bs [32])) (bsI [c])) = List.replicate 4000 c ++ [32, c] := by rw [bl_cat, bl_cat, hB, hb1, List.append_assoc]; rfl
    rw [scan_m _ (by omega), scan_m _ (by omega)]
    refine T.bind (T.ret ?_)
    refine T.grd (sFits_t (by omega)) ?_
    refine T.grd (sFits_t (by rw [cat_size]; omega)) ?_
    refine T.bind (T.ret ?_)
    obtain ⟨t1, l1, e1⟩ := scan_marks h3 4000 0 0 [] [] (by simp)
    obtain ⟨t2, l2, e2⟩ := scan_marks h3 4000 2 0 [] [32, c] (by simp)
    have r1 : scanS X = (t1, 0, 0, ()) := by
      unfold scanS
      rw [if_neg (by omega), hX, hB]
      rw [List.append_nil] at e1
      rw [show (4000 : Nat) = 0 + 4000 from rfl, e1, scan_end]
    have r2 : scanS (sCat (sCat X (bs [32])) (bsI [c])) = ([], 4001, 4, ()) := by
      unfold scanS
      rw [if_neg (by omega), hY, hYB, show (4002 : Nat) = 2 + 4000 from rfl, e2, scan_sp (.inl rfl), scan_full h3 _ _ _ (by simpa using l2)]
      rfl
    rw [r1, r2]
    refine T.ct ?_ ?_
    · have l1' : t1.length = 4000 := by simpa using l1
      simp only [candF_T, iEq_T, lenI_eq, l1', sLen_eq, hX]
      refine ⟨⟨⟨⟨?_, ?_⟩, ?_⟩, ?_⟩, ?_⟩ <;> first | trivial | rfl
    · rw [awake_ok]; exact T.ret rfl
  · refine T.grd rfl ?_
    have h0 : ((0 : Int), [c], List.replicate (Int.toNat 16384) (0 : Int), ()) = (((0 : Nat) : Int), [c], List.replicate 0 (32 : Int) ++ List.replicate (16384 - 0) 0, ()) := by
      rw [List.replicate_zero, List.nil_append]; rfl
    rw [h0]
    refine T.along 16384 (fun i => ((i : Int), [c], List.replicate i 32 ++ List.replicate (16384 - i) 0, ())) (fun i hi => ?_) ?_
    · dsimp only
      have hl : (List.replicate i (32 : Int) ++ List.replicate (16384 - i) 0).length = 16384 := by rw [List.length_append, List.length_replicate, List.length_replicate]; omega
      refine T.ct (by rw [iLt_T, lenI_eq, hl]; omega) ?_
      refine T.grd (by rw [bnd_T, lenI_eq, hl]; omega) ?_
      refine T.grd (by rw [inB_T, hl]; omega) ?_
      refine T.go ?_ (by omega)
      have e1 : ((i : Int)).toNat = i := by omega
      obtain ⟨m, hm⟩ : ∃ m, 16384 - i = m + 1 := ⟨16384 - i - 1, by omega⟩
      rw [iAdd64 (by omega) (by omega), e1, hm, show 16384 - (i + 1) = m by omega, List.replicate_succ (n := m), List.set_append_right _ _ (by simp), List.length_replicate, Nat.sub_self, List.set_cons_zero, List.replicate_succ' (n := i), List.append_assoc]
      rfl
    · dsimp only
      have hl : (List.replicate 16384 (32 : Int) ++ List.replicate (16384 - 16384) 0) = List.replicate 16384 32 := by rw [Nat.sub_self, List.replicate_zero, List.append_nil]
      rw [hl]
      refine T.cf (by rw [iLt_F, lenI_eq, List.length_replicate]; omega) ?_
      refine T.mapL ?_
      rw [List.length_replicate]
      refine T.grd (by rw [cutOk_T]; omega) ?_
      have ht : List.take (Int.toNat (((16384 : Nat) : Int) - 1)) (List.drop (Int.toNat 1) (List.replicate 16384 (32 : Int))) = List.replicate 16383 32 := by
        rw [List.drop_replicate, List.take_replicate]; rfl
      rw [ht]
      have hsa : (bsI (List.replicate 16383 (32 : Int))).size = 16383 := by rw [bsI_size, List.length_replicate]
      have hsb : (bsI (List.replicate 16384 (32 : Int))).size = 16384 := by rw [bsI_size, List.length_replicate]
      have hba : bytesI (bsI (List.replicate 16383 (32 : Int))) = List.replicate 16383 32 := bl_bsI (byt_rep (by omega))
      generalize bsI (List.replicate 16383 (32 : Int)) = A at hsa hba
      generalize bsI (List.replicate 16384 (32 : Int)) = B at hsb
      have hza : (sCat A (bsI [c])).size = 16384 := by rw [cat_size]; omega
      have hzb : (sCat B (bsI [c])).size = 16385 := by rw [cat_size]; omega
      refine T.grd (sFits_t (by omega)) ?_
      rw [scan_m _ (by omega), scan_m _ (by omega)]
      refine T.bind (T.ret ?_)
      refine T.grd (sFits_t (by omega)) ?_
      refine T.bind (T.ret ?_)
      have r1 : scanS (sCat A (bsI [c])) = ([(4, bsI [c], 0, 16383, ())], 0, 0, ()) := by
        unfold scanS
        rw [if_neg (by omega), hza, bl_cat, hba, hb1, show (16384 : Nat) = 1 + 16383 from rfl, scan_sps, scan_mark h3 _ _ _ (by simp), scan_end]
        rfl
      have r2 : scanS (sCat B (bsI [c])) = ([], 0, 4, ()) := by
        unfold scanS
        rw [if_pos (by omega)]
      rw [r1, r2]
      refine T.grd rfl ?_
      refine T.ct rfl ?_
      rw [awake_ok]; exact T.ret rfl
end Abs
end Go.Proofs.YtamgbanmnededaaDoor

/- Lexer: the calendar's models. -/
namespace Go.Proofs.YtamgbanmnededaaDoor
namespace Abs
set_option linter.unusedVariables false
set_option linter.unusedSimpArgs false
theorem rem_pos {a b : Int} (h : 0 ≤ a) : iRem a b = a % b := by unfold iRem; rw [Int.tmod_eq_emod_of_nonneg h]
theorem yl_m (y : Int) (h : 0 ≤ y) : m66 y = some (Cal.yl y, ()) := by
  unfold m66 Cal.yl
  rw [rem_pos h]
  by_cases q : y % 4 = 0
  · rw [if_pos q, q]; rfl
  · rw [if_neg q, show iEq (y % 4) 0 = false by rw [iEq_F]; exact q]; rfl
theorem tab_eq (k : Nat) : atI ([31, 28, 31, 30, 31, 30, 31, 31, 30, 31, 30, 31] : List Int) (k : Int) 0 = Cal.tab.getD k 0 := by
  unfold atI Cal.tab; rw [Int.toNat_natCast]
theorem len_m (y m : Int) (hy : 0 ≤ y) (h : 1 ≤ m ∧ m ≤ 12) : m65 y m = some (Cal.len y m, ()) := by
  refine T.eq ?_
  unfold m65 Cal.len
  rw [rem_pos hy]
  refine T.grd rfl ?_
  refine T.cnd (fun hc => ?_) (fun hc => ?_) <;> simp only [candF_T, candF_F, iEq_T, iEq_F] at hc
  · rw [if_pos hc]; exact T.ret rfl
  · rw [if_neg (by omega)]
    rw [iSub64 (by omega) (by omega)]
    refine T.grd (by rw [bnd_T]; omega) (T.ret ?_)
    obtain ⟨k, hk⟩ : ∃ k : Nat, m - 1 = (k : Int) := ⟨(m - 1).toNat, by omega⟩
    rw [hk, tab_eq, Int.toNat_natCast]
theorem leap_r (y : Int) (h : 2000 ≤ y ∧ y ≤ 2099) : m70 y = some (decide (y % 4 = 0), ()) := by
  refine T.eq ?_
  unfold m70
  rw [rem_pos (by omega), rem_pos (by omega), rem_pos (by omega)]
  refine T.grd rfl (T.grd rfl ?_)
  refine T.cnd (fun hc => ?_) (fun hc => ?_) <;> simp only [iEq_T, iEq_F] at hc
  · refine T.grd rfl (T.ret ?_)
    congr 1
    rw [decide_eq_true hc, corT_T, iNe_T, iEq_T]; omega
  · refine T.ret ?_
    rw [decide_eq_false hc]
theorem len_r (y m : Int) (hy : 2000 ≤ y ∧ y ≤ 2099) (h : 1 ≤ m ∧ m ≤ 12) : m64 y m = some (Cal.len y m, ()) := by
  refine T.eq ?_
  unfold m64 Cal.len
  rw [leap_r y hy]
  have hm : m = 1 ∨ m = 2 ∨ m = 3 ∨ m = 4 ∨ m = 5 ∨ m = 6 ∨ m = 7 ∨ m = 8 ∨ m = 9 ∨ m = 10 ∨ m = 11 ∨ m = 12 := by omega
  rcases hm with rfl | rfl | rfl | rfl | rfl | rfl | rfl | rfl | rfl | rfl | rfl | rfl <;> first | exact T.ret rfl | skip
  by_cases q : y % 4 = 0
  · rw [if_pos ⟨rfl, q⟩, decide_eq_true q]; exact T.ret rfl
  · rw [if_neg (fun k => q k.2), decide_eq_false q]; exact T.ret rfl
theorem hour_m {y m d h : Int} (k : 2000 ≤ y ∧ y ≤ 2099 ∧ 1 ≤ m ∧ m ≤ 12 ∧ 1 ≤ d ∧ d ≤ Cal.len y m ∧ 0 ≤ h ∧ h ≤ 23) : m58 (y, m, d, ()) h = some (Cal.hv y m d h, Cal.he y m d h, ()) := by
  obtain ⟨e1, e2⟩ := Cal.hv_good k
  have hb := Cal.len_bd y m k.2.2.1 k.2.2.2.1
  rw [e1, e2]
  refine T.eq ?_
  unfold m58
  dsimp only
  refine T.cf (by simp only [corT_F, iLt_F]; omega) ?_
  refine T.callE (len_m y m (by omega) ⟨k.2.2.1, k.2.2.2.1⟩) ?_
  refine T.cf (by rw [iLt_F]; dsimp only; omega) ?_
  refine T.cf (by simp only [corT_F, iLt_F, iLe_F]; omega) ?_
  have hcy : ∀ n : Nat, n ≤ 100 → 0 ≤ Cal.cumY n ∧ Cal.cumY n ≤ 36525 := fun n hn => by rw [Cal.cumY_eq]; omega
  rw [iSub64 (by omega) (by omega)]
  have h0 : (h, d - 1, (2000 : Int), y, m, d, ()) = (h, d - 1 + Cal.cumY 0, 2000 + ((0 : Nat) : Int), y, m, d, ()) := by
    show _ = (h, d - 1 + 0, (2000 : Int) + 0, y, m, d, ()); rw [Int.add_zero, Int.add_zero]
  rw [h0]
  refine T.along (y - 2000).toNat (fun i : Nat => (h, d - 1 + Cal.cumY i, 2000 + (i : Int), y, m, d, ())) (fun i hi => ?_) ?_
  · dsimp only
    refine T.ct (by rw [iLt_T]; omega) ?_
    refine T.callE (yl_m _ (by omega)) ?_
    have hq := Cal.yl_bd (2000 + (i : Int))
    have hz := hcy i (by omega)
    refine T.go ?_ (by omega)
    dsimp only
    rw [iAdd64 (by omega) (by omega), iAdd64 (by omega) (by omega), Cal.cumY, Int.add_assoc, show (2000 : Int) + (i : Int) + 1 = 2000 + ((i + 1 : Nat) : Int) by omega]
  · dsimp only
    refine T.cf (by rw [iLt_F]; omega) ?_
    refine T.mapL ?_
    have hz := hcy (y - 2000).toNat (by omega)
    generalize hA : Cal.cumY (y - 2000).toNat = A at hz
    generalize (2000 : Int) + ((y - 2000).toNat : Int) = Y
    have h0 : (h, d - 1 + A, (1 : Int), y, m, d, ()) = (h, d - 1 + A + Cal.cumM y 0, 1 + ((0 : Nat) : Int), y, m, d, ()) := by
      show _ = (h, d - 1 + A + 0, (1 : Int) + 0, y, m, d, ()); rw [Int.add_zero, Int.add_zero]
    rw [h0]
    refine T.along (m - 1).toNat (fun i : Nat => (h, d - 1 + A + Cal.cumM y i, 1 + (i : Int), y, m, d, ())) (fun i hi => ?_) ?_
    · dsimp only
      refine T.ct (by rw [iLt_T]; omega) ?_
      refine T.callE (len_m _ _ (by omega) (by omega)) ?_
      have hq := Cal.len_bd y (1 + (i : Int)) (by omega) (by omega)
      have hz2 := Cal.cumM_bd y i (by omega)
      refine T.go ?_ (by omega)
      dsimp only
      rw [iAdd64 (by omega) (by omega), iAdd64 (by omega) (by omega), Cal.cumM, Int.add_assoc (d - 1 + A), show (1 : Int) + (i : Int) + 1 = 1 + ((i + 1 : Nat) : Int) by omega, show (1 : Int) + (i : Int) = (i : Int) + 1 by omega]
    · dsimp only
      have hz2 := Cal.cumM_bd y (m - 1).toNat (by omega)
      refine T.cf (by rw [iLt_F]; omega) ?_
      refine T.out ?_
      rw [iMul64 (by omega) (by omega), iAdd64 (by omega) (by omega)]
      congr 1
      omega
theorem civil_r {n y m d : Int} (h0 : 0 ≤ n) (h1 : n ≤ 876599) (hc : Cal.IsCiv n y m d) : m55 n = some ((y, m, d, ()), n % 24, 0, ()) := by
  refine T.eq ?_
  unfold m55 m63
  refine T.bind (T.ret ?_)
  refine T.cf (by simp only [not_F, candF_T, iLe_T]; omega) ?_
  refine T.grd rfl ?_
  have hq : iQuo .i64 n 24 = n / 24 := by unfold iQuo; rw [Int.tdiv_eq_ediv_of_nonneg h0, wrap64 (by omega) (by omega)]
  rw [hq]
  refine T.loop (fun q => ∃ Y M D : Int, 2000 ≤ Y ∧ 1 ≤ M ∧ M ≤ 12 ∧ 0 ≤ D ∧ D + Cal.cumY (Y - 2000).toNat + Cal.cumM Y (M - 1).toNat = n / 24 ∧ q = (n, D, Y, M, 0, 0, 0, ())) (fun q => q.2.1.toNat) ⟨2000, 1, n / 24, by omega, by omega, by omega, by omega, by show n / 24 + 0 + 0 = _; omega, rfl⟩ ?_
  rintro _ ⟨Y, M, D, y0, m0, m1, d0, he, rfl⟩
  dsimp only
  have hm := Cal.cumM_bd Y (M - 1).toNat (by omega)
  have hcy := Cal.cumY_eq (Y - 2000).toNat
  have y1 : Y ≤ 2099 := by
    rcases Int.lt_or_le 2099 Y with q | q
    · exfalso; omega
    · exact q
  have hl := Cal.len_bd Y M m0 m1
  refine T.callE (len_r Y M ⟨y0, y1⟩ ⟨m0, m1⟩) ?_
  refine T.cnd (fun hc1 => ?_) (fun hc1 => ?_) <;> simp only [iLe_T, iLe_F] at hc1
  · refine T.callE (len_r Y M ⟨y0, y1⟩ ⟨m0, m1⟩) ?_
    dsimp only
    rw [iAdd64 (by omega) (by omega), iSub64 (by omega) (by omega), iAdd64 (by omega) (by omega)]
    refine T.cnd (fun hc2 => ?_) (fun hc2 => ?_) <;> simp only [iLt_T, iLt_F] at hc2
    · obtain rfl : M = 12 := by omega
      refine T.go ⟨Y + 1, 1, D - Cal.len Y 12, by omega, by omega, by omega, by omega, ?_, rfl⟩ (by dsimp only; omega)
      have e1 : (Y + 1 - 2000).toNat = (Y - 2000).toNat + 1 := by omega
      have e2 : Cal.cumY ((Y - 2000).toNat + 1) = Cal.cumY (Y - 2000).toNat + Cal.yl Y := by rw [Cal.cumY]; congr 2; omega
      have e3 : Cal.cumM Y 12 = Cal.cumM Y 11 + Cal.len Y 12 := by rw [show (12 : Nat) = 11 + 1 from rfl, Cal.cumM]; rfl
      have e4 : ((12 : Int) - 1).toNat = 11 := rfl
      have e5 : Cal.cumM (Y + 1) ((1 : Int) - 1).toNat = 0 := rfl
      rw [Cal.cumM_12] at e3
      rw [e1, e2, e5]
      rw [e4] at he
      omega
    · refine T.go ⟨Y, M + 1, D - Cal.len Y M, by omega, by omega, by omega, by omega, ?_, rfl⟩ (by dsimp only; omega)
      have e1 : (M + 1 - 1).toNat = (M - 1).toNat + 1 := by omega
      have e2 : Cal.cumM Y ((M - 1).toNat + 1) = Cal.cumM Y (M - 1).toNat + Cal.len Y M := by rw [Cal.cumM]; congr 2; omega
      rw [e1, e2]; omega
  · refine T.mapL ?_
    refine T.grd rfl (T.ret ?_)
    have hc2 : Cal.IsCiv n Y M (D + 1) := ⟨y0, y1, m0, m1, by omega, by omega, by omega⟩
    obtain ⟨rfl, rfl, rfl⟩ := hc.unique hc2
    rw [iAdd64 (by omega) (by omega), rem_pos h0]
end Abs
end Go.Proofs.YtamgbanmnededaaDoor
