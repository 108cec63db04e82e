/- Codec: commands written and read; what is written is read as it was; there is one encoding only. -/
import Derived.Test.YtbghnjkieghloaaC11
namespace Go.Proofs.Ytbghnjkieghloaa
namespace Abs
set_option linter.unusedVariables false
set_option linter.unusedSimpArgs false
theorem numsC_T (c : DS1) (hl : List.length (α := DS0) c.2.1 ≤ 1000) (hk : 1 ≤ c.1 ∧ c.1 ≤ 5) : T (m42 c) (fun r => r.1 = numsC c ∧ (r.2.1 = true ↔ zC c) ∧ r.2.2.1 = true) := by
  obtain ⟨k, ls, t, o, p, a, u⟩ := c
  change List DS0 at ls
  cases u
  dsimp only at hl hk
  have hz : lenI ls = (List.length (α := DS0) ls : Int) := rfl
  unfold m42
  dsimp only
  by_cases h1 : k = 1
  · subst h1
    refine T.ct rfl ?_
    refine T.along ls.length (fun j => (ls, lenI ls, (j : Int), 1, ls, t, o, p, a, [lenI ls] ++ (ls.take j).flatMap losN, 0, t, o, p, a, ())) (fun j hj => ?_) ?_
    · dsimp only
      have hlen := los_len (ls.take j)
      rw [List.length_take] at hlen
      have he : (ls.take (j + 1)).flatMap losN = (ls.take j).flatMap losN ++ losN ls[j] := by rw [show ls.take (j + 1) = ls.take j ++ [ls[j]] from by rw [List.take_append_getElem], List.flatMap_append]; simp only [List.flatMap_cons, List.flatMap_nil, List.append_nil]
      refine T.ct (iLt_t (by omega)) ?_
      refine T.grd (bnd_t (by omega) (by omega)) ?_
      rw [atI_get _ hj]
      refine T.callE (show m61 _ = some (losN ls[j], ()) from rfl) ?_
      refine T.grd (fits_t (by simp only [List.length_append, hlen, losN, List.length_cons, List.length_nil]; omega) (by simp only [List.length_append, hlen, losN, List.length_cons, List.length_nil]; omega)) ?_
      refine T.go ?_ (by simp)
      rw [iAdd64 (by omega) (by omega), he, ← List.append_assoc]; rfl
    · dsimp only
      refine T.cf (iLt_f (by omega)) ?_
      refine T.mapL ?_
      rw [List.take_length]
      have hlen := los_len ls
      refine T.cnd (fun hc => ?_) (fun hc => ?_) <;> simp only [iLt_T, iLt_F, iLe_T, iLe_F, iEq_T, iEq_F, iNe_T, iNe_F, bnd_T, bnd_F, inB_T, inB_F, fits_T, fitsI_T, cutOk_T, someE_T, someE_F, leN_T, not_T, not_F, and_T, and_F, or_T, or_F, candF_T, candF_F, corT_T, corT_F, bEqT_T, bEqT_F, bEqF_T, bEqF_F, eq_self, or_true, true_or, and_true, true_and, or_false, false_or, and_false, false_and, not_true_eq_false, not_false_eq_true, Bool.true_eq_false, Bool.false_eq_true] at hc
      all_goals refine T.grd (fits_t (by simp only [List.length_append, hlen, List.length_cons, List.length_nil]; omega) (by simp only [List.length_append, hlen, List.length_cons, List.length_nil]; omega)) (T.ret ?_)
      all_goals refine ⟨rfl, ?_, rfl⟩
      all_goals simp only [zC, true_iff, iff_true, false_iff, iff_false, iLt_T, iLt_F, iLe_T, iLe_F, iEq_T, iEq_F, iNe_T, iNe_F, bnd_T, bnd_F, inB_T, inB_F, fits_T, fitsI_T, cutOk_T, someE_T, someE_F, leN_T, not_T, not_F, and_T, and_F, or_T, or_F, candF_T, candF_F, corT_T, corT_F, bEqT_T, bEqT_F, bEqF_T, bEqF_F, eq_self, or_true, true_or, and_true, true_and, or_false, false_or, and_false, false_and, not_true_eq_false, not_false_eq_true, Bool.true_eq_false, Bool.false_eq_true]
      all_goals omega
  rcases (show k = 2 ∨ k = 3 ∨ k = 4 ∨ k = 5 by omega) with rfl | rfl | rfl | rfl
  all_goals repeat (first | refine T.ct rfl ?_ | refine T.cf rfl ?_)
  all_goals (refine T.cnd (fun hc => ?_) (fun hc => ?_) <;> simp only [iLt_T, iLt_F, iLe_T, iLe_F, iEq_T, iEq_F, iNe_T, iNe_F, bnd_T, bnd_F, inB_T, inB_F, fits_T, fitsI_T, cutOk_T, someE_T, someE_F, leN_T, not_T, not_F, and_T, and_F, or_T, or_F, candF_T, candF_F, corT_T, corT_F, bEqT_T, bEqT_F, bEqF_T, bEqF_F, eq_self, or_true, true_or, and_true, true_and, or_false, false_or, and_false, false_and, not_true_eq_false, not_false_eq_true, Bool.true_eq_false, Bool.false_eq_true] at hc)
  all_goals refine T.grd rfl (T.ret ?_)
  all_goals refine ⟨rfl, ?_, rfl⟩
  all_goals simp only [zC, true_iff, iff_true, false_iff, iff_false, iLt_T, iLt_F, iLe_T, iLe_F, iEq_T, iEq_F, iNe_T, iNe_F, bnd_T, bnd_F, inB_T, inB_F, fits_T, fitsI_T, cutOk_T, someE_T, someE_F, leN_T, not_T, not_F, and_T, and_F, or_T, or_F, candF_T, candF_F, corT_T, corT_F, bEqT_T, bEqT_F, bEqF_T, bEqF_F, eq_self, or_true, true_or, and_true, true_and, or_false, false_or, and_false, false_and, not_true_eq_false, not_false_eq_true, Bool.true_eq_false, Bool.false_eq_true]
  all_goals omega
theorem numsC_len (c : DS1) : (numsC c).length ≤ 4 + 10 * List.length (α := DS0) c.2.1 := by
  unfold numsC
  split
  · have := los_len c.2.1
    simp only [List.length_append, this, List.length_cons, List.length_nil]; omega
  · repeat' split
    all_goals (simp only [List.length_cons, List.length_nil]; omega)
theorem encC_r (c : DS1) (hl : List.length (α := DS0) c.2.1 ≤ 1000) : m20 c = some (encC c) := by
  refine T.eq ?_
  unfold m20 encC
  by_cases hk : 1 ≤ c.1 ∧ c.1 ≤ 5
  · rw [if_neg (by simpa using hk)]
    refine T.call (numsC_T c hl hk) (fun r ⟨r1, r2, r3⟩ => ?_)
    refine T.cf (by rw [r3]; rfl) ?_
    by_cases hzc : zC c
    · rw [if_neg (by simpa using hzc)]
      refine T.cf (by rw [r2.2 hzc]; rfl) ?_
      have hz : lenI c.2.1 = (List.length (α := DS0) c.2.1 : Int) := rfl
      by_cases h6 : 64 < List.length (α := DS0) c.2.1
      · rw [if_pos h6]; exact T.ct (iLt_t (by omega)) (T.ret rfl)
      · rw [if_neg h6, r1]
        refine T.cf (iLt_f (by omega)) ?_
        exact T.callE (encode_r _ (by have := numsC_len c; omega)) (T.ret rfl)
    · rw [if_pos hzc]
      have : r.2.1 = false := by cases h : r.2.1 with
        | false => rfl
        | true => exact absurd (r2.1 h) hzc
      exact T.ct (by rw [this]; rfl) (T.ret rfl)
  · rw [if_pos hk]
    refine T.callE (show m42 _ = some ([], false, false, ()) from ?_) (T.ct rfl (T.ret rfl))
    unfold m42
    dsimp only
    rw [iEq_f (a := c.1) (b := 1) (by omega), iEq_f (a := c.1) (b := 2) (by omega), iEq_f (a := c.1) (b := 3) (by omega), iEq_f (a := c.1) (b := 4) (by omega), iEq_f (a := c.1) (b := 5) (by omega)]; rfl
/-- So many numbers. -/
def nxN : Nat → List Int → Int → List Int × List Int × Int
  | 0, bs, e => ([], bs, e)
  | k + 1, bs, e => ((nextS bs e).1 :: (nxN k (nextS bs e).2.1 (nextS bs e).2.2.1).1, (nxN k (nextS bs e).2.1 (nextS bs e).2.2.1).2)
theorem nxN_len : ∀ (k : Nat) (bs : List Int) (e : Int), (nxN k bs e).1.length = k := by
  intro k
  induction k with
  | zero => intro bs e; rfl
  | succ k ih => intro bs e; simp only [nxN, List.length_cons, ih]
theorem nxN_succ : ∀ (k : Nat) (bs : List Int) (e : Int), nxN (k + 1) bs e = ((nxN k bs e).1 ++ [(nextS (nxN k bs e).2.1 (nxN k bs e).2.2).1], (nextS (nxN k bs e).2.1 (nxN k bs e).2.2).2.1, (nextS (nxN k bs e).2.1 (nxN k bs e).2.2).2.2.1) := by
  intro k
  induction k with
  | zero => intro bs e; rfl
  | succ k ih =>
    intro bs e
    conv => lhs; unfold nxN
    rw [ih]
    rfl
theorem nxN_bytl : ∀ (k : Nat) {bs : List Int} (e : Int), BytL bs → BytL (nxN k bs e).2.1 := by
  intro k
  induction k with
  | zero => intro bs e h; exact h
  | succ k ih => intro bs e h; exact ih _ (h.next e)
theorem nxN_err : ∀ (k : Nat) (bs : List Int) {e : Int}, e ≠ 0 → (nxN k bs e).2 = (bs, e) := by
  intro k
  induction k with
  | zero => intro bs e _; rfl
  | succ k ih => intro bs e h; simp only [nxN, next_err bs h]; exact ih bs h
/-- A loss of its numbers. -/
def mkLo (l : List Int) : DS0 := (l.getD 0 0, l.getD 1 0, l.getD 2 0, l.getD 3 0, l.getD 4 0, l.getD 5 0, l.getD 6 0, l.getD 7 0, l.getD 8 0, l.getD 9 0, ())
def zCmd : DS1 := (0, [], 0, 0, 0, 0, ())
def finC (c : DS1) (bs : List Int) (e : Int) : DS1 × Int × Unit := if endS bs e ≠ 0 then (zCmd, endS bs e, ()) else (c, 0, ())
/-- Losses that are read. -/
def loS : Nat → List Int → Int → List DS0 → List Int × Int × List DS0
  | 0, bs, e, rows => (bs, e, rows)
  | k + 1, bs, e, rows => if e ≠ 0 then (bs, e, rows) else loS k (nxN 10 bs e).2.1 (nxN 10 bs e).2.2 (rows ++ [mkLo (nxN 10 bs e).1])
def finL (r : List Int × Int × List DS0) : DS1 × Int × Unit := finC (1, r.2.2, 0, 0, 0, 0, ()) r.1 r.2.1
theorem finC_err (c : DS1) (bs : List Int) {e : Int} (h : e ≠ 0) : finC c bs e = (zCmd, e, ()) := by
  have he : endS bs e = e := by unfold endS; rw [if_neg (fun q => h q.1)]
  unfold finC; rw [he, if_pos h]
theorem loS_err (k : Nat) (bs : List Int) {e : Int} (h : e ≠ 0) (rows : List DS0) : loS k bs e rows = (bs, e, rows) := by
  cases k with
  | zero => rfl
  | succ k => unfold loS; rw [if_pos h]
theorem loS_go {k : Nat} {bs : List Int} {rows : List DS0} : loS (k + 1) bs 0 rows = loS k (nxN 10 bs 0).2.1 (nxN 10 bs 0).2.2 (rows ++ [mkLo (nxN 10 bs 0).1]) := by
  conv => lhs; unfold loS
  rw [if_neg (by simp)]
/-- What DecodeCommand answers. -/
def decC (bs : List Int) : DS1 × Int × Unit :=
  if (nextS bs 0).2.2.1 ≠ 0 then (zCmd, (nextS bs 0).2.2.1, ()) else
  if (nextS bs 0).1 = 1 then finL (loS (countS 64 (nextS bs 0).2.1 0).1.toNat (countS 64 (nextS bs 0).2.1 0).2.1 (countS 64 (nextS bs 0).2.1 0).2.2.1 []) else
  if (nextS bs 0).1 = 2 then finC (2, [], 0, 0, 0, 0, ()) (nextS bs 0).2.1 0 else
  if (nextS bs 0).1 = 3 then finC (3, [], (nxN 2 (nextS bs 0).2.1 0).1.getD 0 0, 0, (nxN 2 (nextS bs 0).2.1 0).1.getD 1 0, 0, ()) (nxN 2 (nextS bs 0).2.1 0).2.1 (nxN 2 (nextS bs 0).2.1 0).2.2 else
  if (nextS bs 0).1 = 4 then finC (4, [], (nxN 3 (nextS bs 0).2.1 0).1.getD 0 0, 0, (nxN 3 (nextS bs 0).2.1 0).1.getD 1 0, (nxN 3 (nextS bs 0).2.1 0).1.getD 2 0, ()) (nxN 3 (nextS bs 0).2.1 0).2.1 (nxN 3 (nextS bs 0).2.1 0).2.2 else
  if (nextS bs 0).1 = 5 then finC (5, [], (nxN 2 (nextS bs 0).2.1 0).1.getD 0 0, (nxN 2 (nextS bs 0).2.1 0).1.getD 1 0, 0, 0, ()) (nxN 2 (nextS bs 0).2.1 0).2.1 (nxN 2 (nextS bs 0).2.1 0).2.2 else
  (zCmd, 11, ())
theorem end_T (bs : List Int) (e : Int) : T (m46 bs e) (fun y => y.1 = endS bs e) := by
  obtain ⟨q1, y, q2⟩ := end_m bs e
  rw [q2] at q1
  exact ⟨y, q2, by simpa using q1⟩
theorem endr_T (bs : List Int) (e : Int) : T (m50 bs e) (fun y => y.1 = endS bs e) := by
  obtain ⟨q1, y, q2⟩ := end_r bs e
  rw [q2] at q1
  exact ⟨y, q2, by simpa using q1⟩
theorem losses45 (bs : List Int) (e : Int) (h : BytL bs) : m45 bs e = some ((loS (countS 64 bs e).1.toNat (countS 64 bs e).2.1 (countS 64 bs e).2.2.1 []).1, (loS (countS 64 bs e).1.toNat (countS 64 bs e).2.1 (countS 64 bs e).2.2.1 []).2.1, (loS (countS 64 bs e).1.toNat (countS 64 bs e).2.1 (countS 64 bs e).2.2.1 []).2.2, ()) := by
  refine T.eq ?_
  unfold m45
  refine T.callE (count_m bs e h) ?_
  obtain ⟨k1, k2, k3⟩ := count_rng bs e h
  generalize countS 64 bs e = d at *
  refine T.loop (fun s => ∃ (k : Nat) (xs : List Int) (e : Int) (rows : List DS0), rows.length + k ≤ 64 ∧ BytL xs ∧ loS k xs e rows = loS d.1.toNat d.2.1 d.2.2.1 [] ∧ s = ((k : Int), xs, e, rows, ())) (fun s => s.1.toNat) ⟨d.1.toNat, d.2.1, d.2.2.1, [], by simp; omega, k3, rfl, by rw [Int.toNat_of_nonneg k1]⟩ ?_
  rintro _ ⟨k, xs, e, rows, hr, hx, he, rfl⟩
  dsimp only
  rw [← he]
  refine T.cnd (fun hc => ?_) (fun hc => ?_) <;> simp only [iLt_T, iLt_F, iLe_T, iLe_F, iEq_T, iEq_F, iNe_T, iNe_F, bnd_T, bnd_F, inB_T, inB_F, fits_T, fitsI_T, cutOk_T, someE_T, someE_F, leN_T, not_T, not_F, and_T, and_F, or_T, or_F, candF_T, candF_F, corT_T, corT_F, bEqT_T, bEqT_F, bEqF_T, bEqF_F, eq_self, or_true, true_or, and_true, true_and, or_false, false_or, and_false, false_and, not_true_eq_false, not_false_eq_true, Bool.true_eq_false, Bool.false_eq_true] at hc
  · obtain ⟨hk, rfl⟩ := hc
    obtain ⟨k, rfl⟩ : ∃ j, k = j + 1 := ⟨k - 1, by omega⟩
    have g : ∀ j, BytL (nxN j xs 0).2.1 := fun j => nxN_bytl j 0 hx
    refine T.callE (show m44 (nxN 0 xs 0).2.1 (nxN 0 xs 0).2.2 = some _ from next_m _ _ (g 0).1 (g 0).2) ?_
    refine T.callE (show m44 (nxN 1 xs 0).2.1 (nxN 1 xs 0).2.2 = some _ from next_m _ _ (g 1).1 (g 1).2) ?_
    refine T.callE (show m44 (nxN 2 xs 0).2.1 (nxN 2 xs 0).2.2 = some _ from next_m _ _ (g 2).1 (g 2).2) ?_
    refine T.callE (show m44 (nxN 3 xs 0).2.1 (nxN 3 xs 0).2.2 = some _ from next_m _ _ (g 3).1 (g 3).2) ?_
    refine T.callE (show m44 (nxN 4 xs 0).2.1 (nxN 4 xs 0).2.2 = some _ from next_m _ _ (g 4).1 (g 4).2) ?_
    refine T.callE (show m44 (nxN 5 xs 0).2.1 (nxN 5 xs 0).2.2 = some _ from next_m _ _ (g 5).1 (g 5).2) ?_
    refine T.callE (show m44 (nxN 6 xs 0).2.1 (nxN 6 xs 0).2.2 = some _ from next_m _ _ (g 6).1 (g 6).2) ?_
    refine T.callE (show m44 (nxN 7 xs 0).2.1 (nxN 7 xs 0).2.2 = some _ from next_m _ _ (g 7).1 (g 7).2) ?_
    refine T.callE (show m44 (nxN 8 xs 0).2.1 (nxN 8 xs 0).2.2 = some _ from next_m _ _ (g 8).1 (g 8).2) ?_
    refine T.callE (show m44 (nxN 9 xs 0).2.1 (nxN 9 xs 0).2.2 = some _ from next_m _ _ (g 9).1 (g 9).2) ?_
    refine T.grd (fits_t (by simp only [List.length_cons, List.length_nil]; omega) (by simp only [List.length_cons, List.length_nil]; omega)) ?_
    refine T.go ⟨k, (nxN 10 xs 0).2.1, (nxN 10 xs 0).2.2, rows ++ [mkLo (nxN 10 xs 0).1], by simp only [List.length_append, List.length_cons, List.length_nil]; omega, g 10, by rw [loS_go], ?_⟩ (by dsimp only; simp (disch := omega) only [iSub64]; omega)
    rw [iSub64 (by omega) (by omega), show ((k + 1 : Nat) : Int) - 1 = (k : Int) by omega]; rfl
  · refine T.out ?_
    have : loS k xs e rows = (xs, e, rows) := by
      by_cases h0 : e = 0
      · have : k = 0 := by omega
        subst this; rfl
      · exact loS_err k xs h0 rows
    rw [this]
theorem next_zero (bs : List Int) (e : Int) : (nextS bs e).2.2.1 ≠ 0 → (nextS bs e).1 = 0 := by
  unfold nextS
  split
  · intro _; rfl
  · split
    · intro _; rfl
    · intro h; exact absurd rfl h
theorem decC_m (bs : List Int) (h : BytL bs) : m22 bs = some (decC bs) := by
  refine T.eq ?_
  unfold m22
  refine T.callE (next_m bs 0 h.1 h.2) ?_
  have h1 := h.next 0
  have hzero := next_zero bs 0
  unfold decC
  generalize nextS bs 0 = a at *
  by_cases e0 : a.2.2.1 ≠ 0
  · rw [if_pos e0]
    refine T.join (fun j => j = (0, 0, 0, 0, 0, a.2.1, a.2.2.1, 0, 0, 0, 0, 0, ())) ?_ ?_
    · refine T.cf (iEq_f e0) (T.jgo ?_)
      rw [hzero e0]
    rintro _ rfl
    dsimp only
    refine T.cf rfl (T.cf rfl (T.cf rfl (T.cf rfl ?_)))
    refine T.call (end_T _ _) (fun w hw => ?_)
    have : endS a.2.1 a.2.2.1 = a.2.2.1 := by unfold endS; rw [if_neg (fun q => e0 q.1)]
    rw [hw, this]
    exact T.ct (iNe_t e0) (T.ret rfl)
  have e0 : a.2.2.1 = 0 := by simpa using e0
  rw [if_neg (by simpa using e0), e0]
  by_cases hk : ¬ (a.1 = 1 ∨ a.1 = 2 ∨ a.1 = 3 ∨ a.1 = 4 ∨ a.1 = 5)
  · rw [if_neg (by omega), if_neg (by omega), if_neg (by omega), if_neg (by omega), if_neg (by omega)]
    refine T.join (fun j => j = (0, 0, 0, 0, 0, a.2.1, 11, a.1, 0, 0, 0, 0, ())) ?_ ?_
    · refine T.ct rfl ?_
      refine T.callE (show m39 a.1 = some (false, ()) from ?_) (T.ct rfl (T.jgo rfl))
      unfold m39
      by_cases q : 1 ≤ a.1
      · rw [iLe_t q, iLe_f (by omega)]; rfl
      · rw [iLe_f (by omega)]; rfl
    rintro _ rfl
    dsimp only
    refine T.cf (iEq_f (by omega)) (T.cf (iEq_f (by omega)) (T.cf (iEq_f (by omega)) (T.cf (iEq_f (by omega)) ?_)))
    refine T.call (end_T _ _) (fun w hw => ?_)
    have : endS a.2.1 11 = 11 := by unfold endS; rw [if_neg (by simp)]
    rw [hw, this]
    exact T.ct rfl (T.ret rfl)
  have hk : a.1 = 1 ∨ a.1 = 2 ∨ a.1 = 3 ∨ a.1 = 4 ∨ a.1 = 5 := by omega
  refine T.join (fun j => j = (0, 0, 0, 0, 0, a.2.1, 0, a.1, 0, 0, 0, 0, ())) ?_ ?_
  · refine T.ct rfl ?_
    refine T.callE (show m39 a.1 = some (true, ()) from ?_) (T.cf rfl (T.jgo rfl))
    unfold m39
    rw [iLe_t (by omega), iLe_t (by omega)]; rfl
  rintro _ rfl
  dsimp only
  rcases hk with hk | hk | hk | hk | hk <;> rw [hk]
  · rw [if_pos rfl]
    refine T.ct rfl ?_
    refine T.callE (losses45 _ _ h1) ?_
    unfold finL
    refine T.call (end_T _ _) (fun w hw => ?_)
    rw [hw]
    unfold finC
    refine T.cnd (fun hc => T.ret ?_) (fun hc => T.ret ?_) <;> simp only [iLt_T, iLt_F, iLe_T, iLe_F, iEq_T, iEq_F, iNe_T, iNe_F, bnd_T, bnd_F, inB_T, inB_F, fits_T, fitsI_T, cutOk_T, someE_T, someE_F, leN_T, not_T, not_F, and_T, and_F, or_T, or_F, candF_T, candF_F, corT_T, corT_F, bEqT_T, bEqT_F, bEqF_T, bEqF_F, eq_self, or_true, true_or, and_true, true_and, or_false, false_or, and_false, false_and, not_true_eq_false, not_false_eq_true, Bool.true_eq_false, Bool.false_eq_true] at hc
    · exact (if_pos hc).symm
    · exact (if_neg (fun q => q hc)).symm
  · rw [if_neg (by omega), if_pos rfl]
    refine T.cf rfl (T.cf rfl (T.cf rfl (T.cf rfl ?_)))
    refine T.call (end_T _ _) (fun w hw => ?_)
    rw [hw]
    unfold finC
    refine T.cnd (fun hc => T.ret ?_) (fun hc => T.ret ?_) <;> simp only [iLt_T, iLt_F, iLe_T, iLe_F, iEq_T, iEq_F, iNe_T, iNe_F, bnd_T, bnd_F, inB_T, inB_F, fits_T, fitsI_T, cutOk_T, someE_T, someE_F, leN_T, not_T, not_F, and_T, and_F, or_T, or_F, candF_T, candF_F, corT_T, corT_F, bEqT_T, bEqT_F, bEqF_T, bEqF_F, eq_self, or_true, true_or, and_true, true_and, or_false, false_or, and_false, false_and, not_true_eq_false, not_false_eq_true, Bool.true_eq_false, Bool.false_eq_true] at hc
    · exact (if_pos hc).symm
    · exact (if_neg (fun q => q hc)).symm
  · rw [if_neg (by omega), if_neg (by omega), if_pos rfl]
    refine T.cf rfl (T.ct rfl ?_)
    refine T.callE (show m44 (nxN 0 a.2.1 0).2.1 (nxN 0 a.2.1 0).2.2 = some _ from next_m _ _ (nxN_bytl 0 _ h1).1 (nxN_bytl 0 _ h1).2) ?_
    refine T.callE (show m44 (nxN 1 a.2.1 0).2.1 (nxN 1 a.2.1 0).2.2 = some _ from next_m _ _ (nxN_bytl 1 _ h1).1 (nxN_bytl 1 _ h1).2) ?_
    refine T.call (end_T _ _) (fun w hw => ?_)
    rw [hw]
    unfold finC
    refine T.cnd (fun hc => T.ret ?_) (fun hc => T.ret ?_) <;> simp only [iLt_T, iLt_F, iLe_T, iLe_F, iEq_T, iEq_F, iNe_T, iNe_F, bnd_T, bnd_F, inB_T, inB_F, fits_T, fitsI_T, cutOk_T, someE_T, someE_F, leN_T, not_T, not_F, and_T, and_F, or_T, or_F, candF_T, candF_F, corT_T, corT_F, bEqT_T, bEqT_F, bEqF_T, bEqF_F, eq_self, or_true, true_or, and_true, true_and, or_false, false_or, and_false, false_and, not_true_eq_false, not_false_eq_true, Bool.true_eq_false, Bool.false_eq_true] at hc
    · exact (if_pos hc).symm
    · exact (if_neg (fun q => q hc)).symm
  · rw [if_neg (by omega), if_neg (by omega), if_neg (by omega), if_pos rfl]
    refine T.cf rfl (T.cf rfl (T.ct rfl ?_))
    refine T.callE (show m44 (nxN 0 a.2.1 0).2.1 (nxN 0 a.2.1 0).2.2 = some _ from next_m _ _ (nxN_bytl 0 _ h1).1 (nxN_bytl 0 _ h1).2) ?_
    refine T.callE (show m44 (nxN 1 a.2.1 0).2.1 (nxN 1 a.2.1 0).2.2 = some _ from next_m _ _ (nxN_bytl 1 _ h1).1 (nxN_bytl 1 _ h1).2) ?_
    refine T.callE (show m44 (nxN 2 a.2.1 0).2.1 (nxN 2 a.2.1 0).2.2 = some _ from next_m _ _ (nxN_bytl 2 _ h1).1 (nxN_bytl 2 _ h1).2) ?_
    refine T.call (end_T _ _) (fun w hw => ?_)
    rw [hw]
    unfold finC
    refine T.cnd (fun hc => T.ret ?_) (fun hc => T.ret ?_) <;> simp only [iLt_T, iLt_F, iLe_T, iLe_F, iEq_T, iEq_F, iNe_T, iNe_F, bnd_T, bnd_F, inB_T, inB_F, fits_T, fitsI_T, cutOk_T, someE_T, someE_F, leN_T, not_T, not_F, and_T, and_F, or_T, or_F, candF_T, candF_F, corT_T, corT_F, bEqT_T, bEqT_F, bEqF_T, bEqF_F, eq_self, or_true, true_or, and_true, true_and, or_false, false_or, and_false, false_and, not_true_eq_false, not_false_eq_true, Bool.true_eq_false, Bool.false_eq_true] at hc
    · exact (if_pos hc).symm
    · exact (if_neg (fun q => q hc)).symm
  · rw [if_neg (by omega), if_neg (by omega), if_neg (by omega), if_neg (by omega), if_pos rfl]
    refine T.cf rfl (T.cf rfl (T.cf rfl (T.ct rfl ?_)))
    refine T.callE (show m44 (nxN 0 a.2.1 0).2.1 (nxN 0 a.2.1 0).2.2 = some _ from next_m _ _ (nxN_bytl 0 _ h1).1 (nxN_bytl 0 _ h1).2) ?_
    refine T.callE (show m44 (nxN 1 a.2.1 0).2.1 (nxN 1 a.2.1 0).2.2 = some _ from next_m _ _ (nxN_bytl 1 _ h1).1 (nxN_bytl 1 _ h1).2) ?_
    refine T.call (end_T _ _) (fun w hw => ?_)
    rw [hw]
    unfold finC
    refine T.cnd (fun hc => T.ret ?_) (fun hc => T.ret ?_) <;> simp only [iLt_T, iLt_F, iLe_T, iLe_F, iEq_T, iEq_F, iNe_T, iNe_F, bnd_T, bnd_F, inB_T, inB_F, fits_T, fitsI_T, cutOk_T, someE_T, someE_F, leN_T, not_T, not_F, and_T, and_F, or_T, or_F, candF_T, candF_F, corT_T, corT_F, bEqT_T, bEqT_F, bEqF_T, bEqF_F, eq_self, or_true, true_or, and_true, true_and, or_false, false_or, and_false, false_and, not_true_eq_false, not_false_eq_true, Bool.true_eq_false, Bool.false_eq_true] at hc
    · exact (if_pos hc).symm
    · exact (if_neg (fun q => q hc)).symm
theorem T.alongE {S R : Type} {step : S → Option (S ⊕ R)} {Q : R → Prop} {s0 : S} (n : Nat) (mk : Nat → S) (h0 : s0 = mk 0) (h : ∀ k, k < n → T (step (mk k)) (LQ (fun s => s = mk (k + 1)) (fun _ => 0) 1 Q)) (he : T (step (mk n)) (LQ (fun _ => False) (fun _ => 0) 0 Q)) : T (loopO step s0) Q := by
  rw [h0]; exact T.along n mk h he
theorem set_rep (xs : List Int) (n : Nat) (v : Int) : List.set (xs ++ List.replicate (n + 1) 0) xs.length v = (xs ++ [v]) ++ List.replicate n 0 := by
  rw [List.set_append_right _ _ (Nat.le_refl _), Nat.sub_self, List.replicate_succ, List.set_cons_zero, List.append_assoc]; rfl
theorem decC_r (bs : List Int) (h : BytL bs) : m23 bs = some (decC bs) := by
  refine T.eq ?_
  unfold m23
  refine T.callE (next_r bs 0 h.1 h.2) ?_
  have h1 := h.next 0
  unfold decC
  generalize nextS bs 0 = a at *
  by_cases e0 : a.2.2.1 ≠ 0
  · rw [if_pos e0]
    exact T.ct (iNe_t e0) (T.ret rfl)
  have e0 : a.2.2.1 = 0 := by simpa using e0
  rw [if_neg (by simpa using e0), e0]
  refine T.cf rfl ?_
  by_cases hk : ¬ (a.1 = 1 ∨ a.1 = 2 ∨ a.1 = 3 ∨ a.1 = 4 ∨ a.1 = 5)
  · rw [if_neg (by omega), if_neg (by omega), if_neg (by omega), if_neg (by omega), if_neg (by omega)]
    exact T.cf (iEq_f (by omega)) (T.cf (iEq_f (by omega)) (T.cf (iEq_f (by omega)) (T.cf (iEq_f (by omega)) (T.cf (iEq_f (by omega)) (T.ret rfl)))))
  have hk : a.1 = 1 ∨ a.1 = 2 ∨ a.1 = 3 ∨ a.1 = 4 ∨ a.1 = 5 := by omega
  rcases hk with hk | hk | hk | hk | hk <;> rw [hk]
  · rw [if_pos rfl]
    refine T.ct rfl ?_
    refine T.callE (count_r _ _ h1) ?_
    obtain ⟨k1, k2, k3⟩ := count_rng a.2.1 0 h1
    generalize countS 64 a.2.1 0 = d at *
    refine T.loop (fun s => ∃ (k : Nat) (xs : List Int) (e : Int) (rows : List DS0), rows.length + k ≤ 64 ∧ BytL xs ∧ finL (loS k xs e rows) = finL (loS d.1.toNat d.2.1 d.2.2.1 []) ∧ s = ((k : Int), 0, 0, 0, 0, 0, xs, e, 1, 0, 0, 0, 0, rows, ())) (fun s => s.1.toNat) ⟨d.1.toNat, d.2.1, d.2.2.1, [], by simp; omega, k3, rfl, by rw [Int.toNat_of_nonneg k1]⟩ ?_
    rintro _ ⟨k, xs, e, rows, hr, hx, he, rfl⟩
    dsimp only
    refine T.cnd (fun hc => ?_) (fun hc => ?_) <;> simp only [iLt_T, iLt_F, iLe_T, iLe_F, iEq_T, iEq_F, iNe_T, iNe_F, bnd_T, bnd_F, inB_T, inB_F, fits_T, fitsI_T, cutOk_T, someE_T, someE_F, leN_T, not_T, not_F, and_T, and_F, or_T, or_F, candF_T, candF_F, corT_T, corT_F, bEqT_T, bEqT_F, bEqF_T, bEqF_F, eq_self, or_true, true_or, and_true, true_and, or_false, false_or, and_false, false_and, not_true_eq_false, not_false_eq_true, Bool.true_eq_false, Bool.false_eq_true] at hc
    · obtain ⟨k, rfl⟩ : ∃ j, k = j + 1 := ⟨k - 1, by omega⟩
      refine T.grd rfl ?_
      have g : ∀ j, BytL (nxN j xs e).2.1 := fun j => nxN_bytl j e hx
      refine T.alongE 10 (fun j => (((k + 1 : Nat) : Int), 10, (j : Int), 0, 0, 0, 0, 0, (nxN j xs e).2.1, (nxN j xs e).2.2, 1, 0, 0, 0, 0, (nxN j xs e).1 ++ List.replicate (10 - j) 0, rows, ())) ?_ (fun j hj => ?_) ?_
      · rfl
      · dsimp only
        refine T.ct (iLt_t (by omega)) ?_
        refine T.callE (next_r _ _ (g j).1 (g j).2) ?_
        have hlen : ((nxN j xs e).1 ++ List.replicate (10 - j) (0 : Int)).length = 10 := by rw [List.length_append, nxN_len, List.length_replicate]; omega
        refine T.grd (bnd_t (by omega) (by rw [lenI_eq, hlen]; omega)) ?_
        refine T.grd (inB_t (by rw [hlen]; omega)) ?_
        refine T.go ?_ (by simp)
        have hs := set_rep (nxN j xs e).1 (9 - j) (nextS (nxN j xs e).2.1 (nxN j xs e).2.2).1
        rw [nxN_len, show 9 - j + 1 = 10 - j by omega] at hs
        rw [iAdd64 (by omega) (by omega), nxN_succ, show (10 : Nat) - (j + 1) = 9 - j by omega]
        show (_, _, _, _, _, _, _, _, _, _, _, _, _, _, _, List.set ((nxN j xs e).1 ++ List.replicate (10 - j) 0) j _, _, _) = _
        rw [hs]; rfl
      · dsimp only
        refine T.cf (iLt_f (by omega)) ?_
        refine T.mapL ?_
        have hlen := nxN_len 10 xs e
        rw [show (10 : Nat) - 10 = 0 from rfl, List.replicate_zero, List.append_nil]
        refine T.callE (show m49 (nxN 10 xs e).1 = some (mkLo (nxN 10 xs e).1, ()) from ?_) ?_
        · unfold m49
          rw [bnd_t (n := 0) (by omega) (by rw [lenI_eq, hlen]; decide), bnd_t (n := 1) (by omega) (by rw [lenI_eq, hlen]; decide), bnd_t (n := 2) (by omega) (by rw [lenI_eq, hlen]; decide), bnd_t (n := 3) (by omega) (by rw [lenI_eq, hlen]; decide), bnd_t (n := 4) (by omega) (by rw [lenI_eq, hlen]; decide), bnd_t (n := 5) (by omega) (by rw [lenI_eq, hlen]; decide), bnd_t (n := 6) (by omega) (by rw [lenI_eq, hlen]; decide), bnd_t (n := 7) (by omega) (by rw [lenI_eq, hlen]; decide), bnd_t (n := 8) (by omega) (by rw [lenI_eq, hlen]; decide), bnd_t (n := 9) (by omega) (by rw [lenI_eq, hlen]; decide)]; rfl
        refine T.grd (fits_t (by simp only [List.length_cons, List.length_nil]; omega) (by simp only [List.length_cons, List.length_nil]; omega)) ?_
        refine T.go ⟨k, (nxN 10 xs e).2.1, (nxN 10 xs e).2.2, rows ++ [mkLo (nxN 10 xs e).1], by simp only [List.length_append, List.length_cons, List.length_nil]; omega, g 10, ?_, ?_⟩ (by dsimp only; simp (disch := omega) only [iSub64]; omega)
        · rw [← he]
          by_cases hz : e = 0
          · subst hz; rw [loS_go]
          · rw [nxN_err 10 xs hz, loS_err _ _ hz, loS_err _ _ hz]
            unfold finL
            rw [finC_err _ _ hz, finC_err _ _ hz]
        · rw [iSub64 (by omega) (by omega), show ((k + 1 : Nat) : Int) - 1 = (k : Int) by omega]
    · refine T.mapL ?_
      have : k = 0 := by omega
      subst this
      rw [← he]
      show T _ (fun x => x = finC (1, rows, 0, 0, 0, 0, ()) xs e)
      refine T.call (endr_T _ _) (fun w hw => ?_)
      rw [hw]
      unfold finC
      refine T.cnd (fun hc => T.ret ?_) (fun hc => T.ret ?_) <;> simp only [iLt_T, iLt_F, iLe_T, iLe_F, iEq_T, iEq_F, iNe_T, iNe_F, bnd_T, bnd_F, inB_T, inB_F, fits_T, fitsI_T, cutOk_T, someE_T, someE_F, leN_T, not_T, not_F, and_T, and_F, or_T, or_F, candF_T, candF_F, corT_T, corT_F, bEqT_T, bEqT_F, bEqF_T, bEqF_F, eq_self, or_true, true_or, and_true, true_and, or_false, false_or, and_false, false_and, not_true_eq_false, not_false_eq_true, Bool.true_eq_false, Bool.false_eq_true] at hc
      · exact (if_pos hc).symm
      · exact (if_neg (fun q => q hc)).symm

  · rw [if_neg (by omega), if_pos rfl]
    refine T.cf rfl (T.ct rfl ?_)
    refine T.call (endr_T _ _) (fun w hw => ?_)
    rw [hw]
    unfold finC
    refine T.cnd (fun hc => T.ret ?_) (fun hc => T.ret ?_) <;> simp only [iLt_T, iLt_F, iLe_T, iLe_F, iEq_T, iEq_F, iNe_T, iNe_F, bnd_T, bnd_F, inB_T, inB_F, fits_T, fitsI_T, cutOk_T, someE_T, someE_F, leN_T, not_T, not_F, and_T, and_F, or_T, or_F, candF_T, candF_F, corT_T, corT_F, bEqT_T, bEqT_F, bEqF_T, bEqF_F, eq_self, or_true, true_or, and_true, true_and, or_false, false_or, and_false, false_and, not_true_eq_false, not_false_eq_true, Bool.true_eq_false, Bool.false_eq_true] at hc
    · exact (if_pos hc).symm
    · exact (if_neg (fun q => q hc)).symm
  · rw [if_neg (by omega), if_neg (by omega), if_pos rfl]
    refine T.cf rfl (T.cf rfl (T.ct rfl ?_))
    refine T.callE (show m47 (nxN 0 a.2.1 0).2.1 (nxN 0 a.2.1 0).2.2 = some _ from next_r _ _ (nxN_bytl 0 _ h1).1 (nxN_bytl 0 _ h1).2) ?_
    refine T.callE (show m47 (nxN 1 a.2.1 0).2.1 (nxN 1 a.2.1 0).2.2 = some _ from next_r _ _ (nxN_bytl 1 _ h1).1 (nxN_bytl 1 _ h1).2) ?_
    refine T.call (endr_T _ _) (fun w hw => ?_)
    rw [hw]
    unfold finC
    refine T.cnd (fun hc => T.ret ?_) (fun hc => T.ret ?_) <;> simp only [iLt_T, iLt_F, iLe_T, iLe_F, iEq_T, iEq_F, iNe_T, iNe_F, bnd_T, bnd_F, inB_T, inB_F, fits_T, fitsI_T, cutOk_T, someE_T, someE_F, leN_T, not_T, not_F, and_T, and_F, or_T, or_F, candF_T, candF_F, corT_T, corT_F, bEqT_T, bEqT_F, bEqF_T, bEqF_F, eq_self, or_true, true_or, and_true, true_and, or_false, false_or, and_false, false_and, not_true_eq_false, not_false_eq_true, Bool.true_eq_false, Bool.false_eq_true] at hc
    · exact (if_pos hc).symm
    · exact (if_neg (fun q => q hc)).symm
  · rw [if_neg (by omega), if_neg (by omega), if_neg (by omega), if_pos rfl]
    refine T.cf rfl (T.cf rfl (T.cf rfl (T.ct rfl ?_)))
    refine T.callE (show m47 (nxN 0 a.2.1 0).2.1 (nxN 0 a.2.1 0).2.2 = some _ from next_r _ _ (nxN_bytl 0 _ h1).1 (nxN_bytl 0 _ h1).2) ?_
    refine T.callE (show m47 (nxN 1 a.2.1 0).2.1 (nxN 1 a.2.1 0).2.2 = some _ from next_r _ _ (nxN_bytl 1 _ h1).1 (nxN_bytl 1 _ h1).2) ?_
    refine T.callE (show m47 (nxN 2 a.2.1 0).2.1 (nxN 2 a.2.1 0).2.2 = some _ from next_r _ _ (nxN_bytl 2 _ h1).1 (nxN_bytl 2 _ h1).2) ?_
    refine T.call (endr_T _ _) (fun w hw => ?_)
    rw [hw]
    unfold finC
    refine T.cnd (fun hc => T.ret ?_) (fun hc => T.ret ?_) <;> simp only [iLt_T, iLt_F, iLe_T, iLe_F, iEq_T, iEq_F, iNe_T, iNe_F, bnd_T, bnd_F, inB_T, inB_F, fits_T, fitsI_T, cutOk_T, someE_T, someE_F, leN_T, not_T, not_F, and_T, and_F, or_T, or_F, candF_T, candF_F, corT_T, corT_F, bEqT_T, bEqT_F, bEqF_T, bEqF_F, eq_self, or_true, true_or, and_true, true_and, or_false, false_or, and_false, false_and, not_true_eq_false, not_false_eq_true, Bool.true_eq_false, Bool.false_eq_true] at hc
    · exact (if_pos hc).symm
    · exact (if_neg (fun q => q hc)).symm
  · rw [if_neg (by omega), if_neg (by omega), if_neg (by omega), if_neg (by omega), if_pos rfl]
    refine T.cf rfl (T.cf rfl (T.cf rfl (T.cf rfl (T.ct rfl ?_))))
    refine T.callE (show m47 (nxN 0 a.2.1 0).2.1 (nxN 0 a.2.1 0).2.2 = some _ from next_r _ _ (nxN_bytl 0 _ h1).1 (nxN_bytl 0 _ h1).2) ?_
    refine T.callE (show m47 (nxN 1 a.2.1 0).2.1 (nxN 1 a.2.1 0).2.2 = some _ from next_r _ _ (nxN_bytl 1 _ h1).1 (nxN_bytl 1 _ h1).2) ?_
    refine T.call (endr_T _ _) (fun w hw => ?_)
    rw [hw]
    unfold finC
    refine T.cnd (fun hc => T.ret ?_) (fun hc => T.ret ?_) <;> simp only [iLt_T, iLt_F, iLe_T, iLe_F, iEq_T, iEq_F, iNe_T, iNe_F, bnd_T, bnd_F, inB_T, inB_F, fits_T, fitsI_T, cutOk_T, someE_T, someE_F, leN_T, not_T, not_F, and_T, and_F, or_T, or_F, candF_T, candF_F, corT_T, corT_F, bEqT_T, bEqT_F, bEqF_T, bEqF_F, eq_self, or_true, true_or, and_true, true_and, or_false, false_or, and_false, false_and, not_true_eq_false, not_false_eq_true, Bool.true_eq_false, Bool.false_eq_true] at hc
    · exact (if_pos hc).symm
    · exact (if_neg (fun q => q hc)).symm
theorem sameL_refl (l : List DS0) (hl : l.length ≤ 1000000) : m51 l l = some (true, ()) := by
  unfold m51
  rw [iNe_f rfl]
  simp only [cond_false]
  refine loop_to (fun k => (l, l, lenI l, (k : Int), ())) l.length (fun k hk => ?_) ?_
  · dsimp only
    rw [iLt_t (by rw [lenI_eq]; omega), bnd_t (by omega) (by rw [lenI_eq]; omega), iEq_t rfl, iEq_t rfl, iEq_t rfl, iEq_t rfl, iEq_t rfl, iEq_t rfl, iEq_t rfl, iEq_t rfl, iEq_t rfl, iEq_t rfl, iAdd64 (by omega) (by omega)]; rfl
  · dsimp only
    rw [iLt_f (by rw [lenI_eq]; omega)]; rfl
theorem sameC_refl (c : DS1) (hl : List.length (α := DS0) c.2.1 ≤ 1000000) : m24 c c = some (true, ()) := by
  unfold m24
  rw [iEq_t rfl, sameL_refl _ hl, iEq_t rfl, iEq_t rfl, iEq_t rfl, iEq_t rfl]; rfl
theorem encC_byt (c : DS1) : Byt (encC c).1 ∧ (encC c).1.length ≤ 4508 := by
  unfold encC
  split
  · exact ⟨fun x hx => by simp at hx, by simp⟩
  split
  · exact ⟨fun x hx => by simp at hx, by simp⟩
  split
  · exact ⟨fun x hx => by simp at hx, by simp⟩
  · refine ⟨encodeS_byt _, ?_⟩
    have h1 := encodeS_len (numsC c)
    have h2 := numsC_len c
    omega
theorem loS_len : ∀ (k : Nat) (bs : List Int) (e : Int) (rows : List DS0), rows.length + k ≤ 100 → (loS k bs e rows).2.2.length ≤ 100 := by
  intro k
  induction k with
  | zero => intro bs e rows h; exact h
  | succ k ih =>
    intro bs e rows h
    unfold loS
    split
    · show rows.length ≤ 100; omega
    · exact ih _ _ _ (by simp; omega)
theorem finC_len {c : DS1} (bs : List Int) (e : Int) (h : List.length (α := DS0) c.2.1 ≤ 100) : List.length (α := DS0) (finC c bs e).1.2.1 ≤ 100 := by
  unfold finC
  split
  · exact Nat.zero_le _
  · exact h
theorem decC_len (bs : List Int) (h : BytL bs) : List.length (α := DS0) (decC bs).1.2.1 ≤ 100 := by
  unfold decC
  split
  · exact Nat.zero_le _
  split
  · have := count_rng (nextS bs 0).2.1 0 (h.next 0)
    exact finC_len _ _ (loS_len _ _ _ _ (by simp; omega))
  repeat' split
  all_goals first | exact finC_len _ _ (Nat.zero_le _) | exact Nat.zero_le _
theorem encC_deck {k t o p a : Int} {ls : List DS0} (h : CmdOk k ls t o p a) : (encC (k, ls, t, o, p, a, ())).2.1 = 0 := by
  obtain ⟨hl, hlo, ht, ho, hp, ha, hk⟩ := h
  have hz : lenI ls = (List.length (α := DS0) ls : Int) := rfl
  unfold encC
  have hk5 : 1 ≤ k ∧ k ≤ 5 := by omega
  have hzc : zC (k, ls, t, o, p, a, ()) := by
    unfold zC
    dsimp only
    rcases hk with q | q | q | q | q
    · omega
    all_goals (obtain ⟨q1, q2, q⟩ := q; subst q2; exact ⟨by omega, by omega, by omega, by omega, by omega, .inr rfl⟩)
  rw [if_neg (fun q => q hk5), if_neg (fun q => q hzc), if_neg (by show ¬ 64 < List.length (α := DS0) ls; omega)]
  unfold encodeS
  rw [if_pos]
  rw [List.all_eq_true]
  intro v hv
  have hlv : ∀ x ∈ ls, ∀ v ∈ losN x, vAmt v = true := by
    intro x hx v hv
    obtain ⟨⟨a0, b0⟩, ⟨a1, b1⟩, ⟨a2, b2⟩, ⟨a3, b3⟩, ⟨a4, b4⟩, ⟨a5, b5⟩, ⟨a6, b6⟩, ⟨a7, b7⟩, ⟨a8, b8⟩, ⟨a9, b9⟩⟩ := hlo x hx
    simp only [losN, List.mem_cons, List.not_mem_nil, or_false] at hv
    rcases hv with rfl | rfl | rfl | rfl | rfl | rfl | rfl | rfl | rfl | rfl <;> exact vAmt_t (by omega) (by omega)
  unfold numsC at hv
  dsimp only at hv
  split at hv
  · rcases List.mem_append.1 hv with q | q
    · simp only [List.mem_cons, List.not_mem_nil, or_false] at q
      rcases q with rfl | rfl <;> exact vAmt_t (by omega) (by omega)
    · obtain ⟨x, h1, h2⟩ := List.mem_flatMap.1 q
      exact hlv x h1 v h2
  repeat' split at hv
  all_goals simp only [List.mem_cons, List.not_mem_nil, or_false] at hv
  · subst hv; exact vAmt_t (by omega) (by omega)
  · rcases hv with rfl | rfl | rfl <;> exact vAmt_t (by omega) (by omega)
  · rcases hv with rfl | rfl | rfl | rfl <;> exact vAmt_t (by omega) (by omega)
  · rcases hv with rfl | rfl | rfl <;> exact vAmt_t (by omega) (by omega)
theorem law_command (c : DS1) (raw deck : List Int) (at_ by_ : Int) (hraw : Byt raw) (hd : DeckOk deck 0) (hb : 0 ≤ by_ ∧ by_ ≤ 255) : m5 c raw deck at_ by_ = some (true, ()) := by
  refine T.eq ?_
  unfold m5
  refine T.cnd (fun _ => T.callE awake_ok (T.ret rfl)) (fun hc => ?_)
  simp only [iLt_T, iLt_F, iLe_T, iLe_F, iEq_T, iEq_F, iNe_T, iNe_F, bnd_T, bnd_F, inB_T, inB_F, fits_T, fitsI_T, cutOk_T, someE_T, someE_F, leN_T, not_T, not_F, and_T, and_F, or_T, or_F, candF_T, candF_F, corT_T, corT_F, bEqT_T, bEqT_F, bEqF_T, bEqF_F, eq_self, or_true, true_or, and_true, true_and, or_false, false_or, and_false, false_and, not_true_eq_false, not_false_eq_true, Bool.true_eq_false, Bool.false_eq_true, lenI_eq] at hc
  refine T.callE (show m10 deck = some (deck, 0, ()) from rfl) ?_
  refine T.call (cmd_T hd) (fun u ⟨_, u1⟩ => ?_)
  have hx := encC_deck u1
  have hul := u1.1
  generalize hxs : ([(c.1, c.2.1, c.2.2.1, c.2.2.2.1, c.2.2.2.2.1, c.2.2.2.2.2.1, ()), (u.1, u.2.1, u.2.2.1, u.2.2.2.1, u.2.2.2.2.1, u.2.2.2.2.2.1, ())] : List DS1) = xs
  have hxl : xs.length = 2 := by rw [← hxs]; rfl
  have hxb : ∀ x ∈ xs, List.length (α := DS0) x.2.1 ≤ 80 := by
    rw [← hxs]
    intro x hx
    simp only [List.mem_cons, List.not_mem_nil, or_false] at hx
    rcases hx with rfl | rfl <;> dsimp only <;> omega
  refine T.along xs.length (fun k => (raw, at_, by_, lenI xs, (k : Int), u.1, u.2.1, u.2.2.1, u.2.2.2.1, u.2.2.2.2.1, u.2.2.2.2.2.1, xs, ())) (fun k hk => ?_) ?_
  · dsimp only
    refine T.ct (iLt_t (by rw [lenI_eq]; omega)) ?_
    refine T.grd (bnd_t (by omega) (by rw [lenI_eq]; omega)) ?_
    refine T.grd (inB_t (by simpa using hk)) ?_
    have hk' : (Int.toNat (k : Int)) < xs.length := by omega
    rw [getD_get _ hk']
    have hy := hxb _ (List.getElem_mem hk')
    refine T.callE (encC_m _) (T.callE (encC_r _ (by dsimp only; omega)) ?_)
    refine T.callE (same_refl _ (Nat.le_trans (encC_byt _).2 (by omega))) ?_
    refine T.cf (by rw [iNe_f rfl]; rfl) ?_
    exact T.go (by rw [iAdd64 (by omega) (by omega)]; rfl) (by simp)
  · dsimp only
    refine T.cf (iLt_f (by rw [lenI_eq]; omega)) ?_
    refine T.mapL ?_
    refine T.callE (encC_r _ (by dsimp only; omega)) ?_
    have hbb := encC_byt (u.1, u.2.1, u.2.2.1, u.2.2.2.1, u.2.2.2.2.1, u.2.2.2.2.2.1, ())
    refine T.cf (iNe_f hx) ?_
    refine T.call (spoilt_T _ _ _ hbb.1 (by omega) hb) (fun v ⟨v1, v2⟩ => ?_)
    generalize hys : ([raw, (encC (u.1, u.2.1, u.2.2.1, u.2.2.2.1, u.2.2.2.2.1, u.2.2.2.2.2.1, ())).1, v.1] : List (List Int)) = ys
    have hyl : ys.length = 3 := by rw [← hys]; rfl
    have hyb : ∀ y ∈ ys, BytL y := by
      rw [← hys]
      intro y hy
      simp only [List.mem_cons, List.not_mem_nil, or_false] at hy
      rcases hy with rfl | rfl | rfl
      · exact ⟨hraw, by omega⟩
      · exact ⟨hbb.1, by omega⟩
      · exact ⟨v1, by omega⟩
    refine T.along ys.length (fun k => (lenI ys, (k : Int), ys, ())) (fun k hk => ?_) ?_
    · dsimp only
      refine T.ct (iLt_t (by rw [lenI_eq]; omega)) ?_
      refine T.grd (bnd_t (by omega) (by rw [lenI_eq]; omega)) ?_
      refine T.grd (inB_t (by simpa using hk)) ?_
      have hk' : (Int.toNat (k : Int)) < ys.length := by omega
      rw [getD_get _ hk']
      have hy := hyb _ (List.getElem_mem hk')
      refine T.callE (decC_m _ hy) (T.callE (decC_r _ hy) ?_)
      refine T.callE (sameC_refl _ (by have := decC_len _ hy; dsimp only; omega)) ?_
      refine T.cf (by rw [iNe_f rfl]; rfl) ?_
      exact T.go (by rw [iAdd64 (by omega) (by omega)]; rfl) (by simp)
    · dsimp only
      refine T.cf (iLt_f (by rw [lenI_eq]; omega)) ?_
      exact T.mapL (T.callE awake_ok (T.ret rfl))
end Abs
end Go.Proofs.Ytbghnjkieghloaa
