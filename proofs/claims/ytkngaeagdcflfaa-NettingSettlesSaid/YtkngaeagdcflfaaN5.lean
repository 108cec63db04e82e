/- Netting: payments, the plain part. -/
import Derived.Test.YtkngaeagdcflfaaN4
namespace Go.Proofs.Ytkngaeagdcflfaa
namespace Abs
set_option linter.unusedVariables false
set_option linter.unusedSimpArgs false

/-- The first index of the least of the first n elements. -/
def leastN (l : List Int) : Nat → Nat
  | 0 => 0
  | n + 1 => if l.getD n 0 < l.getD (leastN l n) 0 then n else leastN l n
def least (l : List Int) : Nat := leastN l l.length
theorem leastN_lt (l : List Int) (n : Nat) : leastN l n < n ∨ leastN l n = 0 := by
  induction n with
  | zero => exact .inr rfl
  | succ n ih => simp only [leastN]; split <;> omega
theorem leastN_le (l : List Int) (n : Nat) : ∀ i, i < n → l.getD (leastN l n) 0 ≤ l.getD i 0 := by
  induction n with
  | zero => intro i hi; omega
  | succ n ih =>
    intro i hi
    simp only [leastN]
    by_cases hin : i = n
    · subst hin
      split
      · omega
      · omega
    · have := ih i (by omega)
      split
      · omega
      · omega
theorem least_le (l : List Int) (i : Nat) (hi : i < l.length) : l.getD (least l) 0 ≤ l.getD i 0 := leastN_le l l.length i hi
theorem leastN_app (l : List Int) (m : Nat) : ∀ n, n ≤ l.length → leastN (l ++ List.replicate m 0) n = leastN l n := by
  intro n
  induction n with
  | zero => intro _; rfl
  | succ n ih =>
    intro hn
    have e1 : (l ++ List.replicate m 0).getD n 0 = l.getD n 0 := by simp only [List.getD]; rw [List.getElem?_append_left (by omega)]
    have e2 : (l ++ List.replicate m 0).getD (leastN l n) 0 = l.getD (leastN l n) 0 := by
      have := leastN_lt l n
      simp only [List.getD]; rw [List.getElem?_append_left (by omega)]
    simp only [leastN, ih (by omega), e1, e2]
theorem getD_zero_least (l : List Int) (m i : Nat) : (l ++ List.replicate m 0).getD i 0 = l.getD i 0 := by
  simp only [List.getD]
  rcases Nat.lt_or_ge i l.length with h | h
  · rw [List.getElem?_append_left h]
  · rw [List.getElem?_append_right h, List.getElem?_eq_none h, List.getElem?_replicate]
    split <;> rfl
theorem least_pad (l : List Int) (m : Nat) (h : l.getD (least l) 0 ≤ 0) : least (l ++ List.replicate m 0) = least l := by
  have key : ∀ k, leastN (l ++ List.replicate m 0) (l.length + k) = least l := by
    intro k
    induction k with
    | zero => exact leastN_app l m l.length (Nat.le_refl _)
    | succ k ih =>
      show leastN (l ++ List.replicate m 0) (l.length + k + 1) = _
      simp only [leastN, ih, getD_zero_least]
      have : l.getD (l.length + k) 0 = 0 := by simp [List.getD]
      rw [this, if_neg (by omega)]
  have := key m
  unfold least
  rw [List.length_append, List.length_replicate]
  exact this

/-- The first index of the greatest of the first n elements. -/
def mostN (l : List Int) : Nat → Nat
  | 0 => 0
  | n + 1 => if l.getD (mostN l n) 0 < l.getD n 0 then n else mostN l n
def most (l : List Int) : Nat := mostN l l.length
theorem mostN_lt (l : List Int) (n : Nat) : mostN l n < n ∨ mostN l n = 0 := by
  induction n with
  | zero => exact .inr rfl
  | succ n ih => simp only [mostN]; split <;> omega
theorem mostN_le (l : List Int) (n : Nat) : ∀ i, i < n → l.getD i 0 ≤ l.getD (mostN l n) 0 := by
  induction n with
  | zero => intro i hi; omega
  | succ n ih =>
    intro i hi
    simp only [mostN]
    by_cases hin : i = n
    · subst hin
      split
      · omega
      · omega
    · have := ih i (by omega)
      split
      · omega
      · omega
theorem most_le (l : List Int) (i : Nat) (hi : i < l.length) : l.getD i 0 ≤ l.getD (most l) 0 := mostN_le l l.length i hi
theorem mostN_app (l : List Int) (m : Nat) : ∀ n, n ≤ l.length → mostN (l ++ List.replicate m 0) n = mostN l n := by
  intro n
  induction n with
  | zero => intro _; rfl
  | succ n ih =>
    intro hn
    have e1 : (l ++ List.replicate m 0).getD n 0 = l.getD n 0 := by simp only [List.getD]; rw [List.getElem?_append_left (by omega)]
    have e2 : (l ++ List.replicate m 0).getD (mostN l n) 0 = l.getD (mostN l n) 0 := by
      have := mostN_lt l n
      simp only [List.getD]; rw [List.getElem?_append_left (by omega)]
    simp only [mostN, ih (by omega), e1, e2]
theorem getD_zero_most (l : List Int) (m i : Nat) : (l ++ List.replicate m 0).getD i 0 = l.getD i 0 := by
  simp only [List.getD]
  rcases Nat.lt_or_ge i l.length with h | h
  · rw [List.getElem?_append_left h]
  · rw [List.getElem?_append_right h, List.getElem?_eq_none h, List.getElem?_replicate]
    split <;> rfl
theorem most_pad (l : List Int) (m : Nat) (h : 0 ≤ l.getD (most l) 0) : most (l ++ List.replicate m 0) = most l := by
  have key : ∀ k, mostN (l ++ List.replicate m 0) (l.length + k) = most l := by
    intro k
    induction k with
    | zero => exact mostN_app l m l.length (Nat.le_refl _)
    | succ k ih =>
      show mostN (l ++ List.replicate m 0) (l.length + k + 1) = _
      simp only [mostN, ih, getD_zero_most]
      have : l.getD (l.length + k) 0 = 0 := by simp [List.getD]
      rw [this, if_neg (by omega)]
  have := key m
  unfold most
  rw [List.length_append, List.length_replicate]
  exact this

theorem sum_set {l : List Int} : ∀ {i : Nat} (v : Int), i < l.length → (l.set i v).sum = l.sum + v - l.getD i 0 := by
  induction l with
  | nil => intro i v h; simp at h
  | cons x l ih =>
    intro i v h
    cases i with
    | zero => simp; omega
    | succ i =>
      have := ih v (i := i) (by simpa using h)
      simp only [List.set_cons_succ, List.sum_cons, this, List.getD_cons_succ]; omega
def nz (l : List Int) : Nat := l.countP fun x => decide (x ≠ 0)
theorem nz_set {l : List Int} : ∀ {i : Nat} (v : Int), i < l.length → nz (l.set i v) + (if l.getD i 0 = 0 then 0 else 1) = nz l + (if v = 0 then 0 else 1) := by
  induction l with
  | nil => intro i v h; simp at h
  | cons x l ih =>
    intro i v h
    cases i with
    | zero =>
      simp only [List.set_cons_zero, nz, List.countP_cons, List.getD_cons_zero]
      by_cases hx : x = 0 <;> by_cases hv : v = 0 <;> simp [hx, hv] <;> omega
    | succ i =>
      have := ih v (i := i) (by simpa using h)
      simp only [List.set_cons_succ, nz, List.countP_cons, List.getD_cons_succ] at this ⊢
      omega
theorem nz_zero {l : List Int} (h : ∀ i, i < l.length → l.getD i 0 = 0) : nz l = 0 := by
  unfold nz
  rw [List.countP_eq_zero]
  intro x hx
  obtain ⟨i, hi, rfl⟩ := List.getElem_of_mem hx
  have := h i hi
  rw [getD_get _ hi] at this
  simp [this]
theorem zero_nz {l : List Int} (h : nz l = 0) (i : Nat) : l.getD i 0 = 0 := by
  unfold nz at h
  rw [List.countP_eq_zero] at h
  rcases Nat.lt_or_ge i l.length with hi | hi
  · have := h l[i] (List.getElem_mem _)
    rw [getD_get _ hi]
    simpa using this
  · simp [List.getD, List.getElem?_eq_none hi]
theorem getD_set {l : List Int} {i : Nat} (hi : i < l.length) (v : Int) (j : Nat) : (l.set i v).getD j 0 = if j = i then v else l.getD j 0 := by
  simp only [List.getD, List.getElem?_set]
  by_cases h : i = j
  · subst h; simp [hi]
  · rw [if_neg h, if_neg (fun q => h q.symm)]
theorem sum_nonneg {l : List Int} (h : ∀ i, i < l.length → 0 ≤ l.getD i 0) : 0 ≤ l.sum ∧ (l.sum = 0 → ∀ i, i < l.length → l.getD i 0 = 0) := by
  induction l with
  | nil => exact ⟨by simp, fun _ i hi => by simp at hi⟩
  | cons x l ih =>
    have h0 := h 0 (by simp)
    simp only [List.getD_cons_zero] at h0
    obtain ⟨h1, h2⟩ := ih fun i hi => by have := h (i + 1) (by simpa using hi); simpa using this
    rw [List.sum_cons]
    refine ⟨by omega, fun hs i hi => ?_⟩
    cases i with
    | zero => simp only [List.getD_cons_zero]; omega
    | succ i => simp only [List.getD_cons_succ]; exact h2 (by omega) i (by simpa using hi)
theorem sum_nonpos {l : List Int} (h : ∀ i, i < l.length → l.getD i 0 ≤ 0) : l.sum ≤ 0 ∧ (l.sum = 0 → ∀ i, i < l.length → l.getD i 0 = 0) := by
  induction l with
  | nil => exact ⟨by simp, fun _ i hi => by simp at hi⟩
  | cons x l ih =>
    have h0 := h 0 (by simp)
    simp only [List.getD_cons_zero] at h0
    obtain ⟨h1, h2⟩ := ih fun i hi => by have := h (i + 1) (by simpa using hi); simpa using this
    rw [List.sum_cons]
    refine ⟨by omega, fun hs i hi => ?_⟩
    cases i with
    | zero => simp only [List.getD_cons_zero]; omega
    | succ i => simp only [List.getD_cons_succ]; exact h2 (by omega) i (by simpa using hi)
theorem out_zero {l : List Int} {i : Nat} (h : l.length ≤ i) : l.getD i 0 = 0 := by simp [List.getD, List.getElem?_eq_none h]
/-- With the sum 0, the least is at most 0, the most at least 0, and both are 0 or neither. -/
theorem ends {l : List Int} (hs : l.sum = 0) : l.getD (least l) 0 ≤ 0 ∧ 0 ≤ l.getD (most l) 0 ∧ (l.getD (least l) 0 = 0 ↔ l.getD (most l) 0 = 0) ∧ (l.getD (least l) 0 = 0 → nz l = 0) := by
  have a : l.getD (least l) 0 ≤ 0 := by
    rcases Int.lt_or_le 0 (l.getD (least l) 0) with h | h
    · exfalso
      have hp := sum_nonneg (l := l) fun i hi => by have := least_le l i hi; omega
      rcases Nat.lt_or_ge (least l) l.length with q | q
      · have := hp.2 hs _ q; omega
      · rw [out_zero q] at h; omega
    · exact h
  have b : 0 ≤ l.getD (most l) 0 := by
    rcases Int.lt_or_le (l.getD (most l) 0) 0 with h | h
    · exfalso
      have hp := sum_nonpos (l := l) fun i hi => by have := most_le l i hi; omega
      rcases Nat.lt_or_ge (most l) l.length with q | q
      · have := hp.2 hs _ q; omega
      · rw [out_zero q] at h; omega
    · exact h
  have c : l.getD (least l) 0 = 0 → ∀ i, l.getD i 0 = 0 := fun h i => by
    have hp := sum_nonneg (l := l) fun i hi => by have := least_le l i hi; omega
    rcases Nat.lt_or_ge i l.length with q | q
    · exact hp.2 hs i q
    · exact out_zero q
  have d : l.getD (most l) 0 = 0 → ∀ i, l.getD i 0 = 0 := fun h i => by
    have hp := sum_nonpos (l := l) fun i hi => by have := most_le l i hi; omega
    rcases Nat.lt_or_ge i l.length with q | q
    · exact hp.2 hs i q
    · exact out_zero q
  exact ⟨a, b, ⟨fun h => c h _, fun h => d h _⟩, fun h => nz_zero fun i _ => c h i⟩
/-- The payments. -/
def payRun : Nat → List Int → List DS0 → List DS0
  | 0, _, acc => acc
  | f + 1, l, acc => if min (-(l.getD (least l) 0)) (l.getD (most l) 0) ≤ 0 then acc else
    payRun f ((l.set (least l) (l.getD (least l) 0 + min (-(l.getD (least l) 0)) (l.getD (most l) 0))).set (most l) (l.getD (most l) 0 - min (-(l.getD (least l) 0)) (l.getD (most l) 0)))
      (acc ++ [((least l : Int), (most l : Int), min (-(l.getD (least l) 0)) (l.getD (most l) 0), ())])
def nextL (l : List Int) : List Int := (l.set (least l) (l.getD (least l) 0 + min (-(l.getD (least l) 0)) (l.getD (most l) 0))).set (most l) (l.getD (most l) 0 - min (-(l.getD (least l) 0)) (l.getD (most l) 0))
def payD (l : List Int) : DS0 := ((least l : Int), (most l : Int), min (-(l.getD (least l) 0)) (l.getD (most l) 0), ())
/-- One payment. -/
theorem one_pay {l : List Int} (hs : l.sum = 0) (hp : ¬ min (-(l.getD (least l) 0)) (l.getD (most l) 0) ≤ 0) :
    least l < l.length ∧ most l < l.length ∧ least l ≠ most l ∧ l.getD (least l) 0 < 0 ∧ 0 < l.getD (most l) 0 ∧ (nextL l).length = l.length ∧ (nextL l).sum = 0 ∧ nz (nextL l) < nz l ∧ (nz (nextL l) = 0 → nz l = 2) ∧
    (∀ i, (nextL l).getD i 0 = if i = most l then l.getD (most l) 0 - (payD l).2.2.1 else if i = least l then l.getD (least l) 0 + (payD l).2.2.1 else l.getD i 0) := by
  obtain ⟨h1, h2, _, _⟩ := ends hs
  have n1 : l.getD (least l) 0 < 0 := by omega
  have n2 : 0 < l.getD (most l) 0 := by omega
  have l1 : least l < l.length := by
    rcases Nat.lt_or_ge (least l) l.length with q | q
    · exact q
    · rw [out_zero q] at n1; omega
  have l2 : most l < l.length := by
    rcases Nat.lt_or_ge (most l) l.length with q | q
    · exact q
    · rw [out_zero q] at n2; omega
  have hne : least l ≠ most l := fun q => by rw [q] at n1; omega
  have hat : ∀ i, (nextL l).getD i 0 = if i = most l then l.getD (most l) 0 - (payD l).2.2.1 else if i = least l then l.getD (least l) 0 + (payD l).2.2.1 else l.getD i 0 := by
    intro i
    unfold nextL
    rw [getD_set (by simpa using l2), getD_set l1]; rfl
  have hlen : (nextL l).length = l.length := by simp [nextL]
  have s1 := sum_set (l := l) (i := least l) (l.getD (least l) 0 + min (-(l.getD (least l) 0)) (l.getD (most l) 0)) l1
  have s2 := sum_set (l := l.set (least l) (l.getD (least l) 0 + min (-(l.getD (least l) 0)) (l.getD (most l) 0))) (i := most l) (l.getD (most l) 0 - min (-(l.getD (least l) 0)) (l.getD (most l) 0)) (by simpa using l2)
  have hne' : ¬ most l = least l := fun q => hne q.symm
  have n1' : ¬ l.getD (least l) 0 = 0 := by omega
  have n2' : ¬ l.getD (most l) 0 = 0 := by omega
  rw [getD_set l1, if_neg hne'] at s2
  have z1 := nz_set (l := l) (i := least l) (l.getD (least l) 0 + min (-(l.getD (least l) 0)) (l.getD (most l) 0)) l1
  have z2 := nz_set (l := l.set (least l) (l.getD (least l) 0 + min (-(l.getD (least l) 0)) (l.getD (most l) 0))) (i := most l) (l.getD (most l) 0 - min (-(l.getD (least l) 0)) (l.getD (most l) 0)) (by simpa using l2)
  rw [getD_set l1, if_neg hne', if_neg n2'] at z2
  rw [if_neg n1'] at z1
  refine ⟨l1, l2, hne, n1, n2, hlen, ?_, ?_, ?_, hat⟩
  · show (List.set _ _ _).sum = 0
    rw [s2]; omega
  · show nz (List.set _ _ _) < nz l
    by_cases hq : -(l.getD (least l) 0) ≤ l.getD (most l) 0
    · rw [if_pos (show l.getD (least l) 0 + min (-(l.getD (least l) 0)) (l.getD (most l) 0) = 0 by omega)] at z1
      split at z2 <;> omega
    · rw [if_pos (show l.getD (most l) 0 - min (-(l.getD (least l) 0)) (l.getD (most l) 0) = 0 by omega)] at z2
      split at z1 <;> omega
  · intro h
    have a1 := zero_nz h (most l)
    have a2 := zero_nz h (least l)
    rw [hat, if_pos rfl] at a1
    rw [hat, if_neg hne, if_pos rfl] at a2
    have hv : (payD l).2.2.1 = min (-(l.getD (least l) 0)) (l.getD (most l) 0) := rfl
    rw [if_pos (show l.getD (least l) 0 + min (-(l.getD (least l) 0)) (l.getD (most l) 0) = 0 by omega)] at z1
    rw [if_pos (show l.getD (most l) 0 - min (-(l.getD (least l) 0)) (l.getD (most l) 0) = 0 by omega)] at z2
    have h' : nz (List.set _ _ _) = 0 := h
    omega
/-- What payments are to positions. -/
structure PayOk (p : List Int) (xs : List DS0) : Prop where
  at_ : ∀ i, p.getD i 0 = posAt xs i
  ea : ∀ d ∈ xs, ∃ i j : Nat, d.1 = (i : Int) ∧ d.2.1 = (j : Int) ∧ i < p.length ∧ j < p.length ∧ 0 < d.2.2.1 ∧ p.getD i 0 < 0 ∧ 0 < p.getD j 0 ∧ d.2.2.1 ≤ 17592186044416
  cnt : xs.length ≤ nz p - 1
structure PayIn (p l : List Int) (xs : List DS0) : Prop where
  len : l.length = p.length
  sum : l.sum = 0
  bd : ∀ i, -17592186044416 ≤ l.getD i 0 ∧ l.getD i 0 ≤ 17592186044416
  at_ : ∀ i, p.getD i 0 = l.getD i 0 + posAt xs i
  neg : ∀ i, l.getD i 0 < 0 → p.getD i 0 < 0
  pos : ∀ i, 0 < l.getD i 0 → 0 < p.getD i 0
  ea : ∀ d ∈ xs, ∃ i j : Nat, d.1 = (i : Int) ∧ d.2.1 = (j : Int) ∧ i < p.length ∧ j < p.length ∧ 0 < d.2.2.1 ∧ p.getD i 0 < 0 ∧ 0 < p.getD j 0 ∧ d.2.2.1 ≤ 17592186044416
  cnt : xs.length + nz l ≤ nz p
  last : nz l = 0 → xs.length ≤ nz p - 1
theorem PayIn.next {p l : List Int} {xs : List DS0} (h : PayIn p l xs) (hp : ¬ min (-(l.getD (least l) 0)) (l.getD (most l) 0) ≤ 0) : PayIn p (nextL l) (xs ++ [payD l]) := by
  obtain ⟨l1, l2, hne, n1, n2, h1, h2, h3, h4, h5⟩ := one_pay h.sum hp
  have b1 := h.bd (least l)
  have b2 := h.bd (most l)
  have hv : (payD l).2.2.1 = min (-(l.getD (least l) 0)) (l.getD (most l) 0) := rfl
  have hc := h.cnt
  refine ⟨by rw [h1, h.len], h2, fun i => ?_, fun i => ?_, fun i hi => ?_, fun i hi => ?_, fun d hd => ?_, by rw [List.length_append, List.length_singleton]; omega, fun hz => ?_⟩
  · rw [h5]
    split
    · omega
    · split
      · omega
      · exact h.bd i
  · rw [posAt_app, h5, h.at_ i]
    unfold eff
    show _ = _ + (_ + ((if (most l : Int) = (i : Int) then (payD l).2.2.1 else 0) - (if (least l : Int) = (i : Int) then (payD l).2.2.1 else 0)))
    by_cases e1 : i = most l
    · rw [if_pos e1, if_pos (show (most l : Int) = (i : Int) by omega), if_neg (show ¬ (least l : Int) = (i : Int) by omega), e1]; omega
    · rw [if_neg e1, if_neg (show ¬ (most l : Int) = (i : Int) by omega)]
      by_cases e2 : i = least l
      · rw [if_pos e2, if_pos (show (least l : Int) = (i : Int) by omega), e2]; omega
      · rw [if_neg e2, if_neg (show ¬ (least l : Int) = (i : Int) by omega)]; omega
  · rw [h5] at hi
    split at hi
    · omega
    · split at hi
      · rename_i e; rw [e]; exact h.neg _ n1
      · exact h.neg i hi
  · rw [h5] at hi
    split at hi
    · rename_i e; rw [e]; exact h.pos _ n2
    · split at hi
      · omega
      · exact h.pos i hi
  · rcases List.mem_append.1 hd with q | q
    · exact h.ea d q
    · simp only [List.mem_singleton] at q
      subst q
      exact ⟨least l, most l, rfl, rfl, by rw [← h.len]; exact l1, by rw [← h.len]; exact l2, by rw [hv]; omega, h.neg _ n1, h.pos _ n2, by rw [hv]; omega⟩
  · have := h4 hz
    rw [List.length_append, List.length_singleton]; omega
theorem pay_ok : ∀ (f : Nat) (p l : List Int) (xs : List DS0), PayIn p l xs → nz l < f → PayOk p (payRun f l xs) := by
  intro f
  induction f with
  | zero => intro p l xs _ h; omega
  | succ f ih =>
    intro p l xs h hf
    unfold payRun
    split
    · rename_i hle
      obtain ⟨h1, h2, h3, h4⟩ := ends h.sum
      have hz : nz l = 0 := h4 (by omega)
      exact ⟨fun i => by rw [h.at_ i, zero_nz hz i, Int.zero_add], h.ea, h.last hz⟩
    · rename_i hle
      have := (one_pay h.sum hle).2.2.2.2.2.2.2.1
      exact ih p (nextL l) _ (h.next hle) (by omega)
theorem PayIn.start {p : List Int} (hs : p.sum = 0) (hb : p.all vAmt = true) : PayIn p p [] := by
  refine ⟨rfl, hs, fun i => ?_, fun i => by simp [posAt], fun i h => h, fun i h => h, fun d hd => by simp at hd, by simp, fun _ => by simp⟩
  rcases Nat.lt_or_ge i p.length with q | q
  · have := List.all_eq_true.1 hb p[i] (List.getElem_mem _)
    rw [getD_get _ q]
    exact of_decide_eq_true this
  · rw [out_zero q]; omega
theorem pad_set {l : List Int} {i m : Nat} (hi : i < l.length) (v : Int) : (l ++ List.replicate m 0).set i v = l.set i v ++ List.replicate m 0 := by rw [List.set_append_left _ _ hi]
/-- Zeros at the end do not count. -/
theorem run_pad (m : Nat) : ∀ (f : Nat) (l : List Int) (xs : List DS0), l.sum = 0 → payRun f (l ++ List.replicate m 0) xs = payRun f l xs := by
  intro f
  induction f with
  | zero => intro l xs _; rfl
  | succ f ih =>
    intro l xs hs
    obtain ⟨h1, h2, _, _⟩ := ends hs
    unfold payRun
    rw [least_pad l m h1, most_pad l m h2, getD_zero_least, getD_zero_least]
    split
    · rfl
    · rename_i hp
      obtain ⟨l1, l2, hne, n1, n2, e1, e2, _⟩ := one_pay hs hp
      rw [pad_set l1, pad_set (by simpa using l2)]
      exact ih _ _ e2
def payE (p : List Int) : List DS0 × Int × Unit := if 16 < p.length then ([], 4, ()) else if p.all vAmt = false then ([], 1, ()) else if p.sum ≠ 0 then ([], 14, ()) else (payRun 17 p [], 0, ())
theorem nz_le (l : List Int) : nz l ≤ l.length := List.countP_le_length
end Abs
end Go.Proofs.Ytkngaeagdcflfaa
