/- Words for proofs about models: loops over lists. -/
import Derived.Test.YtamgbanmnededaaDoorXK
namespace Go.Proofs.YtamgbanmnededaaDoor
namespace Abs
set_option linter.unusedVariables false
section
variable {S R A α : Type} {step : S → Option (S ⊕ R)}
/-- A walk along a list that may end early. -/
def foldE (f : A → α → A ⊕ R) (fin : A → R) : A → List α → R
  | a, [] => fin a
  | a, x :: xs => match f a x with
    | .inl a' => foldE f fin a' xs
    | .inr r => r
/-- A loop along a list is such a walk. -/
theorem loop_fold (xs : List α) (mk : Nat → A → S) (f : A → α → A ⊕ R) (fin : A → R) (J : Nat → A → Prop)
    (hs : ∀ k a (hk : k < xs.length), J k a → step (mk k a) = some (match f a xs[k] with | .inl a' => .inl (mk (k + 1) a') | .inr r => .inr r) ∧ ∀ a', f a xs[k] = .inl a' → J (k + 1) a')
    (he : ∀ a, J xs.length a → step (mk xs.length a) = some (.inr (fin a))) (a0 : A) (h0 : J 0 a0) : loopO step (mk 0 a0) = some (foldE f fin a0 xs) := by
  have key : ∀ d k a, k + d = xs.length → J k a → loopO step (mk k a) = some (foldE f fin a (xs.drop k)) := by
    intro d
    induction d with
    | zero =>
      intro k a hk hJ
      have : k = xs.length := by omega
      subst this
      rw [List.drop_length, loop_out (he a hJ)]; rfl
    | succ d ih =>
      intro k a hk hJ
      have hlt : k < xs.length := by omega
      obtain ⟨h1, h2⟩ := hs k a hlt hJ
      rw [List.drop_eq_getElem_cons hlt]
      simp only [foldE]
      cases hf : f a xs[k] with
      | inl a' => rw [hf] at h1; rw [loop_in h1]; exact ih (k + 1) a' (by omega) (h2 a' hf)
      | inr r => rw [hf] at h1; rw [loop_out h1]
  have := key xs.length 0 a0 (by omega) h0
  rwa [List.drop_zero] at this
/-- A loop along a list that ends at the first element that is not in order. -/
theorem loop_all (xs : List α) (mk : Nat → S) (p : α → Bool) (e r : R) (hs : ∀ k (hk : k < xs.length), p xs[k] = true → step (mk k) = some (.inl (mk (k + 1)))) (hf : ∀ k (hk : k < xs.length), p xs[k] = false → step (mk k) = some (.inr e))
    (he : step (mk xs.length) = some (.inr r)) : loopO step (mk 0) = some (if xs.all p then r else e) := by
  have key : ∀ d k, k + d = xs.length → loopO step (mk k) = some (if (xs.drop k).all p then r else e) := by
    intro d
    induction d with
    | zero =>
      intro k hk
      have : k = xs.length := by omega
      subst this
      rw [List.drop_length, loop_out he]; rfl
    | succ d ih =>
      intro k hk
      have hlt : k < xs.length := by omega
      rw [List.drop_eq_getElem_cons hlt, List.all_cons]
      cases hp : p xs[k] with
      | true => rw [loop_in (hs k hlt hp), ih (k + 1) (by omega)]; rfl
      | false => rw [loop_out (hf k hlt hp)]; rfl
  have := key xs.length 0 (by omega)
  rwa [List.drop_zero] at this
/-- The same, what the loop carries being a function of the elements gone by. -/
theorem loop_acc (xs : List α) (mk : Nat → A → S) (g : A → α → A) (a0 : A) {r : R} (J : Nat → A → Prop) (hs : ∀ k a (hk : k < xs.length), J k a → step (mk k a) = some (.inl (mk (k + 1) (g a xs[k]))) ∧ J (k + 1) (g a xs[k]))
    (h0 : J 0 a0) : loopO step (mk 0 a0) = loopO step (mk xs.length (xs.foldl g a0)) ∧ J xs.length (xs.foldl g a0) := by
  have key : ∀ d k a, k + d = xs.length → J k a → loopO step (mk k a) = loopO step (mk xs.length ((xs.drop k).foldl g a)) ∧ J xs.length ((xs.drop k).foldl g a) := by
    intro d
    induction d with
    | zero =>
      intro k a hk hJ
      have : k = xs.length := by omega
      subst this
      rw [List.drop_length]; exact ⟨rfl, hJ⟩
    | succ d ih =>
      intro k a hk hJ
      have hlt : k < xs.length := by omega
      obtain ⟨h1, h2⟩ := hs k a hlt hJ
      rw [List.drop_eq_getElem_cons hlt, List.foldl_cons, loop_in h1]
      exact ih (k + 1) _ (by omega) h2
  have := key xs.length 0 a0 (by omega) h0
  rwa [List.drop_zero] at this
/-- A loop that counts up. -/
def upto (f : A → Nat → A ⊕ R) (fin : A → R) (n : Nat) (a : A) : R := foldE f fin a (List.range n)
theorem loop_upto (n : Nat) (mk : Nat → A → S) (f : A → Nat → A ⊕ R) (fin : A → R) (J : Nat → A → Prop)
    (hs : ∀ k a, k < n → J k a → step (mk k a) = some (match f a k with | .inl a' => .inl (mk (k + 1) a') | .inr r => .inr r) ∧ ∀ a', f a k = .inl a' → J (k + 1) a')
    (he : ∀ a, J n a → step (mk n a) = some (.inr (fin a))) (a0 : A) (h0 : J 0 a0) : loopO step (mk 0 a0) = some (upto f fin n a0) := by
  have := loop_fold (step := step) (List.range n) mk f fin J (fun k a hk hJ => by
    have hk' : k < n := by simpa using hk
    have := hs k a hk' hJ
    simpa using this) (fun a hJ => by rw [List.length_range] at hJ ⊢; exact he a hJ) a0 h0
  exact this
/-- What a loop's rounds keep, with a measure; what it ends with. -/
theorem loop_ex (J : S → Prop) (μ : S → Nat) (Q : R → Prop) (h : ∀ s, J s → (∃ s', step s = some (.inl s') ∧ J s' ∧ μ s' < μ s) ∨ ∃ r, step s = some (.inr r) ∧ Q r) : ∀ s, J s → ∃ r, loopO step s = some r ∧ Q r := by
  have key : ∀ n s, μ s ≤ n → J s → ∃ r, loopO step s = some r ∧ Q r := by
    intro n
    induction n with
    | zero =>
      intro s hm hJ
      rcases h s hJ with ⟨s', h1, h2, h3⟩ | ⟨r, h1, h2⟩
      · omega
      · exact ⟨r, loop_out h1, h2⟩
    | succ n ih =>
      intro s hm hJ
      rcases h s hJ with ⟨s', h1, h2, h3⟩ | ⟨r, h1, h2⟩
      · rw [loop_in h1]; exact ih s' (by omega) h2
      · exact ⟨r, loop_out h1, h2⟩
  intro s hJ
  exact key _ s (Nat.le_refl _) hJ
theorem loop_goal (G : Option R → Prop) (J : S → Prop) (μ : S → Nat) (h : ∀ s, J s → (∃ s', step s = some (.inl s') ∧ J s' ∧ μ s' < μ s) ∨ ∃ r, step s = some (.inr r) ∧ G (some r)) (s : S) (hJ : J s) : G (loopO step s) := by
  obtain ⟨r, h1, h2⟩ := loop_ex J μ (fun r => G (some r)) h s hJ
  rw [h1]; exact h2
/-- Two loops, round by round. -/
theorem loop_two {S' R' : Type} {step' : S' → Option (S' ⊕ R')} (J : S → S' → Prop) (μ : S → Nat) (Q : R → R' → Prop) (h : ∀ s t, J s t → (∃ s' t', step s = some (.inl s') ∧ step' t = some (.inl t') ∧ J s' t' ∧ μ s' < μ s) ∨ ∃ r r', step s = some (.inr r) ∧ step' t = some (.inr r') ∧ Q r r') : ∀ s t, J s t → ∃ r r', loopO step s = some r ∧ loopO step' t = some r' ∧ Q r r' := by
  have key : ∀ n s t, μ s ≤ n → J s t → ∃ r r', loopO step s = some r ∧ loopO step' t = some r' ∧ Q r r' := by
    intro n
    induction n with
    | zero =>
      intro s t hm hJ
      rcases h s t hJ with ⟨s', t', h1, h2, h3, h4⟩ | ⟨r, r', h1, h2, h3⟩
      · omega
      · exact ⟨r, r', loop_out h1, loop_out h2, h3⟩
    | succ n ih =>
      intro s t hm hJ
      rcases h s t hJ with ⟨s', t', h1, h2, h3, h4⟩ | ⟨r, r', h1, h2, h3⟩
      · rw [loop_in h1, loop_in h2]; exact ih s' t' (by omega) h3
      · exact ⟨r, r', loop_out h1, loop_out h2, h3⟩
  intro s t hJ
  exact key _ s t (Nat.le_refl _) hJ
theorem foldE_inv (P : A → Prop) (Q : R → Prop) {f : A → α → A ⊕ R} {fin : A → R} : ∀ (xs : List α) (a : A), P a → (∀ a x, P a → x ∈ xs → match f a x with | .inl a' => P a' | .inr r => Q r) → (∀ a, P a → Q (fin a)) → Q (foldE f fin a xs) := by
  intro xs
  induction xs with
  | nil => intro a hP _ hf; exact hf a hP
  | cons x xs ih =>
    intro a hP hs hf
    have h1 := hs a x hP (by simp)
    simp only [foldE]
    cases hx : f a x with
    | inl a' => rw [hx] at h1; exact ih a' h1 (fun a y hP hy => hs a y hP (by simp [hy])) hf
    | inr r => rw [hx] at h1; exact h1
end
theorem map_inr {S R : Type} {o : Option R} {r : R} (h : o = some r) : Option.map (Sum.inr (α := S)) o = some (.inr r) := by rw [h]; rfl
theorem atI_get {α : Type} {xs : List α} {k : Nat} (z : α) (h : k < xs.length) : atI xs (k : Int) z = xs[k] := by
  show xs.getD k z = _
  simp [List.getD, List.getElem?_eq_getElem h]
theorem getD_get {α : Type} {xs : List α} {k : Nat} (z : α) (h : k < xs.length) : xs.getD k z = xs[k] := by
  simp [List.getD, List.getElem?_eq_getElem h]
theorem iRem_pos {a b : Int} (h : 0 ≤ a) : iRem a b = a % b := by
  show a.tmod b = _
  rw [Int.tmod_eq_emod_of_nonneg h]
theorem cond_or {α : Type} (a b : Bool) (x y : α) : cond a x (cond b x y) = cond (a || b) x y := by cases a <;> rfl
theorem cond_if {α : Type} (a : Bool) (x y : α) : cond a x y = if a = true then x else y := by cases a <;> rfl
theorem zip_all {α : Type} [DecidableEq α] : ∀ {a b : List α}, a.length = b.length → ((a.zip b).all fun p => decide (p.1 = p.2)) = decide (a = b) := by
  intro a
  induction a with
  | nil => intro b h; cases b with
    | nil => rfl
    | cons y b => cases h
  | cons x a ih =>
    intro b h
    cases b with
    | nil => cases h
    | cons y b =>
      have := ih (b := b) (by simpa using h)
      rw [List.zip_cons_cons, List.all_cons, this, Bool.eq_iff_iff]
      simp
theorem iNeg64 {a : Int} (h1 : -9223372036854775808 ≤ -a) (h2 : -a ≤ 9223372036854775807) : iNeg .i64 a = -a := by
  show IntKind.wrap .i64 (0 - a) = -a
  rw [wrap64 (by omega) (by omega)]; omega
end Abs
end Go.Proofs.YtamgbanmnededaaDoor
