/- The typed machine: words for proofs about models. -/
import Derived.Test.YtamgbanmnededaaDoorXI
namespace Go.Proofs.YtamgbanmnededaaDoor
namespace Abs
set_option linter.unusedVariables false
theorem iLt_t {a b : Int} (h : a < b) : iLt a b = true := decide_eq_true h
theorem iLt_f {a b : Int} (h : b ≤ a) : iLt a b = false := decide_eq_false (by omega)
theorem iLe_t {a b : Int} (h : a ≤ b) : iLe a b = true := decide_eq_true h
theorem iLe_f {a b : Int} (h : b < a) : iLe a b = false := decide_eq_false (by omega)
theorem iEq_t {a b : Int} (h : a = b) : iEq a b = true := by simp [iEq, h]
theorem iEq_f {a b : Int} (h : a ≠ b) : iEq a b = false := by simp [iEq, h]
theorem iNe_t {a b : Int} (h : a ≠ b) : iNe a b = true := by simp [iNe, h]
theorem iNe_f {a b : Int} (h : a = b) : iNe a b = false := by simp [iNe, h]
theorem bnd_t {n m : Int} (h : 0 ≤ n) (h' : n < m) : bnd n m = true := by simp [bnd, h, h']
theorem inB_t {α : Type} {i : Nat} {xs : List α} (h : i < xs.length) : inB i xs = true := decide_eq_true h
theorem fits_t {n b : Nat} (h : n * b ≤ 140737488355328) (h' : n ≤ 4611686018427387904) : fits n b = true := by simp [fits, maxB, h, h']
theorem fitsI_t {n : Int} {b : Nat} (h0 : 0 ≤ n) (h : n * b ≤ 140737488355328) (h' : n ≤ 4611686018427387904) : fitsI n b = true := by simp [fitsI, maxB, h0, h, h']
theorem cutOk_t {l u : Int} {n : Nat} (h : 0 ≤ l) (h' : l ≤ u) (h'' : u ≤ n) : cutOk l u n = true := by simp [cutOk, h, h', h'']
theorem iAdd64 {a b : Int} (h1 : -9223372036854775808 ≤ a + b) (h2 : a + b ≤ 9223372036854775807) : iAdd .i64 a b = a + b := wrap64 h1 h2
theorem iSub64 {a b : Int} (h1 : -9223372036854775808 ≤ a - b) (h2 : a - b ≤ 9223372036854775807) : iSub .i64 a b = a - b := wrap64 h1 h2
theorem iMul64 {a b : Int} (h1 : -9223372036854775808 ≤ a * b) (h2 : a * b ≤ 9223372036854775807) : iMul .i64 a b = a * b := wrap64 h1 h2
theorem atI_nat {α : Type} (xs : List α) (k : Nat) (z : α) : atI xs (k : Int) z = xs.getD k z := rfl
theorem lenI_eq {α : Type} (xs : List α) : lenI xs = (xs.length : Int) := rfl
theorem cutL_zero {α : Type} (u : Int) (xs : List α) : cutL 0 u xs = xs.take u.toNat := rfl
section
variable {S R : Type} {step : S → Option (S ⊕ R)}
/-- A loop that goes up to a number, and leaves there. -/
theorem loop_to (inv : Nat → S) (n : Nat) {r : R} (hs : ∀ k, k < n → step (inv k) = some (.inl (inv (k + 1)))) (he : step (inv n) = some (.inr r)) : loopO step (inv 0) = some r := by
  have key : ∀ d k, k + d = n → loopO step (inv k) = some r := by
    intro d
    induction d with
    | zero => intro k hk; rw [loopO_eq]; have : k = n := by omega
              rw [this, he]
    | succ d ih => intro k hk; rw [loopO_eq, hs k (by omega)]; exact ih (k + 1) (by omega)
  exact key n 0 (by omega)
theorem loop_in {s s' : S} (h : step s = some (.inl s')) : loopO step s = loopO step s' := by rw [loopO_eq, h]
theorem loop_out {s : S} {r : R} (h : step s = some (.inr r)) : loopO step s = some r := by rw [loopO_eq, h]
/-- The same from a number on. -/
theorem loop_from (inv : Nat → S) (k n : Nat) (hkn : k ≤ n) {r : R} (hs : ∀ j, k ≤ j → j < n → step (inv j) = some (.inl (inv (j + 1)))) (he : step (inv n) = some (.inr r)) : loopO step (inv k) = some r := by
  have := loop_to (step := step) (fun j => inv (k + j)) (n - k) (fun j hj => hs (k + j) (by omega) (by omega)) (r := r) (by show step (inv (k + (n - k))) = _; rw [show k + (n - k) = n by omega]; exact he)
  exact this
/-- What a loop's rounds keep, with a measure. -/
theorem loop_inv (J : S → Prop) (μ : S → Nat) (r : R) (h : ∀ s, J s → (∃ s', step s = some (.inl s') ∧ J s' ∧ μ s' < μ s) ∨ step s = some (.inr r)) : ∀ s, J s → loopO step s = some r := by
  have key : ∀ n s, μ s ≤ n → J s → loopO step s = some r := by
    intro n
    induction n with
    | zero =>
      intro s hm hJ
      rcases h s hJ with ⟨s', h1, h2, h3⟩ | h1
      · omega
      · exact loop_out h1
    | succ n ih =>
      intro s hm hJ
      rcases h s hJ with ⟨s', h1, h2, h3⟩ | h1
      · rw [loop_in h1]; exact ih s' (by omega) h2
      · exact loop_out h1
  intro s hJ
  exact key _ s (Nat.le_refl _) hJ
end
end Abs
end Go.Proofs.YtamgbanmnededaaDoor
