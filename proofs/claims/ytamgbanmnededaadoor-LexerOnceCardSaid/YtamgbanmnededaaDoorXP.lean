/- Words for proofs about models: what a run answers, step by step. -/
import Derived.Test.YtamgbanmnededaaDoorXL
namespace Go.Proofs.YtamgbanmnededaaDoor
namespace Abs
set_option linter.unusedVariables false
/-- A run answers, and its answer is as wanted. -/
def T {α : Type} (o : Option α) (Q : α → Prop) : Prop := ∃ v, o = some v ∧ Q v
/-- A loop's round: it goes on, or it ends. -/
def LQ {S R : Type} (J : S → Prop) (μ : S → Nat) (m : Nat) (Q : R → Prop) : S ⊕ R → Prop
  | .inl s => J s ∧ μ s < m
  | .inr r => Q r
/-- Ways that come together. -/
def JQ {S R : Type} (M : S → Prop) (Q : R → Prop) : S ⊕ R → Prop
  | .inl s => M s
  | .inr r => Q r
section
variable {α β S R : Type}
theorem T.ret {v : α} {Q : α → Prop} (h : Q v) : T (some v) Q := ⟨v, rfl, h⟩
theorem T.eq {o : Option α} {v : α} (h : T o fun x => x = v) : o = some v := by obtain ⟨x, h1, h2⟩ := h; rw [h1, h2]
theorem T.of {o : Option α} {v : α} {Q : α → Prop} (h : o = some v) (q : Q v) : T o Q := ⟨v, h, q⟩
theorem T.mono {o : Option α} {Q Q' : α → Prop} (h : T o Q) (q : ∀ v, Q v → Q' v) : T o Q' := by obtain ⟨v, h1, h2⟩ := h; exact ⟨v, h1, q v h2⟩
theorem T.bind {o : Option α} {f : α → Option β} {Q : β → Prop} (h : T o fun v => T (f v) Q) : T (o.bind f) Q := by obtain ⟨v, h1, h2⟩ := h; rw [h1]; exact h2
theorem T.call {o : Option α} {f : α → Option β} {P : α → Prop} {Q : β → Prop} (h : T o P) (q : ∀ v, P v → T (f v) Q) : T (o.bind f) Q := T.bind (h.mono q)
theorem T.callE {o : Option α} {v : α} {f : α → Option β} {Q : β → Prop} (h : o = some v) (q : T (f v) Q) : T (o.bind f) Q := by rw [h]; exact q
theorem T.grd {c : Bool} {x : Option α} {Q : α → Prop} (h : c = true) (q : T x Q) : T (cond c x none) Q := by rw [h]; exact q
theorem T.cnd {c : Bool} {x y : Option α} {Q : α → Prop} (h : c = true → T x Q) (q : c = false → T y Q) : T (cond c x y) Q := by cases c; exact q rfl; exact h rfl
theorem T.ct {c : Bool} {x y : Option α} {Q : α → Prop} (h : c = true) (q : T x Q) : T (cond c x y) Q := by rw [h]; exact q
theorem T.cf {c : Bool} {x y : Option α} {Q : α → Prop} (h : c = false) (q : T y Q) : T (cond c x y) Q := by rw [h]; exact q
theorem T.map {o : Option α} {f : α → β} {Q : β → Prop} (h : T o fun v => Q (f v)) : T (o.map f) Q := by obtain ⟨v, h1, h2⟩ := h; rw [h1]; exact ⟨_, rfl, h2⟩
theorem T.mapL {J : S → Prop} {μ : S → Nat} {m : Nat} {o : Option R} {Q : R → Prop} (h : T o Q) : T (o.map (Sum.inr (α := S))) (LQ J μ m Q) := T.map h
theorem T.mapJ {M : S → Prop} {o : Option R} {Q : R → Prop} (h : T o Q) : T (o.map (Sum.inr (α := S))) (JQ M Q) := T.map h
theorem T.loop {step : S → Option (S ⊕ R)} {s0 : S} {Q : R → Prop} (J : S → Prop) (μ : S → Nat) (h0 : J s0) (h : ∀ s, J s → T (step s) (LQ J μ (μ s) Q)) : T (loopO step s0) Q := by
  refine loop_ex J μ Q (fun s hs => ?_) s0 h0
  obtain ⟨r, h1, h2⟩ := h s hs
  cases r with
  | inl s' => exact .inl ⟨s', h1, h2.1, h2.2⟩
  | inr r => exact .inr ⟨r, h1, h2⟩
theorem T.go {J : S → Prop} {μ : S → Nat} {m : Nat} {Q : R → Prop} {s : S} (h : J s) (h2 : μ s < m) : T (some (Sum.inl (β := R) s)) (LQ J μ m Q) := ⟨_, rfl, h, h2⟩
theorem T.out {J : S → Prop} {μ : S → Nat} {m : Nat} {Q : R → Prop} {r : R} (h : Q r) : T (some (Sum.inr (α := S) r)) (LQ J μ m Q) := ⟨_, rfl, h⟩
theorem T.jgo {M : S → Prop} {Q : R → Prop} {s : S} (h : M s) : T (some (Sum.inl (β := R) s)) (JQ M Q) := ⟨_, rfl, h⟩
theorem T.jout {M : S → Prop} {Q : R → Prop} {r : R} (h : Q r) : T (some (Sum.inr (α := S) r)) (JQ M Q) := ⟨_, rfl, h⟩
theorem T.join {o : Option (S ⊕ R)} {f : S → Option R} {Q : R → Prop} (M : S → Prop) (h : T o (JQ M Q)) (h2 : ∀ s, M s → T (f s) Q) : T (joinO o f) Q := by
  obtain ⟨r, h1, h3⟩ := h
  rw [h1]
  cases r with
  | inl s => exact h2 s h3
  | inr r => exact ⟨r, rfl, h3⟩
/-- A loop along a list, by number. -/
theorem T.along {step : S → Option (S ⊕ R)} {Q : R → Prop} (n : Nat) (mk : Nat → S) (h : ∀ k, k < n → T (step (mk k)) (LQ (fun s => s = mk (k + 1)) (fun _ => 0) 1 Q)) (he : T (step (mk n)) (LQ (fun _ => False) (fun _ => 0) 0 Q)) : T (loopO step (mk 0)) Q := by
  have key : ∀ d k, k + d = n → T (loopO step (mk k)) Q := by
    intro d
    induction d with
    | zero =>
      intro k hk
      have : k = n := by omega
      subst this
      obtain ⟨r, h1, h2⟩ := he
      cases r with
      | inl s => exact absurd h2.1 id
      | inr r => exact ⟨r, loop_out h1, h2⟩
    | succ d ih =>
      intro k hk
      obtain ⟨r, h1, h2⟩ := h k (by omega)
      cases r with
      | inl s => rw [loop_in h1, show s = mk (k + 1) from h2.1]; exact ih (k + 1) (by omega)
      | inr r => exact ⟨r, loop_out h1, h2⟩
  exact key n 0 (by omega)
end
theorem iLt_T {a b : Int} : (iLt a b = true) = (a < b) := by simp [iLt]
theorem iLt_F {a b : Int} : (iLt a b = false) = (b ≤ a) := by simp [iLt]
theorem iLe_T {a b : Int} : (iLe a b = true) = (a ≤ b) := by simp [iLe]
theorem iLe_F {a b : Int} : (iLe a b = false) = (b < a) := by simp [iLe]
theorem iEq_T {a b : Int} : (iEq a b = true) = (a = b) := by simp [iEq]
theorem iEq_F {a b : Int} : (iEq a b = false) = (¬ a = b) := by simp [iEq]
theorem iNe_T {a b : Int} : (iNe a b = true) = (¬ a = b) := by simp [iNe]
theorem iNe_F {a b : Int} : (iNe a b = false) = (a = b) := by simp [iNe]
theorem bnd_T {a b : Int} : (bnd a b = true) = (0 ≤ a ∧ a < b) := by simp [bnd]
theorem bnd_F {a b : Int} : (bnd a b = false) = (a < 0 ∨ b ≤ a) := by simp [bnd]; constructor <;> intro h <;> omega
theorem inB_T {α : Type} {i : Nat} {xs : List α} : (inB i xs = true) = (i < xs.length) := by simp [inB]
theorem inB_F {α : Type} {i : Nat} {xs : List α} : (inB i xs = false) = (xs.length ≤ i) := by simp [inB]
theorem fits_T {n b : Nat} : (fits n b = true) = (n * b ≤ 140737488355328 ∧ n ≤ 4611686018427387904) := by
  rw [eq_iff_iff]; constructor
  · intro h; unfold fits maxB at h; rw [Bool.and_eq_true] at h; exact ⟨of_decide_eq_true h.1, of_decide_eq_true h.2⟩
  · rintro ⟨h1, h2⟩; unfold fits maxB; rw [decide_eq_true h1, decide_eq_true h2]; rfl
theorem fitsI_T {n : Int} {b : Nat} : (fitsI n b = true) = (0 ≤ n ∧ n * b ≤ 140737488355328 ∧ n ≤ 4611686018427387904) := by
  rw [eq_iff_iff]; constructor
  · intro h; unfold fitsI maxB at h; rw [Bool.and_eq_true, Bool.and_eq_true] at h; exact ⟨of_decide_eq_true h.1.1, of_decide_eq_true h.1.2, of_decide_eq_true h.2⟩
  · rintro ⟨h1, h2, h3⟩; unfold fitsI maxB; rw [decide_eq_true h1, decide_eq_true h3]; simp only [Bool.true_and, Bool.and_true]; exact decide_eq_true h2
theorem cutOk_T {l u : Int} {n : Nat} : (cutOk l u n = true) = (0 ≤ l ∧ l ≤ u ∧ u ≤ (n : Int)) := by simp [cutOk, and_assoc]
theorem someE_T {α : Type} {xs : List α} : (someE xs = true) = (0 < xs.length) := by cases xs <;> simp [someE]
theorem someE_F {α : Type} {xs : List α} : (someE xs = false) = (xs.length = 0) := by cases xs <;> simp [someE]
theorem leN_T {α : Type} {n : Nat} {xs : List α} : (leN n xs = true) = (n ≤ xs.length) := by simp [leN]
theorem not_T {b : Bool} : (Bool.not b = true) = (b = false) := by cases b <;> simp
theorem not_F {b : Bool} : (Bool.not b = false) = (b = true) := by cases b <;> simp
theorem and_T {a b : Bool} : (and a b = true) = (a = true ∧ b = true) := by cases a <;> simp
theorem and_F {a b : Bool} : (and a b = false) = (a = false ∨ b = false) := by cases a <;> simp
theorem or_T {a b : Bool} : (or a b = true) = (a = true ∨ b = true) := by cases a <;> simp
theorem or_F {a b : Bool} : (or a b = false) = (a = false ∧ b = false) := by cases a <;> simp
theorem candF_T {a b : Bool} : (cond a b false = true) = (a = true ∧ b = true) := by cases a <;> simp
theorem candF_F {a b : Bool} : (cond a b false = false) = (a = false ∨ b = false) := by cases a <;> simp
theorem corT_T {a b : Bool} : (cond a true b = true) = (a = true ∨ b = true) := by cases a <;> simp
theorem corT_F {a b : Bool} : (cond a true b = false) = (a = false ∧ b = false) := by cases a <;> simp
theorem bEqT_T {a : Bool} : (bEq a true = true) = (a = true) := by cases a <;> simp [bEq]
theorem bEqT_F {a : Bool} : (bEq a true = false) = (a = false) := by cases a <;> simp [bEq]
theorem bEqF_T {a : Bool} : (bEq a false = true) = (a = false) := by cases a <;> simp [bEq]
theorem bEqF_F {a : Bool} : (bEq a false = false) = (a = true) := by cases a <;> simp [bEq]
theorem sEq_T {a b : ByteArray} : (sEq a b = true) = (a = b) := by
  simp only [sEq, beq_iff_eq, eq_iff_iff]
  constructor
  · intro h
    exact (show ∀ x y : ByteArray, x.toList = y.toList → x = y from fun x y q => by
      have hx : ∀ z : ByteArray, z.toList = z.data.toList := fun z => ByteArray.toList_eq z
      rw [hx, hx] at q
      cases x; cases y
      simp at q; rw [q]) a b h
  · intro h; rw [h]
theorem sEq_F {a b : ByteArray} : (sEq a b = false) = (¬ a = b) := by
  rw [← Bool.not_eq_true, sEq_T]
theorem wrap8_T {n : Int} (h1 : 0 ≤ n) (h2 : n ≤ 255) : IntKind.wrap .u8 n = n := wrap8 h1 h2
theorem wrap64_T {n : Int} (h1 : -9223372036854775808 ≤ n) (h2 : n ≤ 9223372036854775807) : IntKind.wrap .i64 n = n := wrap64 h1 h2
end Abs
end Go.Proofs.YtamgbanmnededaaDoor
