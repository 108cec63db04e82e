/- The typed machine: types with native values, the machine's values, its heap. Definitions and their first facts. -/
import Derived.Test.YtamgbanmnededaaDoorAbsR
namespace Go.Proofs.YtamgbanmnededaaDoor
namespace Abs
open Go.RowKit
set_option linter.unusedVariables false

mutual
/-- The native values of a type. -/
def Ty.den : Ty → Type
  | .int _ => Int
  | .bool => Bool
  | .str => ByteArray
  | .list e => List (Ty.den e)
  | .tup fs => Ty.denL fs
  | .fnc _ => Unit
  | .listF e => Option (List (Ty.den e))
def Ty.denL : List Ty → Type
  | [] => Unit
  | t :: ts => Ty.den t × Ty.denL ts
end
mutual
def Ty.enc : (T : Ty) → T.den → AV
  | .int k, n => .v (.int k n)
  | .bool, b => .v (.bool b)
  | .str, s => .v (.string s)
  | .list e, xs => .list e.size (List.map (Ty.enc e) xs)
  | .tup fs, x => .agg (Ty.encL fs x)
  | .fnc f, _ => .v (.func (.func f) #[] #[])
  | .listF e, o => match o with
    | none => .v (.slice none 0 0)
    | some xs => .list e.size (List.map (Ty.enc e) xs)
def Ty.encL : (fs : List Ty) → Ty.denL fs → List AV
  | [], _ => []
  | t :: ts, x => (Ty.enc t x.1).cells ++ Ty.encL ts x.2
end
mutual
def Ty.dflt : (T : Ty) → T.den
  | .int _ => (0 : Int)
  | .bool => false
  | .str => ByteArray.empty
  | .list _ => []
  | .tup fs => Ty.dfltL fs
  | .fnc _ => ()
  | .listF _ => none
def Ty.dfltL : (fs : List Ty) → Ty.denL fs
  | [] => ()
  | t :: ts => (Ty.dflt t, Ty.dfltL ts)
end
mutual
def Ty.same : Ty → Ty → Bool
  | .int k, .int k' => decide (k = k')
  | .bool, .bool => true
  | .str, .str => true
  | .list a, .list b => Ty.same a b
  | .tup fs, .tup gs => Ty.sameL fs gs
  | .fnc f, .fnc g => Nat.beq f g
  | .listF a, .listF b => Ty.same a b
  | _, _ => false
def Ty.sameL : List Ty → List Ty → Bool
  | [], [] => true
  | a :: as, b :: bs => Ty.same a b && Ty.sameL as bs
  | _, _ => false
end
mutual
theorem Ty.same_eq : ∀ {a b : Ty}, Ty.same a b = true → a = b
  | .int k, b, h => by cases b <;> simp [Ty.same] at h; rw [h]
  | .bool, b, h => by cases b <;> simp [Ty.same] at h; rfl
  | .str, b, h => by cases b <;> simp [Ty.same] at h; rfl
  | .list a, b, h => by cases b <;> simp [Ty.same] at h; rw [Ty.same_eq h]
  | .tup fs, b, h => by cases b <;> simp [Ty.same] at h; rw [Ty.sameL_eq h]
  | .fnc f, b, h => by cases b <;> simp [Ty.same] at h; rw [h]
  | .listF a, b, h => by cases b <;> simp [Ty.same] at h; rw [Ty.same_eq h]
theorem Ty.sameL_eq : ∀ {a b : List Ty}, Ty.sameL a b = true → a = b
  | [], b, h => by cases b <;> simp [Ty.sameL] at h; rfl
  | a :: as, b, h => by
    cases b with
    | nil => simp [Ty.sameL] at h
    | cons b bs => simp [Ty.sameL] at h; rw [Ty.same_eq h.1, Ty.sameL_eq h.2]
end
/-- A value at a type that is the same. -/
def castT {a b : Ty} (x : a.den) : Option b.den := if h : Ty.same a b = true then some ((Ty.same_eq h) ▸ x) else none
theorem castT_eq {a b : Ty} {x : a.den} {y : b.den} (h : castT x = some y) : ∃ e : a = b, y = e ▸ x := by
  unfold castT at h
  split at h
  · rename_i hs; cases h; exact ⟨Ty.same_eq hs, rfl⟩
  · cases h

theorem enc_cells : ∀ (T : Ty) (x : T.den), ((Ty.enc T x).cells.length = T.size) := by
  have key : (∀ T : Ty, ∀ x : T.den, (Ty.enc T x).cells.length = T.size) ∧ True := ⟨?_, trivial⟩
  · exact key.1
  · intro T
    refine Ty.rec (motive_1 := fun T => ∀ x : T.den, (Ty.enc T x).cells.length = T.size) (motive_2 := fun fs => ∀ x : Ty.denL fs, (Ty.encL fs x).length = Ty.sizeL fs) ?_ ?_ ?_ ?_ ?_ ?_ ?_ ?_ ?_ T
    · intro k x; rfl
    · intro x; rfl
    · intro x; rfl
    · intro e _ x; rfl
    · intro fs ih x; exact ih x
    · intro f x; rfl
    · intro e _ x; cases x <;> rfl
    · intro x; rfl
    · intro t ts h1 h2 x
      simp only [Ty.encL, List.length_append, h1, h2, Ty.sizeL]

/-- The machine's values. -/
inductive XV where
  | any
  | d (T : Ty) (x : T.den)
  | k (v : Value)
  | row (id : Nat)
  | sub (id off len : Nat)
  | csub (id len : Nat)
  | vrow (id : Nat)
  | me (id : Nat)
  | ptr (id i off : Nat)
  | lp (T : Ty) (x : T.den) (off : Nat)
  | agg (cs : List XV)
  | tup (vs : List XV)
instance : Inhabited XV := ⟨.any⟩
/-- The machine's objects. -/
inductive XO where
  | row (ty : Nat) (T : Ty) (fz : Bool) (es : List T.den)
  | box (ty : Nat) (cs : List XV)
  | vec (ty : Nat) (cs : List XV)
structure XS where
  t : List XV
  h : List XO
def XO.len : XO → Nat
  | .row _ _ _ es => es.length
  | .box _ _ => 1
  | .vec _ cs => cs.length

/-- A value reads as another does, nil as the empty list. -/
inductive Wp : AV → AV → Prop
  | refl (a : AV) : Wp a a
  | nil (sz : Nat) : Wp (.v (.slice none 0 0)) (.list sz [])
  | list (sz : Nat) (xs ys : List AV) (hl : xs.length = ys.length) (h : ∀ (i : Nat) (x y : AV), xs[i]? = some x → ys[i]? = some y → Wp x y) : Wp (.list sz xs) (.list sz ys)
  | agg (xs ys : List AV) (hl : xs.length = ys.length) (h : ∀ (i : Nat) (x y : AV), xs[i]? = some x → ys[i]? = some y → Wp x y) : Wp (.agg xs) (.agg ys)
def All2 {α β : Type} (R : α → β → Prop) (xs : List α) (ys : List β) : Prop := xs.length = ys.length ∧ ∀ (i : Nat) (x : α) (y : β), xs[i]? = some x → ys[i]? = some y → R x y

section
variable {α β γ : Type} {R : α → β → Prop}
theorem All2.nil : All2 R [] [] := ⟨rfl, fun i x y h => by simp at h⟩
theorem All2.cons {x : α} {y : β} {xs : List α} {ys : List β} (h : R x y) (t : All2 R xs ys) : All2 R (x :: xs) (y :: ys) :=
  ⟨by simp [t.1], fun i a b p q => by
    cases i with
    | zero => simp at p q; subst p q; exact h
    | succ i => simp at p q; exact t.2 i a b p q⟩
theorem All2.head {x : α} {y : β} {xs : List α} {ys : List β} (h : All2 R (x :: xs) (y :: ys)) : R x y := h.2 0 x y rfl rfl
theorem All2.tail {x : α} {y : β} {xs : List α} {ys : List β} (h : All2 R (x :: xs) (y :: ys)) : All2 R xs ys := ⟨by have := h.1; simpa using this, fun i a b p q => h.2 (i + 1) a b (by simpa using p) (by simpa using q)⟩
theorem All2.nil_left {ys : List β} (h : All2 R [] ys) : ys = [] := by have := h.1; simp at this; exact List.length_eq_zero_iff.1 this.symm
theorem All2.nil_right {xs : List α} (h : All2 R xs []) : xs = [] := by have := h.1; simp at this; exact this
theorem All2.cons_left {x : α} {xs : List α} {ys : List β} (h : All2 R (x :: xs) ys) : ∃ y zs, ys = y :: zs ∧ R x y ∧ All2 R xs zs := by
  cases ys with
  | nil => have := h.1; simp at this
  | cons y zs => exact ⟨y, zs, rfl, h.head, h.tail⟩
theorem All2.cons_right {y : β} {xs : List α} {ys : List β} (h : All2 R xs (y :: ys)) : ∃ x zs, xs = x :: zs ∧ R x y ∧ All2 R zs ys := by
  cases xs with
  | nil => have := h.1; simp at this
  | cons x zs => exact ⟨x, zs, rfl, h.head, h.tail⟩
theorem All2.drop {xs : List α} {ys : List β} (h : All2 R xs ys) (n : Nat) : All2 R (xs.drop n) (ys.drop n) :=
  ⟨by simp [h.1], fun i x y p q => by rw [List.getElem?_drop] at p q; exact h.2 _ x y p q⟩
theorem All2.take {xs : List α} {ys : List β} (h : All2 R xs ys) (n : Nat) : All2 R (xs.take n) (ys.take n) :=
  ⟨by simp [h.1], fun i x y p q => by
    rw [List.getElem?_take] at p q
    split at p
    · rename_i hi; rw [if_pos hi] at q; exact h.2 _ x y p q
    · cases p⟩
theorem All2.append {xs xs' : List α} {ys ys' : List β} (h : All2 R xs ys) (k : All2 R xs' ys') : All2 R (xs ++ xs') (ys ++ ys') :=
  ⟨by simp [h.1, k.1], fun i x y p q => by
    rcases Nat.lt_or_ge i xs.length with hi | hi
    · rw [List.getElem?_append_left hi] at p
      rw [List.getElem?_append_left (by rw [← h.1]; exact hi)] at q
      exact h.2 i x y p q
    · rw [List.getElem?_append_right hi] at p
      rw [List.getElem?_append_right (by rw [← h.1]; exact hi), ← h.1] at q
      exact k.2 _ x y p q⟩
theorem All2.set {xs : List α} {ys : List β} (h : All2 R xs ys) {x : α} {y : β} (hr : R x y) (n : Nat) : All2 R (xs.set n x) (ys.set n y) :=
  ⟨by simp [h.1], fun i a b p q => by
    rw [List.getElem?_set] at p q
    split at p
    · rename_i hi
      rw [if_pos hi] at q
      split at p
      · split at q
        · cases p; cases q; exact hr
        · cases q
      · cases p
    · rename_i hi
      rw [if_neg hi] at q
      exact h.2 i a b p q⟩
theorem All2.getD {xs : List α} {ys : List β} (h : All2 R xs ys) {n : Nat} (hn : n < ys.length) (u : α) (v : β) : R (xs.getD n u) (ys.getD n v) := by
  have hn' : n < xs.length := by rw [h.1]; exact hn
  have e1 : xs.getD n u = xs[n] := by simp [List.getD, List.getElem?_eq_getElem hn']
  have e2 : ys.getD n v = ys[n] := by simp [List.getD, List.getElem?_eq_getElem hn]
  rw [e1, e2]
  exact h.2 n _ _ (List.getElem?_eq_getElem hn') (List.getElem?_eq_getElem hn)
theorem All2.mono {R' : α → β → Prop} {xs : List α} {ys : List β} (h : All2 R xs ys) (hr : ∀ x y, R x y → R' x y) : All2 R' xs ys := ⟨h.1, fun i x y p q => hr x y (h.2 i x y p q)⟩
theorem All2.get_left {xs : List α} {ys : List β} (h : All2 R xs ys) {i : Nat} {x : α} (hx : xs[i]? = some x) : ∃ y, ys[i]? = some y ∧ R x y := by
  have hi : i < xs.length := (List.getElem?_eq_some_iff.1 hx).1
  have hi' : i < ys.length := by rw [← h.1]; exact hi
  exact ⟨ys[i], List.getElem?_eq_getElem hi', h.2 i x _ hx (List.getElem?_eq_getElem hi')⟩
theorem All2.get_right {xs : List α} {ys : List β} (h : All2 R xs ys) {i : Nat} {y : β} (hy : ys[i]? = some y) : ∃ x, xs[i]? = some x ∧ R x y := by
  have hi : i < ys.length := (List.getElem?_eq_some_iff.1 hy).1
  have hi' : i < xs.length := by rw [h.1]; exact hi
  exact ⟨xs[i], List.getElem?_eq_getElem hi', h.2 i _ y (List.getElem?_eq_getElem hi') hy⟩
theorem All2.map_right {R' : α → γ → Prop} {f : β → γ} {xs : List α} {ys : List β} (h : All2 R xs ys) (hr : ∀ x y, R x y → R' x (f y)) : All2 R' xs (ys.map f) :=
  ⟨by simp [h.1], fun i x z p q => by
    rw [List.getElem?_map] at q
    cases hy : ys[i]? with
    | none => rw [hy] at q; cases q
    | some y => rw [hy] at q; cases q; exact hr x y (h.2 i x y p hy)⟩
theorem All2.rfl' {R : α → α → Prop} (h : ∀ x, R x x) (xs : List α) : All2 R xs xs := ⟨rfl, fun i x y p q => by rw [p] at q; cases q; exact h x⟩
end

theorem Wp.v_inv {a : AV} {y : Value} (h : Wp a (.v y)) : a = .v y := by
  generalize hb : AV.v y = b at h
  cases h with
  | refl => rfl
  | _ => cases hb
theorem Wp.list_inv {a : AV} {sz : Nat} {ys : List AV} (h : Wp a (.list sz ys)) : (a = .v (.slice none 0 0) ∧ ys = []) ∨ ∃ xs, a = .list sz xs ∧ All2 Wp xs ys := by
  generalize hb : AV.list sz ys = b at h
  cases h with
  | refl => subst hb; exact .inr ⟨ys, rfl, All2.rfl' .refl ys⟩
  | nil => cases hb; exact .inl ⟨rfl, rfl⟩
  | list _ xs ys' hl h => cases hb; exact .inr ⟨xs, rfl, hl, h⟩
  | agg => cases hb
theorem Wp.agg_inv {a : AV} {ys : List AV} (h : Wp a (.agg ys)) : ∃ xs, a = .agg xs ∧ All2 Wp xs ys := by
  generalize hb : AV.agg ys = b at h
  cases h with
  | refl => subst hb; exact ⟨ys, rfl, All2.rfl' .refl ys⟩
  | agg xs ys' hl h => cases hb; exact ⟨xs, rfl, hl, h⟩
  | _ => cases hb
theorem Wp.cells {a b : AV} (h : Wp a b) : All2 Wp a.cells b.cells := by
  cases h with
  | refl => exact All2.rfl' .refl _
  | nil sz => exact .cons (.nil sz) .nil
  | list sz xs ys hl h => exact .cons (.list sz xs ys hl h) .nil
  | agg xs ys hl h => exact ⟨hl, h⟩
theorem Wp.wk2 {a b : AV} (h : Wp a b) : Wk a b ∧ ∀ (j : Nat) (x y : AV), a.cells[j]? = some x → b.cells[j]? = some y → Wk x y := by
  have one : ∀ {a b : AV}, a.cells = [a] → b.cells = [b] → Wk a b → ∀ (j : Nat) (x y : AV), a.cells[j]? = some x → b.cells[j]? = some y → Wk x y := by
    intro a b ha hb hw j x y p q
    rw [ha] at p; rw [hb] at q
    match j with
    | 0 => simp at p q; subst p q; exact hw
    | j + 1 => simp at p
  induction h with
  | refl a => exact ⟨Wk.refl a, fun j x y p q => by rw [p] at q; cases q; exact Wk.refl _⟩
  | nil sz => exact ⟨Wk.nil sz, one rfl rfl (Wk.nil sz)⟩
  | agg xs ys hl h ih => exact ⟨Wk.agg hl fun j a b p q => (ih j a b p q).1, fun j x y p q => (ih j x y p q).1⟩
  | list sz xs ys hl h ih =>
    have main : Wk (.list sz xs) (.list sz ys) := by
      intro F x hR
      cases hR with
      | nil =>
        have : ys = [] := List.length_eq_zero_iff.1 (by simpa using hl.symm)
        subst this; exact .nil sz
      | list ad n cap _ _ cv hn hc hz hF hRc =>
        have cel : ∀ (i : Nat) (e : AV), ys[i]? = some e → ∃ e', xs[i]? = some e' ∧ Wp e' e := fun i e he => All2.get_right ⟨hl, h⟩ he
        have at' : ∀ (i j : Nat) (e a : AV), ys[i]? = some e → e.cells[j]? = some a → ∃ e' a', xs[i]? = some e' ∧ e'.cells[j]? = some a' ∧ Wk a' a := fun i j e a he ha => by
          obtain ⟨e', he', hw⟩ := cel i e he
          obtain ⟨a', ha', hwa⟩ := hw.cells.get_right ha
          exact ⟨e', a', he', ha', (ih i e' e he' he).2 j a' a ha' ha⟩
        refine .list ad n cap sz ys cv (by rw [← hl]; exact hn) hc (fun i e he => ?_) (fun i j e a he ha => ?_) (fun i j e a he ha => ?_)
        · obtain ⟨e', he', hw⟩ := cel i e he
          rw [← hw.cells.1]; exact hz i e' he'
        · obtain ⟨e', a', he', ha', _⟩ := at' i j e a he ha
          exact hF i j e' a' he' ha'
        · obtain ⟨e', a', he', ha', hw⟩ := at' i j e a he ha
          exact hw F _ (hRc i j e' a' he' ha')
    exact ⟨main, one rfl rfl main⟩
theorem Wp.wk {a b : AV} (h : Wp a b) : Wk a b := h.wk2.1
end Abs
end Go.Proofs.YtamgbanmnededaaDoor
