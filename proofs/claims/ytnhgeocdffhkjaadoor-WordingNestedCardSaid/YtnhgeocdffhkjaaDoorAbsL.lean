/- The abstract machine: lists of bytes and of numbers; ends; measures. -/
import Derived.Test.YtnhgeocdffhkjaaDoorAbsC
namespace Go.Proofs.YtnhgeocdffhkjaaDoor
namespace Abs
open Go.RowKit
set_option linter.unusedVariables false

def noGl : Nat → Option (List AV) := fun _ => none
def e8 (x : Int) : AV := .v (.int .u8 x)
def e64 (x : Int) : AV := .v (.int .i64 x)
theorem getD_map {α : Type} (e : α → AV) (z : α) (xs : List α) {k : Nat} (h : k < xs.length) : (xs.map e).getD k .any = e (xs.getD k z) := by
  simp [List.getD, List.getElem?_eq_getElem h]
theorem e8_at {xs : List Int} {k : Nat} (h : k < xs.length) : (xs.map e8).getD k .any = .v (.int .u8 (xs.getD k 0)) := getD_map e8 0 xs h
theorem e64_at {xs : List Int} {k : Nat} (h : k < xs.length) : (xs.map e64).getD k .any = .v (.int .i64 (xs.getD k 0)) := getD_map e64 0 xs h
theorem take_snoc {xs : List Int} {k : Nat} (h : k < xs.length) : xs.take (k + 1) = xs.take k ++ [xs.getD k 0] := by
  rw [List.take_succ_eq_append_getElem h]; simp [List.getD, List.getElem?_eq_getElem h]
/-- The number in a slot. -/
def sn (τ : St) (i : Nat) : Nat := match τ.t.getD i .any with | .v (.int _ n) => n.toNat | _ => 0
theorem Wk.of_eq {a b : AV} (h : a = b) : Wk a b := by subst h; exact Wk.refl _
theorem Wk.nilE {a : AV} {sz : Nat} {xs : List AV} (ha : a = .v (.slice none 0 0)) (h : xs = []) : Wk a (.list sz xs) := by subst ha h; exact Wk.nil sz
theorem Wk.tup2 {a b a' b' : AV} (h1 : Wk a a') (h2 : Wk b b') : Wk (.tup [a, b]) (.tup [a', b']) := Wk.tup rfl fun j x y p q => by
  match j with
  | 0 => simp at p q; subst p q; exact h1
  | 1 => simp at p q; subst p q; exact h2
  | j + 2 => simp at p
/-- What a body leaves behind, reckoned. -/
def endV (Gl : Nat → Option (List AV)) (σ : St) (rs : List RV) : Option (Prop × AV) := match resA Gl σ rs with
  | some (p, a) => match keepT σ.h a with
    | some b => some (p, b)
    | none => none
  | none => none
def EndK (o : Option (Prop × AV)) (res : AV) : Prop := match o with
  | some (p, b) => p ∧ Wk b res
  | none => False
def EndH (o : Option (Prop × AV)) (h : List AObj) (Q : AV → List AObj → Prop) : Prop := match o with
  | some (p, a) => p ∧ Q a h
  | none => False
theorem endK_sound {Gl : Nat → Option (List AV)} {σ : St} {rs : List RV} {res : AV} {e : Exit} (he : match e with | .normal => True | .ret => True | _ => False) (h : EndK (endV Gl σ rs) res) : Ends Gl rs res e σ := by
  unfold EndK endV at h
  cases h1 : resA Gl σ rs with
  | none => rw [h1] at h; exact h.elim
  | some q =>
    obtain ⟨p, a⟩ := q
    rw [h1] at h
    simp only at h
    cases h2 : keepT σ.h a with
    | none => rw [h2] at h; exact h.elim
    | some b => rw [h2] at h; exact ⟨he, p, a, b, h1, h.1, h2, h.2⟩
theorem endH_sound {Gl : Nat → Option (List AV)} {σ : St} {rs : List RV} {Q : AV → List AObj → Prop} {e : Exit} (he : match e with | .normal => True | .ret => True | _ => False) (h : EndH (resA Gl σ rs) σ.h Q) : EndsH Gl rs Q e σ := by
  unfold EndH at h
  cases h1 : resA Gl σ rs with
  | none => rw [h1] at h; exact h.elim
  | some q =>
    obtain ⟨p, a⟩ := q
    rw [h1] at h
    exact ⟨he, p, a, h1, h.1, h.2⟩
section
variable {Gl : Nat → Option (List AV)} {t : List AV} {h : List AObj} {res : AV} {Q : AV → List AObj → Prop}
theorem end_ret {rs : List RV} {p : Prop} {a b : AV} (h1 : resA Gl ⟨t, h⟩ rs = some (p, a)) (h2 : p) (h3 : keepT h a = some b) (h4 : Wk b res) : Ends Gl rs res .ret ⟨t, h⟩ := ⟨trivial, p, a, b, h1, h2, h3, h4⟩
theorem end_normal {rs : List RV} {p : Prop} {a b : AV} (h1 : resA Gl ⟨t, h⟩ rs = some (p, a)) (h2 : p) (h3 : keepT h a = some b) (h4 : Wk b res) : Ends Gl rs res .normal ⟨t, h⟩ := ⟨trivial, p, a, b, h1, h2, h3, h4⟩
theorem endH_ret {rs : List RV} {p : Prop} {a : AV} (h1 : resA Gl ⟨t, h⟩ rs = some (p, a)) (h2 : p) (h3 : Q a h) : EndsH Gl rs Q .ret ⟨t, h⟩ := ⟨trivial, p, a, h1, h2, h3⟩
end

/-- A contract at arguments that read as its own do. -/
theorem Pure.weak {P : Program} {Gl : Nat → Option (List AV)} {f : Nat} {as bs : List AV} {res : AV} (h : Pure P Gl f bs res) (hl : as.length = bs.length) (hw : ∀ (j : Nat) (a b : AV), as[j]? = some a → bs[j]? = some b → Wk a b) : Pure P Gl f as res := by
  intro w F xs h1 h2 hgw h3
  refine h w F xs h1 h2 hgw ⟨by rw [h3.1, hl], fun i x b p q => ?_⟩
  have hi : i < as.length := by rw [hl]; exact (List.getElem?_eq_some_iff.1 q).1
  exact hw i as[i] b (List.getElem?_eq_getElem hi) q F x (h3.2 i x _ p (List.getElem?_eq_getElem hi))
theorem Pure.weak1 {P : Program} {Gl : Nat → Option (List AV)} {f : Nat} {a b : AV} {l : List AV} {res : AV} (h : Pure P Gl f (b :: l) res) (hw : Wk a b) : Pure P Gl f (a :: l) res :=
  h.weak rfl fun j x y p q => by
    cases j with
    | zero => simp at p q; subst p q; exact hw
    | succ j => simp at p q; rw [p] at q; cases q; exact Wk.refl _
theorem Wk.agg1 {a b : AV} {l : List AV} (hw : Wk a b) : Wk (.agg (a :: l)) (.agg (b :: l)) := Wk.agg rfl fun j x y p q => by
  cases j with
  | zero => simp at p q; subst p q; exact hw
  | succ j => simp at p q; rw [p] at q; cases q; exact Wk.refl _
/-- A contract of a better result. -/
theorem Pure.res {P : Program} {Gl : Nat → Option (List AV)} {f : Nat} {as : List AV} {r r' : AV} (h : Pure P Gl f as r) (e : r = r') : Pure P Gl f as r' := e ▸ h
end Abs
end Go.Proofs.YtnhgeocdffhkjaaDoor
