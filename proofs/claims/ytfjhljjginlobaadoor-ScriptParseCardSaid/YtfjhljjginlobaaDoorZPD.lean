/- Merged and trimmed by a program: XM XH XI XJ XK XL XP XQ XR. -/
import Derived.Test.YtfjhljjginlobaaDoorZPC
import Derived.LoopN
set_option linter.unusedVariables false
set_option linter.unusedSimpArgs false
section
namespace Go.Proofs.YtfjhljjginlobaaDoor
namespace Abs
open Go.RowKit
section
variable {Gl : Nat → Option (List AV)} {F : Addr → Option Value} {own own' : List Ent} {B : Nat} {w0 : W0} {σ : St} {act : Act} {w : World}
def Okc (F : Addr → Option Value) (own own' : List Ent) (a : AV) : Prop := ∀ v, R F own v a → R F own' v a
def Cl (n : Nat) (a : AV) : Prop := ∀ (F : Addr → Option Value) (own own' : List Ent), (∀ i, i < n → own'[i]? = own[i]?) → Okc F own own' a
theorem cl_rp {x : Value} {a : AV} (h : RP F x a) (n : Nat) : Cl n a := by
 induction h with
 | any x => exact fun _ _ _ _ v _ => .pure (.any v)
 | v x => exact fun F own own' _ v h => by rw [h.v_inv]; exact .pure (.v _)
 | nil sz => exact fun F own own' _ v h => .pure h.list_inv
 | list ad n cap sz xs cv hn hc hz hF hR ih => exact fun F own own' _ v h => .pure h.list_inv
 | lptr ad cs cv hF hR ih => exact fun F own own' _ v h => .pure h.lptr_inv
 | agg xs cs hl h1 hR ih =>
  intro F own own' hw v h
  obtain ⟨ys, rfl, hl', h1', hR'⟩ := h.agg_inv
  refine .agg ys cs hl' h1' fun j y a p q => ?_
  have hj : j < xs.size := by rw [hl]; exact (List.getElem?_eq_some_iff.1 q).1
  exact ih j _ a (Array.getElem?_eq_getElem hj) q F own own' hw y (hR' j y a p q)
 | tup xs cs hl hR ih =>
  intro F own own' hw v h
  obtain ⟨ys, rfl, hl', hR'⟩ := h.tup_inv
  refine .tup ys cs hl' fun j y a p q => ?_
  have hj : j < xs.size := by rw [hl]; exact (List.getElem?_eq_some_iff.1 q).1
  exact ih j _ a (Array.getElem?_eq_getElem hj) q F own own' hw y (hR' j y a p q)
theorem okc_row {id G sz off len : Nat} (h : own'[id]? = own[id]?) : Okc F own own' (.row id G sz off len) := fun v hv => by
 obtain ⟨e, he, hG, hs, hx⟩ := hv.row_inv
 exact .row _ _ _ _ _ _ e (by rw [h]; exact he) hG hs hx
theorem okc_crow {id G sz len : Nat} (h : own'[id]? = own[id]?) : Okc F own own' (.crow id G sz len) := fun v hv => by
 obtain ⟨e, he, hG, hs, hx⟩ := hv.crow_inv
 exact .crow _ _ _ _ _ e (by rw [h]; exact he) hG hs hx
theorem okc_ptr {id G i off : Nat} (h : own'[id]? = own[id]?) : Okc F own own' (.ptr id G i off) := fun v hv => by
 obtain ⟨e, he, hG, hs, hx⟩ := hv.ptr_inv
 exact .ptr _ _ _ _ _ e (by rw [h]; exact he) hG hs hx
theorem cl_r {n : Nat} {x : Value} {a : AV} (h : R F own x a) (hn : own.length ≤ n) : Cl n a := by
 have lt : ∀ {id : Nat} {e : Ent}, own[id]? = some e → id < n := fun q => Nat.lt_of_lt_of_le (List.getElem?_eq_some_iff.1 q).1 hn
 induction h with
 | pure h => exact cl_rp h n
 | row x id G sz off len e he hG hs hx => exact fun F own own' hw => okc_row (hw id (lt he))
 | crow x id G sz len e he hG hs hx => exact fun F own own' hw => okc_crow (hw id (lt he))
 | ptr x id G i off e he hG hs hx => exact fun F own own' hw => okc_ptr (hw id (lt he))
 | agg xs cs hl h1 hR ih =>
  intro F own own' hw v h
  obtain ⟨ys, rfl, hl', h1', hR'⟩ := h.agg_inv
  refine .agg ys cs hl' h1' fun j y a p q => ?_
  have hj : j < xs.size := by rw [hl]; exact (List.getElem?_eq_some_iff.1 q).1
  exact ih j _ a (Array.getElem?_eq_getElem hj) q F own own' hw y (hR' j y a p q)
 | tup xs cs hl hR ih =>
  intro F own own' hw v h
  obtain ⟨ys, rfl, hl', hR'⟩ := h.tup_inv
  refine .tup ys cs hl' fun j y a p q => ?_
  have hj : j < xs.size := by rw [hl]; exact (List.getElem?_eq_some_iff.1 q).1
  exact ih j _ a (Array.getElem?_eq_getElem hj) q F own own' hw y (hR' j y a p q)
def ClH (n : Nat) (H : List AObj) : Prop := ∀ (j : Nat) (O : AObj), H[j]? = some O → O.pr = false → ∀ (i k : Nat) (e a : AV), O.es[i]? = some e → e.cells[k]? = some a → Cl n a
theorem Inv.clH (h : Inv Gl F own B w0 σ act w) : ClH σ.h.length σ.h := by
 intro j O hO hpr i k e a hi hk
 obtain ⟨en, hen, k1, k2, k3, k4, k5, k6, k7, k8⟩ := h.obj_own hO
 cases hg : en.g with
 | none =>
  rw [hg] at k8
  have : O.es.length = 0 := by have k8 : en.cap = 0 := k8; omega
  have := (List.getElem?_eq_some_iff.1 hi).1
  omega
 | some g =>
  rw [hg] at k8
  obtain ⟨cs, a1, a2, a3, a4⟩ := k8
  obtain ⟨y, b1, b2, b3⟩ := a3 i k e a hi hk
  unfold RC at b3
  rw [if_neg (by rw [hpr]; simp)] at b3
  exact cl_r b3 (Nat.le_of_eq h.hl)
open Classical in
noncomputable def off1 (F : Addr → Option Value) (own own' : List Ent) (a : AV) : AV := if Okc F own own' a then a else .any
noncomputable def offA (F : Addr → Option Value) (own own' : List Ent) : AV → AV
 | .agg cs => .agg (cs.map (off1 F own own'))
 | a => off1 F own own' a
noncomputable def offT (F : Addr → Option Value) (own own' : List Ent) : AV → AV
 | .tup vs => .tup (vs.map (offA F own own'))
 | a => offA F own own' a
noncomputable def offO (F : Addr → Option Value) (own own' : List Ent) (o : AObj) : AObj := if o.pr = true then o else { o with es := o.es.map (offA F own own') }
theorem off1_eq {a : AV} (h : Okc F own own' a) : off1 F own own' a = a := by unfold off1; rw [if_pos h]
theorem off1_or (a : AV) : off1 F own own' a = a ∨ off1 F own own' a = .any := by
 unfold off1; split
 ·exact .inl rfl
 ·exact .inr rfl
theorem R.off1 {x : Value} {a : AV} (h : R F own x a) : R F own' x (off1 F own own' a) := by
 unfold Abs.off1
 split
 ·rename_i hk; exact hk x h
 ·exact .pure (.any x)
theorem offA_else {a : AV} (h : ∀ cs, a ≠ .agg cs) : offA F own own' a = Abs.off1 F own own' a := by
 cases a <;> first | rfl | exact absurd rfl (h _)
theorem offT_else {a : AV} (h : ∀ cs, a ≠ .tup cs) : offT F own own' a = offA F own own' a := by
 cases a <;> first | rfl | exact absurd rfl (h _)
theorem R.offA {x : Value} {a : AV} (h : R F own x a) : R F own' x (offA F own own' a) := by
 by_cases ha : ∃ cs, a = .agg cs
 ·obtain ⟨cs, rfl⟩ := ha
  obtain ⟨xs, rfl, hl, h1, hR⟩ := h.agg_inv
  refine .agg xs _ (by simp [hl]) h1 fun j x a p q => ?_
  rw [List.getElem?_map] at q
  cases hc : cs[j]? with
  | none => rw [hc] at q; cases q
  | some c => rw [hc] at q; cases q; exact (hR j x c p hc).off1
 ·rw [offA_else fun cs q => ha ⟨cs, q⟩]; exact h.off1
theorem R.offT {x : Value} {a : AV} (h : R F own x a) : R F own' x (offT F own own' a) := by
 by_cases ha : ∃ cs, a = .tup cs
 ·obtain ⟨cs, rfl⟩ := ha
  obtain ⟨xs, rfl, hl, hR⟩ := h.tup_inv
  refine .tup xs _ (by simp [hl]) fun j x a p q => ?_
  rw [List.getElem?_map] at q
  cases hc : cs[j]? with
  | none => rw [hc] at q; cases q
  | some c => rw [hc] at q; cases q; exact (hR j x c p hc).offA
 ·rw [offT_else fun cs q => ha ⟨cs, q⟩]; exact h.offA
theorem offA_cells (a : AV) : (offA F own own' a).cells = a.cells.map (off1 F own own') := by
 by_cases ha : ∃ cs, a = .agg cs
 ·obtain ⟨cs, rfl⟩ := ha; rfl
 ·rw [offA_else fun cs q => ha ⟨cs, q⟩]
  have hc : a.cells = [a] := by cases a <;> first | rfl | exact absurd ⟨_, rfl⟩ ha
  rw [hc]
  rcases off1_or (F := F) (own := own) (own' := own') a with q | q
  ·rw [q, hc]; simp [q]
  ·rw [q]; simp [q, AV.cells]
theorem Inv.off (h : Inv Gl F own B w0 σ act w) {k : Nat} {e e' : Ent} {ob' : AObj} (he : own[k]? = some e) (hN : w0.N ≤ k) (hg : e'.g = e.g) (hO' : ObjR F (own.set k e') w e' ob') :
  Inv Gl F (own.set k e') B w0 ⟨σ.t.map (offT F own (own.set k e')), (σ.h.map (offO F own (own.set k e'))).set k ob'⟩ act w := by
 have hk : k < own.length := (List.getElem?_eq_some_iff.1 he).1
 have hk' : k < σ.h.length := by rw [← h.hl]; exact hk
 have get : ∀ {id : Nat} {f : Ent}, (own.set k e')[id]? = some f → (id = k ∧ f = e') ∨ (id ≠ k ∧ own[id]? = some f) := fun {id f} q => by
  by_cases hi : k = id
  ·subst hi; rw [List.getElem?_set_self hk] at q; cases q; exact .inl ⟨rfl, rfl⟩
  ·rw [List.getElem?_set_ne hi] at q; exact .inr ⟨fun q => hi q.symm, q⟩
 have getg : ∀ {id : Nat} {f : Ent}, (own.set k e')[id]? = some f → ∃ f0, own[id]? = some f0 ∧ f0.g = f.g := fun {id f} q => by
  rcases get q with ⟨rfl, rfl⟩ | ⟨_, q⟩
  ·exact ⟨e, he, hg.symm⟩
  ·exact ⟨f, q, rfl⟩
 refine { tl := by simp [h.tl], tr := fun i x a p q => ?_, defers := h.defers, sub := h.sub, hl := by simp [h.hl], objs := fun id f o p q => ?_, inj := fun i j f f' g p q r s => ?_, below := h.below, base := fun id f g p q => ?_, gl := h.gl, gw := h.gw, room := h.room, ext := h.ext, ext0 := h.ext0, nl := by have := h.nl; simpa using this, fr := fun q hq => ?_ }
 ·have q : (σ.t.map (Abs.offT F own (own.set k e')))[i]? = some a := q
  rw [List.getElem?_map] at q
  cases hc : σ.t[i]? with
  | none => rw [hc] at q; cases q
  | some c => rw [hc] at q; cases q; exact (h.tr i x c p hc).offT
 ·have q : ((σ.h.map (offO F own (own.set k e'))).set k ob')[id]? = some o := q
  rcases get p with ⟨rfl, rfl⟩ | ⟨hid, hf⟩
  ·rw [List.getElem?_set_self (by simpa using hk')] at q
   cases q
   exact hO'
  ·rw [List.getElem?_set_ne (fun q => hid q.symm), List.getElem?_map] at q
   cases ho : σ.h[id]? with
   | none => rw [ho] at q; cases q
   | some O =>
    rw [ho] at q; cases q
    obtain ⟨k1, k2, k3, k4, k5, k6, k7, k8⟩ := h.objs id f O hf ho
    by_cases hpr : O.pr = true
    ·have : offO F own (own.set k e') O = O := by simp [offO, hpr]
     rw [this]
     refine ⟨k1, k2, k3, k4, k5, k6, k7, ?_⟩
     cases hg : f.g with
     | none => rw [hg] at k8; exact k8
     | some g =>
      rw [hg] at k8
      obtain ⟨cs, a1, a2, a3, a4⟩ := k8
      refine ⟨cs, a1, a2, fun i j x a r s => ?_, a4⟩
      obtain ⟨y, b1, b2, b3⟩ := a3 i j x a r s
      refine ⟨y, b1, b2, ?_⟩
      unfold RC at b3 ⊢
      rw [if_pos hpr] at b3 ⊢
      exact b3
    ·have e1 : offO F own (own.set k e') O = { O with es := O.es.map (Abs.offA F own (own.set k e')) } := by simp [offO, hpr]
     rw [e1]
     have el : ∀ (i : Nat) (x : AV), (O.es.map (Abs.offA F own (own.set k e')))[i]? = some x → ∃ z, O.es[i]? = some z ∧ x = Abs.offA F own (own.set k e') z := fun i x q => by
      rw [List.getElem?_map] at q
      cases hz : O.es[i]? with
      | none => rw [hz] at q; cases q
      | some z => rw [hz] at q; cases q; exact ⟨z, rfl, rfl⟩
     refine ⟨by simp [k1], k2, k3, k4, ⟨k5.1, by simpa using k5.2⟩, by simpa using k6, fun i x q => ?_, ?_⟩
     ·obtain ⟨z, hz, rfl⟩ := el i x q
      rw [offA_cells, List.length_map]; exact k7 i z hz
     ·cases hg : f.g with
      | none => rw [hg] at k8; exact k8
      | some g =>
       rw [hg] at k8
       obtain ⟨cs, a1, a2, a3, a4⟩ := k8
       obtain ⟨fr, a1, af⟩ := a1
       refine ⟨cs, ⟨fr, a1, by rw [List.length_map]; exact af⟩, a2, fun i j x a r s => ?_, a4⟩
       obtain ⟨z, hz, rfl⟩ := el i x r
       rw [offA_cells, List.getElem?_map] at s
       cases hc : z.cells[j]? with
       | none => rw [hc] at s; cases s
       | some c =>
        rw [hc] at s; cases s
        obtain ⟨y, b1, b2, b3⟩ := a3 i j z c hz hc
        refine ⟨y, b1, b2, ?_⟩
        unfold RC at b3 ⊢
        rw [if_neg hpr] at b3 ⊢
        exact b3.off1
 ·obtain ⟨f0, q1, q2⟩ := getg p
  obtain ⟨f1, q3, q4⟩ := getg q
  exact h.inj i j f0 f1 g q1 q3 (by rw [q2]; exact r) (by rw [q4]; exact s)
 ·obtain ⟨f0, q1, q2⟩ := getg p
  exact h.base id f0 g q1 (by rw [q2]; exact q)
 ·have : (own.set k e').take q.1 = own.take q.1 := by
   apply List.ext_getElem?
   intro j
   rw [List.getElem?_take, List.getElem?_take]
   split
   ·rename_i hj
    have := w0.hfr q hq
    rw [List.getElem?_set_ne (by omega)]
   ·rfl
  rw [this]; exact h.fr q hq
theorem Inv.cut (h : Inv Gl F own B w0 σ act w) {k s len : Nat} {ob : AObj} {sz : Nat} (hob : σ.h[k]? = some ob) (hpr : ob.pr = true) (hfz : ob.fz = 0) (hN : w0.N ≤ k) (hs : σ.t[s]? = some (.row k ob.es.length sz 0 len)) :
  ∃ e', len ≤ ob.es.length ∧ Inv Gl F (own.set k e') B w0 ⟨(σ.t.map (offT F own (own.set k e'))).set s (.row k len sz 0 len), (σ.h.map (offO F own (own.set k e'))).set k { ob with es := ob.es.take len }⟩ act w := by
 obtain ⟨e, he, k1, k2, k3, k4, k5, k6, k7, k8⟩ := h.obj_own hob
 have hk : k < own.length := (List.getElem?_eq_some_iff.1 he).1
 have hlt : s < act.tmps.size := by rw [h.tl]; exact (List.getElem?_eq_some_iff.1 hs).1
 have hR := h.tr s _ _ (Array.getElem?_eq_getElem hlt) hs
 obtain ⟨e2, he2, hG, hsl, hx⟩ := hR.row_inv
 rw [he] at he2
 cases he2
 obtain ⟨x1, x2, x3⟩ := hx k1.symm
 obtain ⟨cp, c1, c2⟩ := x3 (.inr rfl)
 have hle : len ≤ ob.es.length := by omega
 have hO' : ObjR F (own.set k { e with G := len }) w { e with G := len } { ob with es := ob.es.take len } := by
  refine ⟨by simp [hle], k2, k3, by show len ≤ e.cap; omega, ⟨k5.1, fun q => by have q : ob.pr = false := q; rw [hpr] at q; cases q⟩, by show ob.fz ≤ _; omega, fun i x q => ?_, ?_⟩
  ·have q : (ob.es.take len)[i]? = some x := q
   rw [List.getElem?_take] at q
   split at q
   ·exact k7 i x q
   ·cases q
  ·show match e.g with
    | none => e.cap = 0
    | some g => _
   cases hg : e.g with
   | none => rw [hg] at k8; exact k8
   | some g =>
    rw [hg] at k8
    obtain ⟨cs, a1, a2, a3, a4⟩ := k8
    obtain ⟨fr, a1, af⟩ := a1
    refine ⟨cs, ⟨fr, a1, af.imp id (fun q => by exfalso; omega)⟩, a2, fun i j x a r s => ?_, a4⟩
    have r : (ob.es.take len)[i]? = some x := r
    rw [List.getElem?_take] at r
    split at r
    ·obtain ⟨y, b1, b2, b3⟩ := a3 i j x a r s
     refine ⟨y, b1, b2, ?_⟩
     unfold RC at b3 ⊢
     rw [if_pos hpr] at b3
     rw [if_pos (show ({ ob with es := ob.es.take len } : AObj).pr = true from hpr)]
     exact b3
    ·cases r
 refine ⟨{ e with G := len }, hle, ?_⟩
 have hI := h.off (e' := { e with G := len }) he hN rfl hO'
 have hrow : R F (own.set k { e with G := len }) act.tmps[s] (.row k len sz 0 len) :=
  .row _ _ _ _ _ _ { e with G := len } (by rw [List.getElem?_set_self hk]) (Nat.le_refl _) hsl fun _ => ⟨x1, by omega, fun _ => ⟨cp, c1, c2⟩⟩
 have := hI.put hrow (some s)
 have e1 : act.put (some s) act.tmps[s] = act := by
  have hs : act.tmps.setIfInBounds s act.tmps[s] = act.tmps := by
   apply Array.ext_getElem?
   intro j
   rw [Array.getElem?_setIfInBounds]
   split
   ·rename_i hj
    subst hj
    rw [Array.getElem?_eq_getElem hlt]
   ·rfl
  show ({ act with tmps := act.tmps.setIfInBounds s act.tmps[s] } : Act) = act
  rw [hs]
 rw [e1] at this
 exact this
def setC (e : AV) (o : Nat) (a : AV) : AV := match e with
 | .agg us => .agg (us.set o a)
 | _ => a
theorem setC_cells {e a b : AV} {o : Nat} (ha : a.cells = [a]) (ho : e.cells[o]? = some b) : (setC e o a).cells = e.cells.set o a := by
 by_cases h : ∃ us, e = .agg us
 ·obtain ⟨us, rfl⟩ := h; rfl
 ·have hc : e.cells = [e] := by cases e <;> first | rfl | exact absurd ⟨_, rfl⟩ h
  have hs : setC e o a = a := by cases e <;> first | rfl | exact absurd ⟨_, rfl⟩ h
  rw [hc] at ho ⊢
  have : o = 0 := by
   have := (List.getElem?_eq_some_iff.1 ho).1
   simp at this; exact this
  subst this
  rw [hs, ha]; rfl
theorem Inv.cellNil (h : Inv Gl F own B w0 σ act w) {k o : Nat} {ob : AObj} {e0 a' : AV} {v : Value} (hob : σ.h[k]? = some ob) (hes : ob.es = [e0]) (hpr : ob.pr = false) (ho : e0.cells[o]? = some (.v v)) (ha : R F own v a') (hac : a'.cells = [a']) :
  Inv Gl F own B w0 ⟨σ.t, σ.h.set k { ob with es := [setC e0 o a'] }⟩ act w := by
 have hk : k < σ.h.length := (List.getElem?_eq_some_iff.1 hob).1
 refine h.turn (fun _ _ q => q) (Le.refl _) h.sub (by simp [h.hl]) (fun id e o' p q => ?_) h.inj h.below h.base
 have q : (σ.h.set k { ob with es := [setC e0 o a'] })[id]? = some o' := q
 by_cases hid : k = id
 ·subst hid
  rw [List.getElem?_set_self hk] at q
  cases q
  obtain ⟨k1, k2, k3, k4, k5, k6, k7, k8⟩ := h.objs k e ob p hob
  have hcl := setC_cells hac ho
  refine ⟨by rw [k1, hes]; rfl, k2, k3, k4, ⟨k5.1, fun q => by rw [k5.2 q, hes]; rfl⟩, by rw [hes] at k6; exact k6, fun i x q => ?_, ?_⟩
  ·have q : [setC e0 o a'][i]? = some x := q
   have hi : i = 0 := by have := (List.getElem?_eq_some_iff.1 q).1; simpa using this
   subst hi
   cases q
   rw [hcl, List.length_set]
   exact k7 0 e0 (by rw [hes]; rfl)
  ·cases hg : e.g with
   | none => rw [hg] at k8; exact k8
   | some g =>
    rw [hg] at k8
    obtain ⟨cs, a1, a2, a3, a4⟩ := k8
    obtain ⟨fr, a1, af⟩ := a1
    refine ⟨cs, ⟨fr, a1, by rw [hes] at af; exact af⟩, a2, fun i j x a r s => ?_, a4⟩
    have r : [setC e0 o a'][i]? = some x := r
    have hi : i = 0 := by have := (List.getElem?_eq_some_iff.1 r).1; simpa using this
    subst hi
    cases r
    rw [hcl, List.getElem?_set] at s
    split at s
    ·rename_i hj
     subst hj
     split at s
     ·cases s
      obtain ⟨y, b1, b2, b3⟩ := a3 0 o e0 _ (by rw [hes]; rfl) ho
      refine ⟨y, b1, b2, ?_⟩
      unfold RC at b3 ⊢
      rw [if_neg (by rw [hpr]; simp)] at b3
      rw [if_neg (by show ¬ ob.pr = true; rw [hpr]; simp)]
      rw [b3.v_inv]; exact ha
     ·cases s
    ·exact a3 0 j e0 a (by rw [hes]; rfl) s
 ·rw [List.getElem?_set_ne hid] at q
  exact h.objs id e o' p q
end
section
variable {ρ : List Nat} {h h' : List XO} {H : List AObj} {F : Addr → Option Value} {own : List Ent} {e' : Ent} {id : Nat}
theorem okc_wp {own' : List Ent} {T : Ty} {y : T.den} {a : AV} (hw : Wp a (Ty.enc T y)) : Okc F own own' a := by
 have one : ∀ {a : AV}, Pl1 a → Okc F own own' a := fun {a} hp v hv => by
  rcases hp with ⟨y, rfl, hy⟩ | ⟨sz, xs, rfl⟩
  ·rw [hv.v_inv]; exact .pure (.v _)
  ·exact .pure hv.list_inv
 by_cases ha : ∃ cs, a = .agg cs
 ·obtain ⟨cs, rfl⟩ := ha
  intro v hv
  obtain ⟨xs, rfl, hl, h1, hR⟩ := hv.agg_inv
  exact .agg xs cs hl h1 fun j x a p q => one (wp_pl hw (List.mem_of_getElem? q)) x (hR j x a p q)
 ·have hc : a.cells = [a] := by cases a <;> first | rfl | exact absurd ⟨_, rfl⟩ ha
  exact one (wp_pl hw (by rw [hc]; simp))
theorem V1.okc (hs : HS ρ h H) (hid : id < h.length) {x : XV} {a : AV} (hv : V1 ρ h x a) (hn : x ≠ .any) (hh : hit [id] x = false) : Okc F own (own.set (ρ.getD id 0) e') a := by
 have ne : ∀ {j : Nat} {o : XO}, h[j]? = some o → [id].contains j = false → (own.set (ρ.getD id 0) e')[ρ.getD j 0]? = own[ρ.getD j 0]? := fun {j o} q hj => by
  rw [List.getElem?_set_ne (fun q' => ?_)]
  have := hs.inj hid (List.getElem?_eq_some_iff.1 q).1 q'
  subst this
  simp at hj
 cases x with
 | any => exact absurd rfl hn
 | d T y => exact okc_wp hv
 | k v =>
  have hv : a = .v v := hv
  subst hv
  intro v h; rw [h.v_inv]; exact .pure (.v _)
 | row j => obtain ⟨_, _, _, _, q, rfl⟩ := hv; exact okc_row (ne q hh)
 | sub j o l => obtain ⟨_, _, _, _, q, rfl⟩ := hv; exact okc_row (ne q hh)
 | csub j l => obtain ⟨_, _, _, _, q, rfl, _⟩ := hv; exact okc_crow (ne q hh)
 | vrow j => obtain ⟨_, _, q, rfl⟩ := hv; exact okc_row (ne q hh)
 | me j =>
  rcases hv with rfl | ⟨_, q, rfl⟩
  ·intro v h; rw [h.v_inv]; exact .pure (.v _)
  ·exact okc_ptr (ne q hh)
 | ptr j i o => obtain ⟨_, q, rfl⟩ := hv; exact okc_ptr (ne q hh)
 | lp T y o => obtain ⟨_, rfl, _⟩ := hv; intro v h; exact .pure h.lptr_inv
 | agg => exact hv.elim
 | tup => exact hv.elim
theorem V1.off (hs : HS ρ h H) (hid : id < h.length) (ht : Trn ρ h ρ h' [id]) {x : XV} {a : AV} (hv : V1 ρ h x a) : V1 ρ h' (kill1L [id] x) (off1 F own (own.set (ρ.getD id 0) e') a) := by
 have hv' := ht x a hv
 by_cases hn : x = .any
 ·subst hn; trivial
 ·rw [kill1L_eq] at hv' ⊢
  cases hh : hit [id] x with
  | true => simp only [if_true]; trivial
  | false =>
   rw [hh] at hv'
   simp only [Bool.false_eq_true, if_false] at hv' ⊢
   rw [off1_eq (hv.okc hs hid hn hh)]; exact hv'
theorem cells_off (hs : HS ρ h H) (hid : id < h.length) (ht : Trn ρ h ρ h' [id]) {cs : List XV} {as : List AV} (hc : All2 (V1 ρ h) cs as) : All2 (V1 ρ h') (cs.map (kill1L [id])) (as.map (off1 F own (own.set (ρ.getD id 0) e'))) :=
 ⟨by simp [hc.1], fun i y b p q => by
  rw [List.getElem?_map] at p q
  cases hy : cs[i]? with
  | none => rw [hy] at p; cases p
  | some z =>
   cases hb : as[i]? with
   | none => rw [hb] at q; cases q
   | some c => rw [hy] at p; rw [hb] at q; cases p; cases q; exact (hc.2 i z c hy hb).off hs hid ht⟩
theorem VA.off (hs : HS ρ h H) (hid : id < h.length) (ht : Trn ρ h ρ h' [id]) {x : XV} {a : AV} (hv : VA ρ h x a) : VA ρ h' (killAL [id] x) (offA F own (own.set (ρ.getD id 0) e') a) := by
 by_cases ha : ∃ cs, x = .agg cs
 ·obtain ⟨cs, rfl⟩ := ha
  obtain ⟨as, rfl, hc⟩ := hv
  rw [killAL_agg]
  exact ⟨_, rfl, cells_off hs hid ht hc⟩
 ·rw [killAL_else _ x fun cs q => ha ⟨cs, q⟩]
  have hv1 : V1 ρ h x a := by cases x <;> first | exact hv | exact absurd ⟨_, rfl⟩ ha
  by_cases hag : ∃ cs, a = .agg cs
  ·obtain ⟨cs, rfl⟩ := hag
   cases x with
   | d T y =>
    have hv1 : Wp (.agg cs) (Ty.enc T y) := hv1
    have he : offA F own (own.set (ρ.getD id 0) e') (.agg cs) = .agg cs := by
     show AV.agg (cs.map _) = _
     congr 1
     refine (List.map_congr_left fun c hc => ?_).trans (List.map_id cs)
     refine off1_eq fun v hv => ?_
     rcases wp_pl hv1 hc with ⟨y, rfl, hy⟩ | ⟨sz, xs, rfl⟩
     ·rw [hv.v_inv]; exact .pure (.v _)
     ·exact .pure hv.list_inv
    rw [he]; exact hv1
   | any => trivial
   | k v => cases hv1
   | row j => obtain ⟨_, _, _, _, _, q⟩ := hv1; cases q
   | sub j o l => obtain ⟨_, _, _, _, _, q⟩ := hv1; cases q
   | csub j l => obtain ⟨_, _, _, _, _, q, _⟩ := hv1; cases q
   | vrow j => obtain ⟨_, _, _, q⟩ := hv1; cases q
   | ptr j i o => obtain ⟨_, _, q⟩ := hv1; cases q
   | me j => rcases hv1 with q | ⟨_, _, q⟩ <;> cases q
   | lp T y o => obtain ⟨_, q, _⟩ := hv1; cases q
   | agg => exact hv1.elim
   | tup => exact hv1.elim
  ·rw [offA_else fun cs q => hag ⟨cs, q⟩]
   exact VA.of1 (hv1.off hs hid ht)
theorem VT.off (hs : HS ρ h H) (hid : id < h.length) (ht : Trn ρ h ρ h' [id]) {x : XV} {a : AV} (hv : VT ρ h x a) : VT ρ h' (killTL [id] x) (offT F own (own.set (ρ.getD id 0) e') a) := by
 by_cases ha : ∃ cs, x = .tup cs
 ·obtain ⟨cs, rfl⟩ := ha
  obtain ⟨as, rfl, hc⟩ := hv
  rw [killTL_tup]
  refine ⟨_, rfl, by simp [hc.1], fun i y b p q => ?_⟩
  rw [List.getElem?_map] at p q
  cases hy : cs[i]? with
  | none => rw [hy] at p; cases p
  | some z =>
   cases hb : as[i]? with
   | none => rw [hb] at q; cases q
   | some c => rw [hy] at p; rw [hb] at q; cases p; cases q; exact (hc.2 i z c hy hb).off hs hid ht
 ·rw [killTL_else _ x fun cs q => ha ⟨cs, q⟩]
  have hvA : VA ρ h x a := by cases x <;> first | exact hv | exact absurd ⟨_, rfl⟩ ha
  by_cases hat : ∃ cs, a = .tup cs
  ·obtain ⟨cs, rfl⟩ := hat
   by_cases hx : x = .any
   ·subst hx; rw [show killAL [id] XV.any = .any from rfl]; trivial
   ·exfalso
    cases x with
    | any => exact hx rfl
    | d T y =>
     have hw : Wp (.tup cs) (Ty.enc T y) := hvA
     rcases wp_pl hw (c := .tup cs) (by simp [AV.cells]) with ⟨y, q, _⟩ | ⟨sz, xs, q⟩ <;> cases q
    | k v => cases hvA
    | row j => obtain ⟨_, _, _, _, _, q⟩ := hvA; cases q
    | sub j o l => obtain ⟨_, _, _, _, _, q⟩ := hvA; cases q
    | csub j l => obtain ⟨_, _, _, _, _, q, _⟩ := hvA; cases q
    | vrow j => obtain ⟨_, _, _, q⟩ := hvA; cases q
    | ptr j i o => obtain ⟨_, _, q⟩ := hvA; cases q
    | me j => rcases hvA with q | ⟨_, _, q⟩ <;> cases q
    | lp T y o => obtain ⟨_, q, _⟩ := hvA; cases q
    | agg us => obtain ⟨_, q, _⟩ := hvA; cases q
    | tup us => exact ha ⟨_, rfl⟩
  ·rw [offT_else fun cs q => hat ⟨cs, q⟩]
   exact VT.ofA (hvA.off hs hid ht)
theorem ObjS.off (hs : HS ρ h H) (hid : id < h.length) (ht : Trn ρ h ρ h' [id]) {o : XO} {O : AObj} (hR : ObjS ρ h o O) : ObjS ρ h' (killO1 [id] o) (offO F own (own.set (ρ.getD id 0) e') O) := by
 cases o with
 | row ty T fz es =>
  have : offO F own (own.set (ρ.getD id 0) e') O = O := by simp [offO, hR.2.2.1]
  rw [this]; exact hR
 | box ty cs =>
  obtain ⟨a, b, c, d, e, he, hc⟩ := hR
  have : offO F own (own.set (ρ.getD id 0) e') O = { O with es := O.es.map (offA F own (own.set (ρ.getD id 0) e')) } := by simp [offO, c]
  rw [this]
  exact ⟨a, by simpa using b, c, d, offA F own (own.set (ρ.getD id 0) e') e, by simp [he], by rw [offA_cells]; exact cells_off hs hid ht hc⟩
 | vec ty cs =>
  obtain ⟨a, b, c, d, hc⟩ := hR
  have : offO F own (own.set (ρ.getD id 0) e') O = { O with es := O.es.map (offA F own (own.set (ρ.getD id 0) e')) } := by simp [offO, c]
  rw [this]
  refine ⟨a, b, c, d, by simp [hc.1], fun i y e p q => ?_⟩
  have q : (O.es.map (offA F own (own.set (ρ.getD id 0) e')))[i]? = some e := q
  rw [List.getElem?_map] at p q
  cases hy : cs[i]? with
  | none => rw [hy] at p; cases p
  | some z =>
   cases hb : O.es[i]? with
   | none => rw [hb] at q; cases q
   | some e1 =>
    rw [hy] at p; rw [hb] at q; cases p; cases q
    obtain ⟨c1, c2⟩ := hc.2 i z e1 hy hb
    have hna : ∀ cs, e1 ≠ .agg cs := fun cs q => by
     subst q
     have c1 : cs = [AV.agg cs] := c1
     have := congrArg (fun l : List AV => SizeOf.sizeOf l) c1
     simp at this
     omega
    rw [offA_else hna]
    refine ⟨?_, c2.off hs hid ht⟩
    rcases off1_or (F := F) (own := own) (own' := own.set (ρ.getD id 0) e') e1 with q | q
    ·rw [q]; exact c1
    ·rw [q]; rfl
end
end Abs
end Go.Proofs.YtfjhljjginlobaaDoor
end
section
namespace Go.Proofs.YtfjhljjginlobaaDoor
namespace Abs
open Go.RowKit
section
variable {S R : Type} {step : S → Option (S ⊕ R)}
theorem runO_mono : ∀ {n m : Nat} {s : S} {r : R}, runO step n s = some r → n ≤ m → runO step m s = some r := by
 intro n
 induction n with
 | zero => intro m s r h; cases h
 | succ n ih =>
  intro m s r h hm
  cases m with
  | zero => omega
  | succ m =>
   simp only [runO] at h ⊢
   split at h
   ·exact ih h (by omega)
   ·exact h
   ·cases h
theorem loopO_some {s : S} {r : R} : loopO step s = some r ↔ ∃ n, runO step n s = some r := by
 constructor
 ·intro h
  unfold loopO at h
  split at h
  ·rename_i hn; exact ⟨_, h⟩
  ·cases h
 ·rintro ⟨n, h⟩
  have hn : ∃ n r, runO step n s = some r := ⟨n, r, h⟩
  obtain ⟨r', hr'⟩ := hn.choose_spec
  have e1 := runO_mono hr' (Nat.le_max_left _ n)
  have e2 := runO_mono h (Nat.le_max_right hn.choose n)
  rw [e1] at e2
  cases e2
  unfold loopO
  rw [dif_pos hn]
  exact hr'
theorem loopO_eq (step : S → Option (S ⊕ R)) (s : S) : loopO step s = match step s with
  | some (.inl s') => loopO step s'
  | some (.inr r) => some r
  | none => none := by
 apply Option.ext
 intro r
 rw [loopO_some]
 constructor
 ·rintro ⟨n, h⟩
  cases n with
  | zero => cases h
  | succ n =>
   simp only [runO] at h
   split at h
   ·rename_i s' hs; rw [hs]; exact loopO_some.2 ⟨n, h⟩
   ·rename_i r' hs; rw [hs]; exact h
   ·cases h
 ·intro h
  split at h
  ·rename_i s' hs
   obtain ⟨n, hn⟩ := loopO_some.1 h
   exact ⟨n + 1, by simp only [runO, hs]; exact hn⟩
  ·rename_i r' hs
   cases h
   exact ⟨1, by simp only [runO, hs]⟩
  ·cases h
end
section
variable {P : Program} {c : Cfg} {ρ : List Nat} {X : XS} {σ : St} {F : Addr → Option Value} {own : List Ent} {B : Nat} {w0 : W0} {act : Act} {w : World} {H0 : List AObj} {ρ0 : List Nat} {Gl : Nat → Option (List AV)}
theorem act_self {i : Nat} (hlt : i < act.tmps.size) : act.put (some i) act.tmps[i] = act := by
 have hs : act.tmps.setIfInBounds i act.tmps[i] = act.tmps := by
  apply Array.ext_getElem?
  intro j
  rw [Array.getElem?_setIfInBounds]
  split
  ·rename_i hj
   subst hj
   rw [Array.getElem?_eq_getElem hlt]
  ·rfl
 show ({ act with tmps := act.tmps.setIfInBounds i act.tmps[i] } : Act) = act
 rw [hs]
theorem Frm.mine {nf id : Nat} {h : List XO} {H : List AObj} (hF : Frm H0 ρ0 ρ H) (hs : HS ρ h H) (hnf : nf = ρ0.length) (hid : nf ≤ id) (hl : id < h.length) : H0.length ≤ ρ.getD id 0 := by
 subst hnf
 obtain ⟨l, hl', hq⟩ := hF.pre
 have hidl : id < ρ.length := by rw [hs.rl]; exact hl
 rw [hl'] at hidl ⊢
 simp only [List.length_append] at hidl
 have : (ρ0 ++ l).getD id 0 = l[id - ρ0.length]'(by omega) := by
  simp only [List.getD]
  rw [List.getElem?_append_right hid, List.getElem?_eq_getElem (by omega)]; rfl
 rw [this]
 exact hq _ (List.getElem_mem _)
theorem pre1_tr {nf : Nat} (hnf : nf = ρ0.length) (hN : w0.N ≤ H0.length) (hcl : ClH H0.length H0) (hI : Inv Gl F own B w0 σ act w) (hS : Sim ρ X σ) (hF : Frm H0 ρ0 ρ σ.h) {s id len ty : Nat} {T : Ty} {es : List T.den} (hk : X.t.getD s .any = .sub id 0 len) (he : X.h[id]? = some (.row ty T false es)) (hid : nf ≤ id) :
  ∃ F' own' σ' ρ', Inv Gl F' own' B w0 σ' act w ∧ Sim ρ' ⟨(X.t.map (killT id)).set s (.row id), (X.h.map (killO id)).set id (.row ty T false (es.take len))⟩ σ' ∧ Frm H0 ρ0 ρ' σ'.h := by
 have hidl : id < X.h.length := (List.getElem?_eq_some_iff.1 he).1
 have hsl : s < X.t.length := by
  rcases Nat.lt_or_ge s X.t.length with q | q
  ·exact q
  ·simp [List.getD, List.getElem?_eq_none q] at hk
 have hsl' : s < σ.t.length := by rw [← hS.t.1]; exact hsl
 have hv := vt_get hS.t s
 rw [hk] at hv
 obtain ⟨ty', T', fz', es', he', ha⟩ := hv
 rw [he] at he'
 cases he'
 obtain ⟨O, hO, o1, o2, o3, o4, o5⟩ := hS.h.hr id _ he
 have hlen : O.es.length = es.length := by have := o5.1; simpa using this
 have hkn : H0.length ≤ ρ.getD id 0 := hF.mine hS.h hnf hid hidl
 have hs? : σ.t[s]? = some (.row (ρ.getD id 0) O.es.length T.size 0 len) := by
  rw [List.getElem?_eq_getElem hsl']
  simp only [List.getD, List.getElem?_eq_getElem hsl', Option.getD_some] at ha
  rw [ha, hlen]; rfl
 obtain ⟨e', hle, hI'⟩ := hI.cut hO o3 (by rw [o4]; simp) (Nat.le_trans hN hkn) hs?
 have hkH : ρ.getD id 0 < σ.h.length := hS.h.lt hidl
 have hmap : X.h.map (killO id) = X.h.map (killO1 [id]) := killH_map [id] X.h
 have htm : X.t.map (killT id) = X.t.map (killTL [id]) := killL_map [id] X.t
 rw [hmap, htm]
 have ht : Trn ρ X.h ρ ((X.h.map (killO1 [id])).set id (.row ty T false (es.take len))) [id] := Trn.mk (fun j oj e hj => by
  refine ⟨killO1 [id] oj, by rw [List.getElem?_set_ne (fun q => hj (by simp [q])), List.getElem?_map, e]; rfl, ?_⟩
  cases oj <;> simp [same2, killO1]) (fun _ _ => rfl)
 refine ⟨F, _, _, ρ, hI', ⟨?_, by simp [hS.h.rl], hS.h.nd, fun j oj q => ?_⟩, ⟨hF.pre, by simpa using hF.ge, fun j hj hn => ?_⟩⟩
 ·have hvr : VT ρ ((X.h.map (killO1 [id])).set id (.row ty T false (es.take len))) (.row id) (.row (ρ.getD id 0) len T.size 0 len) := by
   refine ⟨ty, T, false, es.take len, by rw [List.getElem?_set_self (by simpa using hidl)], ?_⟩
   rw [List.length_take, Nat.min_eq_left (by omega)]
  refine All2.set ⟨by simp [hS.t.1], fun i y b p q => ?_⟩ hvr s
  rw [List.getElem?_map] at p q
  cases hy : X.t[i]? with
  | none => rw [hy] at p; cases p
  | some z =>
   cases hb : σ.t[i]? with
   | none => rw [hb] at q; cases q
   | some c => rw [hy] at p; rw [hb] at q; cases p; cases q; exact (hS.t.2 i z c hy hb).off hS.h hidl ht
 ·have q : ((X.h.map (killO1 [id])).set id (.row ty T false (es.take len)))[j]? = some oj := q
  by_cases hj : id = j
  ·subst hj
   rw [List.getElem?_set_self (by simpa using hidl)] at q
   cases q
   refine ⟨{ O with es := O.es.take len }, by show ((σ.h.map _).set _ _)[ρ.getD id 0]? = _; rw [List.getElem?_set_self (by simpa using hkH)], o1, o2, o3, by rw [show ({ O with es := O.es.take len } : AObj).fz = O.fz from rfl, o4]; simp, ?_⟩
   rw [List.map_take]; exact o5.take len
  ·rw [List.getElem?_set_ne hj, List.getElem?_map] at q
   cases hx : X.h[j]? with
   | none => rw [hx] at q; cases q
   | some ox =>
    rw [hx] at q; cases q
    have hjl := (List.getElem?_eq_some_iff.1 hx).1
    obtain ⟨O1, hO1, hR⟩ := hS.h.hr j ox hx
    refine ⟨_, ?_, hR.off (F := F) (own := own) (e' := e') hS.h hidl ht⟩
    show ((σ.h.map _).set _ _)[ρ.getD j 0]? = _
    rw [List.getElem?_set_ne (fun q => hj (hS.h.inj hidl hjl q)), List.getElem?_map, hO1]; rfl
 ·show ((σ.h.map _).set _ _)[j]? = _
  rw [List.getElem?_set_ne (by omega), List.getElem?_map, hF.fr j hj hn]
  cases hj0 : H0[j]? with
  | none => rfl
  | some O1 =>
   show some (offO _ _ _ O1) = some O1
   congr 1
   unfold offO
   split
   ·rfl
   ·rename_i hpr
    have hpr : O1.pr = false := by simpa using hpr
    have : O1.es.map (offA F own (own.set (ρ.getD id 0) e')) = O1.es := by
     refine (List.map_congr_left fun e hem => ?_).trans (List.map_id O1.es)
     obtain ⟨i, hi⟩ := List.mem_iff_getElem?.1 hem
     have hc : ∀ c ∈ e.cells, off1 F own (own.set (ρ.getD id 0) e') c = c := fun c hcm => by
      obtain ⟨k, hk⟩ := List.mem_iff_getElem?.1 hcm
      exact off1_eq (hcl j O1 hj0 hpr i k e c hi hk F own _ fun i hi => by rw [List.getElem?_set_ne (by omega)])
     show offA F own (own.set (ρ.getD id 0) e') e = e
     by_cases hag : ∃ cs, e = .agg cs
     ·obtain ⟨cs, rfl⟩ := hag
      show AV.agg (cs.map _) = _
      congr 1
      exact (List.map_congr_left fun c hcm => hc c hcm).trans (List.map_id cs)
     ·rw [offA_else fun cs q => hag ⟨cs, q⟩]
      exact hc e (by cases e <;> first | exact List.mem_singleton.2 rfl | exact absurd ⟨_, rfl⟩ hag)
    rw [this]
theorem pre1_ghc (hI : Inv Gl F own B w0 σ act w) (hS : Sim ρ X σ) (hF : Frm H0 ρ0 ρ σ.h) {id o ty ty' : Nat} {T : Ty} {cs : List XV} (he : X.h[id]? = some (.box ty' cs)) (ho : cs[o]? = some (.k (.slice none 0 0))) (hz : 0 < T.size) :
  ∃ F' own' σ' ρ', Inv Gl F' own' B w0 σ' act w ∧ Sim ρ' ⟨X.t, (X.h ++ [XO.row ty T false []]).set id (.box ty' (cs.set o (.row X.h.length)))⟩ σ' ∧ Frm H0 ρ0 ρ' σ'.h := by
 have hidl : id < X.h.length := (List.getElem?_eq_some_iff.1 he).1
 obtain ⟨O, hO, o1, o2, o3, o4, e, o5, hc⟩ := hS.h.hr id _ he
 have hkH : ρ.getD id 0 < σ.h.length := hS.h.lt hidl
 have hI1 := hI.newNil ty T.size true hz
 obtain ⟨a, ha, hva⟩ := hc.get_left ho
 have hva : a = .v (.slice none 0 0) := hva
 subst hva
 have hrow : R F (own ++ [⟨none, 0, T.size, 0⟩]) (.slice none 0 0) (.row σ.h.length 0 T.size 0 0) := by
  rw [← hI.hl]
  exact .row _ _ _ _ _ _ _ own_last (by simp) ⟨_, _, rfl, by simp, fun q => by simp at q⟩ (fun _ => ⟨rfl, by simp, fun _ => ⟨_, Nat.le_of_eq (Nat.zero_add _), by simp⟩⟩)
 have hO1 : (σ.h ++ [(⟨ty, T.size, 0, true, []⟩ : AObj)])[ρ.getD id 0]? = some O := by rw [List.getElem?_append_left hkH]; exact hO
 have hI2 := hI1.cellNil hO1 o5 o3 ha hrow rfl
 obtain ⟨u1, u2⟩ := new_row (ty := ty) (ys := ([] : List T.den)) (as := []) hS.h rfl .nil
 have he1 : (X.h ++ [XO.row ty T false []])[id]? = some (.box ty' cs) := by rw [List.getElem?_append_left hidl]; exact he
 have hg : (ρ ++ [σ.h.length]).getD id 0 = ρ.getD id 0 := getD_left (by rw [hS.h.rl]; exact hidl)
 have hcl := setC_cells (e := e) (a := .row σ.h.length 0 T.size 0 0) rfl ha
 have hob : ObjS (ρ ++ [σ.h.length]) (X.h ++ [XO.row ty T false []]) (.box ty' (cs.set o (.row X.h.length))) { O with es := [setC e o (.row σ.h.length 0 T.size 0 0)] } := by
  refine ⟨o1, by simpa using o2, o3, o4, _, rfl, ?_⟩
  rw [hcl]
  refine All2.set ?_ u2 o
  have := u1.tr.cells hc
  rw [map_kill_nil] at this
  exact this
 have u3 := Upd.set u1.hs he1 (o' := .box ty' (cs.set o (.row X.h.length))) trivial hob
 have u4 := u1.trans u3 hS.h.rl
 rw [hg] at u4
 refine ⟨F, _, _, ρ ++ [σ.h.length], hI2, ?_, hF.upd hS.h.rl u4⟩
 exact put_ok (X := X) (kl := []) hS.t u4 (v := .any) (a := .any) trivial none
theorem pre1_gha (hI : Inv Gl F own B w0 σ act w) (hS : Sim ρ X σ) (hF : Frm H0 ρ0 ρ σ.h) {s o ty : Nat} {T : Ty} {cs : List XV} (hk : X.t.getD s .any = .agg cs) (ho : cs[o]? = some (.k (.slice none 0 0))) (hz : 0 < T.size) :
  ∃ F' own' σ' ρ', Inv Gl F' own' B w0 σ' act w ∧ Sim ρ' ⟨X.t.set s (.agg (cs.set o (.row X.h.length))), X.h ++ [XO.row ty T false []]⟩ σ' ∧ Frm H0 ρ0 ρ' σ'.h := by
 have hsl : s < X.t.length := by
  rcases Nat.lt_or_ge s X.t.length with q | q
  ·exact q
  ·simp [List.getD, List.getElem?_eq_none q] at hk
 have hsl' : s < σ.t.length := by rw [← hS.t.1]; exact hsl
 have hst : s < act.tmps.size := by rw [hI.tl]; exact hsl'
 have hv := vt_get hS.t s
 rw [hk] at hv
 obtain ⟨as, has, hc⟩ := hv
 have hs? : σ.t[s]? = some (.agg as) := by
  rw [List.getElem?_eq_getElem hsl']
  simp only [List.getD, List.getElem?_eq_getElem hsl', Option.getD_some] at has
  rw [has]
 obtain ⟨a, ha, hva⟩ := hc.get_left ho
 have hva : a = .v (.slice none 0 0) := hva
 subst hva
 have hI1 := hI.newNil ty T.size true hz
 have hrow : R F (own ++ [⟨none, 0, T.size, 0⟩]) (.slice none 0 0) (.row σ.h.length 0 T.size 0 0) := by
  rw [← hI.hl]
  exact .row _ _ _ _ _ _ _ own_last (by simp) ⟨_, _, rfl, by simp, fun q => by simp at q⟩ (fun _ => ⟨rfl, by simp, fun _ => ⟨_, Nat.le_of_eq (Nat.zero_add _), by simp⟩⟩)
 have hR := hI1.tr s _ _ (Array.getElem?_eq_getElem hst) hs?
 have hag : R F (own ++ [⟨none, 0, T.size, 0⟩]) act.tmps[s] (.agg (as.set o (.row σ.h.length 0 T.size 0 0))) := by
  obtain ⟨xs, hxs, hl, h1, hRc⟩ := hR.agg_inv
  rw [hxs]
  refine .agg xs _ (by simp [hl]) h1 fun j x b p q => ?_
  rw [List.getElem?_set] at q
  split at q
  ·rename_i hj
   subst hj
   split at q
   ·cases q
    have := (hRc o x _ p ha).v_inv
    subst this
    exact hrow
   ·cases q
  ·exact hRc j x b p q
 obtain ⟨u1, u2⟩ := new_row (ty := ty) (ys := ([] : List T.den)) (as := []) hS.h rfl .nil
 have hI2 := hI1.put hag (some s)
 rw [act_self hst] at hI2
 refine ⟨F, _, _, ρ ++ [σ.h.length], hI2, ?_, hF.upd hS.h.rl u1⟩
 refine put_ok (X := X) (kl := []) hS.t u1 (v := .agg (cs.set o (.row X.h.length))) (a := .agg (as.set o (.row σ.h.length 0 T.size 0 0))) ⟨_, rfl, ?_⟩ (some s)
 refine All2.set ?_ u2 o
 have := u1.tr.cells hc
 rw [map_kill_nil] at this
 exact this
theorem pre1_ok {nf : Nat} (hnf : nf = ρ0.length) (hN : w0.N ≤ H0.length) (hcl : ClH H0.length H0) (hI : Inv Gl F own B w0 σ act w) (hS : Sim ρ X σ) (hF : Frm H0 ρ0 ρ σ.h) (p : Pre) : ∃ F' own' σ' ρ', Inv Gl F' own' B w0 σ' act w ∧ Sim ρ' (preX1 nf X p) σ' ∧ Frm H0 ρ0 ρ' σ'.h := by
 cases p with
 | gh s ty T =>
  simp only [preX1]
  split
  ·rename_i hk
   split
   ·rename_i hz
    have hz := blt_t hz
    have hsl : s < X.t.length := by
     rcases Nat.lt_or_ge s X.t.length with q | q
     ·exact q
     ·simp [List.getD, List.getElem?_eq_none q] at hk
    have hsl' : s < σ.t.length := by rw [← hS.t.1]; exact hsl
    have hv := vt_get hS.t s
    rw [hk] at hv
    have ha := vt_k hv
    have hs? : σ.t[s]? = some (.v (.slice none 0 0)) := by
     rw [List.getElem?_eq_getElem hsl']
     simp only [List.getD, List.getElem?_eq_getElem hsl', Option.getD_some] at ha
     rw [ha]
    obtain ⟨own', hI'⟩ := hI.ghost1 (s, ty, T.size)
    have hgh : ghost σ (s, ty, T.size) = ⟨σ.t.set s (.row σ.h.length 0 T.size 0 0), σ.h ++ [⟨ty, T.size, 0, true, []⟩]⟩ := by
     simp only [ghost, hs?, hz, if_true]
    rw [hgh] at hI'
    obtain ⟨u1, u2⟩ := new_row (ty := ty) (ys := ([] : List T.den)) (as := []) hS.h rfl .nil
    refine ⟨F, own', _, ρ ++ [σ.h.length], hI', ?_, ?_⟩
    ·exact put_ok (X := X) (kl := []) hS.t u1 (VT.of1 u2) (some s)
    ·exact hF.upd hS.h.rl u1
   ·exact ⟨F, own, σ, ρ, hI, hS, hF⟩
  ·exact ⟨F, own, σ, ρ, hI, hS, hF⟩
 | fz s T =>
  simp only [preX1]
  split
  ·rename_i x hx
   have hsl : s < X.t.length := by
    rcases Nat.lt_or_ge s X.t.length with q | q
    ·exact q
    ·rw [show X.t.getD s .any = .any by simp [List.getD, List.getElem?_eq_none q]] at hx
     cases T <;> simp [toD, lst] at hx
   have hsl' : s < σ.t.length := by rw [← hS.t.1]; exact hsl
   have hst : s < act.tmps.size := by rw [hI.tl]; exact hsl'
   have hv := vt_get hS.t s
   have hnt : ∀ us, X.t.getD s .any ≠ .tup us := fun us q => by
    rw [q] at hx
    cases T <;> simp [toD, lst] at hx
   obtain ⟨b, k1, k2, k3, k4⟩ := toD_keep hS.h hx (hv.notup hnt)
   obtain ⟨F1, hF1, hI1, hkp⟩ := hI.freezeL (rowsA (σ.t.getD s .any))
   have hsg : σ.t[s]? = some (σ.t.getD s .any) := by simp [List.getD, List.getElem?_eq_getElem hsl']
   have hR := hI.tr s _ _ (Array.getElem?_eq_getElem hst) hsg
   obtain ⟨r1, _, _⟩ := keepA_sound hI hF1 hR k1 hkp
   have hI2 := hI1.put (.pure r1) (some s)
   rw [act_self hst] at hI2
   have hu := Upd.frz _ hS.h k4
   rw [← k3] at hu
   refine ⟨F1, own, _, ρ, hI2, ?_, ?_⟩
   ·exact put_ok (X := X) (kl := []) hS.t hu (vt_d k2) (some s)
   ·exact hF.upd hS.h.rl hu
  ·exact ⟨F, own, σ, ρ, hI, hS, hF⟩
 | ghc s o ty T =>
  simp only [preX1]
  split
  case h_2 => exact ⟨F, own, σ, ρ, hI, hS, hF⟩
  split
  case h_2 => exact ⟨F, own, σ, ρ, hI, hS, hF⟩
  rename_i he
  split
  case h_2 => exact ⟨F, own, σ, ρ, hI, hS, hF⟩
  rename_i ho
  split
  ·rename_i hz
   exact pre1_ghc hI hS hF he ho (blt_t hz)
  ·exact ⟨F, own, σ, ρ, hI, hS, hF⟩
 | gha s o ty T =>
  simp only [preX1]
  split
  case h_2 => exact ⟨F, own, σ, ρ, hI, hS, hF⟩
  rename_i hk
  split
  case h_2 => exact ⟨F, own, σ, ρ, hI, hS, hF⟩
  rename_i ho
  split
  ·rename_i hz
   exact pre1_gha hI hS hF hk ho (blt_t hz)
  ·exact ⟨F, own, σ, ρ, hI, hS, hF⟩
 | tr s =>
  simp only [preX1]
  split
  case h_2 => exact ⟨F, own, σ, ρ, hI, hS, hF⟩
  rename_i id off len hk
  split
  case h_2 => exact ⟨F, own, σ, ρ, hI, hS, hF⟩
  rename_i ty T fz es he
  split
  ·rename_i hb
   simp only [Bool.and_eq_true, Bool.not_eq_true'] at hb
   have h0 := beq_eq hb.1.1
   have hf := hb.2
   subst h0 hf
   exact pre1_tr hnf hN hcl hI hS hF hk he (Nat.le_of_ble_eq_true hb.1.2)
  ·exact ⟨F, own, σ, ρ, hI, hS, hF⟩
theorem pre_ok {nf : Nat} (hnf : nf = ρ0.length) (hN : w0.N ≤ H0.length) (hcl : ClH H0.length H0) (pre : List Pre) : ∀ {X : XS} {F : Addr → Option Value} {own : List Ent} {σ : St} {ρ : List Nat}, Inv Gl F own B w0 σ act w → Sim ρ X σ → Frm H0 ρ0 ρ σ.h → ∃ F' own' σ' ρ', Inv Gl F' own' B w0 σ' act w ∧ Sim ρ' (preX nf pre X) σ' ∧ Frm H0 ρ0 ρ' σ'.h := by
 induction pre with
 | nil => intro X F own σ ρ hI hS hF; exact ⟨F, own, σ, ρ, hI, hS, hF⟩
 | cons p pre ih =>
  intro X F own σ ρ hI hS hF
  obtain ⟨F', own', σ', ρ', a, b, d⟩ := pre1_ok hnf hN hcl hI hS hF p
  exact ih a b d
theorem startsR_ok : ∀ (n j : Nat) (l : List Nat), startsR n j l = true → ∃ r, l = List.range' j n ++ r := by
 intro n
 induction n with
 | zero => intro j l _; exact ⟨l, by simp⟩
 | succ n ih =>
  intro j l h
  cases l with
  | nil => simp [startsR] at h
  | cons a l =>
   simp only [startsR, Bool.and_eq_true] at h
   have := beq_eq h.1
   subst this
   obtain ⟨r, rfl⟩ := ih (a + 1) l h.2
   exact ⟨r, by simp [List.range'_succ]⟩
theorem foc_frm {H : List AObj} {foc : List Nat} {nf : Nat} {h : List XO} (hs : HS ρ h H) (hF : Frm H0 ρ0 ρ H) (hnf : nf = ρ0.length) (hst : startsR nf 0 foc = true) (hnd : foc.Nodup) (hlt : ∀ id ∈ foc, id < h.length) : Frm H0 ρ0 (foc.map fun id => ρ.getD id 0) H := by
 subst hnf
 obtain ⟨r, rfl⟩ := startsR_ok _ _ _ hst
 obtain ⟨l, hl, hq⟩ := hF.pre
 refine ⟨⟨r.map fun id => ρ.getD id 0, ?_, fun x hx => ?_⟩, hF.ge, hF.fr⟩
 ·rw [List.map_append]
  congr 1
  apply List.ext_getElem
  ·simp
  ·intro i h1 h2
   simp only [List.length_map, List.length_range'] at h1
   simp only [List.getElem_map, List.getElem_range', Nat.zero_add, Nat.one_mul]
   rw [hl, getD_left h1]
   simp [List.getD, List.getElem?_eq_getElem h1]
 ·obtain ⟨id, hid, rfl⟩ := List.mem_map.1 hx
  have hge : ρ0.length ≤ id := by
   rcases Nat.lt_or_ge id ρ0.length with q | q
   ·exfalso
    rw [List.nodup_append] at hnd
    exact hnd.2.2 id (by simp [List.mem_range'_1, q]) id hid rfl
   ·exact q
  have hidl : id < ρ.length := by rw [hs.rl]; exact hlt id (by simp [hid])
  rw [hl] at hidl ⊢
  simp only [List.length_append] at hidl
  have : (ρ0 ++ l).getD id 0 = l[id - ρ0.length]'(by omega) := by
   simp only [List.getD]
   rw [List.getElem?_append_right hge, List.getElem?_eq_getElem (by omega)]; rfl
  rw [this]
  exact hq _ (List.getElem_mem _)
theorem extL_ok {nf : Nat} (hN : w0.N ≤ H0.length) (hcl : ClH H0.length H0) {pre : List Pre} {sh : Sh} {s : Ty.denL sh.tys} (hI : Inv Gl F own B w0 σ act w) (hS : Sim ρ X σ) (hF : Frm H0 ρ0 ρ σ.h) (hnf : nf = ρ0.length) (hx : extL nf pre sh X = some s) : ∃ F' own' σ' ρ', Inv Gl F' own' B w0 σ' act w ∧ Sim ρ' (emb sh s) σ' ∧ Frm H0 ρ0 ρ' σ'.h := by
 obtain ⟨F', own', σ', ρ', hI', hS', hF'⟩ := pre_ok hnf hN hcl pre hI hS hF
 unfold extL at hx
 split at hx
 ·rename_i foc x he
  split at hx
  ·rename_i hb
   cases hx
   simp only [Bool.and_eq_true] at hb
   have hn : (preX nf pre X).t.length = sh.n := by
    have h1 := beq_eq hb.2
    rw [← h1, hS'.t.1, hS.t.1, ← hI'.tl, ← hI.tl]
   obtain ⟨e1, e2, e3, e4⟩ := ext_sim hS'.t hS'.h hn he
   exact ⟨F', own', σ', _, hI', e1, foc_frm hS'.h hF' hnf hb.1 e4 e2⟩
  ·cases hx
 ·cases hx
def Std {β : Type} (H0 : List AObj) (ρ0 : List Nat) (K : Exit → XS → Option β) (r : β) (e : Exit) (τ : St) : Prop := ∃ ρ' X', Sim ρ' X' τ ∧ Frm H0 ρ0 ρ' τ.h ∧ K e X' = some r
theorem spltN_some {β : Type} {f : XS → Option β} {s : Nat} {k : IntKind} {m : Int} {X : XS} {r : β} (h : X.t.getD s .any = .d (.int k) m) : ∀ ns : List Int, spltN f s k m X ns = some r → f X = some r
 | [], hx => by cases hx
 | n :: ns, hx => by
  unfold spltN at hx
  by_cases hm : iEq m n = true
  ·rw [hm] at hx
   have hm : m = n := by simpa [iEq] using hm
   subst hm
   have hs : s < X.t.length := by
    rcases Nat.lt_or_ge s X.t.length with q | q
    ·exact q
    ·simp [List.getD, List.getElem?_eq_none q] at h
   have : X.t.set s (.d (.int k) m) = X.t := by
    apply List.ext_getElem?
    intro j
    rw [List.getElem?_set]
    split
    ·rename_i hj
     subst hj
     have h2 : X.t[s]? = some (X.t.getD s .any) := by simp [List.getD, List.getElem?_eq_getElem hs]
     exact (h2.trans (congrArg some h)).symm
    ·rfl
   rw [this] at hx
   exact hx
  ·rw [Bool.not_eq_true] at hm
   rw [hm] at hx
   exact spltN_some h ns hx
theorem top_ex {nf : Nat} {oc : Option C} {β : Type} {K : Exit → XS → Option β} {r : β} {X : XS} : ∀ {xc : XC}, oc = some xc.er → xwp c nf xc β K X = some r → ∃ xc' : XC, oc = some xc'.er ∧ xwp c nf xc' β K X = some r ∧ ∀ s k ns b, xc' ≠ .splt s k ns b := by
 intro xc
 induction xc with
 | splt s k ns b ih =>
  intro h1 h2
  simp only [xwp] at h2
  split at h2
  ·rename_i k' m hm
   split at h2
   ·rename_i hk
    have hk := of_decide_eq_true hk
    subst hk
    exact ih h1 (spltN_some hm _ h2)
   ·cases h2
  ·cases h2
 | _ => intro h1 h2; exact ⟨_, h1, h2, fun s k ns b q => by cases q⟩
theorem xwp_soundN (hc : CfgOk P c) (hm : P.follows .mixedOrders = true) {hl0 : List Nat} {N nf : Nat} (hN : w0.N = N) (hN0 : w0.N ≤ H0.length) (hcl : ClH H0.length H0) (hnf : nf = ρ0.length) : ∀ (code : Code) (xc : XC), cC P hl0 code = some xc.er → ∀ (β : Type) (K : Exit → XS → Option β) (r : β) (X : XS) (ρ : List Nat) (σ : St) (F : Addr → Option Value) (own : List Ent) (act : Act) (w : World),
  xwp c nf xc β K X = some r → Sim ρ X σ → Frm H0 ρ0 ρ σ.h → Inv (gx c.GX) F own B w0 σ act w → code.wp P (fun e a w => NG e ∧ Some' (gx c.GX) B w0 (Std H0 ρ0 K r e) a w) act w := by
 intro code
 induction code with
 | skip =>
  intro xc hcc β K r X ρ σ F own act w hx hS hF hI
  obtain ⟨xc, hcc, hx, hnt⟩ := top_ex hcc hx
  cases xc <;> first | exact (hnt _ _ _ _ rfl).elim | simp only [cC, XC.er, Option.some.injEq, reduceCtorEq] at hcc
  exact wp_skip ⟨ng_normal, F, own, σ, hI, ρ, X, hS, hF, hx⟩
 | region id ops draw =>
  intro xc hcc β K r X ρ σ F own act w hx hS hF hI
  obtain ⟨xc, hcc, hx, hnt⟩ := top_ex hcc hx
  refine awp_soundN hm hN _ _ hcc _ σ F own act w ?_ hI
  have hsp : SpR ρ X.h σ [] := fun q hq => by simp at hq
  cases xc with
  | ops d l => exact xops_ok hc l X [] ρ σ hS hsp hF hx
  | rops U l =>
   refine ⟨(U.filter fun j => Nat.blt j X.h.length).map fun j => ρ.getD j 0, xopsR_ok (m := X.h.length) (N := σ.h.length) (U := U) hc l X [] ρ σ hS hsp hF (fun i hi hi' => ⟨hS.h.lt hi, fun q => ?_, fun q => List.mem_map.2 ⟨i, List.mem_filter.2 ⟨q, Nat.ble_eq_true_of_le hi⟩, rfl⟩⟩) (fun i hi hi' => by rw [hS.h.rl] at hi'; omega) (Nat.le_refl _) (Nat.le_refl _) hx⟩
   obtain ⟨j, hj, he⟩ := List.mem_map.1 q
   obtain ⟨h1, h2⟩ := List.mem_filter.1 hj
   have := getD_inj hS.h.nd (by rw [hS.h.rl]; exact blt_t h2) hi' he
   subst this; exact h1
  | splt s k ns b => exact (hnt s k ns b rfl).elim
  | _ =>
   exfalso
   cases draw with
   | false =>
    simp only [cC, XC.er] at hcc
    rw [Option.map_eq_some_iff] at hcc
    obtain ⟨_, _, q⟩ := hcc
    cases q
   | true =>
    simp only [cC, XC.er] at hcc
    repeat' (split at hcc)
    all_goals cases hcc
 | seq a b iha ihb =>
  intro xc hcc β K r X ρ σ F own act w hx hS hF hI
  obtain ⟨xc, hcc, hx, hnt⟩ := top_ex hcc hx
  simp only [cC] at hcc
  split at hcc
  ·rename_i x y hxa hyb
   cases xc <;> first | exact (hnt _ _ _ _ rfl).elim | simp only [XC.er, Option.some.injEq, reduceCtorEq, C.seq.injEq] at hcc
   case seq xa xb =>
    obtain ⟨rfl, rfl⟩ := hcc
    refine wp_seq (wp_mono (iha xa hxa β _ r X ρ σ F own act w hx hS hF hI) ?_)
    rintro e a1 w1 ⟨ng, F1, own1, τ, hI1, ρ1, X1, hS1, hF1, hK⟩
    cases e with
    | normal => exact ihb xb hyb β K r X1 ρ1 τ F1 own1 a1 w1 hK hS1 hF1 hI1
    | _ => exact ⟨ng, F1, own1, τ, hI1, ρ1, X1, hS1, hF1, hK⟩
   case seqj pre sh xa xb =>
    obtain ⟨rfl, rfl⟩ := hcc
    simp only [xwp] at hx
    generalize hA : xwp c nf xa (Ty.denL sh.tys ⊕ β) (fun e Y => match e with
     | .normal => match extL nf pre sh Y with
      | some s' => some (.inl s')
      | none => none
     | e => Option.map Sum.inr (K e Y)) X = oA at hx
    unfold joinO at hx
    split at hx
    ·rename_i s0
     refine wp_seq (wp_mono (iha xa hxa _ _ _ X ρ σ F own act w hA hS hF hI) ?_)
     rintro e a1 w1 ⟨ng, F1, own1, τ, hI1, ρ1, X1, hS1, hF1, hK⟩
     cases e with
     | normal =>
      simp only at hK
      split at hK
      ·rename_i s2 hs2
       cases hK
       obtain ⟨F2, own2, σ2, ρ2, hI2, hS2, hF2⟩ := extL_ok hN0 hcl hI1 hS1 hF1 hnf hs2
       exact ihb xb hyb β K r _ ρ2 σ2 F2 own2 a1 w1 hx hS2 hF2 hI2
      ·cases hK
     | _ =>
      simp only [Option.map_eq_some_iff] at hK
      obtain ⟨_, _, q⟩ := hK
      cases q
    ·rename_i r0
     cases hx
     refine wp_seq (wp_mono (iha xa hxa _ _ _ X ρ σ F own act w hA hS hF hI) ?_)
     rintro e a1 w1 ⟨ng, F1, own1, τ, hI1, ρ1, X1, hS1, hF1, hK⟩
     cases e with
     | normal =>
      simp only at hK
      split at hK <;> cases hK
     | _ =>
      simp only [Option.map_eq_some_iff] at hK
      obtain ⟨r2, hr2, q⟩ := hK
      cases q
      exact ⟨ng, F1, own1, τ, hI1, ρ1, X1, hS1, hF1, hr2⟩
    ·cases hx
  ·cases hcc
 | cond c0 a b iha ihb =>
  intro xc hcc β K r X ρ σ F own act w hx hS hF hI
  obtain ⟨xc, hcc, hx, hnt⟩ := top_ex hcc hx
  simp only [cC] at hcc
  split at hcc
  ·rename_i x y hxa hyb
   cases xc <;> first | exact (hnt _ _ _ _ rfl).elim | simp only [XC.er, Option.some.injEq, reduceCtorEq, C.cond.injEq] at hcc
   rename_i o xa xb
   obtain ⟨rfl, rfl, rfl⟩ := hcc
   simp only [xwp] at hx
   have hv := rdG_ok (c := c) hS (cOpd c0)
   split at hx
   case h_2 => cases hx
   rename_i t ht
   rw [ht] at hv
   have hva := vt_bool hv
   have he := hI.ev c0
   rw [hva] at he
   refine wp_cond he.v_inv ?_
   have lit : ∀ v : Bool, St.val (gx c.GX) σ (cOpd c0) = .v (.bool v) → Sim ρ (litX (cOpd c0) v X) σ := by
    intro v hv
    unfold litX
    split
    ·rename_i i hi
     rw [hi] at hv
     exact ⟨same_set hS.t hv, hS.h⟩
    ·exact hS
   have key : ∀ v : Bool, St.val (gx c.GX) σ (cOpd c0) = .v (.bool v) → cond v (xwp c nf xa β K (litX (cOpd c0) true X)) (xwp c nf xb β K (litX (cOpd c0) false X)) = some r → Code.wp P (if v = true then a else b) (fun e a w => NG e ∧ Some' (gx c.GX) B w0 (Std H0 ρ0 K r e) a w) act w := by
    intro v hv hx
    cases v with
    | true => simp only [if_true]; exact iha xa hxa β K r _ ρ σ F own act w hx (lit true hv) hF hI
    | false => simp only [Bool.false_eq_true, if_false]; exact ihb xb hyb β K r _ ρ σ F own act w hx (lit false hv) hF hI
   exact key t hva hx
  ·cases hcc
 | block id b ih =>
  intro xc hcc β K r X ρ σ F own act w hx hS hF hI
  obtain ⟨xc, hcc, hx, hnt⟩ := top_ex hcc hx
  simp only [cC] at hcc
  cases hb : cC P hl0 b with
  | none => rw [hb] at hcc; cases hcc
  | some x =>
   rw [hb] at hcc
   cases xc <;> first | exact (hnt _ _ _ _ rfl).elim | simp only [XC.er, Option.map_some, Option.some.injEq, reduceCtorEq, C.block.injEq] at hcc
   rename_i id' xb
   obtain ⟨rfl, rfl⟩ := hcc
   refine wp_block (wp_mono (ih xb hb β _ r X ρ σ F own act w hx hS hF hI) ?_)
   rintro e a1 w1 ⟨ng, F1, own1, τ, hI1, ρ1, X1, hS1, hF1, hK⟩
   cases e with
   | exit i =>
    simp only at hK
    simp only [Exit.inBlock]
    by_cases hi : i = id
    ·rw [if_pos (by rw [hi]; simp)] at hK
     rw [if_pos hi]
     exact ⟨ng_normal, F1, own1, τ, hI1, ρ1, X1, hS1, hF1, hK⟩
    ·rw [if_neg (fun q => hi (beq_eq q))] at hK
     rw [if_neg hi]
     exact ⟨ng_exit _, F1, own1, τ, hI1, ρ1, X1, hS1, hF1, hK⟩
   | _ => exact ⟨ng, F1, own1, τ, hI1, ρ1, X1, hS1, hF1, hK⟩
 | loop b ih =>
  intro xc hcc β K r X ρ σ F own act w hx hS hF hI
  obtain ⟨xc, hcc, hx, hnt⟩ := top_ex hcc hx
  simp only [cC] at hcc
  cases hb : cC P hl0 b with
  | none => rw [hb] at hcc; cases hcc
  | some x =>
   rw [hb] at hcc
   cases xc <;> first | exact (hnt _ _ _ _ rfl).elim | simp only [XC.er, Option.map_some, Option.some.injEq, reduceCtorEq, C.loop.injEq] at hcc
   case loop pre sh xb =>
    subst hcc
    simp only [xwp] at hx
    split at hx
    case h_2 => cases hx
    rename_i s0 hs0
    obtain ⟨F0, own0, σ0, ρ0', hI0, hS0, hF0⟩ := extL_ok hN0 hcl hI hS hF hnf hs0
    obtain ⟨n, hn⟩ := loopO_some.1 hx
    have key : ∀ (n : Nat) (s : Ty.denL sh.tys) (ρ : List Nat) (σ : St) (F : Addr → Option Value) (own : List Ent) (act : Act) (w : World), runO (fun s => xwp c nf xb (Ty.denL sh.tys ⊕ β) (fun e Y => match e with
      | .normal => match extL nf pre sh Y with
       | some s' => some (.inl s')
       | none => none
      | e => Option.map Sum.inr (K e Y)) (emb sh s)) n s = some r → Sim ρ (emb sh s) σ → Frm H0 ρ0 ρ σ.h → Inv (gx c.GX) F own B w0 σ act w → Code.rounds P b (fun e a w => NG e ∧ Some' (gx c.GX) B w0 (Std H0 ρ0 K r e) a w) n act w := by
     intro n
     induction n with
     | zero => intro s ρ σ F own act w hr; cases hr
     | succ n ihn =>
      intro s ρ σ F own act w hr hS hF hI
      simp only [runO] at hr
      rw [rounds_succ]
      split at hr
      ·rename_i s' hs'
       refine wp_mono (ih xb hb _ _ _ _ ρ σ F own act w hs' hS hF hI) ?_
       rintro e a1 w1 ⟨ng, F1, own1, τ, hI1, ρ1, X1, hS1, hF1, hK⟩
       cases e with
       | normal =>
        simp only at hK
        split at hK
        ·rename_i s2 hs2
         cases hK
         obtain ⟨F2, own2, σ2, ρ2, hI2, hS2, hF2⟩ := extL_ok hN0 hcl hI1 hS1 hF1 hnf hs2
         exact ihn s' ρ2 σ2 F2 own2 a1 w1 hr hS2 hF2 hI2
        ·cases hK
       | _ =>
        simp only [Option.map_eq_some_iff] at hK
        obtain ⟨_, _, q⟩ := hK
        cases q
      ·rename_i r' hs'
       cases hr
       refine wp_mono (ih xb hb _ _ _ _ ρ σ F own act w hs' hS hF hI) ?_
       rintro e a1 w1 ⟨ng, F1, own1, τ, hI1, ρ1, X1, hS1, hF1, hK⟩
       cases e with
       | normal =>
        simp only at hK
        split at hK <;> cases hK
       | _ =>
        simp only [Option.map_eq_some_iff] at hK
        obtain ⟨r2, hr2, q⟩ := hK
        cases q
        exact ⟨ng, F1, own1, τ, hI1, ρ1, X1, hS1, hF1, hr2⟩
      ·cases hr
    exact wp_loop_rounds n (key n s0 ρ0' σ0 F0 own0 act w hn hS0 hF0 hI0)
   case loopU n xb =>
    subst hcc
    simp only [xwp] at hx
    have key : ∀ (n : Nat) (X : XS) (ρ : List Nat) (σ : St) (F : Addr → Option Value) (own : List Ent) (act : Act) (w : World), unrollN (fun k Y => xwp c nf xb β (fun e Z => match e with | .normal => k Z | e => K e Z) Y) n X = some r → Sim ρ X σ → Frm H0 ρ0 ρ σ.h → Inv (gx c.GX) F own B w0 σ act w → Code.rounds P b (fun e a w => NG e ∧ Some' (gx c.GX) B w0 (Std H0 ρ0 K r e) a w) n act w := by
     intro n
     induction n with
     | zero => intro X ρ σ F own act w hr; cases hr
     | succ n ihn =>
      intro X ρ σ F own act w hr hS hF hI
      simp only [unrollN] at hr
      rw [rounds_succ]
      refine wp_mono (ih xb hb _ _ _ _ ρ σ F own act w hr hS hF hI) ?_
      rintro e a1 w1 ⟨ng, F1, own1, τ, hI1, ρ1, X1, hS1, hF1, hK⟩
      cases e with
      | normal => exact ihn X1 ρ1 τ F1 own1 a1 w1 hK hS1 hF1 hI1
      | _ => exact ⟨ng, F1, own1, τ, hI1, ρ1, X1, hS1, hF1, hK⟩
    exact wp_loop_rounds n (key n X ρ σ F own act w hx hS hF hI)
 | exit id =>
  intro xc hcc β K r X ρ σ F own act w hx hS hF hI
  obtain ⟨xc, hcc, hx, hnt⟩ := top_ex hcc hx
  cases xc <;> first | exact (hnt _ _ _ _ rfl).elim | simp only [cC, XC.er, Option.some.injEq, reduceCtorEq, C.exit.injEq] at hcc
  subst hcc
  exact wp_exit ⟨ng_exit _, F, own, σ, hI, ρ, X, hS, hF, hx⟩
 | ret =>
  intro xc hcc β K r X ρ σ F own act w hx hS hF hI
  obtain ⟨xc, hcc, hx, hnt⟩ := top_ex hcc hx
  cases xc <;> first | exact (hnt _ _ _ _ rfl).elim | simp only [cC, XC.er, Option.some.injEq, reduceCtorEq] at hcc
  exact wp_ret ⟨ng_ret, F, own, σ, hI, ρ, X, hS, hF, hx⟩
 | label l =>
  intro xc hcc β K r X ρ σ F own act w hx hS hF hI
  obtain ⟨xc, hcc, hx, hnt⟩ := top_ex hcc hx
  cases xc <;> first | exact (hnt _ _ _ _ rfl).elim | simp only [cC, XC.er, Option.some.injEq, reduceCtorEq] at hcc
  exact wp_label ⟨ng_normal, F, own, σ, hI, ρ, X, hS, hF, hx⟩
 | scope b ih =>
  intro xc hcc β K r X ρ σ F own act w hx hS hF hI
  obtain ⟨xc, hcc, hx, hnt⟩ := top_ex hcc hx
  refine wp_scope_straight (wp_mono (ih xc hcc β K r X ρ σ F own act w hx hS hF hI) ?_)
  rintro e a1 w1 ⟨ng, hK⟩
  cases e with
  | goto l => exact absurd rfl (ng l)
  | _ => exact ⟨ng, hK⟩
 | _ => intro xc hcc; cases hcc
theorem xwp_sound (hc : CfgOk P c) (hm : P.follows .mixedOrders = true) {hl0 : List Nat} {N nf : Nat} (hN : w0.N = N) (hN0 : w0.N ≤ H0.length) (hcl : ClH H0.length H0) (hnf : nf = ρ0.length) : ∀ (code : Code) (xc : XC), cC P hl0 code = some xc.er → ∀ (β : Type) (K : Exit → XS → Option β) (r : β) (X : XS) (ρ : List Nat) (σ : St) (F : Addr → Option Value) (own : List Ent) (act : Act) (w : World),
  xwp c nf xc β K X = some r → Sim ρ X σ → Frm H0 ρ0 ρ σ.h → Inv (gx c.GX) F own B w0 σ act w → code.wp P (fun e a w => Some' (gx c.GX) B w0 (Std H0 ρ0 K r e) a w) act w := by
 intro code xc hcc β K r X ρ σ F own act w hx hS hF hI
 exact wp_mono (xwp_soundN hc hm hN hN0 hcl hnf code xc hcc β K r X ρ σ F own act w hx hS hF hI) fun e a w h => h.2
end
end Abs
end Go.Proofs.YtfjhljjginlobaaDoor
end
section
namespace Go.Proofs.YtfjhljjginlobaaDoor
namespace Abs
open Go.RowKit
section
variable {P : Program} {c : Cfg} {ρ : List Nat} {X : XS} {σ : St}
theorem xresL_ok (hS : Sim ρ X σ) : ∀ (rv : List RV) (vs : List XV), xresL c X rv = some vs → ∃ p l, resL (gx c.GX) σ rv = some (p, l) ∧ p ∧ All2 (VT ρ X.h) vs l := by
 intro rv
 induction rv with
 | nil => intro vs h; cases h; exact ⟨True, [], rfl, trivial, .nil⟩
 | cons v rv ih =>
  intro vs h
  cases v with
  | t i =>
   simp only [xresL] at h
   split at h
   ·rename_i l hl
    cases h
    obtain ⟨p, m, h1, h2, h3⟩ := ih l hl
    exact ⟨p, _, by simp only [resL, h1, Option.map_some], h2, .cons (vt_get hS.t i) h3⟩
   ·cases h
  | c i sz ag =>
   simp only [xresL] at h
   split at h
   ·rename_i v1 kl h' l hst hl
    cases h
    obtain ⟨p, m, h1, h2, h3⟩ := ih l hl
    obtain ⟨q, a, H', ρ', tch, e1, e2, e3, e4, e5⟩ := xstep_sim (.load sz ag (.t i)) hS.h (rdG_ok hS) _ _ _ _ hst rfl
    obtain ⟨c1, c2⟩ := xstep_cls (i := .load sz ag (.t i)) (by simp [I.cls]) hst
    subst c1 c2
    have hρ := ap_same e3 hS.h.rl rfl
    subst hρ
    exact ⟨q ∧ p, a :: m, by simp only [resL, e1, h1], ⟨e2, h2⟩, .cons e4 h3⟩
   ·cases h
theorem encs_len : ∀ (ps : List Ty) (x : Ty.denL ps), (encs ps x).length = ps.length := by
 intro ps
 induction ps with
 | nil => intro x; rfl
 | cons T ps ih => intro x; simp only [encs, List.length_cons, ih]
theorem any_rep (ρ : List Nat) (h : List XO) (n : Nat) : All2 (VT ρ h) (List.replicate n .any) (List.replicate n AV.any) :=
 ⟨by simp, fun i x a p q => by
  have := List.eq_of_mem_replicate (List.mem_of_getElem? p)
  subst this; trivial⟩
theorem resA_tup {Gl : Nat → Option (List AV)} {rv : List RV} {p : Prop} {l : List AV} (e1 : resL Gl σ rv = some (p, l)) (hone : ¬ ∃ a, l = [a]) : resA Gl σ rv = some (p, .tup l) := by
 unfold resA
 rw [e1]
 match l, hone with
 | [], _ => rfl
 | [a], h => exact absurd ⟨a, rfl⟩ h
 | a :: b :: l, _ => rfl
theorem ends_ok {rv : List RV} {rs : List Ty} {y : Ty.denL rs} {e : Exit} (hS : Sim ρ X σ) (hK : xend c rv rs e X = some y) : Ends (gx c.GX) rv (oneT (encs rs y)) e σ := by
 have key : ∀ vs, xresL c X rv = some vs → argsD X.h rs vs = some y → ∃ p a b, resA (gx c.GX) σ rv = some (p, a) ∧ p ∧ keepT σ.h a = some b ∧ Wk b (oneT (encs rs y)) := by
  intro vs h1 h2
  obtain ⟨p, l, e1, e2, e3⟩ := xresL_ok hS rv vs h1
  obtain ⟨bs, k1, k2, k3, k4⟩ := argsD_ok hS.h rs vs y l h2 e3
  by_cases hone : ∃ a, l = [a]
  ·obtain ⟨a, rfl⟩ := hone
   obtain ⟨v, vs', rfl, hv, hvs⟩ := e3.cons_right
   have := hvs.nil_right
   subst this
   simp only [keepAL] at k1
   split at k1
   ·rename_i b l' hb hl'
    cases hl'
    cases k1
    obtain ⟨en, r, he, hw, ht⟩ := k2.cons_left
    have hr := ht.nil_left
    subst hr
    refine ⟨p, a, b, by simp only [resA, e1], e2, ?_, ?_⟩
    ·have hnt : ∀ us, a ≠ .tup us := fun us q => by
      subst q
      simp [keepA, keep1] at hb
     cases a <;> first | exact hb | exact absurd rfl (hnt _)
    ·rw [he]; exact hw.wk
   ·cases k1
  ·refine ⟨p, .tup l, .tup bs, ?_, e2, by simp only [keepT, k1, Option.map_some], ?_⟩
   ·exact resA_tup e1 hone
   ·have hlen : l.length = (encs rs y).length := by
     have h3 := k2.1
     have : ∀ {as bs : List AV}, keepAL σ.h as = some bs → as.length = bs.length := by
      intro as
      induction as with
      | nil => intro bs q; cases q; rfl
      | cons a as ih =>
       intro bs q
       simp only [keepAL] at q
       split at q
       ·rename_i b m _ hm; cases q; simp [ih hm]
       ·cases q
     rw [this k1, h3]
    have hot : oneT (encs rs y) = .tup (encs rs y) := by
     unfold oneT
     split
     ·rename_i a ha
      exfalso
      rw [ha] at hlen
      match l, hlen with
      | [x], _ => exact hone ⟨x, rfl⟩
     ·rfl
    rw [hot]
    exact Wk.tup k2.1 fun j a b p q => (k2.2 j a b p q).wk
 unfold xend at hK
 cases e with
 | normal =>
  simp only at hK
  split at hK
  ·rename_i vs h1; exact ⟨trivial, key vs h1 hK⟩
  ·cases hK
 | ret =>
  simp only at hK
  split at hK
  ·rename_i vs h1; exact ⟨trivial, key vs h1 hK⟩
  ·cases hK
 | _ => cases hK
theorem pok (hm : P.follows .mixedOrders = true) (hc : CfgOk P c) {f n : Nat} {xc : XC} {rv : List RV} {ps rs : List Ty} {run : Ty.denL ps → Option (Ty.denL rs)} (hf : Fn P f n xc.er rv) (hrun : ∀ x, xfun c xc n rv ps rs x = run x) : POk P (gx c.GX) ⟨f, ps, rs, run⟩ := by
 refine ⟨hf.callable, ?_⟩
 intro x y hy
 have hy : run x = some y := hy
 rw [← hrun] at hy
 obtain ⟨fn, hl, h1, h2, h3, rfl, _⟩ := hf
 cases hb : fn.body with
 | none => rw [hb] at h2; cases h2
 | some code =>
  rw [hb] at h2
  refine Pure.ofW h1 hb h3 ?_
  intro F own B w0 act w hN hI
  have hS : Sim [] ⟨listX ps x ++ List.replicate (fn.ntmps - ps.length) .any, []⟩ ⟨encs ps x ++ List.replicate (fn.ntmps - (encs ps x).length) .any, []⟩ := by
   refine ⟨?_, rfl, List.nodup_nil, fun i o q => by simp at q⟩
   rw [encs_len]
   exact ((listX_ok ps x).mono fun _ _ q => VT.ofA q).append (any_rep _ _ _)
  refine wp_mono (xwp_sound (H0 := []) (ρ0 := []) hc hm hN (Nat.le_of_eq hN) (fun j O q => by simp at q) rfl code xc h2 _ (xend c rv rs) y _ [] _ F own act w hy hS (Frm.refl [] []) hI) ?_
  rintro e a1 w1 ⟨F1, own1, τ, hI1, ρ1, X1, hS1, hF1, hK⟩
  exact ⟨F1, own1, τ, hI1, ends_ok hS1 hK⟩
theorem emb_len {ρ : List Nat} {sh : Sh} {x : Ty.denL sh.tys} {as : List AV} {H : List AObj} (hS : Sim ρ (emb sh x) ⟨as, H⟩) : as.length = sh.n := by
 have h1 := hS.t.1
 rw [← h1]
 have hv : ∀ (vs : List (Nat × Ty)) (r : List Ty) (x : Ty.denL (varTys vs r)) (b : List XV), (embV vs r x b).1.length = b.length := by
  intro vs
  induction vs with
  | nil => intro r x b; rfl
  | cons p vs ih => intro r x b; obtain ⟨s, T⟩ := p; simp only [embV]; rw [ih]; simp
 have hr : ∀ (refs : List (Nat × SR)) (r : List Ty) (x : Ty.denL (refTys refs r)) (b : List XV), (embRf refs r x b).1.length = b.length := by
  intro refs
  induction refs with
  | nil => intro r x b; rfl
  | cons p refs ih =>
   intro r x b
   obtain ⟨s, sr⟩ := p
   cases sr with
   | row j => exact (ih r x _).trans (by simp)
   | ptr j i o => exact (ih r x _).trans (by simp)
   | nil => exact (ih r x _).trans (by simp)
   | cst k n => exact (ih r x _).trans (by simp)
   | agg cs => exact (ih r _ _).trans (by simp)
 refine (hr sh.refs (SO.tys sh.objs) _ _).trans ?_
 refine (hv sh.vars _ x _).trans ?_
 simp
theorem hok (hm : P.follows .mixedOrders = true) (hc : CfgOk P c) {f n : Nat} {xc : XC} {rv : List RV} {pre : List Pre} {ish osh : Sh} {run : Ty.denL ish.tys → Option (Ty.denL osh.tys)} (hf : Fn P f n xc.er rv) (hrun : ∀ x, xfunH c xc n rv pre ish osh x = run x) : HOk P (gx c.GX) ⟨f, ish, osh, run⟩ := by
 refine ⟨hf.callable, ?_⟩
 intro x y hy H ρ as hS0
 have hS0 : Sim ρ (emb ish x) ⟨as, H⟩ := hS0
 have hy : run x = some y := hy
 rw [← hrun] at hy
 obtain ⟨fn, hl, h1, h2, h3, rfl, _⟩ := hf
 cases hb : fn.body with
 | none => rw [hb] at h2; cases h2
 | some code =>
  rw [hb] at h2
  refine PureH.ofW h1 hb h3 ?_
  intro F own B w0 act w hN hI
  have hlen := emb_len hS0
  have hS : Sim ρ ⟨(emb ish x).t ++ List.replicate (fn.ntmps - ish.n) .any, (emb ish x).h⟩ ⟨as ++ List.replicate (fn.ntmps - as.length) .any, H⟩ := by
   refine ⟨?_, hS0.h⟩
   rw [hlen]
   exact hS0.t.append (any_rep _ _ _)
  have hrl : ish.objs.length = ρ.length := by
   rw [hS0.h.rl]
   have := congrArg List.length (embO_kind ish.objs (embS ish x).2)
   simp only [List.length_map] at this
   exact this.symm
  refine wp_mono (xwp_sound (H0 := H) (ρ0 := ρ) hc hm hN (Nat.le_of_eq hN) hI.clH hrl code xc h2 _ _ y _ ρ _ F own act w hy hS (Frm.refl H ρ) hI) ?_
  rintro e a1 w1 ⟨F1, own1, τ, hI1, ρ1, X1, hS1, hF1, hK⟩
  obtain ⟨F2, own2, σ2, ρ2, hI2, hS2, hF2⟩ := pre_ok hrl (Nat.le_of_eq hN) hI.clH pre hI1 hS1 hF1
  simp only at hK
  split at hK
  case h_2 => cases hK
  rename_i vs he hvs
  obtain ⟨p, l, e1, e2, e3⟩ := xresL_ok hS2 rv vs hvs
  have hext : ∃ foc, ext ish.objs.length osh ⟨vs, (preX ish.objs.length pre X1).h⟩ = some (foc, y) ∧ startsR ish.objs.length 0 foc = true ∧ vs.length = osh.n := by
   unfold extL at hK
   split at hK
   ·rename_i foc x' hx'
    split at hK
    ·rename_i hb'
     cases hK
     simp only [Bool.and_eq_true] at hb'
     exact ⟨foc, hx', hb'.1, beq_eq hb'.2⟩
    ·cases hK
   ·cases hK
  obtain ⟨foc, hx1, hx2, hx3⟩ := hext
  obtain ⟨q1, q2, q3, q4⟩ := ext_sim (X := ⟨vs, (preX ish.objs.length pre X1).h⟩) e3 hS2.h hx3 hx1
  have hfr := foc_frm hS2.h hF2 hrl hx2 q4 q2
  refine ⟨F2, own2, σ2, hI2, ?_, ?_⟩
  ·cases e <;> first | trivial | cases he
  ·by_cases hone : ∃ a, l = [a]
   ·obtain ⟨a, rfl⟩ := hone
    exact ⟨p, a, by simp only [resA, e1], e2, _, [a], q1, rfl, hfr⟩
   ·refine ⟨p, .tup l, resA_tup e1 hone, e2, _, l, q1, ?_, hfr⟩
    unfold oneT
    split
    ·rename_i a; exact absurd ⟨_, rfl⟩ hone
    ·rfl
theorem cfg_nil (tt : Nat → Option Ty) (GX : GXT) : CfgOk P ⟨tt, GX, [], []⟩ := ⟨by simp, by simp⟩
theorem cfg_p {tt : Nat → Option Ty} {GX : GXT} {p : PI} {pis : List PI} {his : List HI} (h : POk P (gx GX) p) (hc : CfgOk P ⟨tt, GX, pis, his⟩) : CfgOk P ⟨tt, GX, p :: pis, his⟩ := ⟨fun q hq => by
 rcases List.mem_cons.1 hq with rfl | hq
 ·exact h
 ·exact hc.pis q hq, hc.his⟩
theorem cfg_h {tt : Nat → Option Ty} {GX : GXT} {p : HI} {pis : List PI} {his : List HI} (h : HOk P (gx GX) p) (hc : CfgOk P ⟨tt, GX, pis, his⟩) : CfgOk P ⟨tt, GX, pis, p :: his⟩ := ⟨hc.pis, fun q hq => by
 rcases List.mem_cons.1 hq with rfl | hq
 ·exact h
 ·exact hc.his q hq⟩
end
end Abs
end Go.Proofs.YtfjhljjginlobaaDoor
end
section
namespace Go.Proofs.YtfjhljjginlobaaDoor
namespace Abs
theorem iLe_t {a b : Int} (h : a ≤ b) : iLe a b = true := decide_eq_true h
theorem iLe_f {a b : Int} (h : b < a) : iLe a b = false := decide_eq_false (by omega)
theorem iEq_t {a b : Int} (h : a = b) : iEq a b = true := by simp [iEq, h]
theorem iEq_f {a b : Int} (h : a ≠ b) : iEq a b = false := by simp [iEq, h]
theorem iNe_t {a b : Int} (h : a ≠ b) : iNe a b = true := by simp [iNe, h]
theorem bnd_t {n m : Int} (h : 0 ≤ n) (h' : n < m) : bnd n m = true := by simp [bnd, h, h']
theorem inB_t {α : Type} {i : Nat} {xs : List α} (h : i < xs.length) : inB i xs = true := decide_eq_true h
theorem iAdd64 {a b : Int} (h1 : -9223372036854775808 ≤ a + b) (h2 : a + b ≤ 9223372036854775807) : iAdd .i64 a b = a + b := wrap64 h1 h2
theorem iSub64 {a b : Int} (h1 : -9223372036854775808 ≤ a - b) (h2 : a - b ≤ 9223372036854775807) : iSub .i64 a b = a - b := wrap64 h1 h2
theorem iMul64 {a b : Int} (h1 : -9223372036854775808 ≤ a * b) (h2 : a * b ≤ 9223372036854775807) : iMul .i64 a b = a * b := wrap64 h1 h2
theorem lenI_eq {α : Type} (xs : List α) : lenI xs = (xs.length : Int) := rfl
section
variable {S R : Type} {step : S → Option (S ⊕ R)}
theorem loop_in {s s' : S} (h : step s = some (.inl s')) : loopO step s = loopO step s' := by rw [loopO_eq, h]
theorem loop_out {s : S} {r : R} (h : step s = some (.inr r)) : loopO step s = some r := by rw [loopO_eq, h]
end
end Abs
end Go.Proofs.YtfjhljjginlobaaDoor
end
section
namespace Go.Proofs.YtfjhljjginlobaaDoor
namespace Abs
open Go.RowKit
mutual
def OkT : (T : Ty) → T.den → Prop
 | .int k, n => (Lit.int k n).wf = true
 | .bool, _ => True
 | .str, s => ByteArray.size s ≤ maxLen
 | .list e, xs => List.length (α := e.den) xs ≤ maxLen ∧ ∀ x, x ∈ (show List e.den from xs) → OkT e x
 | .tup fs, x => OkL fs x
 | .fnc _, _ => True
 | .listF _, _ => True
def OkL : (fs : List Ty) → Ty.denL fs → Prop
 | [], _ => True
 | t :: ts, x => OkT t x.1 ∧ OkL ts x.2
end
theorem pack_enc {T : Ty} (x : T.den) : pack T (Ty.enc T x).cells = Ty.enc T x := by
 rcases enc_agg (x := x) with ⟨ht, cs, he⟩ | ⟨ht, hp⟩
 ·unfold pack; rw [if_pos ht, he]; rfl
 ·unfold pack; rw [ht, hp.cells]; rfl
theorem is_den (T : Ty) : ∀ l : List AV, Is T l → ∃ x : T.den, OkT T x ∧ l = (Ty.enc T x).cells := by
 refine Ty.rec (motive_1 := fun T => ∀ l : List AV, Is T l → ∃ x : T.den, OkT T x ∧ l = (Ty.enc T x).cells) (motive_2 := fun fs => ∀ l : List AV, IsL fs l → ∃ x : Ty.denL fs, OkL fs x ∧ l = Ty.encL fs x) ?_ ?_ ?_ ?_ ?_ ?_ ?_ ?_ ?_ T
 ·intro k l h; simp only [Is] at h; obtain ⟨n, rfl, hw⟩ := h; exact ⟨n, hw, rfl⟩
 ·intro l h; simp only [Is] at h; obtain ⟨b, rfl⟩ := h; exact ⟨b, trivial, rfl⟩
 ·intro l h; simp only [Is] at h; obtain ⟨s, rfl, hs⟩ := h; exact ⟨s, hs, rfl⟩
 ·intro e ih l h
  simp only [Is] at h
  obtain ⟨xss, rfl, hl, hx⟩ := h
  have key : ∀ xss : List (List AV), (∀ xs ∈ xss, Is e xs) → ∃ ys : List e.den, (∀ y ∈ ys, OkT e y) ∧ xss.map (pack e) = ys.map (Ty.enc e) := by
   intro xss
   induction xss with
   | nil => intro _; exact ⟨[], by simp, rfl⟩
   | cons a xss ihx =>
    intro h
    obtain ⟨ys, h1, h2⟩ := ihx fun xs hxs => h xs (by simp [hxs])
    obtain ⟨y, hy, rfl⟩ := ih a (h a (by simp))
    refine ⟨y :: ys, fun z hz => ?_, by rw [List.map_cons, List.map_cons, pack_enc, h2]⟩
    rcases List.mem_cons.1 hz with rfl | hz
    ·exact hy
    ·exact h1 z hz
  obtain ⟨ys, h1, h2⟩ := key xss hx
  refine ⟨ys, ⟨?_, h1⟩, by show _ = [AV.list e.size (List.map (Ty.enc e) ys)]; rw [h2]⟩
  have := congrArg List.length h2
  simp only [List.length_map] at this
  show List.length ys ≤ maxLen
  omega
 ·intro fs ih l h; simp only [Is] at h; exact ih l h
 ·intro f l h; simp only [Is] at h; exact ⟨(), trivial, h⟩
 ·intro e _ l h; simp only [Is] at h; exact ⟨none, trivial, h⟩
 ·intro l h; simp only [IsL] at h; exact ⟨(), trivial, h⟩
 ·intro t ts h1 h2 l h
  simp only [IsL] at h
  obtain ⟨a, b, rfl, ha, hb⟩ := h
  obtain ⟨x, ox, rfl⟩ := h1 a ha
  obtain ⟨y, oy, rfl⟩ := h2 b hb
  exact ⟨(x, y), ⟨ox, oy⟩, rfl⟩
theorem isV_den {T : Ty} {a : AV} (h : IsV T a) : ∃ x : T.den, OkT T x ∧ a = Ty.enc T x := by
 obtain ⟨l, hl, rfl⟩ := h
 obtain ⟨x, ox, rfl⟩ := is_den T l hl
 exact ⟨x, ox, pack_enc x⟩
theorem ok_u8 {n : Int} (h : OkT (.int .u8) n) : 0 ≤ n ∧ n ≤ 255 := by
 have h : (Lit.int .u8 n).wf = true := h
 simp only [Lit.wf, IntKind.min, IntKind.max, IntKind.signed, IntKind.bits, Bool.and_eq_true, decide_eq_true_eq, if_true, Bool.false_eq_true, if_false] at h; omega
theorem ok_i64 {n : Int} (h : OkT (.int .i64) n) : -9223372036854775808 ≤ n ∧ n ≤ 9223372036854775807 := by
 have h : (Lit.int .i64 n).wf = true := h
 simp only [Lit.wf, IntKind.min, IntKind.max, IntKind.signed, IntKind.bits, Bool.and_eq_true, decide_eq_true_eq, if_true, Bool.false_eq_true, if_false] at h; omega
theorem ok_list {e : Ty} {xs : List e.den} (h : OkT (.list e) xs) : xs.length ≤ maxLen ∧ ∀ x ∈ xs, OkT e x := h
end Abs
end Go.Proofs.YtfjhljjginlobaaDoor
end
section
namespace Go.Proofs.YtfjhljjginlobaaDoor
namespace Abs
section
variable {S R A α : Type} {step : S → Option (S ⊕ R)}
theorem loop_ex (J : S → Prop) (μ : S → Nat) (Q : R → Prop) (h : ∀ s, J s → (∃ s', step s = some (.inl s') ∧ J s' ∧ μ s' < μ s) ∨ ∃ r, step s = some (.inr r) ∧ Q r) : ∀ s, J s → ∃ r, loopO step s = some r ∧ Q r := by
 have key : ∀ n s, μ s ≤ n → J s → ∃ r, loopO step s = some r ∧ Q r := by
  intro n
  induction n with
  | zero =>
   intro s hm hJ
   rcases h s hJ with ⟨s', h1, h2, h3⟩ | ⟨r, h1, h2⟩
   ·omega
   ·exact ⟨r, loop_out h1, h2⟩
  | succ n ih =>
   intro s hm hJ
   rcases h s hJ with ⟨s', h1, h2, h3⟩ | ⟨r, h1, h2⟩
   ·rw [loop_in h1]; exact ih s' (by omega) h2
   ·exact ⟨r, loop_out h1, h2⟩
 intro s hJ
 exact key _ s (Nat.le_refl _) hJ
end
theorem atI_get {α : Type} {xs : List α} {k : Nat} (z : α) (h : k < xs.length) : atI xs (k : Int) z = xs[k] := by
 show xs.getD k z = _
 simp [List.getD, List.getElem?_eq_getElem h]
theorem getD_get {α : Type} {xs : List α} {k : Nat} (z : α) (h : k < xs.length) : xs.getD k z = xs[k] := by
 simp [List.getD, List.getElem?_eq_getElem h]
theorem iRem_pos {a b : Int} (h : 0 ≤ a) : iRem a b = a % b := by
 show a.tmod b = _
 rw [Int.tmod_eq_emod_of_nonneg h]
end Abs
end Go.Proofs.YtfjhljjginlobaaDoor
end
section
namespace Go.Proofs.YtfjhljjginlobaaDoor
namespace Abs
def T {α : Type} (o : Option α) (Q : α → Prop) : Prop := ∃ v, o = some v ∧ Q v
def LQ {S R : Type} (J : S → Prop) (μ : S → Nat) (m : Nat) (Q : R → Prop) : S ⊕ R → Prop
 | .inl s => J s ∧ μ s < m
 | .inr r => Q r
def JQ {S R : Type} (M : S → Prop) (Q : R → Prop) : S ⊕ R → Prop
 | .inl s => M s
 | .inr r => Q r
section
variable {α β S R : Type}
theorem T.ret {v : α} {Q : α → Prop} (h : Q v) : T (some v) Q := ⟨v, rfl, h⟩
theorem T.eq {o : Option α} {v : α} (h : T o fun x => x = v) : o = some v := by obtain ⟨x, h1, h2⟩ := h; rw [h1, h2]
theorem T.of {o : Option α} {v : α} {Q : α → Prop} (h : o = some v) (q : Q v) : T o Q := ⟨v, h, q⟩
theorem T.mono {o : Option α} {Q Q' : α → Prop} (h : T o Q) (q : ∀ v, Q v → Q' v) : T o Q' := by obtain ⟨v, h1, h2⟩ := h; exact ⟨v, h1, q v h2⟩
theorem T.bind {o : Option α} {f : α → Option β} {Q : β → Prop} (h : T o fun v => T (f v) Q) : T (o.bind f) Q := by obtain ⟨v, h1, h2⟩ := h; rw [h1]; exact h2
theorem T.call {o : Option α} {f : α → Option β} {P : α → Prop} {Q : β → Prop} (h : T o P) (q : ∀ v, P v → T (f v) Q) : T (o.bind f) Q := T.bind (h.mono q)
theorem T.callE {o : Option α} {v : α} {f : α → Option β} {Q : β → Prop} (h : o = some v) (q : T (f v) Q) : T (o.bind f) Q := by rw [h]; exact q
theorem T.grd {c : Bool} {x : Option α} {Q : α → Prop} (h : c = true) (q : T x Q) : T (cond c x none) Q := by rw [h]; exact q
theorem T.cnd {c : Bool} {x y : Option α} {Q : α → Prop} (h : c = true → T x Q) (q : c = false → T y Q) : T (cond c x y) Q := by cases c; exact q rfl; exact h rfl
theorem T.ct {c : Bool} {x y : Option α} {Q : α → Prop} (h : c = true) (q : T x Q) : T (cond c x y) Q := by rw [h]; exact q
theorem T.cf {c : Bool} {x y : Option α} {Q : α → Prop} (h : c = false) (q : T y Q) : T (cond c x y) Q := by rw [h]; exact q
theorem T.map {o : Option α} {f : α → β} {Q : β → Prop} (h : T o fun v => Q (f v)) : T (o.map f) Q := by obtain ⟨v, h1, h2⟩ := h; rw [h1]; exact ⟨_, rfl, h2⟩
theorem T.mapL {J : S → Prop} {μ : S → Nat} {m : Nat} {o : Option R} {Q : R → Prop} (h : T o Q) : T (o.map (Sum.inr (α := S))) (LQ J μ m Q) := T.map h
theorem T.mapJ {M : S → Prop} {o : Option R} {Q : R → Prop} (h : T o Q) : T (o.map (Sum.inr (α := S))) (JQ M Q) := T.map h
theorem T.loop {step : S → Option (S ⊕ R)} {s0 : S} {Q : R → Prop} (J : S → Prop) (μ : S → Nat) (h0 : J s0) (h : ∀ s, J s → T (step s) (LQ J μ (μ s) Q)) : T (loopO step s0) Q := by
 refine loop_ex J μ Q (fun s hs => ?_) s0 h0
 obtain ⟨r, h1, h2⟩ := h s hs
 cases r with
 | inl s' => exact .inl ⟨s', h1, h2.1, h2.2⟩
 | inr r => exact .inr ⟨r, h1, h2⟩
theorem T.go {J : S → Prop} {μ : S → Nat} {m : Nat} {Q : R → Prop} {s : S} (h : J s) (h2 : μ s < m) : T (some (Sum.inl (β := R) s)) (LQ J μ m Q) := ⟨_, rfl, h, h2⟩
theorem T.out {J : S → Prop} {μ : S → Nat} {m : Nat} {Q : R → Prop} {r : R} (h : Q r) : T (some (Sum.inr (α := S) r)) (LQ J μ m Q) := ⟨_, rfl, h⟩
theorem T.jgo {M : S → Prop} {Q : R → Prop} {s : S} (h : M s) : T (some (Sum.inl (β := R) s)) (JQ M Q) := ⟨_, rfl, h⟩
theorem T.jout {M : S → Prop} {Q : R → Prop} {r : R} (h : Q r) : T (some (Sum.inr (α := S) r)) (JQ M Q) := ⟨_, rfl, h⟩
theorem T.join {o : Option (S ⊕ R)} {f : S → Option R} {Q : R → Prop} (M : S → Prop) (h : T o (JQ M Q)) (h2 : ∀ s, M s → T (f s) Q) : T (joinO o f) Q := by
 obtain ⟨r, h1, h3⟩ := h
 rw [h1]
 cases r with
 | inl s => exact h2 s h3
 | inr r => exact ⟨r, rfl, h3⟩
end
theorem iLt_T {a b : Int} : (iLt a b = true) = (a < b) := by simp [iLt]
theorem iLt_F {a b : Int} : (iLt a b = false) = (b ≤ a) := by simp [iLt]
theorem iLe_T {a b : Int} : (iLe a b = true) = (a ≤ b) := by simp [iLe]
theorem iLe_F {a b : Int} : (iLe a b = false) = (b < a) := by simp [iLe]
theorem iEq_T {a b : Int} : (iEq a b = true) = (a = b) := by simp [iEq]
theorem iEq_F {a b : Int} : (iEq a b = false) = (¬ a = b) := by simp [iEq]
theorem iNe_T {a b : Int} : (iNe a b = true) = (¬ a = b) := by simp [iNe]
theorem iNe_F {a b : Int} : (iNe a b = false) = (a = b) := by simp [iNe]
theorem bnd_T {a b : Int} : (bnd a b = true) = (0 ≤ a ∧ a < b) := by simp [bnd]
theorem bnd_F {a b : Int} : (bnd a b = false) = (a < 0 ∨ b ≤ a) := by simp [bnd]; constructor <;> intro h <;> omega
theorem inB_T {α : Type} {i : Nat} {xs : List α} : (inB i xs = true) = (i < xs.length) := by simp [inB]
theorem inB_F {α : Type} {i : Nat} {xs : List α} : (inB i xs = false) = (xs.length ≤ i) := by simp [inB]
theorem fits_T {n b : Nat} : (fits n b = true) = (n * b ≤ 140737488355328 ∧ n ≤ 4611686018427387904) := by
 rw [eq_iff_iff]; constructor
 ·intro h; unfold fits maxB at h; rw [Bool.and_eq_true] at h; exact ⟨of_decide_eq_true h.1, of_decide_eq_true h.2⟩
 ·rintro ⟨h1, h2⟩; unfold fits maxB; rw [decide_eq_true h1, decide_eq_true h2]; rfl
theorem fitsI_T {n : Int} {b : Nat} : (fitsI n b = true) = (0 ≤ n ∧ n * b ≤ 140737488355328 ∧ n ≤ 4611686018427387904) := by
 rw [eq_iff_iff]; constructor
 ·intro h; unfold fitsI maxB at h; rw [Bool.and_eq_true, Bool.and_eq_true] at h; exact ⟨of_decide_eq_true h.1.1, of_decide_eq_true h.1.2, of_decide_eq_true h.2⟩
 ·rintro ⟨h1, h2, h3⟩; unfold fitsI maxB; rw [decide_eq_true h1, decide_eq_true h3]; simp only [Bool.true_and, Bool.and_true]; exact decide_eq_true h2
theorem cutOk_T {l u : Int} {n : Nat} : (cutOk l u n = true) = (0 ≤ l ∧ l ≤ u ∧ u ≤ (n : Int)) := by simp [cutOk, and_assoc]
theorem someE_T {α : Type} {xs : List α} : (someE xs = true) = (0 < xs.length) := by cases xs <;> simp [someE]
theorem someE_F {α : Type} {xs : List α} : (someE xs = false) = (xs.length = 0) := by cases xs <;> simp [someE]
theorem leN_T {α : Type} {n : Nat} {xs : List α} : (leN n xs = true) = (n ≤ xs.length) := by simp [leN]
theorem not_T {b : Bool} : (Bool.not b = true) = (b = false) := by cases b <;> simp
theorem not_F {b : Bool} : (Bool.not b = false) = (b = true) := by cases b <;> simp
theorem and_T {a b : Bool} : (and a b = true) = (a = true ∧ b = true) := by cases a <;> simp
theorem and_F {a b : Bool} : (and a b = false) = (a = false ∨ b = false) := by cases a <;> simp
theorem or_T {a b : Bool} : (or a b = true) = (a = true ∨ b = true) := by cases a <;> simp
theorem or_F {a b : Bool} : (or a b = false) = (a = false ∧ b = false) := by cases a <;> simp
theorem candF_T {a b : Bool} : (cond a b false = true) = (a = true ∧ b = true) := by cases a <;> simp
theorem candF_F {a b : Bool} : (cond a b false = false) = (a = false ∨ b = false) := by cases a <;> simp
theorem corT_T {a b : Bool} : (cond a true b = true) = (a = true ∨ b = true) := by cases a <;> simp
theorem corT_F {a b : Bool} : (cond a true b = false) = (a = false ∧ b = false) := by cases a <;> simp
theorem bEqT_T {a : Bool} : (bEq a true = true) = (a = true) := by cases a <;> simp [bEq]
theorem bEqT_F {a : Bool} : (bEq a true = false) = (a = false) := by cases a <;> simp [bEq]
theorem bEqF_T {a : Bool} : (bEq a false = true) = (a = false) := by cases a <;> simp [bEq]
theorem bEqF_F {a : Bool} : (bEq a false = false) = (a = true) := by cases a <;> simp [bEq]
theorem sEq_T {a b : ByteArray} : (sEq a b = true) = (a = b) := by
 simp only [sEq, beq_iff_eq, eq_iff_iff]
 constructor
 ·intro h
  exact (show ∀ x y : ByteArray, x.toList = y.toList → x = y from fun x y q => by
   have hx : ∀ z : ByteArray, z.toList = z.data.toList := fun z => ByteArray.toList_eq z
   rw [hx, hx] at q
   cases x; cases y
   simp at q; rw [q]) a b h
 ·intro h; rw [h]
theorem sEq_F {a b : ByteArray} : (sEq a b = false) = (¬ a = b) := by
 rw [← Bool.not_eq_true, sEq_T]
theorem wrap8_T {n : Int} (h1 : 0 ≤ n) (h2 : n ≤ 255) : IntKind.wrap .u8 n = n := wrap8 h1 h2
theorem wrap64_T {n : Int} (h1 : -9223372036854775808 ≤ n) (h2 : n ≤ 9223372036854775807) : IntKind.wrap .i64 n = n := wrap64 h1 h2
end Abs
end Go.Proofs.YtfjhljjginlobaaDoor
end
section
namespace Go.Proofs.YtfjhljjginlobaaDoor
namespace Abs
open Go.RowKit
theorem lptr_ints {F : Addr → Option Value} {g : Nat} {k : IntKind} {zs : List Int} (h : ∀ i, i < zs.length → F ⟨g, i, none⟩ = some (.int k (zs.getD i 0))) : RP F (.pointer (some ⟨g, 0, none⟩)) (.lptr (zs.map fun z => .v (.int k z))) := by
 refine RP.lptr _ _ (fun j => .int k (zs.getD j 0)) (fun j a hj => ?_) (fun j a hj => ?_)
 ·have hl : j < zs.length := by
   rcases Nat.lt_or_ge j zs.length with q | q
   ·exact q
   ·rw [List.getElem?_eq_none (by simpa using q)] at hj; cases hj
  refine ⟨?_, rfl⟩
  have : (Addr.add ⟨g, 0, none⟩ j : Addr) = ⟨g, j, none⟩ := by simp [Addr.add]; intro h; exact h.symm
  rw [this]; exact h j hl
 ·rw [List.getElem?_map] at hj
  rcases q : zs[j]? with _ | z
  ·rw [q] at hj; cases hj
  ·rw [q] at hj
   simp only [Option.map_some, Option.some.injEq] at hj
   subst hj
   have : zs.getD j 0 = z := by rw [List.getD_eq_getElem?_getD, q]; rfl
   rw [this]; exact .v _
theorem calls_trueG {P : Program} {Gl : Nat → Option (List AV)} {w : World} {f : Nat} {xs : Array Value} {l : List AV} (hP : Pure P Gl f l (.v (.bool true))) (hg : GlOk Gl (snap w)) (hw : GlW Gl w.heap.size w) (hxs : RPL (snap w) xs l) : Calls P f xs w fun e w' => e = .returned (.bool true) ∧ Below w.heap.size w w' := by
 refine (hP w (snap w) xs (fun _ _ h => h) hg hw hxs).mono ?_
 rintro e w' ⟨v, F', rfl, _, _, _, hR, hb⟩
 cases hR
 exact ⟨rfl, hb⟩
end Abs
end Go.Proofs.YtfjhljjginlobaaDoor
end
section
namespace Go.Proofs.YtfjhljjginlobaaDoor
namespace Abs
def iterF {α β : Type} (F : (α → Option β) → α → Option β) : Nat → α → Option β
 | 0, _ => none
 | n + 1, x => F (iterF F n) x
open Classical in
noncomputable def fixO {α β : Type} (F : (α → Option β) → α → Option β) (x : α) : Option β := if h : ∃ v, ∃ N, ∀ n, N ≤ n → iterF F n x = some v then some h.choose else none
section
variable {α β : Type} {F : (α → Option β) → α → Option β}
theorem fixO_some {x : α} {v : β} (h : fixO F x = some v) : ∃ n, iterF F n x = some v := by
 unfold fixO at h
 split at h
 ·rename_i hx
  have he := Option.some.inj h
  obtain ⟨N, hN⟩ := hx.choose_spec
  exact ⟨N, by rw [hN N (Nat.le_refl _), he]⟩
 ·cases h
theorem fixO_of {x : α} {v : β} (N : Nat) (h : ∀ n, N ≤ n → iterF F n x = some v) : fixO F x = some v := by
 have hx : ∃ v, ∃ N, ∀ n, N ≤ n → iterF F n x = some v := ⟨v, N, h⟩
 unfold fixO
 rw [dif_pos hx]
 obtain ⟨M, hM⟩ := hx.choose_spec
 have h1 := hM (max M N) (Nat.le_max_left _ _)
 rw [h _ (Nat.le_max_right _ _)] at h1
 exact h1.symm
theorem fix_eq (spec : α → β) (P : α → Prop) (μ : α → Nat) (h : ∀ x, P x → ∀ s : α → Option β, (∀ y, P y → μ y < μ x → s y = some (spec y)) → F s x = some (spec x)) (x : α) (hx : P x) : fixO F x = some (spec x) := by
 have key : ∀ m (x : α), P x → μ x < m → ∀ n, m ≤ n → iterF F n x = some (spec x) := by
  intro m
  induction m with
  | zero => intro x _ hm; omega
  | succ m ih =>
   intro x hx hm n hn
   obtain ⟨k, rfl⟩ : ∃ k, n = k + 1 := ⟨n - 1, by omega⟩
   exact h x hx _ fun y hy hlt => ih y hy (by omega) k (by omega)
 exact fixO_of (μ x + 1) (key (μ x + 1) x hx (by omega))
variable {P : Program} {Gl : Nat → Option (List AV)}
theorem pok_fix {f : Nat} {ps rs : List Ty} {G : (Ty.denL ps → Option (Ty.denL rs)) → Ty.denL ps → Option (Ty.denL rs)} (hc : callable P f = true) (h : ∀ run, POk P Gl ⟨f, ps, rs, run⟩ → POk P Gl ⟨f, ps, rs, G run⟩) : POk P Gl ⟨f, ps, rs, fixO G⟩ := by
 have key : ∀ n, POk P Gl ⟨f, ps, rs, iterF G n⟩ := by
  intro n
  induction n with
  | zero => exact ⟨hc, fun x y q => by cases q⟩
  | succ n ih => exact h _ ih
 refine ⟨hc, fun x y q => ?_⟩
 obtain ⟨n, hn⟩ := fixO_some q
 exact (key n).2 x y hn
end
end Abs
end Go.Proofs.YtfjhljjginlobaaDoor
end
