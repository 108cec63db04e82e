/- The typed machine: what is known of one row is forgotten, and the row cut; nil in a cell as an empty row. -/
import Derived.Test.YtamgbanmnededaaDoorXG
namespace Go.Proofs.YtamgbanmnededaaDoor
namespace Abs
open Go.RowKit
set_option linter.unusedVariables false
set_option linter.unusedSimpArgs false

section
variable {Gl : Nat → Option (List AV)} {F : Addr → Option Value} {own own' : List Ent} {B : Nat} {w0 : W0} {σ : St} {act : Act} {w : World}
/-- A value that reads the same though blocks have turned. -/
def Okc (F : Addr → Option Value) (own own' : List Ent) (a : AV) : Prop := ∀ v, R F own v a → R F own' v a
def Cl (n : Nat) (a : AV) : Prop := ∀ (F : Addr → Option Value) (own own' : List Ent), (∀ i, i < n → own'[i]? = own[i]?) → Okc F own own' a
theorem cl_rp {x : Value} {a : AV} (h : RP F x a) (n : Nat) : Cl n a := by
  induction h with
  | any x => exact fun _ _ _ _ v _ => .pure (.any v)
  | v x => exact fun F own own' _ v h => by rw [h.v_inv]; exact .pure (.v _)
  | nil sz => exact fun F own own' _ v h => .pure h.list_inv
  | list ad n cap sz xs cv hn hc hz hF hR ih => exact fun F own own' _ v h => .pure h.list_inv
  | lptr ad cs cv hF hR ih => exact fun F own own' _ v h => .pure h.lptr_inv
  | agg xs cs hl h1 hR ih =>
    intro F own own' hw v h
    obtain ⟨ys, rfl, hl', h1', hR'⟩ := h.agg_inv
    refine .agg ys cs hl' h1' fun j y a p q => ?_
    have hj : j < xs.size := by rw [hl]; exact (List.getElem?_eq_some_iff.1 q).1
    exact ih j _ a (Array.getElem?_eq_getElem hj) q F own own' hw y (hR' j y a p q)
  | tup xs cs hl hR ih =>
    intro F own own' hw v h
    obtain ⟨ys, rfl, hl', hR'⟩ := h.tup_inv
    refine .tup ys cs hl' fun j y a p q => ?_
    have hj : j < xs.size := by rw [hl]; exact (List.getElem?_eq_some_iff.1 q).1
    exact ih j _ a (Array.getElem?_eq_getElem hj) q F own own' hw y (hR' j y a p q)
theorem okc_row {id G sz off len : Nat} (h : own'[id]? = own[id]?) : Okc F own own' (.row id G sz off len) := fun v hv => by
  obtain ⟨e, he, hG, hs, hx⟩ := hv.row_inv
  exact .row _ _ _ _ _ _ e (by rw [h]; exact he) hG hs hx
theorem okc_crow {id G sz len : Nat} (h : own'[id]? = own[id]?) : Okc F own own' (.crow id G sz len) := fun v hv => by
  obtain ⟨e, he, hG, hs, hx⟩ := hv.crow_inv
  exact .crow _ _ _ _ _ e (by rw [h]; exact he) hG hs hx
theorem okc_ptr {id G i off : Nat} (h : own'[id]? = own[id]?) : Okc F own own' (.ptr id G i off) := fun v hv => by
  obtain ⟨e, he, hG, hs, hx⟩ := hv.ptr_inv
  exact .ptr _ _ _ _ _ e (by rw [h]; exact he) hG hs hx
theorem cl_r {n : Nat} {x : Value} {a : AV} (h : R F own x a) (hn : own.length ≤ n) : Cl n a := by
  have lt : ∀ {id : Nat} {e : Ent}, own[id]? = some e → id < n := fun q => Nat.lt_of_lt_of_le (List.getElem?_eq_some_iff.1 q).1 hn
  induction h with
  | pure h => exact cl_rp h n
  | row x id G sz off len e he hG hs hx => exact fun F own own' hw => okc_row (hw id (lt he))
  | crow x id G sz len e he hG hs hx => exact fun F own own' hw => okc_crow (hw id (lt he))
  | ptr x id G i off e he hG hs hx => exact fun F own own' hw => okc_ptr (hw id (lt he))
  | agg xs cs hl h1 hR ih =>
    intro F own own' hw v h
    obtain ⟨ys, rfl, hl', h1', hR'⟩ := h.agg_inv
    refine .agg ys cs hl' h1' fun j y a p q => ?_
    have hj : j < xs.size := by rw [hl]; exact (List.getElem?_eq_some_iff.1 q).1
    exact ih j _ a (Array.getElem?_eq_getElem hj) q F own own' hw y (hR' j y a p q)
  | tup xs cs hl hR ih =>
    intro F own own' hw v h
    obtain ⟨ys, rfl, hl', hR'⟩ := h.tup_inv
    refine .tup ys cs hl' fun j y a p q => ?_
    have hj : j < xs.size := by rw [hl]; exact (List.getElem?_eq_some_iff.1 q).1
    exact ih j _ a (Array.getElem?_eq_getElem hj) q F own own' hw y (hR' j y a p q)
/-- The cells of these objects speak of the first blocks alone. -/
def ClH (n : Nat) (H : List AObj) : Prop := ∀ (j : Nat) (O : AObj), H[j]? = some O → O.pr = false → ∀ (i k : Nat) (e a : AV), O.es[i]? = some e → e.cells[k]? = some a → Cl n a
theorem Inv.clH (h : Inv Gl F own B w0 σ act w) : ClH σ.h.length σ.h := by
  intro j O hO hpr i k e a hi hk
  obtain ⟨en, hen, k1, k2, k3, k4, k5, k6, k7, k8⟩ := h.obj_own hO
  cases hg : en.g with
  | none =>
    rw [hg] at k8
    have : O.es.length = 0 := by have k8 : en.cap = 0 := k8; omega
    have := (List.getElem?_eq_some_iff.1 hi).1
    omega
  | some g =>
    rw [hg] at k8
    obtain ⟨cs, a1, a2, a3, a4⟩ := k8
    obtain ⟨y, b1, b2, b3⟩ := a3 i k e a hi hk
    unfold RC at b3
    rw [if_neg (by rw [hpr]; simp)] at b3
    exact cl_r b3 (Nat.le_of_eq h.hl)
open Classical in
noncomputable def off1 (F : Addr → Option Value) (own own' : List Ent) (a : AV) : AV := if Okc F own own' a then a else .any
noncomputable def offA (F : Addr → Option Value) (own own' : List Ent) : AV → AV
  | .agg cs => .agg (cs.map (off1 F own own'))
  | a => off1 F own own' a
noncomputable def offT (F : Addr → Option Value) (own own' : List Ent) : AV → AV
  | .tup vs => .tup (vs.map (offA F own own'))
  | a => offA F own own' a
noncomputable def offO (F : Addr → Option Value) (own own' : List Ent) (o : AObj) : AObj := if o.pr = true then o else { o with es := o.es.map (offA F own own') }
theorem off1_eq {a : AV} (h : Okc F own own' a) : off1 F own own' a = a := by unfold off1; rw [if_pos h]
theorem off1_or (a : AV) : off1 F own own' a = a ∨ off1 F own own' a = .any := by
  unfold off1; split
  · exact .inl rfl
  · exact .inr rfl
theorem R.off1 {x : Value} {a : AV} (h : R F own x a) : R F own' x (off1 F own own' a) := by
  unfold Abs.off1
  split
  · rename_i hk; exact hk x h
  · exact .pure (.any x)
theorem offA_else {a : AV} (h : ∀ cs, a ≠ .agg cs) : offA F own own' a = Abs.off1 F own own' a := by
  cases a <;> first | rfl | exact absurd rfl (h _)
theorem offT_else {a : AV} (h : ∀ cs, a ≠ .tup cs) : offT F own own' a = offA F own own' a := by
  cases a <;> first | rfl | exact absurd rfl (h _)
theorem R.offA {x : Value} {a : AV} (h : R F own x a) : R F own' x (offA F own own' a) := by
  by_cases ha : ∃ cs, a = .agg cs
  · obtain ⟨cs, rfl⟩ := ha
    obtain ⟨xs, rfl, hl, h1, hR⟩ := h.agg_inv
    refine .agg xs _ (by simp [hl]) h1 fun j x a p q => ?_
    rw [List.getElem?_map] at q
    cases hc : cs[j]? with
    | none => rw [hc] at q; cases q
    | some c => rw [hc] at q; cases q; exact (hR j x c p hc).off1
  · rw [offA_else fun cs q => ha ⟨cs, q⟩]; exact h.off1
theorem R.offT {x : Value} {a : AV} (h : R F own x a) : R F own' x (offT F own own' a) := by
  by_cases ha : ∃ cs, a = .tup cs
  · obtain ⟨cs, rfl⟩ := ha
    obtain ⟨xs, rfl, hl, hR⟩ := h.tup_inv
    refine .tup xs _ (by simp [hl]) fun j x a p q => ?_
    rw [List.getElem?_map] at q
    cases hc : cs[j]? with
    | none => rw [hc] at q; cases q
    | some c => rw [hc] at q; cases q; exact (hR j x c p hc).offA
  · rw [offT_else fun cs q => ha ⟨cs, q⟩]; exact h.offA
theorem offA_cells (a : AV) : (offA F own own' a).cells = a.cells.map (off1 F own own') := by
  by_cases ha : ∃ cs, a = .agg cs
  · obtain ⟨cs, rfl⟩ := ha; rfl
  · rw [offA_else fun cs q => ha ⟨cs, q⟩]
    have hc : a.cells = [a] := by cases a <;> first | rfl | exact absurd ⟨_, rfl⟩ ha
    rw [hc]
    rcases off1_or (F := F) (own := own) (own' := own') a with q | q
    · rw [q, hc]; simp [q]
    · rw [q]; simp [q, AV.cells]
/-- One block turns; what was known of it is forgotten. -/
theorem Inv.off (h : Inv Gl F own B w0 σ act w) {k : Nat} {e e' : Ent} {ob' : AObj} (he : own[k]? = some e) (hN : w0.N ≤ k) (hg : e'.g = e.g) (hO' : ObjR F (own.set k e') w e' ob') :
    Inv Gl F (own.set k e') B w0 ⟨σ.t.map (offT F own (own.set k e')), (σ.h.map (offO F own (own.set k e'))).set k ob'⟩ act w := by
  have hk : k < own.length := (List.getElem?_eq_some_iff.1 he).1
  have hk' : k < σ.h.length := by rw [← h.hl]; exact hk
  have get : ∀ {id : Nat} {f : Ent}, (own.set k e')[id]? = some f → (id = k ∧ f = e') ∨ (id ≠ k ∧ own[id]? = some f) := fun {id f} q => by
    by_cases hi : k = id
    · subst hi; rw [List.getElem?_set_self hk] at q; cases q; exact .inl ⟨rfl, rfl⟩
    · rw [List.getElem?_set_ne hi] at q; exact .inr ⟨fun q => hi q.symm, q⟩
  have getg : ∀ {id : Nat} {f : Ent}, (own.set k e')[id]? = some f → ∃ f0, own[id]? = some f0 ∧ f0.g = f.g := fun {id f} q => by
    rcases get q with ⟨rfl, rfl⟩ | ⟨_, q⟩
    · exact ⟨e, he, hg.symm⟩
    · exact ⟨f, q, rfl⟩
  refine { tl := by simp [h.tl], tr := fun i x a p q => ?_, defers := h.defers, sub := h.sub, hl := by simp [h.hl], objs := fun id f o p q => ?_, inj := fun i j f f' g p q r s => ?_, below := h.below, base := fun id f g p q => ?_, gl := h.gl, gw := h.gw, room := h.room, ext := h.ext, ext0 := h.ext0, nl := by have := h.nl; simpa using this, fr := fun q hq => ?_ }
  · have q : (σ.t.map (Abs.offT F own (own.set k e')))[i]? = some a := q
    rw [List.getElem?_map] at q
    cases hc : σ.t[i]? with
    | none => rw [hc] at q; cases q
    | some c => rw [hc] at q; cases q; exact (h.tr i x c p hc).offT
  · have q : ((σ.h.map (offO F own (own.set k e'))).set k ob')[id]? = some o := q
    rcases get p with ⟨rfl, rfl⟩ | ⟨hid, hf⟩
    · rw [List.getElem?_set_self (by simpa using hk')] at q
      cases q
      exact hO'
    · rw [List.getElem?_set_ne (fun q => hid q.symm), List.getElem?_map] at q
      cases ho : σ.h[id]? with
      | none => rw [ho] at q; cases q
      | some O =>
        rw [ho] at q; cases q
        obtain ⟨k1, k2, k3, k4, k5, k6, k7, k8⟩ := h.objs id f O hf ho
        by_cases hpr : O.pr = true
        · have : offO F own (own.set k e') O = O := by simp [offO, hpr]
          rw [this]
          refine ⟨k1, k2, k3, k4, k5, k6, k7, ?_⟩
          cases hg : f.g with
          | none => rw [hg] at k8; exact k8
          | some g =>
            rw [hg] at k8
            obtain ⟨cs, a1, a2, a3, a4⟩ := k8
            refine ⟨cs, a1, a2, fun i j x a r s => ?_, a4⟩
            obtain ⟨y, b1, b2, b3⟩ := a3 i j x a r s
            refine ⟨y, b1, b2, ?_⟩
            unfold RC at b3 ⊢
            rw [if_pos hpr] at b3 ⊢
            exact b3
        · have e1 : offO F own (own.set k e') O = { O with es := O.es.map (Abs.offA F own (own.set k e')) } := by simp [offO, hpr]
          rw [e1]
          have el : ∀ (i : Nat) (x : AV), (O.es.map (Abs.offA F own (own.set k e')))[i]? = some x → ∃ z, O.es[i]? = some z ∧ x = Abs.offA F own (own.set k e') z := fun i x q => by
            rw [List.getElem?_map] at q
            cases hz : O.es[i]? with
            | none => rw [hz] at q; cases q
            | some z => rw [hz] at q; cases q; exact ⟨z, rfl, rfl⟩
          refine ⟨by simp [k1], k2, k3, k4, ⟨k5.1, by simpa using k5.2⟩, by simpa using k6, fun i x q => ?_, ?_⟩
          · obtain ⟨z, hz, rfl⟩ := el i x q
            rw [offA_cells, List.length_map]; exact k7 i z hz
          · cases hg : f.g with
            | none => rw [hg] at k8; exact k8
            | some g =>
              rw [hg] at k8
              obtain ⟨cs, a1, a2, a3, a4⟩ := k8
              obtain ⟨fr, a1, af⟩ := a1
              refine ⟨cs, ⟨fr, a1, by rw [List.length_map]; exact af⟩, a2, fun i j x a r s => ?_, a4⟩
              obtain ⟨z, hz, rfl⟩ := el i x r
              rw [offA_cells, List.getElem?_map] at s
              cases hc : z.cells[j]? with
              | none => rw [hc] at s; cases s
              | some c =>
                rw [hc] at s; cases s
                obtain ⟨y, b1, b2, b3⟩ := a3 i j z c hz hc
                refine ⟨y, b1, b2, ?_⟩
                unfold RC at b3 ⊢
                rw [if_neg hpr] at b3 ⊢
                exact b3.off1
  · obtain ⟨f0, q1, q2⟩ := getg p
    obtain ⟨f1, q3, q4⟩ := getg q
    exact h.inj i j f0 f1 g q1 q3 (by rw [q2]; exact r) (by rw [q4]; exact s)
  · obtain ⟨f0, q1, q2⟩ := getg p
    exact h.base id f0 g q1 (by rw [q2]; exact q)
  · have : (own.set k e').take q.1 = own.take q.1 := by
      apply List.ext_getElem?
      intro j
      rw [List.getElem?_take, List.getElem?_take]
      split
      · rename_i hj
        have := w0.hfr q hq
        rw [List.getElem?_set_ne (by omega)]
      · rfl
    rw [this]; exact h.fr q hq
/-- A row is cut. -/
theorem Inv.cut (h : Inv Gl F own B w0 σ act w) {k s len : Nat} {ob : AObj} {sz : Nat} (hob : σ.h[k]? = some ob) (hpr : ob.pr = true) (hfz : ob.fz = 0) (hN : w0.N ≤ k) (hs : σ.t[s]? = some (.row k ob.es.length sz 0 len)) :
    ∃ e', len ≤ ob.es.length ∧ Inv Gl F (own.set k e') B w0 ⟨(σ.t.map (offT F own (own.set k e'))).set s (.row k len sz 0 len), (σ.h.map (offO F own (own.set k e'))).set k { ob with es := ob.es.take len }⟩ act w := by
  obtain ⟨e, he, k1, k2, k3, k4, k5, k6, k7, k8⟩ := h.obj_own hob
  have hk : k < own.length := (List.getElem?_eq_some_iff.1 he).1
  have hlt : s < act.tmps.size := by rw [h.tl]; exact (List.getElem?_eq_some_iff.1 hs).1
  have hR := h.tr s _ _ (Array.getElem?_eq_getElem hlt) hs
  obtain ⟨e2, he2, hG, hsl, hx⟩ := hR.row_inv
  rw [he] at he2
  cases he2
  obtain ⟨x1, x2, x3⟩ := hx k1.symm
  obtain ⟨cp, c1, c2⟩ := x3 (.inr rfl)
  have hle : len ≤ ob.es.length := by omega
  have hO' : ObjR F (own.set k { e with G := len }) w { e with G := len } { ob with es := ob.es.take len } := by
    refine ⟨by simp [hle], k2, k3, by show len ≤ e.cap; omega, ⟨k5.1, fun q => by have q : ob.pr = false := q; rw [hpr] at q; cases q⟩, by show ob.fz ≤ _; omega, fun i x q => ?_, ?_⟩
    · have q : (ob.es.take len)[i]? = some x := q
      rw [List.getElem?_take] at q
      split at q
      · exact k7 i x q
      · cases q
    · show match e.g with
        | none => e.cap = 0
        | some g => _
      cases hg : e.g with
      | none => rw [hg] at k8; exact k8
      | some g =>
        rw [hg] at k8
        obtain ⟨cs, a1, a2, a3, a4⟩ := k8
        obtain ⟨fr, a1, af⟩ := a1
        refine ⟨cs, ⟨fr, a1, af.imp id (fun q => by exfalso; omega)⟩, a2, fun i j x a r s => ?_, a4⟩
        have r : (ob.es.take len)[i]? = some x := r
        rw [List.getElem?_take] at r
        split at r
        · obtain ⟨y, b1, b2, b3⟩ := a3 i j x a r s
          refine ⟨y, b1, b2, ?_⟩
          unfold RC at b3 ⊢
          rw [if_pos hpr] at b3
          rw [if_pos (show ({ ob with es := ob.es.take len } : AObj).pr = true from hpr)]
          exact b3
        · cases r
  refine ⟨{ e with G := len }, hle, ?_⟩
  have hI := h.off (e' := { e with G := len }) he hN rfl hO'
  have hrow : R F (own.set k { e with G := len }) act.tmps[s] (.row k len sz 0 len) :=
    .row _ _ _ _ _ _ { e with G := len } (by rw [List.getElem?_set_self hk]) (Nat.le_refl _) hsl fun _ => ⟨x1, by omega, fun _ => ⟨cp, c1, c2⟩⟩
  have := hI.put hrow (some s)
  have e1 : act.put (some s) act.tmps[s] = act := by
    have hs : act.tmps.setIfInBounds s act.tmps[s] = act.tmps := by
      apply Array.ext_getElem?
      intro j
      rw [Array.getElem?_setIfInBounds]
      split
      · rename_i hj
        subst hj
        rw [Array.getElem?_eq_getElem hlt]
      · rfl
    show ({ act with tmps := act.tmps.setIfInBounds s act.tmps[s] } : Act) = act
    rw [hs]
  rw [e1] at this
  exact this
/-- A cell of a value, set. -/
def setC (e : AV) (o : Nat) (a : AV) : AV := match e with
  | .agg us => .agg (us.set o a)
  | _ => a
theorem setC_cells {e a b : AV} {o : Nat} (ha : a.cells = [a]) (ho : e.cells[o]? = some b) : (setC e o a).cells = e.cells.set o a := by
  by_cases h : ∃ us, e = .agg us
  · obtain ⟨us, rfl⟩ := h; rfl
  · have hc : e.cells = [e] := by cases e <;> first | rfl | exact absurd ⟨_, rfl⟩ h
    have hs : setC e o a = a := by cases e <;> first | rfl | exact absurd ⟨_, rfl⟩ h
    rw [hc] at ho ⊢
    have : o = 0 := by
      have := (List.getElem?_eq_some_iff.1 ho).1
      simp at this; exact this
    subst this
    rw [hs, ha]; rfl
/-- Nil in a cell, read otherwise. -/
theorem Inv.cellNil (h : Inv Gl F own B w0 σ act w) {k o : Nat} {ob : AObj} {e0 a' : AV} {v : Value} (hob : σ.h[k]? = some ob) (hes : ob.es = [e0]) (hpr : ob.pr = false) (ho : e0.cells[o]? = some (.v v)) (ha : R F own v a') (hac : a'.cells = [a']) :
    Inv Gl F own B w0 ⟨σ.t, σ.h.set k { ob with es := [setC e0 o a'] }⟩ act w := by
  have hk : k < σ.h.length := (List.getElem?_eq_some_iff.1 hob).1
  refine h.turn (fun _ _ q => q) (Le.refl _) h.sub (by simp [h.hl]) (fun id e o' p q => ?_) h.inj h.below h.base
  have q : (σ.h.set k { ob with es := [setC e0 o a'] })[id]? = some o' := q
  by_cases hid : k = id
  · subst hid
    rw [List.getElem?_set_self hk] at q
    cases q
    obtain ⟨k1, k2, k3, k4, k5, k6, k7, k8⟩ := h.objs k e ob p hob
    have hcl := setC_cells hac ho
    refine ⟨by rw [k1, hes]; rfl, k2, k3, k4, ⟨k5.1, fun q => by rw [k5.2 q, hes]; rfl⟩, by rw [hes] at k6; exact k6, fun i x q => ?_, ?_⟩
    · have q : [setC e0 o a'][i]? = some x := q
      have hi : i = 0 := by have := (List.getElem?_eq_some_iff.1 q).1; simpa using this
      subst hi
      cases q
      rw [hcl, List.length_set]
      exact k7 0 e0 (by rw [hes]; rfl)
    · cases hg : e.g with
      | none => rw [hg] at k8; exact k8
      | some g =>
        rw [hg] at k8
        obtain ⟨cs, a1, a2, a3, a4⟩ := k8
        obtain ⟨fr, a1, af⟩ := a1
        refine ⟨cs, ⟨fr, a1, by rw [hes] at af; exact af⟩, a2, fun i j x a r s => ?_, a4⟩
        have r : [setC e0 o a'][i]? = some x := r
        have hi : i = 0 := by have := (List.getElem?_eq_some_iff.1 r).1; simpa using this
        subst hi
        cases r
        rw [hcl, List.getElem?_set] at s
        split at s
        · rename_i hj
          subst hj
          split at s
          · cases s
            obtain ⟨y, b1, b2, b3⟩ := a3 0 o e0 _ (by rw [hes]; rfl) ho
            refine ⟨y, b1, b2, ?_⟩
            unfold RC at b3 ⊢
            rw [if_neg (by rw [hpr]; simp)] at b3
            rw [if_neg (by show ¬ ob.pr = true; rw [hpr]; simp)]
            rw [b3.v_inv]; exact ha
          · cases s
        · exact a3 0 j e0 a (by rw [hes]; rfl) s
  · rw [List.getElem?_set_ne hid] at q
    exact h.objs id e o' p q
end
section
variable {ρ : List Nat} {h h' : List XO} {H : List AObj} {F : Addr → Option Value} {own : List Ent} {e' : Ent} {id : Nat}
theorem okc_wp {own' : List Ent} {T : Ty} {y : T.den} {a : AV} (hw : Wp a (Ty.enc T y)) : Okc F own own' a := by
  have one : ∀ {a : AV}, Pl1 a → Okc F own own' a := fun {a} hp v hv => by
    rcases hp with ⟨y, rfl, hy⟩ | ⟨sz, xs, rfl⟩
    · rw [hv.v_inv]; exact .pure (.v _)
    · exact .pure hv.list_inv
  by_cases ha : ∃ cs, a = .agg cs
  · obtain ⟨cs, rfl⟩ := ha
    intro v hv
    obtain ⟨xs, rfl, hl, h1, hR⟩ := hv.agg_inv
    exact .agg xs cs hl h1 fun j x a p q => one (wp_pl hw (List.mem_of_getElem? q)) x (hR j x a p q)
  · have hc : a.cells = [a] := by cases a <;> first | rfl | exact absurd ⟨_, rfl⟩ ha
    exact one (wp_pl hw (by rw [hc]; simp))
theorem V1.okc (hs : HS ρ h H) (hid : id < h.length) {x : XV} {a : AV} (hv : V1 ρ h x a) (hn : x ≠ .any) (hh : hit [id] x = false) : Okc F own (own.set (ρ.getD id 0) e') a := by
  have ne : ∀ {j : Nat} {o : XO}, h[j]? = some o → [id].contains j = false → (own.set (ρ.getD id 0) e')[ρ.getD j 0]? = own[ρ.getD j 0]? := fun {j o} q hj => by
    rw [List.getElem?_set_ne (fun q' => ?_)]
    have := hs.inj hid (List.getElem?_eq_some_iff.1 q).1 q'
    subst this
    simp at hj
  cases x with
  | any => exact absurd rfl hn
  | d T y => exact okc_wp hv
  | k v =>
    have hv : a = .v v := hv
    subst hv
    intro v h; rw [h.v_inv]; exact .pure (.v _)
  | row j => obtain ⟨_, _, _, _, q, rfl⟩ := hv; exact okc_row (ne q hh)
  | sub j o l => obtain ⟨_, _, _, _, q, rfl⟩ := hv; exact okc_row (ne q hh)
  | csub j l => obtain ⟨_, _, _, _, q, rfl, _⟩ := hv; exact okc_crow (ne q hh)
  | vrow j => obtain ⟨_, _, q, rfl⟩ := hv; exact okc_row (ne q hh)
  | me j =>
    rcases hv with rfl | ⟨_, q, rfl⟩
    · intro v h; rw [h.v_inv]; exact .pure (.v _)
    · exact okc_ptr (ne q hh)
  | ptr j i o => obtain ⟨_, q, rfl⟩ := hv; exact okc_ptr (ne q hh)
  | lp T y o => obtain ⟨_, rfl, _⟩ := hv; intro v h; exact .pure h.lptr_inv
  | agg => exact hv.elim
  | tup => exact hv.elim
theorem V1.off (hs : HS ρ h H) (hid : id < h.length) (ht : Trn ρ h ρ h' [id]) {x : XV} {a : AV} (hv : V1 ρ h x a) : V1 ρ h' (kill1L [id] x) (off1 F own (own.set (ρ.getD id 0) e') a) := by
  have hv' := ht x a hv
  by_cases hn : x = .any
  · subst hn; trivial
  · rw [kill1L_eq] at hv' ⊢
    cases hh : hit [id] x with
    | true => simp only [if_true]; trivial
    | false =>
      rw [hh] at hv'
      simp only [Bool.false_eq_true, if_false] at hv' ⊢
      rw [off1_eq (hv.okc hs hid hn hh)]; exact hv'
theorem cells_off (hs : HS ρ h H) (hid : id < h.length) (ht : Trn ρ h ρ h' [id]) {cs : List XV} {as : List AV} (hc : All2 (V1 ρ h) cs as) : All2 (V1 ρ h') (cs.map (kill1L [id])) (as.map (off1 F own (own.set (ρ.getD id 0) e'))) :=
  ⟨by simp [hc.1], fun i y b p q => by
    rw [List.getElem?_map] at p q
    cases hy : cs[i]? with
    | none => rw [hy] at p; cases p
    | some z =>
      cases hb : as[i]? with
      | none => rw [hb] at q; cases q
      | some c => rw [hy] at p; rw [hb] at q; cases p; cases q; exact (hc.2 i z c hy hb).off hs hid ht⟩
theorem VA.off (hs : HS ρ h H) (hid : id < h.length) (ht : Trn ρ h ρ h' [id]) {x : XV} {a : AV} (hv : VA ρ h x a) : VA ρ h' (killAL [id] x) (offA F own (own.set (ρ.getD id 0) e') a) := by
  by_cases ha : ∃ cs, x = .agg cs
  · obtain ⟨cs, rfl⟩ := ha
    obtain ⟨as, rfl, hc⟩ := hv
    rw [killAL_agg]
    exact ⟨_, rfl, cells_off hs hid ht hc⟩
  · rw [killAL_else _ x fun cs q => ha ⟨cs, q⟩]
    have hv1 : V1 ρ h x a := by cases x <;> first | exact hv | exact absurd ⟨_, rfl⟩ ha
    by_cases hag : ∃ cs, a = .agg cs
    · obtain ⟨cs, rfl⟩ := hag
      cases x with
      | d T y =>
        have hv1 : Wp (.agg cs) (Ty.enc T y) := hv1
        have he : offA F own (own.set (ρ.getD id 0) e') (.agg cs) = .agg cs := by
          show AV.agg (cs.map _) = _
          congr 1
          refine (List.map_congr_left fun c hc => ?_).trans (List.map_id cs)
          refine off1_eq fun v hv => ?_
          rcases wp_pl hv1 hc with ⟨y, rfl, hy⟩ | ⟨sz, xs, rfl⟩
          · rw [hv.v_inv]; exact .pure (.v _)
          · exact .pure hv.list_inv
        rw [he]; exact hv1
      | any => trivial
      | k v => cases hv1
      | row j => obtain ⟨_, _, _, _, _, q⟩ := hv1; cases q
      | sub j o l => obtain ⟨_, _, _, _, _, q⟩ := hv1; cases q
      | csub j l => obtain ⟨_, _, _, _, _, q, _⟩ := hv1; cases q
      | vrow j => obtain ⟨_, _, _, q⟩ := hv1; cases q
      | ptr j i o => obtain ⟨_, _, q⟩ := hv1; cases q
      | me j => rcases hv1 with q | ⟨_, _, q⟩ <;> cases q
      | lp T y o => obtain ⟨_, q, _⟩ := hv1; cases q
      | agg => exact hv1.elim
      | tup => exact hv1.elim
    · rw [offA_else fun cs q => hag ⟨cs, q⟩]
      exact VA.of1 (hv1.off hs hid ht)
theorem VT.off (hs : HS ρ h H) (hid : id < h.length) (ht : Trn ρ h ρ h' [id]) {x : XV} {a : AV} (hv : VT ρ h x a) : VT ρ h' (killTL [id] x) (offT F own (own.set (ρ.getD id 0) e') a) := by
  by_cases ha : ∃ cs, x = .tup cs
  · obtain ⟨cs, rfl⟩ := ha
    obtain ⟨as, rfl, hc⟩ := hv
    rw [killTL_tup]
    refine ⟨_, rfl, by simp [hc.1], fun i y b p q => ?_⟩
    rw [List.getElem?_map] at p q
    cases hy : cs[i]? with
    | none => rw [hy] at p; cases p
    | some z =>
      cases hb : as[i]? with
      | none => rw [hb] at q; cases q
      | some c => rw [hy] at p; rw [hb] at q; cases p; cases q; exact (hc.2 i z c hy hb).off hs hid ht
  · rw [killTL_else _ x fun cs q => ha ⟨cs, q⟩]
    have hvA : VA ρ h x a := by cases x <;> first | exact hv | exact absurd ⟨_, rfl⟩ ha
    by_cases hat : ∃ cs, a = .tup cs
    · obtain ⟨cs, rfl⟩ := hat
      by_cases hx : x = .any
      · subst hx; rw [show killAL [id] XV.any = .any from rfl]; trivial
      · exfalso
        cases x with
        | any => exact hx rfl
        | d T y =>
          have hw : Wp (.tup cs) (Ty.enc T y) := hvA
          rcases wp_pl hw (c := .tup cs) (by simp [AV.cells]) with ⟨y, q, _⟩ | ⟨sz, xs, q⟩ <;> cases q
        | k v => cases hvA
        | row j => obtain ⟨_, _, _, _, _, q⟩ := hvA; cases q
        | sub j o l => obtain ⟨_, _, _, _, _, q⟩ := hvA; cases q
        | csub j l => obtain ⟨_, _, _, _, _, q, _⟩ := hvA; cases q
        | vrow j => obtain ⟨_, _, _, q⟩ := hvA; cases q
        | ptr j i o => obtain ⟨_, _, q⟩ := hvA; cases q
        | me j => rcases hvA with q | ⟨_, _, q⟩ <;> cases q
        | lp T y o => obtain ⟨_, q, _⟩ := hvA; cases q
        | agg us => obtain ⟨_, q, _⟩ := hvA; cases q
        | tup us => exact ha ⟨_, rfl⟩
    · rw [offT_else fun cs q => hat ⟨cs, q⟩]
      exact VT.ofA (hvA.off hs hid ht)
theorem ObjS.off (hs : HS ρ h H) (hid : id < h.length) (ht : Trn ρ h ρ h' [id]) {o : XO} {O : AObj} (hR : ObjS ρ h o O) : ObjS ρ h' (killO1 [id] o) (offO F own (own.set (ρ.getD id 0) e') O) := by
  cases o with
  | row ty T fz es =>
    have : offO F own (own.set (ρ.getD id 0) e') O = O := by simp [offO, hR.2.2.1]
    rw [this]; exact hR
  | box ty cs =>
    obtain ⟨a, b, c, d, e, he, hc⟩ := hR
    have : offO F own (own.set (ρ.getD id 0) e') O = { O with es := O.es.map (offA F own (own.set (ρ.getD id 0) e')) } := by simp [offO, c]
    rw [this]
    exact ⟨a, by simpa using b, c, d, offA F own (own.set (ρ.getD id 0) e') e, by simp [he], by rw [offA_cells]; exact cells_off hs hid ht hc⟩
  | vec ty cs =>
    obtain ⟨a, b, c, d, hc⟩ := hR
    have : offO F own (own.set (ρ.getD id 0) e') O = { O with es := O.es.map (offA F own (own.set (ρ.getD id 0) e')) } := by simp [offO, c]
    rw [this]
    refine ⟨a, b, c, d, by simp [hc.1], fun i y e p q => ?_⟩
    have q : (O.es.map (offA F own (own.set (ρ.getD id 0) e')))[i]? = some e := q
    rw [List.getElem?_map] at p q
    cases hy : cs[i]? with
    | none => rw [hy] at p; cases p
    | some z =>
      cases hb : O.es[i]? with
      | none => rw [hb] at q; cases q
      | some e1 =>
        rw [hy] at p; rw [hb] at q; cases p; cases q
        obtain ⟨c1, c2⟩ := hc.2 i z e1 hy hb
        have hna : ∀ cs, e1 ≠ .agg cs := fun cs q => by
          subst q
          have c1 : cs = [AV.agg cs] := c1
          have := congrArg (fun l : List AV => SizeOf.sizeOf l) c1
          simp at this
          omega
        rw [offA_else hna]
        refine ⟨?_, c2.off hs hid ht⟩
        rcases off1_or (F := F) (own := own) (own' := own.set (ρ.getD id 0) e') e1 with q | q
        · rw [q]; exact c1
        · rw [q]; rfl
end
end Abs
end Go.Proofs.YtamgbanmnededaaDoor
