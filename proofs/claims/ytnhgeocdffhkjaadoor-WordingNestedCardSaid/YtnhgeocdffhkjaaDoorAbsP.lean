/- The abstract machine: a region that draws its order; makers of objects that read no memory may go ahead of others. -/
import Derived.Test.YtnhgeocdffhkjaaDoorAbsD
namespace Go.Proofs.YtnhgeocdffhkjaaDoor
namespace Abs
open Go.RowKit
set_option linter.unusedVariables false
set_option linter.unusedSimpArgs false

/-- How a new object is spoken of. -/
inductive MV where
  | ptr
  | mp
  | row (G sz : Nat)
def MV.at (n : Nat) : MV → AV
  | .ptr => .ptr n 1 0 0
  | .mp => .mp n
  | .row G sz => .row n G sz 0 G
/-- A maker that reads no memory: what it asks, its value, its object. -/
def mkO (Gl : Nat → Option (List AV)) (σ : St) : I → Option (Prop × MV × AObj)
  | .alloc ty zero => some (True, .ptr, ⟨ty, zero.cells.size, 0, false, [avOf zero]⟩)
  | .mk ty sz bytes zero n => match σ.val Gl n with
    | .v (.int .i64 n) => some (0 ≤ n ∧ n * bytes ≤ maxB ∧ n ≤ 4611686018427387904, .row n.toNat sz, ⟨ty, sz, 0, true, List.replicate n.toNat (avOf zero)⟩)
    | _ => none
  | .mk2 ty sz bytes zero l c => match σ.val Gl l, σ.val Gl c with
    | .v (.int .i64 l), .v (.int .i64 c) => some (0 ≤ l ∧ l ≤ c ∧ c * bytes ≤ maxB ∧ c ≤ 4611686018427387904, .row l.toNat sz, ⟨ty, sz, 0, true, List.replicate l.toNat (avOf zero)⟩)
    | _, _ => none
  | .mmk ty hint => match hint.map (σ.val Gl) with
    | none => some (True, .mp, ⟨ty, 0, 0, true, []⟩)
    | some (.v (.int _ _)) => some (True, .mp, ⟨ty, 0, 0, true, []⟩)
    | _ => none
  | .bsc ty xs => if (xs.map (σ.val Gl)).all sc1 = true then some (True, .row xs.length 1, ⟨ty, 1, 0, true, xs.map (σ.val Gl)⟩) else none
  | _ => none
def isMk : I → Bool
  | .alloc .. | .mk .. | .mk2 .. | .mmk .. | .bsc .. => true
  | _ => false
def plainO (ob : AObj) : Bool := ob.es.all fun e => e.cells.all allV
/-- A maker that may go ahead. -/
def mayGo (p : Nat × Ins) : Bool := isMk p.2.i && p.2.gd.isNone && (p.1 == 0 || p.1 == 2) && (match p.2.dst with | some d => !(p.2.looks.contains d) | none => false)
def apart (a b : Nat × Ins) : Bool := !((match a.2.dst with | some d => b.2.looks.contains d || b.2.dst == some d | none => false) || (match b.2.dst with | some d => a.2.looks.contains d | none => false))
/-- An earlier one that turns memory, and a maker behind it: no order is asked. -/
def mkOk (a b : Nat × Ins) : Bool := mayGo b && apart a b && mcls a == 2
def drawOkP (ops : Array Oper) (l : List (Nat × Ins)) : Bool :=
  let bm := Region.before ops
  let n := ops.size
  l.all (fun p => p.1 == 0 || p.1 == 2 || (p.1 == 1 && Nat.ble p.2.i.cls 1)) && (List.range n).all fun i => (direct ops i).all (fun d => decide (d < i)) &&
    (List.range i).all fun j => (!tb bm i j || (direct ops i).contains j || (direct ops i).any fun d => decide (j < d) && tb bm d j) &&
      (!clashR (l.getD j default) (l.getD i default) || mkOk (l.getD j default) (l.getD i default) || (tb bm i j && (!mayGo (l.getD j default) || (List.range j).all fun a => !(mcls (l.getD a default) == 2) || tb bm i a)))
section
variable {P : Program} {Gl : Nat → Option (List AV)} {F : Addr → Option Value} {own : List Ent} {B : Nat} {w0 : W0} {σ τ : St} {act : Act} {w : World} {N : Nat} {U : List Nat}
theorem mkO_step {i : I} {p : Prop} {v : MV} {ob : AObj} (h : mkO Gl σ i = some (p, v, ob)) : step Gl σ i = some (p, v.at σ.h.length, σ.h ++ [ob]) := by
  cases i with
  | alloc ty zero => cases h; rfl
  | mk ty sz bytes zero n =>
    simp only [mkO] at h
    split at h
    · rename_i n hn; cases h; simp only [step, hn]; rfl
    · cases h
  | mk2 ty sz bytes zero l c =>
    simp only [mkO] at h
    split at h
    · rename_i l c hl hc; cases h; simp only [step, hl, hc]; rfl
    · cases h
  | mmk ty hint =>
    simp only [mkO] at h
    split at h
    · rename_i hn; cases h; simp only [step, hn]; rfl
    · rename_i hn; cases h; simp only [step, hn]; rfl
    · cases h
  | bsc ty xs =>
    simp only [mkO] at h
    split at h
    · rename_i hn; cases h; simp only [step, hn, if_true]; rfl
    · cases h
  | _ => cases h
theorem step_mkO {i : I} (hi : isMk i = true) {q : Prop × AV × List AObj} (h : step Gl σ i = some q) : ∃ v ob, mkO Gl σ i = some (q.1, v, ob) := by
  cases i with
  | alloc ty zero => cases h; exact ⟨_, _, rfl⟩
  | mk ty sz bytes zero n =>
    simp only [step] at h
    split at h
    · rename_i n hn; cases h; simp only [mkO, hn]; exact ⟨_, _, rfl⟩
    · cases h
  | mk2 ty sz bytes zero l c =>
    simp only [step] at h
    split at h
    · rename_i l c hl hc; cases h; simp only [mkO, hl, hc]; exact ⟨_, _, rfl⟩
    · cases h
  | mmk ty hint =>
    simp only [step] at h
    split at h
    · rename_i hn; cases h; simp only [mkO, hn]; exact ⟨_, _, rfl⟩
    · rename_i hn; cases h; simp only [mkO, hn]; exact ⟨_, _, rfl⟩
    · cases h
  | bsc ty xs =>
    simp only [step] at h
    split at h
    · rename_i hn; cases h; simp only [mkO, hn, if_true]; exact ⟨_, _, rfl⟩
    · cases h
  | _ => cases hi
theorem mkO_congr {i : I} (h : ∀ s ∈ i.reads, τ.t.getD s .any = σ.t.getD s .any) : mkO Gl τ i = mkO Gl σ i := by
  cases i <;> first | rfl | skip
  all_goals (simp only [I.reads, List.mem_append, or_imp, forall_and] at h)
  all_goals first
    | (simp only [mkO, val_congr h]; done)
    | (simp only [mkO, val_congr h.1, val_congr h.2]; done)
    | (simp only [mkO, opt_congr h]; done)
    | (simp only [mkO, map_congr h]; done)
theorem avOf_plain (z : Value) : (avOf z).cells.all allV = true := by
  rw [avOf_cells]
  refine List.all_eq_true.2 fun a ha => ?_
  obtain ⟨x, _, rfl⟩ := List.mem_map.1 ha
  rfl
theorem mkO_plain {i : I} {p : Prop} {v : MV} {ob : AObj} (h : mkO Gl σ i = some (p, v, ob)) : plainO ob = true ∧ ob.fz = 0 := by
  have rep : ∀ (n : Nat) (z : Value), ((List.replicate n (avOf z)).all fun e => e.cells.all allV) = true := fun n z => List.all_eq_true.2 fun a ha => by
    rw [List.eq_of_mem_replicate ha]; exact avOf_plain z
  cases i with
  | alloc ty zero => cases h; exact ⟨by simp only [plainO, List.all_cons, List.all_nil, Bool.and_true]; exact avOf_plain zero, rfl⟩
  | mk ty sz bytes zero n =>
    simp only [mkO] at h
    split at h
    · cases h; exact ⟨rep _ _, rfl⟩
    · cases h
  | mk2 ty sz bytes zero l c =>
    simp only [mkO] at h
    split at h
    · cases h; exact ⟨rep _ _, rfl⟩
    · cases h
  | mmk ty hint =>
    simp only [mkO] at h
    split at h
    · cases h; exact ⟨rfl, rfl⟩
    · cases h; exact ⟨rfl, rfl⟩
    · cases h
  | bsc ty xs =>
    simp only [mkO] at h
    split at h
    · rename_i hn
      cases h
      refine ⟨List.all_eq_true.2 fun a ha => ?_, rfl⟩
      have := List.all_eq_true.1 hn a ha
      cases a <;> first | (cases this; done) | rfl
    · cases h
  | _ => cases h

/-- What speaks of the first blocks alone. -/
def Tk (n : Nat) (a : AV) : Prop := ∀ (F : Addr → Option Value) (own : List Ent) (x : Value), R F own x a → R F (own.take n) x a
theorem tk_rp {F0 : Addr → Option Value} {x0 : Value} {a : AV} (h : RP F0 x0 a) (n : Nat) : Tk n a := by
  induction h with
  | any => exact fun F own x _ => .pure (.any x)
  | v y => exact fun F own x h => by rw [h.v_inv]; exact .pure (.v _)
  | nil sz => exact fun F own x h => .pure h.list_inv
  | list ad m cap sz xs cv hn hc hz hF hR ih => exact fun F own x h => .pure h.list_inv
  | lptr ad cs cv hF hR ih => exact fun F own x h => .pure h.lptr_inv
  | agg xs cs hl h1 hR ih =>
    intro F own x h
    obtain ⟨ys, rfl, hl', h1', hR'⟩ := h.agg_inv
    refine .agg ys cs hl' h1' fun j y a p q => ?_
    have hj : j < xs.size := by rw [hl]; exact (List.getElem?_eq_some_iff.1 q).1
    exact ih j _ a (Array.getElem?_eq_getElem hj) q F own y (hR' j y a p q)
  | tup xs cs hl hR ih =>
    intro F own x h
    obtain ⟨ys, rfl, hl', hR'⟩ := h.tup_inv
    refine .tup ys cs hl' fun j y a p q => ?_
    have hj : j < xs.size := by rw [hl]; exact (List.getElem?_eq_some_iff.1 q).1
    exact ih j _ a (Array.getElem?_eq_getElem hj) q F own y (hR' j y a p q)
theorem tk_r {F0 : Addr → Option Value} {own0 : List Ent} {x0 : Value} {a : AV} (h : R F0 own0 x0 a) {n : Nat} (hn : own0.length ≤ n) : Tk n a := by
  have tk : ∀ {own : List Ent} {id : Nat} {e e0 : Ent}, own0[id]? = some e0 → own[id]? = some e → (own.take n)[id]? = some e := fun {own id e e0} h0 h1 => by
    have := (List.getElem?_eq_some_iff.1 h0).1
    rw [List.getElem?_take, if_pos (by omega)]; exact h1
  induction h with
  | pure h => exact tk_rp h n
  | row x id G sz off len e he hG hs hx hz =>
    intro F own x h
    obtain ⟨e', q1, q2, q3, q4⟩ := h.row_inv
    exact .row _ _ _ _ _ _ e' (tk he q1) q2 q3 q4 (h.row_sz q1)
  | crow x id G sz len e he hG hs hx hz =>
    intro F own x h
    obtain ⟨e', q1, q2, q3, q4⟩ := h.crow_inv
    exact .crow _ _ _ _ _ e' (tk he q1) q2 q3 q4 (h.crow_sz q1)
  | ptr x id G i off e he hG hs hx hz =>
    intro F own x h
    obtain ⟨e', q1, q2, q3, q4⟩ := h.ptr_inv
    exact .ptr _ _ _ _ _ e' (tk he q1) q2 q3 q4 (h.ptr_sz q1)
  | mp x id e he h0 hx =>
    intro F own x h
    obtain ⟨e', q1, q2, q3⟩ := h.mp_inv
    exact .mp _ _ e' (tk he q1) q2 q3
  | clo f xs cs hl hR ih =>
    intro F own x h
    obtain ⟨ys, rfl, hl', hR'⟩ := h.clo_inv
    refine .clo f ys cs hl' fun j y a p q => ?_
    have hj : j < xs.size := by rw [hl]; exact (List.getElem?_eq_some_iff.1 q).1
    exact ih j _ a (Array.getElem?_eq_getElem hj) q F own y (hR' j y a p q)
  | agg xs cs hl h1 hR ih =>
    intro F own x h
    obtain ⟨ys, rfl, hl', h1', hR'⟩ := h.agg_inv
    refine .agg ys cs hl' h1' fun j y a p q => ?_
    have hj : j < xs.size := by rw [hl]; exact (List.getElem?_eq_some_iff.1 q).1
    exact ih j _ a (Array.getElem?_eq_getElem hj) q F own y (hR' j y a p q)
  | tup xs cs hl hR ih =>
    intro F own x h
    obtain ⟨ys, rfl, hl', hR'⟩ := h.tup_inv
    refine .tup ys cs hl' fun j y a p q => ?_
    have hj : j < xs.size := by rw [hl]; exact (List.getElem?_eq_some_iff.1 q).1
    exact ih j _ a (Array.getElem?_eq_getElem hj) q F own y (hR' j y a p q)
/-- An object of plain cells is what it is whatever else lies there. -/
theorem plain_ok {e : Ent} {ob : AObj} (h : ObjR F own w e ob) (hp : plainO ob = true) {obj : Obj} (ho : ∀ g, e.g = some g → w.heap[g]? = some obj) : ∀ (F' : Addr → Option Value) (own' : List Ent) (w' : World), (∀ g, e.g = some g → w'.heap[g]? = some obj ∧ ∀ j, F' ⟨g, j, none⟩ = none) → ObjR F' own' w' e ob := by
  intro F' own' w' hw
  have cell : ∀ (i j : Nat) (x a : AV), ob.es[i]? = some x → x.cells[j]? = some a → ∃ z, a = .v z := fun i j x a p q =>
    allV_v (List.all_eq_true.1 (List.all_eq_true.1 hp x (List.mem_of_getElem? p)) a (List.mem_of_getElem? q))
  rcases h with ⟨k0, k1, k2, k3, k4, k5, k6, k7, k8⟩ | ⟨k0, m1, m2, g, m3, es, clock, m4, m5, m6, m7⟩
  · refine .inl ⟨k0, k1, k2, k3, k4, k5, k6, k7, ?_⟩
    cases hg : e.g with
    | none => rw [hg] at k8; exact k8
    | some g =>
      rw [hg] at k8
      obtain ⟨cs, ⟨fr, a1, af⟩, a2, a3, a4⟩ := k8
      obtain ⟨b1, b2⟩ := hw g hg
      rw [ho g hg] at a1
      refine ⟨cs, ⟨fr, b1.trans a1, af⟩, a2, fun i j x a p q => ?_, fun j _ => b2 j⟩
      obtain ⟨y, c1, c2, c3⟩ := a3 i j x a p q
      obtain ⟨z, rfl⟩ := cell i j x a p q
      have := c3.r.v_inv
      subst this
      refine ⟨_, c1, c2, ?_⟩
      unfold RC
      split
      · exact .v _
      · exact .pure (.v _)
  · obtain ⟨b1, b2⟩ := hw g m3
    rw [ho g m3] at m4
    refine .inr ⟨k0, m1, m2, g, m3, es, clock, b1.trans m4, m5, fun i en x p q => ?_, b2⟩
    obtain ⟨a, rfl, c1, c2, c3⟩ := m6 i en x p q
    obtain ⟨z, rfl⟩ := cell i (avOf en.key).cells.length _ a q (by simp [AV.cells])
    have one : ∀ y, RP F y (.v z) → y = z := fun y h => by cases h; rfl
    have := one _ c3
    exact ⟨_, rfl, c1, c2, by rw [this]; exact .v _⟩
/-- A new object is spoken of the same wherever it stands. -/
theorem at_any {v : MV} {n : Nat} {e : Ent} {x : Value} (h : R F own x (v.at n)) (he : own[n]? = some e) : ∀ (F' : Addr → Option Value) (own' : List Ent) (n' : Nat), own'[n']? = some e → R F' own' x (v.at n') := by
  intro F' own' n' he'
  cases v with
  | ptr =>
    obtain ⟨e1, q1, q2, q3, q4⟩ := R.ptr_inv h
    rw [he] at q1; cases q1
    exact .ptr _ _ _ _ _ e he' q2 q3 q4 (R.ptr_sz h he)
  | mp =>
    obtain ⟨e1, q1, q2, q3⟩ := R.mp_inv h
    rw [he] at q1; cases q1
    exact .mp _ _ e he' q2 q3
  | row G sz =>
    obtain ⟨e1, q1, q2, q3, q4⟩ := R.row_inv h
    rw [he] at q1; cases q1
    exact .row _ _ _ _ _ _ e he' q2 q3 q4 (R.row_sz h he)
/-- The same beginning, other blocks made ahead. -/
def W0.withPd (w0 : W0) (l : List PdE) (h : l.Pairwise fun a b => ∀ g, a.e.g = some g → b.e.g ≠ some g) : W0 := ⟨w0.w, w0.F, w0.N, w0.fr, w0.hfr, l, h, w0.df⟩
theorem Inv.withPd (h : Inv Gl F own B w0 σ act w) {l : List PdE} (hl : l.Pairwise fun a b => ∀ g, a.e.g = some g → b.e.g ≠ some g) (hp : PdIn B l F own w) : Inv Gl F own B (w0.withPd l hl) σ act w :=
  { tl := h.tl, tr := h.tr, defers := h.defers, sub := h.sub, hl := h.hl, objs := h.objs, inj := h.inj, below := h.below, base := h.base, gl := h.gl, gw := h.gw, room := h.room, ext := h.ext, ext0 := h.ext0, nl := h.nl, fr := h.fr, pd := hp }
/-- A new object is taken off the call's own, as a block made ahead. -/
theorem demote {F0 : Addr → Option Value} {own0 : List Ent} {act0 : Act} {wb : World} (hI0 : Inv Gl F0 own0 B w0 τ act0 wb) {d : Nat} {v : MV} {ob : AObj} (hp : plainO ob = true) (hf : ob.fz = 0) (h : Inv Gl F own B w0 (St.put ⟨τ.t, τ.h ++ [ob]⟩ (some d) (v.at τ.h.length)) act w) :
    ∃ (x : Value) (q : PdE) (hl : (q :: w0.pd).Pairwise fun a b => ∀ g, a.e.g = some g → b.e.g ≠ some g), q.ob = ob ∧ Inv Gl F (own.take τ.h.length) B (w0.withPd (q :: w0.pd) hl) (τ.put (some d) (.v x)) act w ∧ (d < τ.t.length → ∀ (F' : Addr → Option Value) (own' : List Ent) (n' : Nat), own'[n']? = some q.e → R F' own' x (v.at n')) := by
  have hlen : own.length = τ.h.length + 1 := by have := h.hl; simpa [St.put] using this
  have hn : τ.h.length < own.length := by omega
  have he : own[τ.h.length]? = some own[τ.h.length] := List.getElem?_eq_getElem hn
  generalize own[τ.h.length] = e at he
  have hob : (St.put ⟨τ.t, τ.h ++ [ob]⟩ (some d) (v.at τ.h.length)).h[τ.h.length]? = some ob := by simp [St.put]
  have hO := h.objs _ e ob he hob
  have hobj : ∃ obj, ∀ g, e.g = some g → w.heap[g]? = some obj := by
    cases hg : e.g with
    | none => exact ⟨.map #[] 0, fun g q => by cases q⟩
    | some g =>
      have hlt := hO.lt hg
      exact ⟨w.heap[g], fun g' q => by cases q; exact Array.getElem?_eq_getElem hlt⟩
  obtain ⟨obj, hobj⟩ := hobj
  have hnew : ∀ g, e.g = some g → ∀ q ∈ w0.pd, q.e.g ≠ some g := fun g hg q hq hqg => (h.pd q hq g hqg).2.2.1 _ e he hg
  have hpw : ((⟨obj, e, ob, plain_ok hO hp hobj⟩ : PdE) :: w0.pd).Pairwise fun a b => ∀ g, a.e.g = some g → b.e.g ≠ some g :=
    List.pairwise_cons.2 ⟨fun q hq g hg => hnew g hg q hq, w0.pdn⟩
  have own_of : ∀ {id : Nat} {e' : Ent}, (own.take τ.h.length)[id]? = some e' → id < τ.h.length ∧ own[id]? = some e' := fun {id e'} q => by
    rw [List.getElem?_take] at q
    split at q
    · exact ⟨by assumption, q⟩
    · cases q
  refine ⟨act.tmps.getD d undef, ⟨obj, e, ob, plain_ok hO hp hobj⟩, hpw, rfl, ?_, fun hd => ?_⟩
  · refine { tl := by have := h.tl; simpa [St.put] using this, tr := fun i x a p q => ?_, defers := h.defers, sub := h.sub, hl := by simp only [St.put, List.length_take]; omega, objs := fun id e' o p q => ?_, inj := fun i j e1 e2 g p q => h.inj i j e1 e2 g (own_of p).2 (own_of q).2, below := h.below, base := fun id e' g p => h.base id e' g (own_of p).2, gl := h.gl, gw := h.gw, room := h.room, ext := h.ext, ext0 := h.ext0, nl := hI0.nl, fr := fun q hq => ?_, pd := ?_ }
    · have q' : (τ.t.set d (.v (act.tmps.getD d undef)))[i]? = some a := q
      rw [List.getElem?_set] at q'
      split at q'
      · rename_i hdi
        subst hdi
        split at q'
        · cases q'
          have : act.tmps.getD d undef = x := by
            have hlt := (Array.getElem?_eq_some_iff.1 p).1
            rw [Array.getElem?_eq_getElem hlt] at p
            simp [Array.getD, hlt]
            exact Option.some.inj p
          rw [this]; exact .pure (.v _)
        · cases q'
      · rename_i hdi
        have q2 : (St.put ⟨τ.t, τ.h ++ [ob]⟩ (some d) (v.at τ.h.length)).t[i]? = some a := by
          show (τ.t.set d _)[i]? = some a
          rw [List.getElem?_set_ne hdi]; exact q'
        have hi0 : i < act0.tmps.size := by rw [hI0.tl]; exact (List.getElem?_eq_some_iff.1 q').1
        exact tk_r (hI0.tr i _ a (Array.getElem?_eq_getElem hi0) q') (Nat.le_of_eq hI0.hl) F own x (h.tr i x a p q2)
    · obtain ⟨hid, hown⟩ := own_of p
      have q' : τ.h[id]? = some o := q
      have q2 : (St.put ⟨τ.t, τ.h ++ [ob]⟩ (some d) (v.at τ.h.length)).h[id]? = some o := by
        show (τ.h ++ [ob])[id]? = some o
        rw [List.getElem?_append_left hid]; exact q'
      rcases h.objs id e' o hown q2 with ⟨k0, k1, k2, k3, k4, k5, k6, k7, k8⟩ | hm
      case inr => exact .inr hm
      refine .inl ⟨k0, k1, k2, k3, k4, k5, k6, k7, ?_⟩
      cases hg : e'.g with
      | none => rw [hg] at k8; exact k8
      | some g =>
        rw [hg] at k8
        obtain ⟨cs, a1, a2, a3, a4⟩ := k8
        refine ⟨cs, a1, a2, fun i j x a r s => ?_, a4⟩
        obtain ⟨y, b1, b2, b3⟩ := a3 i j x a r s
        refine ⟨y, b1, b2, ?_⟩
        unfold RC at b3 ⊢
        split
        · rename_i hpr; rw [if_pos hpr] at b3; exact b3
        · rename_i hpr
          rw [if_neg hpr] at b3
          have hid0 : id < own0.length := by rw [hI0.hl]; exact hid
          rcases hI0.objs id _ o (List.getElem?_eq_getElem hid0) q' with ⟨_, z1, z2, z3, z4, z5, z6, z7, z8⟩ | ⟨_, _, m2, _⟩
          case inr => exact absurd m2 hpr
          cases hg0 : own0[id].g with
          | none =>
            rw [hg0] at z8
            have z8 : own0[id].cap = 0 := z8
            have := (List.getElem?_eq_some_iff.1 r).1
            omega
          | some g0 =>
            rw [hg0] at z8
            obtain ⟨_, _, _, z9, _⟩ := z8
            obtain ⟨y0, _, _, c3⟩ := z9 i j x a r s
            exact tk_r c3.r (Nat.le_of_eq hI0.hl) F own y b3
    · have := h.fr q hq
      have hN : q.1 ≤ τ.h.length := Nat.le_trans (w0.hfr q hq) hI0.nl
      show R F ((own.take τ.h.length).take q.1) q.2.1 q.2.2
      rw [List.take_take, Nat.min_eq_left hN]; exact this
    · intro q hq g hg
      rcases List.mem_cons.1 hq with rfl | hq
      · have hg : e.g = some g := hg
        refine ⟨hobj g hg, fun j => hO.fz hg (by rw [hf, Nat.zero_mul]; exact Nat.zero_le _), fun id e' p r => ?_, h.base _ e g he hg⟩
        obtain ⟨p1, p2⟩ := own_of p
        have := h.inj id τ.h.length e' e g p2 he r hg
        omega
      · obtain ⟨p1, p2, p3, p4⟩ := h.pd q hq g hg
        exact ⟨p1, p2, fun id e' r => p3 id e' (own_of r).2, p4⟩
  · have hds : d < act.tmps.size := by rw [h.tl]; simpa [St.put] using hd
    have q2 : (St.put ⟨τ.t, τ.h ++ [ob]⟩ (some d) (v.at τ.h.length)).t[d]? = some (v.at τ.h.length) := by
      show (τ.t.set d _)[d]? = _
      rw [List.getElem?_set_self hd]
    have := h.tr d _ _ (Array.getElem?_eq_getElem hds) q2
    have e1 : act.tmps.getD d undef = act.tmps[d] := by simp [Array.getD, hds]
    rw [e1]
    exact at_any this he
/-- A block made ahead is the call's own from now on. -/
theorem claim {l1 l2 : List PdE} {q : PdE} {hl : (l1 ++ q :: l2).Pairwise fun a b => ∀ g, a.e.g = some g → b.e.g ≠ some g} (hl' : (l1 ++ l2).Pairwise fun a b => ∀ g, a.e.g = some g → b.e.g ≠ some g) (h : Inv Gl F own B (w0.withPd (l1 ++ q :: l2) hl) τ act w) {d : Nat} {v : MV} {x : Value}
    (hx : ∀ a, τ.t[d]? = some a → a = .v x) (hR : d < τ.t.length → ∀ (F' : Addr → Option Value) (own' : List Ent) (n' : Nat), own'[n']? = some q.e → R F' own' x (v.at n')) :
    Inv Gl F (own ++ [q.e]) B (w0.withPd (l1 ++ l2) hl') (St.put ⟨τ.t, τ.h ++ [q.ob]⟩ (some d) (v.at τ.h.length)) act w := by
  have hq : q ∈ (w0.withPd (l1 ++ q :: l2) hl).pd := List.mem_append.2 (.inr (List.mem_cons_self))
  have hpd := h.pd q hq
  have get : ∀ {k : Nat} {f : Ent}, (own ++ [q.e])[k]? = some f → (k = own.length ∧ f = q.e) ∨ (k < own.length ∧ own[k]? = some f) := fun {k f} hf => by
    rcases Nat.lt_or_ge k own.length with hk | hk
    · rw [List.getElem?_append_left hk] at hf; exact .inr ⟨hk, hf⟩
    · rw [List.getElem?_append_right hk] at hf
      have h0 : k - own.length = 0 := by
        rcases Nat.eq_zero_or_pos (k - own.length) with h0 | h0
        · exact h0
        · rw [List.getElem?_eq_none (by simp; omega)] at hf; cases hf
      rw [h0] at hf
      simp at hf
      exact .inl ⟨by omega, hf.symm⟩
  have last : (own ++ [q.e])[own.length]? = some q.e := by simp
  refine { tl := by have := h.tl; simpa [St.put] using this, tr := fun i y a p r => ?_, defers := h.defers, sub := h.sub, hl := by simp [St.put, h.hl], objs := fun id e' o p r => ?_, inj := fun i j e1 e2 g p r s t => ?_, below := h.below, base := fun id e' g p r => ?_, gl := h.gl, gw := h.gw, room := h.room, ext := h.ext, ext0 := h.ext0, nl := by have := h.nl; simp only [St.put, List.length_append]; exact Nat.le_trans this (Nat.le_add_right _ _), fr := fun z hz => (h.fr z hz).mono (fun _ _ r => r) ((Le.snoc _ _).take _), pd := fun z hz g hg => ?_ }
  · have r' : (τ.t.set d (v.at τ.h.length))[i]? = some a := r
    rw [List.getElem?_set] at r'
    split at r'
    · rename_i hdi
      subst hdi
      split at r'
      · rename_i hd
        cases r'
        have hv := h.tr d y _ p (List.getElem?_eq_getElem hd)
        rw [hx _ (List.getElem?_eq_getElem hd)] at hv
        rw [hv.v_inv]
        exact hR hd F _ _ (by rw [← h.hl]; exact last)
      · cases r'
    · exact (h.tr i y a p r').mono (fun _ _ r => r) (Le.snoc _ _)
  · have r' : (τ.h ++ [q.ob])[id]? = some o := r
    rcases get p with ⟨rfl, rfl⟩ | ⟨hk, hf⟩
    · rw [h.hl, List.getElem?_append_right (Nat.le_refl _)] at r'
      simp at r'
      subst r'
      exact q.ok F _ w fun g hg => ⟨(hpd g hg).1, (hpd g hg).2.1⟩
    · rw [List.getElem?_append_left (by rw [← h.hl]; exact hk)] at r'
      have hO := h.objs id e' o hf r'
      exact hO.mono (fun _ _ r => r) (Le.snoc _ _) (fun g hg => rfl) (fun g j hg hj => hO.fz hg hj)
  · rcases get p with ⟨rfl, rfl⟩ | ⟨hi, hf⟩ <;> rcases get r with ⟨rfl, rfl⟩ | ⟨hj, hf'⟩
    · rfl
    · exact absurd t ((hpd g s).2.2.1 j e2 hf')
    · exact absurd s ((hpd g t).2.2.1 i e1 hf)
    · exact h.inj i j e1 e2 g hf hf' s t
  · rcases get p with ⟨rfl, rfl⟩ | ⟨hk, hf⟩
    · exact (hpd g r).2.2.2
    · exact h.base id e' g hf r
  · have hz' : z ∈ (w0.withPd (l1 ++ q :: l2) hl).pd := by
      rcases List.mem_append.1 hz with hz | hz
      · exact List.mem_append.2 (.inl hz)
      · exact List.mem_append.2 (.inr (List.mem_cons_of_mem _ hz))
    obtain ⟨p1, p2, p3, p4⟩ := h.pd z hz' g hg
    refine ⟨p1, p2, fun id e' r s => ?_, p4⟩
    rcases get r with ⟨rfl, rfl⟩ | ⟨hk, hf⟩
    · rw [List.pairwise_append] at hl
      rcases List.mem_append.1 hz with hz | hz
      · exact hl.2.2 z hz q (List.mem_cons_self) g hg s
      · have := (List.pairwise_cons.1 hl.2.1).1 z hz g s
        exact this hg
    · exact p3 id e' hf s
end
end Abs
end Go.Proofs.YtnhgeocdffhkjaaDoor
