/- The abstract machine: literals; rows that are kept for good. -/
import Derived.Test.YtnhgeocdffhkjaaDoorAbs5
namespace Go.Proofs.YtnhgeocdffhkjaaDoor
namespace Abs
open Go.RowKit
set_option linter.unusedVariables false
set_option linter.unusedSimpArgs false

section
variable {P : Program} {Gl : Nat → Option (List AV)} {F : Addr → Option Value} {own : List Ent} {B : Nat} {w0 : W0} {σ : St} {act : Act} {w w' : World}

/-- The cells of a row, kept for good. -/
def Kept (F : Addr → Option Value) (own : List Ent) (h : List AObj) (w : World) (id : Nat) : Prop :=
  ∀ ob e g, h[id]? = some ob → own[id]? = some e → e.g = some g → ∀ j, j < ob.es.length * ob.sz → F ⟨g, j, none⟩ = w.cell? ⟨g, j, none⟩

open Classical in
theorem Inv.freeze1 (h : Inv Gl F own B w0 σ act w) {id : Nat} {ob : AObj} (hob : σ.h[id]? = some ob) :
    ∃ F', (∀ ad y, F ad = some y → F' ad = some y) ∧ Inv Gl F' own B w0 ⟨σ.t, σ.h.set id { ob with fz := ob.es.length }⟩ act w ∧ Kept F' own σ.h w id := by
  obtain ⟨e, he, hO⟩ := h.obj_own hob
  have hidlt : id < σ.h.length := (List.getElem?_eq_some_iff.1 hob).1
  let F' : Addr → Option Value := fun ad => if e.g = some ad.block ∧ ad.spot = none ∧ ad.off < ob.es.length * ob.sz then w.cell? ad else F ad
  have hF : ∀ ad y, F ad = some y → F' ad = some y := fun ad y q => by
    show (if _ then _ else _) = _
    split
    · exact h.sub ad y q
    · exact q
  refine ⟨F', hF, ?_, ?_⟩
  · refine h.turn hF (Le.refl _) (fun a x q => ?_) (by simp [h.hl]) (fun k f o' p q => ?_) h.inj h.below h.base (fun ad y q => ?_) (hpF := fun g j y q => by
      have q' : (if e.g = some g ∧ (none : Option _) = none ∧ j < ob.es.length * ob.sz then w.cell? ⟨g, j, none⟩ else F ⟨g, j, none⟩) = some y := q
      split at q'
      · rename_i c; exact .inr (.inl fun n => n id e he c.1)
      · exact .inl q')
    · have q' : (if _ then w.cell? a else F a) = some x := q
      split at q'
      · exact q'
      · exact h.sub a x q'
    · have q' : (σ.h.set id { ob with fz := ob.es.length })[k]? = some o' := q
      by_cases hk : k = id
      · subst hk
        rw [he] at p; cases p
        rw [List.getElem?_set_self hidlt] at q'; cases q'
        rcases hO with ⟨k0, hO⟩ | ⟨k0, m1, m2, g, m3, es, clock, m4, m5, m6, m7⟩
        case inr =>
          refine .inr ⟨k0, m1, m2, g, m3, es, clock, m4, m5, fun i en x p q => (m6 i en x p q).mono hF, fun j => ?_⟩
          show (if _ then _ else _) = _
          rw [if_neg (fun c => by have := c.2.2; rw [k0, Nat.mul_zero] at this; omega)]
          exact m7 j
        obtain ⟨k1, k2, k3, k4, k5, k6, k7, k8⟩ := hO
        refine .inl ⟨k0, k1, k2, k3, k4, k5, Nat.le_refl _, k7, ?_⟩
        cases hg : e.g with
        | none => rw [hg] at k8; exact k8
        | some g =>
          rw [hg] at k8
          obtain ⟨cs, a1, a2, a3, a4⟩ := k8
          obtain ⟨fr, a1, af⟩ := a1
          refine ⟨cs, ⟨fr, a1, af.imp id (fun q => ⟨rfl, q.2⟩)⟩, a2, fun i j x a r s => ?_, fun j hj => ?_⟩
          · obtain ⟨y, b1, b2, b3⟩ := a3 i j x a r s
            exact ⟨y, b1, b2, b3.mono hF (Le.refl _)⟩
          · show (if _ then _ else _) = _
            rw [if_neg (fun c => by have := c.2.2; simp only at this hj; omega)]
            exact a4 j (Nat.le_trans (Nat.mul_le_mul_right _ k6) hj)
      · rw [List.getElem?_set_ne (fun e => hk e.symm)] at q'
        have hO' := h.objs k f o' p q'
        refine hO'.mono hF (Le.refl _) (fun g hg => rfl) (fun g j hg hj => ?_)
        show (if _ then _ else _) = _
        rw [if_neg (fun c => hk (h.inj k id f e g p he hg c.1))]
        exact hO'.fz hg hj
    · have q' : (if _ then w.cell? ad else F ad) = some y := q
      split at q'
      · rename_i c; exact .inr (h.base id e _ he c.1)
      · exact .inl q'
  · intro ob' e' g p q r j hj
    rw [hob] at p; cases p
    rw [he] at q; cases q
    show (if _ then _ else _) = _
    rw [if_pos ⟨r, rfl, hj⟩]

theorem freeze_get (h : List AObj) (ids : List Nat) (k : Nat) : ∃ f : AObj → AObj, (∀ o, (f o).es = o.es ∧ (f o).sz = o.sz ∧ (f o).ty = o.ty ∧ (f o).pr = o.pr) ∧ (freeze h ids)[k]? = (h[k]?).map f := by
  induction ids generalizing h with
  | nil => exact ⟨id, fun o => ⟨rfl, rfl, rfl, rfl⟩, by simp [freeze]⟩
  | cons i ids ih =>
    unfold freeze
    simp only [List.foldl_cons]
    cases hi : h[i]? with
    | none => exact ih h
    | some o =>
      simp only
      obtain ⟨f, hf, hg⟩ := ih (h.set i { o with fz := o.es.length })
      unfold freeze at hg
      rw [hg, List.getElem?_set]
      by_cases hik : i = k
      · subst hik
        have hlt := (List.getElem?_eq_some_iff.1 hi).1
        rw [if_pos rfl, if_pos hlt, hi]
        exact ⟨fun o => f { o with fz := o.es.length }, fun o => hf _, rfl⟩
      · rw [if_neg hik]
        exact ⟨f, hf, rfl⟩

theorem Inv.freezeL (h : Inv Gl F own B w0 σ act w) (ids : List Nat) :
    ∃ F', (∀ ad y, F ad = some y → F' ad = some y) ∧ Inv Gl F' own B w0 ⟨σ.t, freeze σ.h ids⟩ act w ∧ ∀ id ∈ ids, Kept F' own σ.h w id := by
  induction ids generalizing F σ with
  | nil => exact ⟨F, fun _ _ q => q, h, fun id q => by simp at q⟩
  | cons i ids ih =>
    cases hi : σ.h[i]? with
    | none =>
      obtain ⟨F', a1, a2, a3⟩ := ih h
      refine ⟨F', a1, ?_, fun id q => ?_⟩
      · have : freeze σ.h (i :: ids) = freeze σ.h ids := by unfold freeze; simp only [List.foldl_cons, hi]
        rw [this]; exact a2
      · rcases List.mem_cons.1 q with rfl | q
        · intro ob e g p; rw [hi] at p; cases p
        · exact a3 id q
    | some o =>
      obtain ⟨F1, b1, b2, b3⟩ := h.freeze1 hi
      obtain ⟨F', a1, a2, a3⟩ := ih b2
      refine ⟨F', fun ad y q => a1 _ _ (b1 ad y q), ?_, fun id q => ?_⟩
      · have : freeze σ.h (i :: ids) = freeze (σ.h.set i { o with fz := o.es.length }) ids := by unfold freeze; simp only [List.foldl_cons, hi]
        rw [this]; exact a2
      · rcases List.mem_cons.1 q with rfl | q
        · intro ob e g p p2 p3 j hj
          have := b3 ob e g p p2 p3 j hj
          cases hc : w.cell? ⟨g, j, none⟩ with
          | none =>
            rw [hc] at this
            cases hF' : F' ⟨g, j, none⟩ with
            | none => rfl
            | some y => have := a2.sub _ _ hF'; rw [hc] at this; cases this
          | some y => rw [hc] at this; exact a1 _ _ this
        · intro ob e g p p2 p3 j hj
          have hlt := (List.getElem?_eq_some_iff.1 hi).1
          by_cases hk : i = id
          · subst hk
            rw [hi] at p; cases p
            exact a3 i q { o with fz := o.es.length } e g (by show (σ.h.set i _)[i]? = _; rw [List.getElem?_set_self hlt]) p2 p3 j hj
          · exact a3 id q ob e g (by show (σ.h.set i _)[id]? = _; rw [List.getElem?_set_ne hk]; exact p) p2 p3 j hj

/-- A row that is kept for good reads as a list. -/
theorem row_list (h : Inv Gl F own B w0 σ act w) {F' : Addr → Option Value} (hF : ∀ ad y, F ad = some y → F' ad = some y) {x : Value} {id G sz off len : Nat} (hR : R F own x (.row id G sz off len)) (hk : Kept F' own σ.h w id) {ob : AObj} (hob : σ.h[id]? = some ob)
    (c1 : ob.es.length = G) (c2 : ob.sz = sz) (c3 : ob.pr = true) : RP F' x (.list sz ((ob.es.drop off).take len)) := by
  obtain ⟨e, he1, hG, hst, hx⟩ := hR.row_inv
  obtain ⟨e', he2, hO⟩ := h.obj_own hob
  rw [he1] at he2; cases he2
  have hO := hO.of_e (hR.row_sz he1)
  obtain ⟨q1, q2, qe⟩ := hx (by rw [hO.1, c1])
  by_cases hex : 0 < len ∨ off = 0
  case neg =>
    obtain ⟨a, cap, hx0, _, ha'⟩ := hst
    have hl0 : len = 0 := by omega
    subst hl0
    have := ha' (by omega)
    cases a with
    | none => cases this
    | some ad =>
      rw [hx0, List.take_zero]
      exact .list ad 0 cap sz [] (fun _ => undef) rfl (Nat.zero_le _) (fun i e q => by simp at q) (fun i j e a q => by simp at q) (fun i j e a q => by simp at q)
  obtain ⟨cp, qc, q3⟩ := qe hex
  have hcpl : len ≤ cp := by obtain ⟨_, _, e1, e2, _⟩ := hst; rw [q3] at e1; injection e1 with _ _ e1; omega
  have hcl := hO.2.2.2.2.2.2.1
  have hcap : e.G ≤ e.cap := hO.2.2.2.1
  have hsp := hO.2.2.1
  subst c2
  cases hg : e.g with
  | none =>
    have hcap0 : e.cap = 0 := by have := hO.2.2.2.2.2.2.2; rw [hg] at this; exact this
    have hl0 : len = 0 := by omega
    subst hl0
    rw [q3, hg, show cp = 0 by omega]
    simp
    exact .nil _
  | some g =>
    obtain ⟨cs, fr, hblk, _, hcsz, hcell⟩ := hO.blkF hg
    rw [q3, hg]
    have hel : ∀ (i : Nat) (y : AV), ((ob.es.drop off).take len)[i]? = some y → i < len ∧ ob.es[off + i]? = some y := fun i y hy => by
      rw [List.getElem?_take] at hy
      split at hy
      · rw [List.getElem?_drop] at hy; exact ⟨by assumption, hy⟩
      · cases hy
    have key : ∀ (i j : Nat) (y a : AV), ((ob.es.drop off).take len)[i]? = some y → y.cells[j]? = some a → ∃ v, cs[off * ob.sz + (i * ob.sz + j)]? = some v ∧ v.oneCell' = true ∧ RP F v a ∧ F' ⟨g, off * ob.sz + (i * ob.sz + j), none⟩ = some v := fun i j y a p q => by
      obtain ⟨hi, p'⟩ := hel i y p
      obtain ⟨v, a1, a2, a3⟩ := hcell _ j y a p' q
      rw [Nat.add_mul, Nat.add_assoc] at a1
      have hj : j < ob.sz := by rw [← hcl _ y p']; exact (List.getElem?_eq_some_iff.1 q).1
      have hlt : off * ob.sz + (i * ob.sz + j) < ob.es.length * ob.sz := by
        have : (off + i + 1) * ob.sz ≤ ob.es.length * ob.sz := Nat.mul_le_mul_right _ (by omega)
        rw [Nat.add_mul, Nat.add_mul, Nat.one_mul] at this; omega
      refine ⟨v, a1, a2, ?_, ?_⟩
      · unfold RC at a3; rw [if_pos c3] at a3; exact a3
      · rw [hk ob e g hob he1 hg _ hlt, cell_of_row w g _ cs ob.ty fr hblk]; exact a1
    refine .list ⟨g, off * ob.sz, none⟩ _ _ _ _ (fun k => (cs[off * ob.sz + k]?).getD undef) (by simp; omega) (by omega) (fun i y p => hcl _ y (hel i y p).2) (fun i j y a p q => ?_) (fun i j y a p q => ?_)
    · obtain ⟨v, a1, a2, a3, a4⟩ := key i j y a p q
      rw [Addr.add_lit, a1]
      exact ⟨a4, a2⟩
    · obtain ⟨v, a1, a2, a3, a4⟩ := key i j y a p q
      rw [a1]
      exact a3.mono hF

theorem keep1_sound (h : Inv Gl F own B w0 σ act w) {F' : Addr → Option Value} (hF : ∀ ad y, F ad = some y → F' ad = some y) {x : Value} {a b : AV} (hR : R F own x a) (hk : keep1 σ.h a = some b) (hkp : ∀ id ∈ rows1 a, Kept F' own σ.h w id) : RP F' x b ∧ x.oneCell' = true ∧ b.cells = [b] := by
  cases a with
  | crow => cases hk
  | mp => cases hk
  | clo => cases hk
  | any => cases hk
  | v y =>
    have := hR.v_inv
    subst this
    have hk' : (if x.oneCell' then some (AV.v x) else none) = some b := hk
    split at hk'
    · rename_i h1; cases hk'; exact ⟨.v _, h1, rfl⟩
    · cases hk'
  | list sz xs =>
    cases hk
    have hq := hR.list_inv
    refine ⟨hq.mono hF, ?_, rfl⟩
    cases hq <;> rfl
  | lptr cs =>
    cases hk
    have hq := hR.lptr_inv
    refine ⟨hq.mono hF, ?_, rfl⟩
    cases hq; rfl
  | row id G sz off len =>
    simp only [keep1] at hk
    cases ho : σ.h[id]? with
    | none => rw [ho] at hk; cases hk
    | some ob =>
      rw [ho] at hk
      simp only at hk
      split at hk
      · rename_i hc
        cases hk
        obtain ⟨_, _, _, ⟨_, _, hx, _⟩, _⟩ := hR.row_inv
        exact ⟨row_list h hF hR (hkp id (by simp [rows1])) ho hc.1 hc.2.1 hc.2.2, by rw [hx]; rfl, rfl⟩
      · cases hk
  | ptr id G i off => cases hk
  | agg cs => cases hk
  | tup cs => cases hk

theorem keepL_sound (h : Inv Gl F own B w0 σ act w) {F' : Addr → Option Value} (hF : ∀ ad y, F ad = some y → F' ad = some y) : ∀ (cs ds : List AV), keepL σ.h cs = some ds → (∀ id ∈ cs.flatMap rows1, Kept F' own σ.h w id) →
    cs.length = ds.length ∧ ∀ (j : Nat) (x : Value) (a b : AV), cs[j]? = some a → ds[j]? = some b → R F own x a → RP F' x b ∧ x.oneCell' = true ∧ b.cells = [b] := by
  intro cs
  induction cs with
  | nil => intro ds hk _; cases hk; exact ⟨rfl, fun j x a b q => by simp at q⟩
  | cons c cs ih =>
    intro ds hk hkp
    unfold keepL at hk
    cases h1 : keep1 σ.h c with
    | none => rw [h1] at hk; cases hk
    | some b =>
      cases h2 : keepL σ.h cs with
      | none => rw [h1, h2] at hk; cases hk
      | some m =>
        rw [h1, h2] at hk
        cases hk
        obtain ⟨l1, l2⟩ := ih m h2 (fun id q => hkp id (by simp only [List.flatMap_cons, List.mem_append]; exact .inr q))
        refine ⟨by simp [l1], fun j x a b' p q hR => ?_⟩
        cases j with
        | zero =>
          simp at p q
          subst p q
          exact keep1_sound h hF hR h1 (fun id q => hkp id (by simp only [List.flatMap_cons, List.mem_append]; exact .inl q))
        | succ j => simp at p q; exact l2 j x a b' p q hR

theorem keepA_sound (h : Inv Gl F own B w0 σ act w) {F' : Addr → Option Value} (hF : ∀ ad y, F ad = some y → F' ad = some y) {x : Value} {a b : AV} (hR : R F own x a) (hk : keepA σ.h a = some b) (hkp : ∀ id ∈ rowsA a, Kept F' own σ.h w id) :
    RP F' x b ∧ x.cells.size = b.cells.length ∧ (∀ (j : Nat) (y : Value) (c : AV), x.cells[j]? = some y → b.cells[j]? = some c → y.oneCell' = true ∧ RP F' y c) := by
  by_cases ha : ∃ cs, a = .agg cs
  · obtain ⟨cs, rfl⟩ := ha
    have hk' : (keepL σ.h cs).map AV.agg = some b := hk
    cases hl : keepL σ.h cs with
    | none => rw [hl] at hk'; cases hk'
    | some ds =>
      rw [hl] at hk'
      cases hk'
      obtain ⟨xs, rfl, e1, e2, e3⟩ := hR.agg_inv
      obtain ⟨l1, l2⟩ := keepL_sound h hF cs ds hl hkp
      have key : ∀ (j : Nat) (y : Value) (c : AV), xs[j]? = some y → ds[j]? = some c → y.oneCell' = true ∧ RP F' y c := fun j y c p q => by
        have hj : j < cs.length := by rw [l1]; exact (List.getElem?_eq_some_iff.1 q).1
        have := l2 j y cs[j] c (List.getElem?_eq_getElem hj) q (e3 j y _ p (List.getElem?_eq_getElem hj))
        exact ⟨this.2.1, this.1⟩
      exact ⟨.agg xs ds (by omega) e2 (fun j y c p q => (key j y c p q).2), by show xs.size = ds.length; omega, key⟩
  · have hk' : keep1 σ.h a = some b := by cases a <;> first | exact hk | exact absurd ⟨_, rfl⟩ ha
    have hr : rowsA a = rows1 a := by cases a <;> first | rfl | exact absurd ⟨_, rfl⟩ ha
    obtain ⟨q1, q2, q3⟩ := keep1_sound h hF hR hk' (by rw [← hr]; exact hkp)
    have e1 : x.cells = #[x] := by cases x <;> simp_all [Value.cells, Value.oneCell']
    rw [e1, q3]
    refine ⟨q1, rfl, fun j y c p q => ?_⟩
    have : j = 0 := by
      rcases Nat.eq_zero_or_pos j with h0 | h0
      · exact h0
      · rw [List.getElem?_eq_none (by simp; omega)] at q; cases q
    subst this
    simp at p q
    subst p q
    exact ⟨q2, q1⟩

theorem keepAL_sound (h : Inv Gl F own B w0 σ act w) {F' : Addr → Option Value} (hF : ∀ ad y, F ad = some y → F' ad = some y) : ∀ (cs ds : List AV), keepAL σ.h cs = some ds → (∀ id ∈ cs.flatMap rowsA, Kept F' own σ.h w id) →
    cs.length = ds.length ∧ ∀ (j : Nat) (x : Value) (a b : AV), cs[j]? = some a → ds[j]? = some b → R F own x a → RP F' x b ∧ x.cells.size = b.cells.length ∧ (∀ (j : Nat) (y : Value) (c : AV), x.cells[j]? = some y → b.cells[j]? = some c → y.oneCell' = true ∧ RP F' y c) := by
  intro cs
  induction cs with
  | nil => intro ds hk _; cases hk; exact ⟨rfl, fun j x a b q => by simp at q⟩
  | cons c cs ih =>
    intro ds hk hkp
    unfold keepAL at hk
    cases h1 : keepA σ.h c with
    | none => rw [h1] at hk; cases hk
    | some b =>
      cases h2 : keepAL σ.h cs with
      | none => rw [h1, h2] at hk; cases hk
      | some m =>
        rw [h1, h2] at hk
        cases hk
        obtain ⟨l1, l2⟩ := ih m h2 (fun id q => hkp id (by simp only [List.flatMap_cons, List.mem_append]; exact .inr q))
        refine ⟨by simp [l1], fun j x a b' p q hR => ?_⟩
        cases j with
        | zero =>
          simp at p q
          subst p q
          exact keepA_sound h hF hR h1 (fun id q => hkp id (by simp only [List.flatMap_cons, List.mem_append]; exact .inl q))
        | succ j => simp at p q; exact l2 j x a b' p q hR

theorem setAll (vs : List Value) : ∀ (k off : Nat) (cs : Array Value), off + k + vs.length ≤ cs.size →
    ((vs.zipIdx k).foldl (fun (cs : Array Value) (p : Value × Nat) => cs.setIfInBounds (off + p.2) p.1) cs) = (cs.toList.take (off + k) ++ vs ++ cs.toList.drop (off + k + vs.length)).toArray := by
  induction vs with
  | nil => intro k off cs _; simp
  | cons v vs ih =>
    intro k off cs hl
    simp only [List.length_cons] at hl
    rw [List.zipIdx_cons, List.foldl_cons, ih (k + 1) off _ (by simp; omega)]
    congr 1
    apply List.ext_getElem?
    intro j
    have e1 : (cs.setIfInBounds (off + k) v).toList = cs.toList.set (off + k) v := by simp
    simp only [e1]
    rw [splice_at _ _ _ (by simp; omega), splice_at _ _ _ (by simp; omega)]
    simp only [List.length_cons]
    by_cases h1 : j < off + k
    · rw [if_pos (by omega), if_pos h1, List.getElem?_set_ne (by omega)]
    · rw [if_neg h1]
      by_cases h2 : j = off + k
      · subst h2
        rw [if_pos (by omega), if_pos (by omega), List.getElem?_set_self (by simp; omega)]
        simp
      · rw [if_neg (by omega)]
        by_cases h3 : j < off + (k + 1) + vs.length
        · rw [if_pos h3, if_pos (by omega)]
          rw [show j - (off + k) = (j - (off + (k + 1))) + 1 from by omega, List.getElem?_cons_succ]
        · rw [if_neg h3, if_neg (by omega), List.getElem?_set_ne (by omega)]

theorem run_fill (place : Nat → Option (Nat × Nat)) (cs : Array Value) (i off sz : Nat) (v : Value) (rest : List (Nat × Value)) (hp : place i = some (off, sz)) (hv : v.cells.size = sz) (hl : off + sz ≤ cs.size) :
    Instr.fill place cs ((i, v) :: rest) = Instr.fill place (cs.toList.take off ++ v.cells.toList ++ cs.toList.drop (off + sz)).toArray rest := by
  simp only [Instr.fill, hp]
  rw [if_neg (by simp; omega)]
  congr 1
  have := setAll v.cells.toList 0 off cs (by simp; omega)
  simp only [Nat.add_zero, Array.length_toList, hv] at this
  rw [← this]
  rw [← Array.foldl_toList]
  simp

/-- A struct, or an array, out of its parts. -/
theorem fill_build (h : Inv Gl F own B w0 σ act w) (place : Nat → Option (Nat × Nat)) : ∀ (ps : List (Nat × Operand)) (qs : List (Nat × Nat × Opd)) (cs : Array Value) (as bs : List AV),
    ps.length = qs.length → (∀ (k : Nat) (p : Nat × Operand) (q : Nat × Nat × Opd), ps[k]? = some p → qs[k]? = some q → place p.1 = some (q.1, q.2.1) ∧ q.2.2 = cOpd p.2) →
    R F own (.agg cs) (.agg as) → buildC Gl σ as qs = some bs → ∃ ds, Instr.fill place cs (ps.map fun p => (p.1, act.eval p.2)) = some ds ∧ R F own (.agg ds) (.agg bs) := by
  intro ps
  induction ps with
  | nil =>
    intro qs cs as bs hl _ hR hb
    have : qs = [] := List.eq_nil_of_length_eq_zero (by simpa using hl.symm)
    subst this
    cases hb
    exact ⟨cs, rfl, hR⟩
  | cons p ps ih =>
    intro qs cs as bs hl hpq hR hb
    cases qs with
    | nil => simp at hl
    | cons q qs =>
      obtain ⟨off, sz, x⟩ := q
      obtain ⟨hp, hx⟩ := hpq 0 p (off, sz, x) rfl rfl
      simp only at hp hx
      subst hx
      simp only [buildC] at hb
      cases hc : stCells false (σ.val Gl (cOpd p.2)) with
      | none => rw [hc] at hb; cases hb
      | some vs =>
        rw [hc] at hb
        simp only at hb
        split at hb
        · rename_i hcond
          obtain ⟨l1, l2⟩ := hcond
          obtain ⟨q1, q2, q3⟩ := stCells_sound (h.ev p.2) hc
          obtain ⟨cs', e0, e1, e2, e3⟩ := hR.agg_inv
          obtain rfl : cs = cs' := by injection e0
          have hfit : off + (act.eval p.2).cells.toList.length ≤ cs.toList.length := by simp; omega
          simp only [List.map_cons]
          rw [run_fill place cs p.1 off sz _ _ hp (by omega) (by omega)]
          have hvl : (act.eval p.2).cells.toList.length = sz := by simp; omega
          refine ih qs _ _ bs (by simpa using hl) (fun k p' q' a b => hpq (k + 1) p' q' (by simpa using a) (by simpa using b)) ?_ hb
          have hat : ∀ j, (cs.toList.take off ++ (act.eval p.2).cells.toList ++ cs.toList.drop (off + sz)).toArray[j]? = if j < off then cs[j]? else if j < off + sz then (act.eval p.2).cells[j - off]? else cs[j]? := fun j => by
            rw [List.getElem?_toArray]
            have := splice_at cs.toList (act.eval p.2).cells.toList off hfit j
            rw [hvl] at this
            rw [this]
            simp
          have hat2 : ∀ j, (as.take off ++ vs ++ as.drop (off + sz))[j]? = if j < off then as[j]? else if j < off + sz then vs[j - off]? else as[j]? := fun j => by
            have := splice_at as vs off (by omega) j
            rw [l1] at this
            exact this
          refine .agg _ _ ?_ (fun j y hy => ?_) (fun j y a hy ha => ?_)
          · simp; omega
          · rw [hat] at hy
            split at hy
            · exact e2 j y hy
            · split at hy
              · have hlt : j - off < vs.length := by omega
                exact (q3 (j - off) y vs[j - off] hy (List.getElem?_eq_getElem hlt)).1
              · exact e2 j y hy
          · rw [hat] at hy
            rw [hat2] at ha
            split at hy
            · rename_i c1; rw [if_pos c1] at ha; exact e3 j y a hy ha
            · rename_i c1
              rw [if_neg c1] at ha
              split at hy
              · rename_i c2; rw [if_pos c2] at ha; exact (q3 _ y a hy ha).2.1.r
              · rename_i c2; rw [if_neg c2] at ha; exact e3 j y a hy ha
        · cases hb

theorem R_zero {z : List Value} (h1 : z.all (·.oneCell') = true) : R F own (.agg z.toArray) (.agg (z.map .v)) := by
  refine .agg _ _ (by simp) (fun j y hy => ?_) (fun j y a hy ha => ?_)
  · have : y ∈ z := List.mem_of_getElem? (by simpa using hy)
    exact List.all_eq_true.1 h1 y this
  · simp at hy ha
    obtain ⟨v, hv, rfl⟩ := ha
    rw [hy] at hv
    cases hv
    exact .pure (.v _)

theorem ok_build (h : Inv Gl F own B w0 σ act w) {o : Oper} {t : TypeId} {parts : Array (Nat × Operand)} (ho : o.op = .build t parts) {ti : TypeInfo} {z : Array Value} (hti : P.info? t = some ti) (hz : ti.zero = some (.agg z)) (h1 : z.toList.all (·.oneCell') = true)
    {place : Nat → Option (Nat × Nat)} (hrun : ∀ (ps : Array (Nat × Value)) ds, Instr.fill place z ps.toList = some ds → (Instr.build t ps).run P w = .ok (.agg ds) w)
    {qs : List (Nat × Nat × Opd)} (hl : parts.toList.length = qs.length) (hpq : ∀ (k : Nat) (p : Nat × Operand) (q : Nat × Nat × Opd), parts.toList[k]? = some p → qs[k]? = some q → place p.1 = some (q.1, q.2.1) ∧ q.2.2 = cOpd p.2)
    {p : Prop} {r : AV} {h' : List AObj} (hs : step Gl σ (.build z.toList qs) = some (p, r, h')) (hp : p) : Ok1 P Gl B w0 σ act w o r h' := by
  simp only [step] at hs
  cases hb : buildC Gl σ (z.toList.map .v) qs with
  | none => rw [hb] at hs; cases hs
  | some bs =>
    rw [hb] at hs
    obtain ⟨_, h2⟩ := Prod.mk.inj (Option.some.inj hs)
    obtain ⟨rfl, rfl⟩ := Prod.mk.inj h2
    have hz0 := R_zero (F := F) (own := own) h1
    simp only [Array.toArray_toList] at hz0
    obtain ⟨ds, hf, hR⟩ := fill_build h place parts.toList qs z _ bs hl hpq hz0 hb
    refine Ok1.mk h ?_ hR
    have := hrun (parts.map fun p => (p.1, act.eval p.2)) ds (by simpa using hf)
    unfold execOp
    simp only [ho]
    simp [this]

/-- A slice's literal. -/
theorem run_buildSlice {t et : TypeId} {ti : TypeInfo} (ht : P.underlying t = some (.slice et)) (hti : P.info? et = some ti) {z : Value} (hz : ti.zero = some z) (vs : List Value) (hv : ∀ v ∈ vs, v.cells.size = ti.size) (hzs : z.cells.size = ti.size) (h0 : 0 < ti.size) (hcap : vs.length * ti.size ≤ 2 ^ 24) (ps : Array (Nat × Value)) (hps : ps.toList = vs.zipIdx.map fun p => (p.2, p.1)) :
    (Instr.buildSlice t vs.length ps).run P w = .ok (.slice (some ⟨w.heap.size, 0, none⟩) vs.length vs.length) (w.alloc (.cells (vs.flatMap (·.cells.toList)).toArray et)) := by
  have fil : ∀ (vs : List Value) (k : Nat) (cs : Array Value), (∀ v ∈ vs, v.cells.size = ti.size) → (k + vs.length) * ti.size = cs.size →
      Instr.fill (fun i => some (i * ti.size, ti.size)) cs ((vs.zipIdx k).map fun p => (p.2, p.1)) = some ((cs.toList.take (k * ti.size)) ++ vs.flatMap (·.cells.toList)).toArray := by
    intro vs
    induction vs with
    | nil =>
      intro k cs _ hs
      simp only [List.length_nil, Nat.add_zero] at hs
      have : cs.toList.take cs.size = cs.toList := List.take_of_length_le (by simp)
      simp [Instr.fill, hs, this]
    | cons v vs ih =>
      intro k cs hv hs
      simp only [List.length_cons] at hs
      have hk1 : (k + 1) * ti.size ≤ cs.size := by rw [← hs]; exact Nat.mul_le_mul_right _ (by omega)
      have hk1' := hk1
      rw [Nat.add_mul, Nat.one_mul] at hk1'
      have hvs := hv v (by simp)
      rw [List.zipIdx_cons, List.map_cons, run_fill _ cs k (k * ti.size) ti.size v _ rfl hvs (by omega)]
      rw [ih (k + 1) _ (fun u hu => hv u (by simp [hu])) (by
        simp only [List.size_toArray, List.length_append, List.length_take, List.length_drop, Array.length_toList, hvs]
        rw [show k + 1 + vs.length = k + (vs.length + 1) from by omega, hs]; omega)]
      congr 2
      have e1 : (cs.toList.take (k * ti.size) ++ v.cells.toList ++ cs.toList.drop (k * ti.size + ti.size)).toArray.toList = cs.toList.take (k * ti.size) ++ v.cells.toList ++ cs.toList.drop (k * ti.size + ti.size) := by simp
      rw [e1, List.flatMap_cons, ← List.append_assoc]
      congr 1
      have hl : (cs.toList.take (k * ti.size) ++ v.cells.toList).length = (k + 1) * ti.size := by
        simp only [List.length_append, List.length_take, Array.length_toList, hvs]; rw [Nat.add_mul, Nat.one_mul]; omega
      rw [← hl]
      exact List.take_left
  have hf := fil vs 0 ((Array.range (vs.length * ti.size)).map (z.cells[· % z.cells.size]!)) hv (by simp)
  simp only [Nat.zero_mul, List.take_zero, List.nil_append] at hf
  unfold Instr.buildSlice
  have hn : ¬ (vs.length * ti.size > 2 ^ 24) := by omega
  simp only [Sem.run_bind, run_underlying ht, Result.andThen_ok, sizeOf, typeInfo, run_program, hti, Sem.run_pure, if_neg hn]
  by_cases hz0 : vs.length * ti.size = 0
  · have hvs0 : vs = [] := by
      rcases Nat.mul_eq_zero.1 hz0 with q | q
      · exact List.eq_nil_of_length_eq_zero q
      · omega
    subst hvs0
    have e0 : (Array.map (fun (x : Nat) => (default : Value)) (Array.range 0)) = #[] := Array.eq_empty_of_size_eq_zero (by simp)
    simp [Instr.fill, newRow, hps, e0]
  · simp only [if_neg hz0, Sem.run_bind, zeroValue, typeInfo, run_program, Result.andThen_ok, hti, Sem.run_pure, hz, hps]
    rw [hf]
    simp [newRow]

theorem flat_at (vs : List Value) (sz : Nat) (hv : ∀ v ∈ vs, v.cells.size = sz) : ∀ (i j : Nat) (v : Value), vs[i]? = some v → j < sz → (vs.flatMap (·.cells.toList))[i * sz + j]? = v.cells[j]? := by
  induction vs with
  | nil => intro i j v q; simp at q
  | cons u vs ih =>
    intro i j v q hj
    have hu := hv u (by simp)
    rw [List.flatMap_cons]
    cases i with
    | zero =>
      simp at q
      subst q
      rw [Nat.zero_mul, Nat.zero_add, List.getElem?_append_left (by simp; omega)]
      simp
    | succ i =>
      rw [List.getElem?_append_right (by rw [Array.length_toList, hu, Nat.add_mul, Nat.one_mul]; omega)]
      have := ih (fun x hx => hv x (by simp [hx])) i j v (by simpa using q) hj
      rw [← this]
      congr 1
      rw [Array.length_toList, hu, Nat.add_mul, Nat.one_mul]; omega
theorem flat_len (vs : List Value) (sz : Nat) (hv : ∀ v ∈ vs, v.cells.size = sz) : (vs.flatMap (·.cells.toList)).length = vs.length * sz := by
  induction vs with
  | nil => simp
  | cons u vs ih =>
    rw [List.flatMap_cons, List.length_append, ih (fun x hx => hv x (by simp [hx])), Array.length_toList, hv u (by simp), List.length_cons, Nat.add_mul, Nat.one_mul]; omega

/-- The parts of a literal. -/
theorem lit_parts (h : Inv Gl F own B w0 σ act w) {F' : Addr → Option Value} (hF : ∀ ad y, F ad = some y → F' ad = some y) {xs : List Operand} {sz : Nat} {ys : List AV} (hk : keepAL σ.h (xs.map fun x => σ.val Gl (cOpd x)) = some ys) (hall : ys.all (fun y => y.cells.length == sz) = true)
    (hkp : ∀ id ∈ (xs.map fun x => σ.val Gl (cOpd x)).flatMap rowsA, Kept F' own σ.h w id) :
    ys.length = xs.length ∧ (∀ v ∈ xs.map act.eval, v.cells.size = sz) ∧ (∀ (i : Nat) (e : AV), ys[i]? = some e → e.cells.length = sz) ∧
    (∀ (i j : Nat) (e a : AV), ys[i]? = some e → e.cells[j]? = some a → ∃ y, ((xs.map act.eval).flatMap (·.cells.toList))[i * sz + j]? = some y ∧ y.oneCell' = true ∧ RP F' y a) := by
  obtain ⟨l1, l2⟩ := keepAL_sound h hF _ ys hk hkp
  have hlen : ys.length = xs.length := by simpa using l1.symm
  have hcl : ∀ (i : Nat) (e : AV), ys[i]? = some e → e.cells.length = sz := fun i e q => by
    have := List.all_eq_true.1 hall e (List.mem_of_getElem? q)
    simpa using this
  have at_ : ∀ (i : Nat) (e : AV), ys[i]? = some e → ∃ x, xs[i]? = some x ∧ RP F' (act.eval x) e ∧ (act.eval x).cells.size = e.cells.length ∧ (∀ (j : Nat) (y : Value) (c : AV), (act.eval x).cells[j]? = some y → e.cells[j]? = some c → y.oneCell' = true ∧ RP F' y c) := fun i e q => by
    have hi : i < xs.length := by rw [← hlen]; exact (List.getElem?_eq_some_iff.1 q).1
    have := l2 i (act.eval xs[i]) (σ.val Gl (cOpd xs[i])) e (by simp [List.getElem?_eq_getElem hi]) q (h.ev xs[i])
    exact ⟨xs[i], List.getElem?_eq_getElem hi, this.1, this.2.1, this.2.2⟩
  have hv : ∀ v ∈ xs.map act.eval, v.cells.size = sz := fun v hv => by
    obtain ⟨i, hi, rfl⟩ := List.mem_iff_getElem.1 hv
    have hi' : i < xs.length := by simpa using hi
    have hi'' : i < ys.length := by omega
    obtain ⟨x, hx, _, h2, _⟩ := at_ i ys[i] (List.getElem?_eq_getElem hi'')
    rw [List.getElem?_eq_getElem hi'] at hx
    cases hx
    have := hcl i _ (List.getElem?_eq_getElem hi'')
    simp
    omega
  refine ⟨hlen, hv, hcl, fun i j e a q q' => ?_⟩
  obtain ⟨x, hx, _, h2, h3⟩ := at_ i e q
  have hj : j < sz := by rw [← hcl i e q]; exact (List.getElem?_eq_some_iff.1 q').1
  have hfl := flat_at (xs.map act.eval) sz hv i j (act.eval x) (by simp [hx]) hj
  have hj' : j < (act.eval x).cells.size := by rw [h2, hcl i e q]; exact hj
  obtain ⟨a1, a2⟩ := h3 j _ a (Array.getElem?_eq_getElem hj') q'
  exact ⟨(act.eval x).cells[j], by rw [hfl]; exact Array.getElem?_eq_getElem hj', a1, a2⟩

theorem ok_bslice (h : Inv Gl F own B w0 σ act w) {o : Oper} {t et : TypeId} {n : Nat} {parts : Array (Nat × Operand)} (ho : o.op = .buildSlice t n parts) {ti : TypeInfo} {z : Value} (ht : P.underlying t = some (.slice et)) (hti : P.info? et = some ti) (hz : ti.zero = some z) (hzs : z.cells.size = ti.size) (h0 : 0 < ti.size)
    {xs : List Operand} (hps : parts.toList = xs.zipIdx.map fun p => (p.2, p.1)) (hn : n = xs.length) (hcap : xs.length * ti.size ≤ 2 ^ 24)
    {p : Prop} {r : AV} {h' : List AObj} (hs : step Gl σ (.bslice et ti.size (xs.map cOpd)) = some (p, r, h')) (hp : p) : Ok1 P Gl B w0 σ act w o r h' := by
  simp only [step, List.map_map, Function.comp_def] at hs
  cases hk : keepAL σ.h (xs.map fun x => σ.val Gl (cOpd x)) with
  | none => rw [hk] at hs; cases hs
  | some ys =>
    rw [hk] at hs
    simp only at hs
    split at hs
    · rename_i hall
      obtain ⟨_, h2⟩ := Prod.mk.inj (Option.some.inj hs)
      obtain ⟨rfl, rfl⟩ := Prod.mk.inj h2
      obtain ⟨F', hF, hI, hkp⟩ := h.freezeL ((xs.map fun x => σ.val Gl (cOpd x)).flatMap rowsA)
      obtain ⟨q1, q2, q3, q4⟩ := lit_parts h hF hk hall hkp
      have run := run_buildSlice (P := P) (w := w) ht hti hz (xs.map act.eval) q2 hzs h0 (by simpa using hcap) (parts.map fun p => (p.1, act.eval p.2)) (by
        rw [Array.toList_map, hps, List.map_map, List.zipIdx_map, List.map_map]
        rfl)
      have hfl := flat_len (xs.map act.eval) ti.size q2
      have hnew := hI.new (((xs.map act.eval).flatMap (·.cells.toList)).toArray) ⟨et, ti.size, 0, true, ys⟩ ys.length h0 rfl (Nat.le_refl _) (by have := Nat.le_trans (Nat.le_mul_of_pos_right xs.length h0) hcap; simp only [maxLen]; omega) q3 (by simp only [List.size_toArray, hfl, List.length_map, q1]) (fun i j e a q q' => by
        obtain ⟨y, a1, a2, a3⟩ := q4 i j e a q q'
        exact ⟨y, by simpa using a1, a2, a3⟩)
      refine ⟨_, .slice (some ⟨w.heap.size, 0, none⟩) ys.length ys.length, _, F', _, ?_, .inl rfl, hnew, ?_⟩
      · unfold execOp
        simp only [ho]
        subst hn
        rw [List.length_map] at run
        simp only [Sem.run_bind, run, Result.andThen_ok, q1]
        rfl
      · have hlen : σ.h.length = own.length := h.hl.symm
        rw [hlen]
        exact .row _ _ _ _ _ _ _ own_last (by simp) ⟨_, _, rfl, Nat.le_refl _, fun _ => rfl⟩ (fun _ => ⟨rfl, by simp, fun _ => ⟨_, Nat.le_of_eq (Nat.zero_add _), by simp⟩⟩) (by first | omega | assumption | (simp; done) | (simp; omega) | (dsimp only; omega))
    · cases hs

theorem keep_sc {h : List AObj} : ∀ {l : List AV}, l.all sc1 = true → keepAL h l = some l ∧ l.flatMap rowsA = [] ∧ l.all (fun y => y.cells.length == 1) = true := by
  intro l
  induction l with
  | nil => intro _; exact ⟨rfl, rfl, rfl⟩
  | cons a l ih =>
    intro ha
    simp only [List.all_cons, Bool.and_eq_true] at ha
    obtain ⟨i1, i2, i3⟩ := ih ha.2
    cases a with
    | v x =>
      have hx : x.oneCell' = true := ha.1
      exact ⟨by simp [keepAL, keepA, keep1, hx, i1], by simp [rowsA, rows1, i2], by simp only [List.all_cons, i3, Bool.and_true]; rfl⟩
    | _ => cases ha.1
theorem step_bsc {ty : Nat} {xs : List Opd} {q : Prop × AV × List AObj} (hs : step Gl σ (.bsc ty xs) = some q) : step Gl σ (.bslice ty 1 xs) = some q := by
  simp only [step] at hs ⊢
  split at hs
  · rename_i hall
    cases hs
    obtain ⟨k1, k2, k3⟩ := keep_sc (h := σ.h) hall
    rw [k1]
    simp only
    rw [if_pos k3, k2, List.length_map]
    rfl
  · cases hs
theorem ok_bvec (h : Inv Gl F own B w0 σ act w) {o : Oper} {t et : TypeId} {n : Nat} {parts : Array (Nat × Operand)} (ho : o.op = .buildSlice t n parts) {ti : TypeInfo} {z : Value} (ht : P.underlying t = some (.slice et)) (hti : P.info? et = some ti) (hz : ti.zero = some z) (hzs : z.cells.size = ti.size) (h0 : ti.size = 1)
    {xs : List Operand} (hps : parts.toList = xs.zipIdx.map fun p => (p.2, p.1)) (hn : n = xs.length) (hcap : xs.length * ti.size ≤ 2 ^ 24)
    {p : Prop} {r : AV} {h' : List AObj} (hs : step Gl σ (.bvec et (xs.map cOpd)) = some (p, r, h')) (hp : p) : Ok1 P Gl B w0 σ act w o r h' := by
  simp only [step, List.map_map, Function.comp_def, List.length_map] at hs
  split at hs
  case isFalse => cases hs
  rename_i hall
  obtain ⟨_, h2⟩ := Prod.mk.inj (Option.some.inj hs)
  obtain ⟨rfl, rfl⟩ := Prod.mk.inj h2
  have at_ : ∀ x ∈ xs, (act.eval x).oneCell' = true ∧ RC F own false (act.eval x) (σ.val Gl (cOpd x)) ∧ (σ.val Gl (cOpd x)).cells = [σ.val Gl (cOpd x)] := fun x hx =>
    st1_sound (h.ev x) (List.all_eq_true.1 hall _ (List.mem_map.2 ⟨x, hx, rfl⟩))
  have one : ∀ v : Value, v.oneCell' = true → v.cells = #[v] := fun v hv => by cases v <;> simp_all [Value.cells, Value.oneCell']
  have q2 : ∀ v ∈ xs.map act.eval, v.cells.size = ti.size := fun v hv => by
    obtain ⟨x, hx, rfl⟩ := List.mem_map.1 hv
    rw [one _ (at_ x hx).1, h0]; rfl
  have run := run_buildSlice (P := P) (w := w) ht hti hz (xs.map act.eval) q2 hzs (by omega) (by simpa using hcap) (parts.map fun p => (p.1, act.eval p.2)) (by
    rw [Array.toList_map, hps, List.map_map, List.zipIdx_map, List.map_map]
    rfl)
  have hfl := flat_len (xs.map act.eval) ti.size q2
  rw [h0] at hfl
  have hat : ∀ (i : Nat) (e : AV), (xs.map fun x => σ.val Gl (cOpd x))[i]? = some e → ∃ x, xs[i]? = some x ∧ e = σ.val Gl (cOpd x) := fun i e q => by
    rw [List.getElem?_map] at q
    cases hx : xs[i]? with
    | none => rw [hx] at q; cases q
    | some x => rw [hx] at q; cases q; exact ⟨x, rfl, rfl⟩
  have hnew := h.new (((xs.map act.eval).flatMap (·.cells.toList)).toArray) ⟨et, 1, 0, false, xs.map fun x => σ.val Gl (cOpd x)⟩ xs.length (by simp) rfl (by simp) (by rw [h0] at hcap; simp only [maxLen]; omega) (fun i e q => by
      obtain ⟨x, hx, rfl⟩ := hat i e q
      rw [(at_ x (List.mem_of_getElem? hx)).2.2]; rfl) (by simp only [List.size_toArray, hfl, List.length_map]) (fun i j e a q q' => by
      obtain ⟨x, hx, rfl⟩ := hat i e q
      obtain ⟨a1, a2, a3⟩ := at_ x (List.mem_of_getElem? hx)
      rw [a3] at q'
      match j, q' with
      | 0, q' =>
        simp at q'
        subst q'
        refine ⟨act.eval x, ?_, a1, a2⟩
        have := flat_at (xs.map act.eval) ti.size q2 i 0 (act.eval x) (by simp [hx]) (by omega)
        rw [h0] at this
        rw [List.getElem?_toArray, this, one _ a1]; rfl
      | j + 1, q' => simp at q')
  refine ⟨_, .slice (some ⟨w.heap.size, 0, none⟩) xs.length xs.length, _, F, _, ?_, .inl rfl, hnew, ?_⟩
  · unfold execOp
    simp only [ho]
    subst hn
    rw [List.length_map] at run
    simp only [Sem.run_bind, run, Result.andThen_ok]
    rfl
  · have hlen : σ.h.length = own.length := h.hl.symm
    rw [hlen]
    exact .row _ _ _ _ _ _ _ own_last (by simp) ⟨_, _, rfl, Nat.le_refl _, fun _ => rfl⟩ (fun _ => ⟨rfl, by simp, fun _ => ⟨_, Nat.le_of_eq (Nat.zero_add _), by simp⟩⟩) (by first | omega | assumption | (simp; done) | (simp; omega) | (dsimp only; omega))

open Classical in
theorem ok_blist (h : Inv Gl F own B w0 σ act w) {o : Oper} {t et : TypeId} {n : Nat} {parts : Array (Nat × Operand)} (ho : o.op = .buildSlice t n parts) {ti : TypeInfo} {z : Value} (ht : P.underlying t = some (.slice et)) (hti : P.info? et = some ti) (hz : ti.zero = some z) (hzs : z.cells.size = ti.size) (h0 : 0 < ti.size)
    {xs : List Operand} (hps : parts.toList = xs.zipIdx.map fun p => (p.2, p.1)) (hn : n = xs.length) (hcap : xs.length * ti.size ≤ 2 ^ 24)
    {p : Prop} {r : AV} {h' : List AObj} (hs : step Gl σ (.blist et ti.size (xs.map cOpd)) = some (p, r, h')) (hp : p) : Ok1 P Gl B w0 σ act w o r h' := by
  simp only [step, List.map_map, Function.comp_def] at hs
  cases hk : keepAL σ.h (xs.map fun x => σ.val Gl (cOpd x)) with
  | none => rw [hk] at hs; cases hs
  | some ys =>
    rw [hk] at hs
    simp only at hs
    split at hs
    · rename_i hall
      rw [Bool.and_eq_true] at hall
      obtain ⟨_, h2⟩ := Prod.mk.inj (Option.some.inj hs)
      obtain ⟨rfl, rfl⟩ := Prod.mk.inj h2
      have hno : ∀ id, id ∉ (xs.map fun x => σ.val Gl (cOpd x)).flatMap rowsA := fun id q => by
        obtain ⟨a, ha, hid⟩ := List.mem_flatMap.1 q
        have := List.all_eq_true.1 hall.2 a ha
        rw [List.isEmpty_iff.1 this] at hid
        simp at hid
      obtain ⟨q1, q2, q3, q4⟩ := lit_parts h (fun _ _ q => q) hk hall.1 (fun id q => absurd q (hno id))
      have run := run_buildSlice (P := P) (w := w) ht hti hz (xs.map act.eval) q2 hzs h0 (by simpa using hcap) (parts.map fun p => (p.1, act.eval p.2)) (by
        rw [Array.toList_map, hps, List.map_map, List.zipIdx_map, List.map_map]
        rfl)
      generalize hcs : (xs.map act.eval).flatMap (·.cells.toList) = cs at *
      let F' : Addr → Option Value := fun ad => if ad.block = w.heap.size ∧ ad.spot = none then cs[ad.off]? else F ad
      have hF : ∀ ad y, F ad = some y → F' ad = some y := fun ad y q => by
        show (if _ then _ else _) = _
        rw [if_neg (fun c => by have := h.F_lt q; omega)]
        exact q
      have hnew := heap_alloc_new w (.cells cs.toArray et)
      refine ⟨_, .slice (some ⟨w.heap.size, 0, none⟩) ys.length ys.length, w.alloc (.cells cs.toArray et), F', own, ?_, .inl rfl, ?_, ?_⟩
      · unfold execOp
        simp only [ho]
        subst hn
        rw [List.length_map] at run
        simp only [Sem.run_bind, run, Result.andThen_ok, q1]
        rfl
      · refine h.turn hF (Le.refl _) (fun a x q => ?_) h.hl (fun k f o' p q => ?_) h.inj (h.below.alloc (Nat.le_trans h.room h.below.size) _) h.base (fun ad y q => ?_) (hpw := fun g hg _ => Below.heap_alloc _ _ _ hg) (hpF := fun g j y q => by
          have q' : (if g = w.heap.size ∧ (none : Option _) = none then cs[j]? else F ⟨g, j, none⟩) = some y := q
          split at q'
          · rename_i c; exact .inr (.inr (by omega))
          · exact .inl q')
        · have q' : (if _ then cs[a.off]? else F a) = some x := q
          split at q'
          · rename_i c
            obtain ⟨b, off, spot⟩ := a
            simp only at c q'
            obtain ⟨rfl, rfl⟩ := c
            rw [cell_of_row _ _ _ _ _ _ hnew]
            simpa using q'
          · rw [World.cell?_alloc_lt _ _ _ (h.F_lt q')]; exact h.sub a x q'
        · have hO := h.objs k f o' p q
          refine hO.mono hF (Le.refl _) (fun g hg => Below.heap_alloc _ _ _ (hO.lt hg)) (fun g j hg hj => ?_)
          show (if _ then _ else _) = _
          rw [if_neg (fun c => by have := hO.lt hg; simp only at c; omega)]
          exact hO.fz hg hj
        · have q' : (if _ then cs[ad.off]? else F ad) = some y := q
          split at q'
          · rename_i c; exact .inr (by rw [c.1]; exact Nat.le_trans h.room h.below.size)
          · exact .inl q'
      · refine .pure (.list ⟨w.heap.size, 0, none⟩ _ _ _ _ (fun k => (cs[k]?).getD undef) rfl (Nat.le_refl _) q3 (fun i j e a q q' => ?_) (fun i j e a q q' => ?_))
        · obtain ⟨y, a1, a2, a3⟩ := q4 i j e a q q'
          rw [Addr.add_lit, Nat.zero_add, a1]
          refine ⟨?_, a2⟩
          show (if _ then _ else _) = _
          rw [if_pos ⟨rfl, rfl⟩]; exact a1
        · obtain ⟨y, a1, a2, a3⟩ := q4 i j e a q q'
          rw [a1]
          exact a3.mono hF
    · cases hs
theorem ok_store (h : Inv Gl F own B w0 σ act w) {o : Oper} {t : TypeId} {x y : Operand} (ho : o.op = .store t x y) {ag : Bool} {sz : Nat} (ha : agT P t = some (ag, sz)) (h0 : 0 < sz)
    {p : Prop} {r : AV} {h' : List AObj} (hs : step Gl σ (.store sz (cOpd x) (cOpd y)) = some (p, r, h')) (hp : p) : Ok1 P Gl B w0 σ act w o r h' := by
  have he := h.ev x
  have hy := h.ev y
  simp only [step] at hs
  split at hs
  · rename_i id G i off hv
    rw [hv] at he
    obtain ⟨e, he1, hG, hst, hx⟩ := he.ptr_inv
    obtain ⟨ob, hob, hO⟩ := h.own_obj he1
    have hO := hO.of_e (he.ptr_sz he1)
    rw [hob] at hs
    simp only at hs
    split at hs
    · rename_i hlen
      cases hc : stCells ob.pr (σ.val Gl (cOpd y)) with
      | some cs =>
        rw [hc] at hs
        simp only at hs
        split at hs
        · rename_i hcl
          obtain ⟨rfl, h2⟩ := Prod.mk.inj (Option.some.inj hs)
          obtain ⟨rfl, rfl⟩ := Prod.mk.inj h2
          exact store_core h ho ha h0 he hy hob hlen hc hcl hp
        · cases hs
      | none =>
        rw [hc] at hs
        simp only at hs
        cases hk : keepA σ.h (σ.val Gl (cOpd y)) with
        | none => rw [hk] at hs; simp only at hs; cases hs
        | some b =>
          rw [hk] at hs
          obtain ⟨F', hF, hI, hkp⟩ := h.freezeL (rowsA (σ.val Gl (cOpd y)))
          obtain ⟨q1, _, _⟩ := keepA_sound h hF hy hk hkp
          obtain ⟨f, f1, f2⟩ := freeze_get σ.h (rowsA (σ.val Gl (cOpd y))) id
          rw [hob] at f2
          simp only [Option.map_some] at f2
          rw [f2] at hs
          simp only at hs
          cases hc2 : stCells (f ob).pr b with
          | none => rw [hc2] at hs; cases hs
          | some cs =>
            rw [hc2] at hs
            simp only at hs
            split at hs
            · rename_i hcl
              obtain ⟨rfl, h2⟩ := Prod.mk.inj (Option.some.inj hs)
              obtain ⟨rfl, rfl⟩ := Prod.mk.inj h2
              exact store_core hI ho ha h0 (he.mono hF (Le.refl _)) (.pure q1) f2 (by rw [(f1 ob).1]; exact hlen) hc2 hcl hp
            · cases hs
    · cases hs
  · cases hs
end
end Abs
end Go.Proofs.YtnhgeocdffhkjaaDoor
