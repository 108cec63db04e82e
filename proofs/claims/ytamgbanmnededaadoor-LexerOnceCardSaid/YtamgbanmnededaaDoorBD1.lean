/- strings.Builder's helpers as the typed machine takes them: contracts over the caller's own heap. -/
import Derived.Test.YtamgbanmnededaaDoorBD0
import Derived.Test.YtamgbanmnededaaDoorXJ
namespace Go.Proofs.YtamgbanmnededaaDoor
namespace Abs
open Go.RowKit
set_option linter.unusedVariables false
set_option linter.unusedSimpArgs false
def shOb (tB : Nat) (cs : List SC) (fz : Bool) : List SO := [.box tB (.me 0 :: .row 1 :: cs), .row 5 (.int .u8) fz]
def shIn (tB : Nat) (cs : List SC) : Sh := ⟨1, [], [(0, .ptr 0 0 0)], shOb tB cs false⟩
def shCp (tB : Nat) (cs : List SC) : Sh := ⟨0, [], [], shOb tB cs false⟩
def shSt (tB : Nat) (cs : List SC) : Sh := ⟨1, [(0, .str)], [], shOb tB cs true⟩
def bytesX (cs : List SC) (x : Ty.denL (SC.tys cs [.list (.int .u8)])) : List Int := (embC cs [.list (.int .u8)] x).2.1
def iCopy (tB : Nat) (cs : List SC) : HI := ⟨53, shIn tB cs, shCp tB cs, fun x => some x⟩
def iStr (tB : Nat) (cs : List SC) : HI := ⟨38, shIn tB cs, shSt tB cs, fun x => some (bsI (bytesX cs x), x)⟩
section
variable {P : Program} {Gl : Nat → Option (List AV)} {F : Addr → Option Value} {own : List Ent} {B : Nat} {w0 : W0} {σ : St} {act : Act} {w : World}
/-- A row's bytes are shared with a string. -/
theorem Inv.shut (h : Inv Gl F own B w0 σ act w) {w' : World} {id : Nat} {e : Ent} {o : AObj} {g : Nat} (he : own[id]? = some e) (ho : σ.h[id]? = some o) (hge : e.g = some g) (hfz : o.fz = o.es.length) (h0 : 0 < o.es.length) (h1 : w'.os = w.os) (h2 : w'.tape = w.tape) (h3 : w'.output = w.output) (hoth : ∀ k, k ≠ g → w'.heap[k]? = w.heap[k]?)
    (hg : ∃ cs ty fr fr', w.heap[g]? = some (.cells cs ty fr) ∧ w'.heap[g]? = some (.cells cs ty fr') ∧ w.heap.size = w'.heap.size) : Inv Gl F own B w0 σ act w' := by
  obtain ⟨cs, ty, fr, fr', e1, e2, e4⟩ := hg
  have hB : B ≤ g := h.base id e g he hge
  have hc : ∀ a, w'.cell? a = w.cell? a := fun a => by
    unfold World.cell?
    by_cases q : a.block = g
    · rw [q, e1, e2]
    · rw [hoth _ q]
  refine h.turn (h' := σ.h) (fun _ _ q => q) (Le.refl _) (fun a x q => (hc a).trans (h.sub a x q)) h.hl (fun id2 e' o' p q => ?_) h.inj ?_ h.base
  · have k := h.objs id2 e' o' p q
    obtain ⟨k1, k2, k3, k4, k5, k6, k7, k8⟩ := k
    refine ⟨k1, k2, k3, k4, k5, k6, k7, ?_⟩
    cases hge2 : e'.g with
    | none => rw [hge2] at k8; exact k8
    | some g' =>
      rw [hge2] at k8
      obtain ⟨cs', ⟨fr1, a1, af⟩, a2, a3, a4⟩ := k8
      by_cases hgg : g' = g
      · subst hgg
        rw [e1] at a1; cases a1
        have hid := h.inj id2 id e' e g' p he hge2 hge
        subst hid
        have q : σ.h[id2]? = some o' := q
        rw [ho] at q; cases q
        exact ⟨cs, ⟨fr', e2, .inr ⟨hfz, h0⟩⟩, a2, a3, a4⟩
      · exact ⟨cs', ⟨fr1, by rw [hoth _ hgg]; exact a1, af⟩, a2, a3, a4⟩
  · exact ⟨h1.trans h.below.os, h2.trans h.below.tape, h3.trans h.below.output, by rw [← e4]; exact h.below.size, fun k hk => by rw [hoth k (by omega)]; exact h.below.block k hk⟩
/-- A run that leaves what was there as it was. -/
theorem Inv.beyond (h : Inv Gl F own B w0 σ act w) {w' : World} (hb : Below w.heap.size w w') : Inv Gl F own B w0 σ act w' :=
  h.call (fun _ _ q => q) (fun ad y q => by rw [World.cell?_of_block (w := w) (hb.block _ (h.F_lt q))]; exact h.sub ad y q) (fun _ _ q => .inl q) hb
end
theorem embC_len : ∀ (cs : List SC) (r : List Ty) (x : Ty.denL (SC.tys cs r)), (embC cs r x).1.length = cs.length := by
  intro cs
  induction cs with
  | nil => intro r x; rfl
  | cons c cs ih =>
    intro r x
    cases c <;> exact congrArg Nat.succ (ih r _)
/-- What a call at a builder finds. -/
theorem found {Gl : Nat → Option (List AV)} {tB : Nat} {cs : List SC} {x : Ty.denL (SC.tys cs [.list (.int .u8)])} {ρ : List Nat} {av : List AV} {H : List AObj} (hS : Sim ρ (emb (shIn tB cs) x) ⟨av, H⟩)
    {F : Addr → Option Value} {own : List Ent} {B : Nat} {w0 : W0} {t : List AV} {act : Act} {w : World} {xs : Array Value} (hI : Inv Gl F own B w0 ⟨t, H⟩ act w) (hxs : RL F own xs av) :
    ∃ (O0 O1 : AObj) (E0 E1 : Ent) (g : Nat) (c0 c1 : AV) (rest : List AV) (cur : Array Value) (fr : Nat × Nat) (y0 y1 : Value),
      H[ρ.getD 0 0]? = some O0 ∧ H[ρ.getD 1 0]? = some O1 ∧ own[ρ.getD 0 0]? = some E0 ∧ own[ρ.getD 1 0]? = some E1 ∧ E0.g = some g ∧ xs = #[.pointer (some ⟨g, 0, none⟩)] ∧
      O0.ty = tB ∧ O0.sz = 2 + cs.length ∧ O0.pr = false ∧ O0.fz = 0 ∧ O0.es = [.agg (c0 :: c1 :: rest)] ∧ E0.sz = O0.sz ∧
      w.heap[g]? = some (.cells cur tB fr) ∧ NoFz fr cur.size ∧ cur.size = 2 + cs.length ∧ cur[0]? = some y0 ∧ cur[1]? = some y1 ∧
      ((c0 = .v (.pointer none) ∧ y0 = .pointer none) ∨ y0 = .pointer (some ⟨g, 0, none⟩)) ∧ R F own y1 c1 ∧ c1 = .row (ρ.getD 1 0) (bytesX cs x).length 1 0 (bytesX cs x).length ∧
      ObjR F own w E0 O0 ∧ ObjR F own w E1 O1 ∧ All2 (V1 ρ (emb (shIn tB cs) x).h) (.me 0 :: .row 1 :: (embC cs [.list (.int .u8)] x).1) (c0 :: c1 :: rest) := by
  have ht : All2 (VT ρ (emb (shIn tB cs) x).h) [.ptr 0 0 0] av := hS.t
  obtain ⟨a, av2, rfl, ha, ht2⟩ := ht.cons_left
  obtain rfl := ht2.nil_left
  obtain ⟨o, ho, rfl⟩ : ∃ o : XO, (emb (shIn tB cs) x).h[0]? = some o ∧ a = .ptr (ρ.getD 0 0) o.len 0 0 := ha
  obtain rfl : o = .box tB (.me 0 :: .row 1 :: (embC cs [.list (.int .u8)] x).1) := (Option.some.inj ho).symm
  obtain ⟨O0, hO0, b1, b2, b3, b4, e, hes, hc⟩ := hS.h.hr 0 _ rfl
  obtain ⟨O1, hO1, r1, r2, r3, r4, r5⟩ := hS.h.hr 1 (.row 5 (.int .u8) false (bytesX cs x)) rfl
  obtain ⟨E0, hE0, hR0⟩ := hI.obj_own hO0
  obtain ⟨E1, hE1, hR1⟩ := hI.obj_own hO1
  have hsz : xs.size = 1 := hxs.1
  have hx0 := hxs.2 0 xs[0] _ (Array.getElem?_eq_getElem (by omega)) rfl
  obtain ⟨e', he', hG, hst, hx⟩ := hx0.ptr_inv
  rw [hE0] at he'; cases he'
  have hlen0 : O0.es.length = 1 := by rw [hes]; rfl
  obtain ⟨g, hg, ex⟩ := hx (by rw [hR0.1, hlen0]; rfl)
  obtain ⟨cur, fr, hblk, hnf, hcsz, hcell⟩ := hR0.blk hg (.inl b4)
  have hcap : E0.cap = 1 := by rw [hR0.2.2.2.2.1.2 b3, hlen0]
  have hcl := hc.1
  obtain ⟨c0, cr, hcs0, hv0, hc2⟩ := hc.cons_left
  obtain ⟨c1, rest, rfl, hv1, hc3⟩ := hc2.cons_left
  have hagg : e = .agg (c0 :: c1 :: rest) := by
    cases e with
    | agg l => exact congrArg AV.agg hcs0
    | _ => simp [AV.cells] at hcs0
  subst hagg
  have hel : (embC cs [.list (.int .u8)] x).1.length = cs.length := by
    exact embC_len cs _ x
  have hsz0 : O0.sz = 2 + cs.length := by
    have b2' : O0.sz = (XV.me 0 :: XV.row 1 :: (embC cs [.list (.int .u8)] x).1).length := b2
    rw [b2', List.length_cons, List.length_cons, hel]; omega
  obtain ⟨y0, d1, _, d3⟩ := hcell 0 0 _ c0 (by rw [hes]; rfl) rfl
  obtain ⟨y1, f1, _, f3⟩ := hcell 0 1 _ c1 (by rw [hes]; rfl) rfl
  simp only [Nat.zero_mul, Nat.zero_add] at d1 f1
  have d3 := d3.r
  refine ⟨O0, O1, E0, E1, g, c0, c1, rest, cur, fr, y0, y1, hO0, hO1, hE0, hE1, hg, ?_, b1, hsz0, b3, b4, hes, hR0.2.1, by rw [← b1]; exact hblk, hnf, by rw [hcsz, hcap, hsz0]; omega, d1, f1, ?_, f3.r, ?_, hR0, hR1, .cons hv0 (.cons hv1 hc3)⟩
  · apply Array.ext
    · rw [hsz]; rfl
    · intro i h1 h2
      have : i = 0 := by omega
      subst this
      rw [ex]; simp
  · rcases hv0 with rfl | ⟨o, ho2, rfl⟩
    · exact .inl ⟨rfl, d3.v_inv⟩
    · obtain rfl : o = .box tB (.me 0 :: .row 1 :: (embC cs [.list (.int .u8)] x).1) := (Option.some.inj ho2).symm
      obtain ⟨e2, he2, _, _, hx2⟩ := d3.ptr_inv
      rw [hE0] at he2; cases he2
      obtain ⟨g2, hg2, ey⟩ := hx2 (by rw [hR0.1, hlen0]; rfl)
      rw [hg] at hg2; cases hg2
      refine .inr ?_
      rw [ey]; simp
  · obtain ⟨ty, T, fz, es, he1, rfl⟩ := hv1
    have q := Option.some.inj (show some (XO.row 5 (.int .u8) false (bytesX cs x)) = some (.row ty T fz es) from he1)
    cases q
    rfl
theorem okhCopy {GX : GXT} (tB : Nat) (cs : List SC) (hl : liesAt Tryd.prog Tryd.prog.depth tB ((2 + cs.length) / Tryd.prog.cellsOf tB) 0 58 1 = true) : HOk Tryd.prog (gx GX) (iCopy tB cs) := by
  refine ⟨by kernel_rfl, fun x y hy H ρ av hS => ?_⟩
  obtain rfl : x = y := Option.some.inj hy
  intro F own B w0 t act w xs hI hxs
  obtain ⟨O0, O1, E0, E1, g, c0, c1, rest, cur, fr, y0, y1, hO0, hO1, hE0, hE1, hg, rfl, b1, b2, b3, b4, hes, hsz, hblk, hnf, hcs, d0, d1, hy0, hR1, hc1, hr0, hr1, hall⟩ := found hS hI hxs
  have hcell0 : w.cell? ⟨g, 0, none⟩ = some y0 := by rw [Lib.cell_of_heap hblk]; exact d0
  rcases hy0 with ⟨rfl, rfl⟩ | rfl
  · refine (copy_fresh g tB (2 + cs.length) w hcell0 (by simp [World.shape?, hblk, hcs]) (by omega) ?_ hl).mono ?_
    · have := hnf 0 (by omega)
      simp only [World.frozen?, hblk]
      simp
      intro q
      by_cases r : 0 < fr.2
      · exact absurd ⟨by omega, r⟩ this
      · omega
    · rintro e w' ⟨rfl, rfl⟩
      rw [setCell_eq_setRow w g 0 cur tB fr _ hblk]
      have hsz0 : cur.size = E0.cap * O0.sz := by
        have hcap : E0.cap = 1 := by rw [hr0.2.2.2.2.1.2 b3, hes]; rfl
        rw [hcs, hcap, b2]; omega
      have hI2 := hI.set (ob' := { O0 with es := [.agg (.ptr (ρ.getD 0 0) 1 0 0 :: c1 :: rest)] }) hE0 hO0 hg (cur.setIfInBounds 0 (.pointer (some ⟨g, 0, none⟩))) rfl rfl rfl rfl (by rw [hes]; rfl) (fun i z hz => by
          have hz : ([AV.agg (.ptr (ρ.getD 0 0) 1 0 0 :: c1 :: rest)] : List AV)[i]? = some z := hz
          match i, hz with
          | 0, hz =>
            cases hz
            have := hr0.2.2.2.2.2.2.1 0 _ (by rw [hes]; rfl)
            exact this)
        (by rw [Array.size_setIfInBounds]; exact hsz0) (fun j z hj hz => by rw [b4] at hj; omega) (fun i j z a hz hb => by
          have hz : ([AV.agg (.ptr (ρ.getD 0 0) 1 0 0 :: c1 :: rest)] : List AV)[i]? = some z := hz
          match i, hz with
          | 0, hz =>
            cases hz
            obtain ⟨cur2, fr2, q1, q2, q3, hcell⟩ := hr0.blk hg (.inl b4)
            rw [b1, hblk] at q1
            obtain ⟨rfl, _⟩ : cur = cur2 ∧ fr = fr2 := by cases q1; exact ⟨rfl, rfl⟩
            cases j with
            | zero =>
              cases hb
              refine ⟨.pointer (some ⟨g, 0, none⟩), ?_, rfl, ?_⟩
              · rw [Nat.zero_mul, Array.getElem?_setIfInBounds, if_pos rfl, if_pos (by omega)]
              · unfold RC
                rw [b3, if_neg (by simp)]
                exact .ptr _ _ _ _ _ E0 hE0 (by rw [hr0.1, hes]; exact Nat.le_refl _) ⟨_, rfl⟩ (fun _ => ⟨g, hg, by simp⟩)
            | succ j =>
              obtain ⟨v, a1, a2, a3⟩ := hcell 0 (j + 1) (.agg (.v (.pointer none) :: c1 :: rest)) a (by rw [hes]; rfl) hb
              refine ⟨v, ?_, a2, a3⟩
              rw [Array.getElem?_setIfInBounds, if_neg (by omega)]; exact a1)
      have he : (emb (shIn tB cs) x).h[0]? = some (.box tB (.me 0 :: .row 1 :: (embC cs [.list (.int .u8)] x).1)) := rfl
      have hlen : (XO.box tB (.me 0 :: .row 1 :: (embC cs [.list (.int .u8)] x).1)).len = 1 := rfl
      have u := Upd.set hS.h (o' := .box tB (.me 0 :: .row 1 :: (embC cs [.list (.int .u8)] x).1)) (O' := { O0 with es := [.agg (.ptr (ρ.getD 0 0) 1 0 0 :: c1 :: rest)] }) he (same2.refl _) (by
        obtain ⟨O0', hO0', p1, p2, p3, p4, _⟩ := hS.h.hr 0 _ he
        rw [hO0] at hO0'; cases hO0'
        exact ⟨p1, p2, p3, p4, _, rfl, .cons (.inr ⟨_, he, rfl⟩) hall.tail⟩)
      refine ⟨.tuple #[], .tup [], _, F, own, rfl, hI2, .pure (.tup #[] [] rfl (fun j x a p _ => by simp at p)), ρ, [], ⟨.nil, ?_⟩, rfl, (Frm.refl H ρ).upd hS.h.rl u⟩
      exact u.hs
  · refine (copy_used g w hcell0).mono ?_
    rintro e w' ⟨rfl, rfl⟩
    exact ⟨.tuple #[], .tup [], H, F, own, rfl, hI, .pure (.tup #[] [] rfl (fun j x a p _ => by simp at p)), ρ, [], ⟨.nil, hS.h⟩, rfl, Frm.refl H ρ⟩
end Abs
end Go.Proofs.YtamgbanmnededaaDoor
