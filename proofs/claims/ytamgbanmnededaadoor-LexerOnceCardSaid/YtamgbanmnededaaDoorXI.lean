/- The typed machine: functions by their runs. -/
import Derived.Test.YtamgbanmnededaaDoorXH
namespace Go.Proofs.YtamgbanmnededaaDoor
namespace Abs
open Go.RowKit
set_option linter.unusedVariables false
set_option linter.unusedSimpArgs false
section
variable {P : Program} {c : Cfg} {ρ : List Nat} {X : XS} {σ : St}
theorem xresL_ok (hS : Sim ρ X σ) : ∀ (rv : List RV) (vs : List XV), xresL c X rv = some vs → ∃ p l, resL (gx c.GX) σ rv = some (p, l) ∧ p ∧ All2 (VT ρ X.h) vs l := by
  intro rv
  induction rv with
  | nil => intro vs h; cases h; exact ⟨True, [], rfl, trivial, .nil⟩
  | cons v rv ih =>
    intro vs h
    cases v with
    | t i =>
      simp only [xresL] at h
      split at h
      · rename_i l hl
        cases h
        obtain ⟨p, m, h1, h2, h3⟩ := ih l hl
        exact ⟨p, _, by simp only [resL, h1, Option.map_some], h2, .cons (vt_get hS.t i) h3⟩
      · cases h
    | c i sz ag =>
      simp only [xresL] at h
      split at h
      · rename_i v1 kl h' l hst hl
        cases h
        obtain ⟨p, m, h1, h2, h3⟩ := ih l hl
        obtain ⟨q, a, H', ρ', tch, e1, e2, e3, e4, e5⟩ := xstep_sim (.load sz ag (.t i)) hS.h (rdG_ok hS) _ _ _ _ hst rfl
        obtain ⟨c1, c2⟩ := xstep_cls (i := .load sz ag (.t i)) (by simp [I.cls]) hst
        subst c1 c2
        have hρ := ap_same e3 hS.h.rl rfl
        subst hρ
        exact ⟨q ∧ p, a :: m, by simp only [resL, e1, h1], ⟨e2, h2⟩, .cons e4 h3⟩
      · cases h
theorem listX_len : ∀ (ps : List Ty) (x : Ty.denL ps), (listX ps x).length = ps.length := by
  intro ps
  induction ps with
  | nil => intro x; rfl
  | cons T ps ih => intro x; simp only [listX, List.length_cons, ih]
theorem encs_len : ∀ (ps : List Ty) (x : Ty.denL ps), (encs ps x).length = ps.length := by
  intro ps
  induction ps with
  | nil => intro x; rfl
  | cons T ps ih => intro x; simp only [encs, List.length_cons, ih]
theorem any_rep (ρ : List Nat) (h : List XO) (n : Nat) : All2 (VT ρ h) (List.replicate n .any) (List.replicate n AV.any) :=
  ⟨by simp, fun i x a p q => by
    have := List.eq_of_mem_replicate (List.mem_of_getElem? p)
    subst this; trivial⟩
theorem resA_tup {Gl : Nat → Option (List AV)} {rv : List RV} {p : Prop} {l : List AV} (e1 : resL Gl σ rv = some (p, l)) (hone : ¬ ∃ a, l = [a]) : resA Gl σ rv = some (p, .tup l) := by
  unfold resA
  rw [e1]
  match l, hone with
  | [], _ => rfl
  | [a], h => exact absurd ⟨a, rfl⟩ h
  | a :: b :: l, _ => rfl
theorem ends_ok {rv : List RV} {rs : List Ty} {y : Ty.denL rs} {e : Exit} (hS : Sim ρ X σ) (hK : xend c rv rs e X = some y) : Ends (gx c.GX) rv (oneT (encs rs y)) e σ := by
  have key : ∀ vs, xresL c X rv = some vs → argsD X.h rs vs = some y → ∃ p a b, resA (gx c.GX) σ rv = some (p, a) ∧ p ∧ keepT σ.h a = some b ∧ Wk b (oneT (encs rs y)) := by
    intro vs h1 h2
    obtain ⟨p, l, e1, e2, e3⟩ := xresL_ok hS rv vs h1
    obtain ⟨bs, k1, k2, k3, k4⟩ := argsD_ok hS.h rs vs y l h2 e3
    by_cases hone : ∃ a, l = [a]
    · obtain ⟨a, rfl⟩ := hone
      obtain ⟨v, vs', rfl, hv, hvs⟩ := e3.cons_right
      have := hvs.nil_right
      subst this
      simp only [keepAL] at k1
      split at k1
      · rename_i b l' hb hl'
        cases hl'
        cases k1
        obtain ⟨en, r, he, hw, ht⟩ := k2.cons_left
        have hr := ht.nil_left
        subst hr
        refine ⟨p, a, b, by simp only [resA, e1], e2, ?_, ?_⟩
        · have hnt : ∀ us, a ≠ .tup us := fun us q => by
            subst q
            simp [keepA, keep1] at hb
          cases a <;> first | exact hb | exact absurd rfl (hnt _)
        · rw [he]; exact hw.wk
      · cases k1
    · refine ⟨p, .tup l, .tup bs, ?_, e2, by simp only [keepT, k1, Option.map_some], ?_⟩
      · exact resA_tup e1 hone
      · have hlen : l.length = (encs rs y).length := by
          have h3 := k2.1
          have : ∀ {as bs : List AV}, keepAL σ.h as = some bs → as.length = bs.length := by
            intro as
            induction as with
            | nil => intro bs q; cases q; rfl
            | cons a as ih =>
              intro bs q
              simp only [keepAL] at q
              split at q
              · rename_i b m _ hm; cases q; simp [ih hm]
              · cases q
          rw [this k1, h3]
        have hot : oneT (encs rs y) = .tup (encs rs y) := by
          unfold oneT
          split
          · rename_i a ha
            exfalso
            rw [ha] at hlen
            match l, hlen with
            | [x], _ => exact hone ⟨x, rfl⟩
          · rfl
        rw [hot]
        exact Wk.tup k2.1 fun j a b p q => (k2.2 j a b p q).wk
  unfold xend at hK
  cases e with
  | normal =>
    simp only at hK
    split at hK
    · rename_i vs h1; exact ⟨trivial, key vs h1 hK⟩
    · cases hK
  | ret =>
    simp only at hK
    split at hK
    · rename_i vs h1; exact ⟨trivial, key vs h1 hK⟩
    · cases hK
  | _ => cases hK
/-- A function of native arguments does as its run says. -/
theorem pok (hm : P.follows .mixedOrders = true) (hc : CfgOk P c) {f n : Nat} {xc : XC} {rv : List RV} {ps rs : List Ty} {run : Ty.denL ps → Option (Ty.denL rs)} (hf : Fn P f n xc.er rv) (hrun : ∀ x, xfun c xc n rv ps rs x = run x) : POk P (gx c.GX) ⟨f, ps, rs, run⟩ := by
  refine ⟨hf.callable, ?_⟩
  intro x y hy
  have hy : run x = some y := hy
  rw [← hrun] at hy
  obtain ⟨fn, hl, h1, h2, h3, rfl, _⟩ := hf
  cases hb : fn.body with
  | none => rw [hb] at h2; cases h2
  | some code =>
    rw [hb] at h2
    refine Pure.ofW h1 hb h3 ?_
    intro F own B w0 act w hN hI
    have hS : Sim [] ⟨listX ps x ++ List.replicate (fn.ntmps - ps.length) .any, []⟩ ⟨encs ps x ++ List.replicate (fn.ntmps - (encs ps x).length) .any, []⟩ := by
      refine ⟨?_, rfl, List.nodup_nil, fun i o q => by simp at q⟩
      rw [encs_len]
      exact ((listX_ok ps x).mono fun _ _ q => VT.ofA q).append (any_rep _ _ _)
    refine wp_mono (xwp_sound (H0 := []) (ρ0 := []) hc hm hN (Nat.le_of_eq hN) (fun j O q => by simp at q) rfl code xc h2 _ (xend c rv rs) y _ [] _ F own act w hy hS (Frm.refl [] []) hI) ?_
    rintro e a1 w1 ⟨F1, own1, τ, hI1, ρ1, X1, hS1, hF1, hK⟩
    exact ⟨F1, own1, τ, hI1, ends_ok hS1 hK⟩
theorem emb_len {ρ : List Nat} {sh : Sh} {x : Ty.denL sh.tys} {as : List AV} {H : List AObj} (hS : Sim ρ (emb sh x) ⟨as, H⟩) : as.length = sh.n := by
  have h1 := hS.t.1
  rw [← h1]
  have hv : ∀ (vs : List (Nat × Ty)) (r : List Ty) (x : Ty.denL (varTys vs r)) (b : List XV), (embV vs r x b).1.length = b.length := by
    intro vs
    induction vs with
    | nil => intro r x b; rfl
    | cons p vs ih => intro r x b; obtain ⟨s, T⟩ := p; simp only [embV]; rw [ih]; simp
  have hr : ∀ (refs : List (Nat × SR)) (r : List Ty) (x : Ty.denL (refTys refs r)) (b : List XV), (embRf refs r x b).1.length = b.length := by
    intro refs
    induction refs with
    | nil => intro r x b; rfl
    | cons p refs ih =>
      intro r x b
      obtain ⟨s, sr⟩ := p
      cases sr with
      | row j => exact (ih r x _).trans (by simp)
      | ptr j i o => exact (ih r x _).trans (by simp)
      | nil => exact (ih r x _).trans (by simp)
      | agg cs => exact (ih r _ _).trans (by simp)
  refine (hr sh.refs (SO.tys sh.objs) _ _).trans ?_
  refine (hv sh.vars _ x _).trans ?_
  simp
/-- A function of memory of its caller's own does as its run says. -/
theorem hok (hm : P.follows .mixedOrders = true) (hc : CfgOk P c) {f n : Nat} {xc : XC} {rv : List RV} {pre : List Pre} {ish osh : Sh} {run : Ty.denL ish.tys → Option (Ty.denL osh.tys)} (hf : Fn P f n xc.er rv) (hrun : ∀ x, xfunH c xc n rv pre ish osh x = run x) : HOk P (gx c.GX) ⟨f, ish, osh, run⟩ := by
  refine ⟨hf.callable, ?_⟩
  intro x y hy H ρ as hS0
  have hS0 : Sim ρ (emb ish x) ⟨as, H⟩ := hS0
  have hy : run x = some y := hy
  rw [← hrun] at hy
  obtain ⟨fn, hl, h1, h2, h3, rfl, _⟩ := hf
  cases hb : fn.body with
  | none => rw [hb] at h2; cases h2
  | some code =>
    rw [hb] at h2
    refine PureH.ofW h1 hb h3 ?_
    intro F own B w0 act w hN hI
    have hlen := emb_len hS0
    have hS : Sim ρ ⟨(emb ish x).t ++ List.replicate (fn.ntmps - ish.n) .any, (emb ish x).h⟩ ⟨as ++ List.replicate (fn.ntmps - as.length) .any, H⟩ := by
      refine ⟨?_, hS0.h⟩
      rw [hlen]
      exact hS0.t.append (any_rep _ _ _)
    have hrl : ish.objs.length = ρ.length := by
      rw [hS0.h.rl]
      have := congrArg List.length (embO_kind ish.objs (embS ish x).2)
      simp only [List.length_map] at this
      exact this.symm
    refine wp_mono (xwp_sound (H0 := H) (ρ0 := ρ) hc hm hN (Nat.le_of_eq hN) hI.clH hrl code xc h2 _ _ y _ ρ _ F own act w hy hS (Frm.refl H ρ) hI) ?_
    rintro e a1 w1 ⟨F1, own1, τ, hI1, ρ1, X1, hS1, hF1, hK⟩
    obtain ⟨F2, own2, σ2, ρ2, hI2, hS2, hF2⟩ := pre_ok hrl (Nat.le_of_eq hN) hI.clH pre hI1 hS1 hF1
    simp only at hK
    split at hK
    case h_2 => cases hK
    rename_i vs he hvs
    obtain ⟨p, l, e1, e2, e3⟩ := xresL_ok hS2 rv vs hvs
    have hext : ∃ foc, ext ish.objs.length osh ⟨vs, (preX ish.objs.length pre X1).h⟩ = some (foc, y) ∧ startsR ish.objs.length 0 foc = true ∧ vs.length = osh.n := by
      unfold extL at hK
      split at hK
      · rename_i foc x' hx'
        split at hK
        · rename_i hb'
          cases hK
          simp only [Bool.and_eq_true] at hb'
          exact ⟨foc, hx', hb'.1, beq_eq hb'.2⟩
        · cases hK
      · cases hK
    obtain ⟨foc, hx1, hx2, hx3⟩ := hext
    obtain ⟨q1, q2, q3, q4⟩ := ext_sim (X := ⟨vs, (preX ish.objs.length pre X1).h⟩) e3 hS2.h hx3 hx1
    have hfr := foc_frm hS2.h hF2 hrl hx2 q4 q2
    refine ⟨F2, own2, σ2, hI2, ?_, ?_⟩
    · cases e <;> first | trivial | cases he
    · by_cases hone : ∃ a, l = [a]
      · obtain ⟨a, rfl⟩ := hone
        exact ⟨p, a, by simp only [resA, e1], e2, _, [a], q1, rfl, hfr⟩
      · refine ⟨p, .tup l, resA_tup e1 hone, e2, _, l, q1, ?_, hfr⟩
        unfold oneT
        split
        · rename_i a; exact absurd ⟨_, rfl⟩ hone
        · rfl
theorem cfg_nil (tt : Nat → Option Ty) (GX : GXT) : CfgOk P ⟨tt, GX, [], []⟩ := ⟨by simp, by simp⟩
theorem cfg_p {tt : Nat → Option Ty} {GX : GXT} {p : PI} {pis : List PI} {his : List HI} (h : POk P (gx GX) p) (hc : CfgOk P ⟨tt, GX, pis, his⟩) : CfgOk P ⟨tt, GX, p :: pis, his⟩ := ⟨fun q hq => by
  rcases List.mem_cons.1 hq with rfl | hq
  · exact h
  · exact hc.pis q hq, hc.his⟩
theorem cfg_h {tt : Nat → Option Ty} {GX : GXT} {p : HI} {pis : List PI} {his : List HI} (h : HOk P (gx GX) p) (hc : CfgOk P ⟨tt, GX, pis, his⟩) : CfgOk P ⟨tt, GX, pis, p :: his⟩ := ⟨hc.pis, fun q hq => by
  rcases List.mem_cons.1 hq with rfl | hq
  · exact h
  · exact hc.his q hq⟩
end
end Abs
end Go.Proofs.YtamgbanmnededaaDoor
