/- A call that defers a recovering one. -/
import Derived.Test.YtnhgeocdffhkjaaDoorEX8
import Derived.Test.YtnhgeocdffhkjaaDoorProg
import Derived.Defers
import Derived.Recover
namespace Go.Proofs.YtnhgeocdffhkjaaDoor
namespace Abs
open Go.RowKit
set_option linter.unusedVariables false
set_option linter.unusedSimpArgs false
section
variable {P : Program} {Gl : Nat → Option (List AV)}
/-- What a function of frozen values answers. -/
def PureR (F : Addr → Option Value) (w : World) (res : AV) (e : Ending) (w' : World) : Prop :=
  ∃ v F', e = .returned v ∧ (∀ ad y, F ad = some y → F' ad = some y) ∧ (∀ ad y, F' ad = some y → w'.cell? ad = some y) ∧ (∀ ad y, F' ad = some y → F ad = some y ∨ w.heap.size ≤ ad.block) ∧ RP F' v res ∧ Below w.heap.size w w'
theorem pure_end {fn : Func} {rs : List RV} (hr : cRes P fn.results.toList = some rs) {F F1 : Addr → Option Value} {own1 : List Ent} {w w1 : World} {W0' : W0} (hw0 : W0'.w = w) (hF0 : W0'.F = F) {τ : St} {a1 : Act} (hI1 : Inv Gl F1 own1 w.heap.size W0' τ a1 w1) {l : List AV} (hl : resB Gl τ rs = some l) {res : AV} (hk : keepT τ.h (oneB l) = some res) :
    ∃ v, (Go.results fn a1.tmps).run P w1 = .ok v w1 ∧ PureR F w res (.returned v) w1 := by
  obtain ⟨p', e1, hp⟩ := resB_ok rs l hl
  obtain ⟨ys, hrun, hyl, hyR⟩ := results_sound hI1 fn.results.toList rs p' l hr e1 hp
  have hmapM : (fn.results.mapM (Abs.resF a1.tmps)).run P w1 = .ok ys.toArray w1 := by
    rw [Array.mapM_eq_mapM_toList]
    simp only [Sem.run_map, hrun, Result.andThen_ok]
  obtain ⟨F2, hF2, hI2, hkp⟩ := hI1.freezeL (List.range τ.h.length)
  have hkp' : ∀ id, Kept F2 own1 τ.h w1 id := fun id => by
    intro ob e' g hob
    exact hkp id (List.mem_range.2 (List.getElem?_eq_some_iff.1 hob).1) ob e' g hob
  have fin : ∀ v, R F1 own1 v (oneB l) → RP F2 v res := by
    intro v hR
    by_cases ha : ∃ vs, oneB l = .tup vs
    · obtain ⟨vs, ea⟩ := ha
      rw [ea] at hR hk
      have hk' : (keepAL τ.h vs).map AV.tup = some res := hk
      cases hq : keepAL τ.h vs with
      | none => rw [hq] at hk'; cases hk'
      | some ds =>
        rw [hq] at hk'; cases hk'
        obtain ⟨zs, rfl, z1, z2⟩ := hR.tup_inv
        obtain ⟨l1, l2⟩ := keepAL_sound hI1 hF2 vs ds hq (fun id _ => hkp' id)
        refine .tup zs ds (by omega) fun j x c p q => ?_
        have hj : j < vs.length := by rw [l1]; exact (List.getElem?_eq_some_iff.1 q).1
        exact (l2 j x vs[j] c (List.getElem?_eq_getElem hj) q (z2 j x _ p (List.getElem?_eq_getElem hj))).1
    · have hk' : keepA τ.h (oneB l) = some res := by
        revert hk ha
        generalize oneB l = a
        intro hk ha
        cases a <;> first | exact hk | exact absurd ⟨_, rfl⟩ ha
      exact (keepA_sound hI1 hF2 hR hk' (fun id _ => hkp' id)).1
  have done : ∀ v, R F1 own1 v (oneB l) → PureR F w res (.returned v) w1 := fun v hR =>
    ⟨v, F2, rfl, by rw [← hF0]; exact hI2.ext0, hI2.sub, fun ad y q => by rw [← hF0]; exact hI2.ext ad y q, fin v hR, by rw [← hw0]; rw [hw0]; have := hI2.below; rw [hw0] at this; exact this⟩
  match l, hyl, hyR, done with
  | [x], hyl, hyR, done =>
    have hy1 : ys.length = 1 := by simpa using hyl
    obtain ⟨y, rfl⟩ := List.length_eq_one_iff.1 hy1
    refine ⟨y, ?_, done y (hyR 0 y x rfl rfl)⟩
    rw [results_eq]
    simp only [Sem.run_bind, hmapM, Result.andThen_ok]
    rfl
  | [], hyl, hyR, done =>
    have hy0 : ys = [] := List.length_eq_zero_iff.1 hyl
    subst hy0
    refine ⟨.tuple #[], ?_, done _ (.tup _ _ rfl fun j x c p q => by simp at p)⟩
    rw [results_eq]
    simp only [Sem.run_bind, hmapM, Result.andThen_ok]
    rfl
  | x :: x' :: l', hyl, hyR, done =>
    refine ⟨.tuple ys.toArray, ?_, done _ (.tup _ _ (by simp [hyl]) fun j x c p q => hyR j x c (by simpa using p) q)⟩
    rw [results_eq]
    simp only [Sem.run_bind, hmapM, Result.andThen_ok]
    have hy1 : ¬ ys.toArray.size = 1 := fun q => by
      have : ys.length = 1 := by simpa using q
      simp only [List.length_cons] at hyl
      omega
    rw [dif_neg hy1]
    rfl
/-- A piece of code, then the rest. -/
theorem seq_run {hl : List Nat} {ex : Nat → C → St → List Nat → Option Out} (hx : ExOk P Gl hl ex) {N : Nat} {c : C} {σ τ : St} {U V : List Nat} (h : ex N c σ U = some (.nrm .normal τ V)) {x y : Code} (hc : cC P hl x = some c) {Q : Exit → Act → World → Prop} {F : Addr → Option Value} {own : List Ent} {B : Nat} {w0 : W0} {act : Act} {w : World} (hI : Inv Gl F own B w0 σ act w)
    (hy : ∀ F own act w, Inv Gl F own B w0 τ act w → y.wp P Q act w) : (x.seq y).wp P Q act w := by
  refine wp_seq (wp_mono ((hx _ _ _ _ _ h).2 x hc F own B w0 act w hI) ?_)
  rintro e a w' ⟨rfl, _, F1, own1, τ', hI1, rfl⟩
  exact hy F1 own1 a w' hI1
/-- More deferred calls. -/
def W0.withDf (w0 : W0) (df : List Deferred) : W0 := ⟨w0.w, w0.F, w0.N, w0.fr, w0.hfr, w0.pd, w0.pdn, df⟩
theorem Inv.withDf {F : Addr → Option Value} {own : List Ent} {B : Nat} {w0 : W0} {σ : St} {act : Act} {w : World} (h : Inv Gl F own B w0 σ act w) {t : Array Value} (ht : t = act.tmps) (df : List Deferred) : Inv Gl F own B (w0.withDf df) σ { tmps := t, defers := df } w := by
  subst ht
  exact { tl := h.tl, tr := h.tr, defers := rfl, sub := h.sub, hl := h.hl, objs := h.objs, inj := h.inj, below := h.below, base := h.base, gl := h.gl, gw := h.gw, room := h.room, ext := h.ext, ext0 := h.ext0, nl := h.nl, fr := h.fr, pd := h.pd }
/-- A world with more in it. -/
theorem Inv.more {F : Addr → Option Value} {own : List Ent} {B : Nat} {w0 : W0} {σ : St} {act : Act} {w w' : World} (h : Inv Gl F own B w0 σ act w) (hb : Below w.heap.size w w') : Inv Gl F own B w0 σ act w' :=
  h.call (F' := F) (fun _ _ q => q) (fun ad y q => by rw [World.cell?_of_block (w := w) (hb.block _ (h.F_lt q))]; exact h.sub _ _ q) (fun _ _ q => .inl q) hb
end
end Abs
end Go.Proofs.YtnhgeocdffhkjaaDoor
