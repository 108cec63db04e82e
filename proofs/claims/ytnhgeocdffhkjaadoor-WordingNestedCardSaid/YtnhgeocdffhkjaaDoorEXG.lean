/- Parse: a function that defers a recovering call. -/
import Derived.Test.YtnhgeocdffhkjaaDoorEXF
namespace Go.Proofs.YtnhgeocdffhkjaaDoor
namespace Abs
open Go.RowKit
set_option linter.unusedVariables false
set_option linter.unusedSimpArgs false
section
variable {P : Program} {Gl : Nat → Option (List AV)}
/-- Its pieces. -/
structure Rec4 (P : Program) (f f9 : Nat) (fn : Func) (x1 x2 x3 : Code) (ops : Array Oper) (y : Code) (o0 o1 : Oper) : Prop where
  fn4 : P.funcs[f]? = some fn
  body : fn.body = some (x1.seq (x2.seq (x3.seq ((Code.region 4 ops false).seq y))))
  nt : fn.ntmps = 23
  res : fn.results = #[.cell 2 34, .cell 3 3, .cell 4 35]
  sz : ops.size = 2
  p0 : ops[0]? = some o0
  g0 : o0.guard = none
  d0 : o0.dst = some 18
  q0 : o0.op = .makeFunc (.func f9) #[] #[.tmp 1, .tmp 2, .tmp 3, .tmp 4, .tmp 5]
  p1 : ops[1]? = some o1
  g1 : o1.guard = none
  d1 : o1.dst = none
  q1 : o1.op = .defer { callee := .value (.tmp 18), args := #[], argTypes := #[] }
def capsA (act : Act) : Array Value := #[act.tmps.getD 1 undef, act.tmps.getD 2 undef, act.tmps.getD 3 undef, act.tmps.getD 4 undef, act.tmps.getD 5 undef]
def capsS (σ : St) : List AV := [σ.t.getD 1 .any, σ.t.getD 2 .any, σ.t.getD 3 .any, σ.t.getD 4 .any, σ.t.getD 5 .any]
def defd (f9 : Nat) (act : Act) : Deferred := { target := .fn (.func f9) (capsA act), args := #[] }
theorem run_mf {o : Oper} {f9 : Nat} {act : Act} {w : World} (h : o.op = .makeFunc (.func f9) #[] #[.tmp 1, .tmp 2, .tmp 3, .tmp 4, .tmp 5]) : (execOp act.eval o).run P w = .ok (.value (.func (.func f9) #[] (capsA act))) w := by
  have hmf : ∀ (fn : Go.Fn) (first cap : Array Value) (w : World), (Instr.makeFunc fn first cap).run P w = .ok (.func fn first cap) w := fun _ _ _ _ => rfl
  unfold execOp
  simp only [h]
  simp [hmf, capsA, Act.eval]
theorem run_df {o : Oper} {f9 : Nat} {a act : Act} {w : World} (h : o.op = .defer { callee := .value (.tmp 18), args := #[], argTypes := #[] }) (he : a.eval (.tmp 18) = .func (.func f9) #[] (capsA act)) : (execOp a.eval o).run P w = .ok (.defer (defd f9 act)) w := by
  unfold execOp
  simp only [h]
  simp [resolve, he, Deferred.ofValue, defd]
theorem r4_run {f f9 : Nat} {fn : Func} {x1 x2 x3 : Code} {ops : Array Oper} {y : Code} {o0 o1 : Oper} (h4 : Rec4 P f f9 fn x1 x2 x3 ops y o0 o1) {act : Act} {w : World} {Q : Exit → Act → World → Prop} (hs : act.tmps.size = 23) (hQ : Q .normal { tmps := (act.put (some 18) (.func (.func f9) #[] (capsA act))).tmps, defers := defd f9 act :: act.defers } w) : (Code.region 4 ops false).wp P Q act w := by
  refine wp_region ?_
  rw [h4.sz, show List.range 2 = [0, 1] from rfl]
  refine op_val (v := .func (.func f9) #[] (capsA act)) (w' := w) h4.p0 h4.g0 (run_mf h4.q0) ?_
  rw [h4.d0]
  have e18 : (act.put (some 18) (.func (.func f9) #[] (capsA act))).eval (.tmp 18) = .func (.func f9) #[] (capsA act) := by
    simp [Act.put, Act.eval, hs]
  refine op_def (d := defd f9 act) (w' := w) h4.p1 h4.g1 (run_df h4.q1 e18) ?_
  rw [h4.d1]
  exact hQ
/-- The frame behind the deferral: what it captured is kept in mind. -/
theorem r4_inv {F : Addr → Option Value} {own : List Ent} {B : Nat} {w0 : W0} {σ : St} {act : Act} {w : World} (hI : Inv Gl F own B w0 σ act w) (ht : σ.t.length = 23) (f9 : Nat) :
    ∃ W1 : W0, W1.w = w0.w ∧ W1.F = w0.F ∧ W1.df = defd f9 act :: act.defers ∧ Inv Gl F own B W1 (σ.put (some 18) .any) { tmps := (act.put (some 18) (.func (.func f9) #[] (capsA act))).tmps, defers := defd f9 act :: act.defers } w ∧
      ∀ F' own' τ act' w', Inv Gl F' own' B W1 τ act' w' → RL F' own' (capsA act) (capsS σ) := by
  let prs : List (Nat × Value × AV) := [1, 2, 3, 4, 5].map fun i => (σ.h.length, act.tmps.getD i undef, σ.t.getD i .any)
  have hfr' : ∀ q ∈ w0.fr ++ prs, q.1 ≤ σ.h.length := fun q hq => by
    rcases List.mem_append.1 hq with hq | hq
    · exact Nat.le_trans (w0.hfr q hq) hI.nl
    · obtain ⟨i, _, rfl⟩ := List.mem_map.1 hq; exact Nat.le_refl _
  have hown : own.take σ.h.length = own := List.take_of_length_le (by rw [hI.hl]; exact Nat.le_refl _)
  have hI1 := hI.put (x := .func (.func f9) #[] (capsA act)) (a := .any) (.pure (.any _)) (some 18)
  refine ⟨⟨w0.w, w0.F, σ.h.length, w0.fr ++ prs, hfr', w0.pd, w0.pdn, defd f9 act :: act.defers⟩, rfl, rfl, rfl, ?_, ?_⟩
  · refine { tl := hI1.tl, tr := hI1.tr, defers := rfl, sub := hI1.sub, hl := hI1.hl, objs := hI1.objs, inj := hI1.inj, below := hI1.below, base := hI1.base, gl := hI1.gl, gw := hI1.gw, room := hI1.room, ext := hI1.ext, ext0 := hI1.ext0, nl := Nat.le_refl _, fr := fun q hq => ?_, pd := hI1.pd }
    rcases List.mem_append.1 hq with hq | hq
    · exact hI1.fr q hq
    · obtain ⟨i, hi, rfl⟩ := List.mem_map.1 hq
      rw [hown]
      exact hI.ev (.tmp i)
  · intro F' own' τ act' w' hI'
    have get : ∀ i ∈ [1, 2, 3, 4, 5], R F' own' (act.tmps.getD i undef) (σ.t.getD i .any) := fun i hi =>
      (hI'.fr (σ.h.length, act.tmps.getD i undef, σ.t.getD i .any) (List.mem_append.2 (.inr (List.mem_map.2 ⟨i, hi, rfl⟩)))).mono (fun _ _ r => r) (Le.of_take _ _)
    refine ⟨rfl, fun i x a p q => ?_⟩
    match i, p, q with
    | 0, p, q => cases p; cases q; exact get 1 (by simp)
    | 1, p, q => cases p; cases q; exact get 2 (by simp)
    | 2, p, q => cases p; cases q; exact get 3 (by simp)
    | 3, p, q => cases p; cases q; exact get 4 (by simp)
    | 4, p, q => cases p; cases q; exact get 5 (by simp)
    | n + 5, p, q => simp [capsS] at q
end
end Abs
end Go.Proofs.YtnhgeocdffhkjaaDoor
