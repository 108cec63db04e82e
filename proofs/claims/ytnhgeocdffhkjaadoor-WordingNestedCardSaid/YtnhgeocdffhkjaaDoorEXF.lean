/- Parse: its deferred call, run; fail. -/
import Derived.Test.YtnhgeocdffhkjaaDoorEXE
namespace Go.Proofs.YtnhgeocdffhkjaaDoor
namespace Abs
open Go.RowKit
set_option linter.unusedVariables false
set_option linter.unusedSimpArgs false
set_option maxRecDepth 20000
@[reducible] def sq1 : Code → Code
  | .seq a _ => a
  | c => c
@[reducible] def sq2 : Code → Code
  | .seq _ b => b
  | c => c
@[reducible] def rgO : Code → Array Oper
  | .region _ o _ => o
  | _ => #[]

/-- A function that begins by recovering, and asks what it has. -/
structure Rec9 (P : Program) (f : Nat) (fn : Func) (ops : Array Oper) (y : Code) (l : List Ins) (o0 o1 : Oper) (tt : TypeId) : Prop where
  fn9 : P.funcs[f]? = some fn
  body : fn.body = some ((Code.region 0 ops false).seq y)
  res : fn.results = #[]
  nt : fn.ntmps = 29
  sz : ops.size = 8
  p0 : ops[0]? = some o0
  g0 : o0.guard = none
  d0 : o0.dst = some 8
  q0 : o0.op = .call { callee := .builtin .recover, args := #[], argTypes := #[] }
  p1 : ops[1]? = some o1
  g1 : o1.guard = none
  d1 : o1.dst = some 9
  q1 : o1.op = .typeAssert (.tmp 8) 20 tt true
  all : ((ops.toList.drop 2).take 6).all (fun o => (cIns P false ops o).isSome) = true
  li : l = insF P ops 2
  ll : l.length = 6
def st9 (az : List AV) (h : List AObj) (a8 a9 : AV) : St := St.put (St.put ⟨az ++ List.replicate (29 - az.length) .any, h⟩ (some 8) a8) (some 9) a9
section
variable {P : Program} {Gl : Nat → Option (List AV)}
theorem d9 {f9 : Nat} {fn : Func} {ops : Array Oper} {y : Code} {l9 : List Ins} {o0 o1 : Oper} {tt : TypeId} (hr9 : Rec9 P f9 fn ops y l9 o0 o1 tt) {hl : List Nat} {ex : Nat → C → St → List Nat → Option Out} (hx : ExOk P Gl hl ex) {cf : Nat → List AV → List AObj → Option IR} {pf : Nat → List AV → Option AV} (hcf : CfOk P Gl cf) (hpf : PfOk P Gl pf)
    {h : List AObj} {az : List AV} {u u' : FrameMode} {v8 : Value} {v9 : Value} {a9 : AV} (hl9 : az.length = 5)
    (hrec : ∀ (c₀ : Frame) (cs : List Frame), c₀.mode = u → recoverD (c₀ :: cs) = some (v8, { c₀ with mode := u' } :: cs) ∨ (recoverD (c₀ :: cs) = none ∧ v8 = .nilIface ∧ ({ c₀ with mode := u' } :: cs : List Frame) = c₀ :: cs))
    (hta : ∀ w, (Instr.typeAssert v8 20 tt true).run P w = .ok v9 w) (hR9 : ∀ F, RP F v9 a9)
    {N : Nat} {τ : St} {V : List Nat} (h0 : exOps Gl cf pf false N l9 (st9 az h (.v v8) a9) [] = some (.nrm .normal τ V))
    {cy : C} (hcy : cC P hl y = some cy) {e9 : Exit} {τ' : St} {V' : List Nat} (h1 : ex N cy τ V = some (.nrm e9 τ' V')) (he : isEnd e9 = true)
    {F : Addr → Option Value} {own : List Ent} {B : Nat} {w0 : W0} {t : List AV} {act : Act} {w : World} {xs : Array Value} (hI : Inv Gl F own B w0 ⟨t, h⟩ act w) (hxs : RL F own xs az) :
    CallsD P f9 xs u w fun e u1 w' => e = .returned (.tuple #[]) ∧ u1 = u' ∧ ∃ F' own', Inv Gl F' own' B w0 ⟨t, τ'.h⟩ act w' := by
  obtain ⟨hfn, hb, hres0, hn, hsz, p0, g0, d0, q0, p1, g1, d1, q1, hall, hli, hll⟩ := hr9
  refine callsD_of_wpS hfn hb fun c₀ cs hu => ?_
  rw [hn]
  apply wpS_seq
  apply wpS_region
  rw [hsz, show List.range 8 = 0 :: 1 :: List.range' 2 6 from rfl]
  -- the frame
  let fr' : List (Nat × Value × AV) := (List.range t.length).map fun i => (h.length, act.tmps.getD i undef, t.getD i .any)
  have hfr' : ∀ q ∈ w0.fr ++ fr', q.1 ≤ h.length := fun q hq => by
    rcases List.mem_append.1 hq with hq | hq
    · exact Nat.le_trans (w0.hfr q hq) hI.nl
    · obtain ⟨i, _, rfl⟩ := List.mem_map.1 hq; exact Nat.le_refl _
  have hown : own.take h.length = own := List.take_of_length_le (by rw [hI.hl]; exact Nat.le_refl _)
  have hI1 : Inv Gl F own B ⟨w0.w, w0.F, h.length, w0.fr ++ fr', hfr', w0.pd, w0.pdn, []⟩ ⟨az ++ List.replicate (29 - az.length) .any, h⟩ { tmps := xs ++ Array.replicate (29 - xs.size) undef, defers := [] } w := by
    refine { tl := by simp [hxs.1], tr := fun i x a p q => ?_, defers := rfl, sub := hI.sub, hl := hI.hl, objs := hI.objs, inj := hI.inj, below := hI.below, base := hI.base, gl := hI.gl, gw := hI.gw, room := hI.room, ext := hI.ext, ext0 := hI.ext0, nl := Nat.le_refl _, fr := fun q hq => ?_, pd := hI.pd }
    · simp only at p q
      rcases Nat.lt_or_ge i az.length with hi | hi
      · rw [List.getElem?_append_left hi] at q
        rw [Array.getElem?_append_left (by rw [hxs.1]; exact hi)] at p
        exact hxs.2 i x a p q
      · rw [List.getElem?_append_right hi, List.getElem?_replicate] at q
        split at q
        · cases q; exact .pure (.any _)
        · cases q
    · rcases List.mem_append.1 hq with hq | hq
      · exact hI.fr q hq
      · obtain ⟨i, hi, rfl⟩ := List.mem_map.1 hq
        have hi' := List.mem_range.1 hi
        have hlt : i < act.tmps.size := by rw [hI.tl]; exact hi'
        rw [hown]
        exact hI.tr i _ _ (by simp [Array.getD, hlt]) (by simp [List.getD, List.getElem?_eq_getElem hi'])
  -- recover
  refine opsS_rec (cs' := { c₀ with mode := u' } :: cs) (v := v8) p0 g0 (by unfold execOp; rw [q0]; rfl) ?_ ?_
  · rcases hrec c₀ cs hu with q | ⟨q, q', q''⟩
    · exact .inl q
    · exact .inr ⟨q, q', q''⟩
  rw [d0]
  have hI2 := hI1.put (x := v8) (a := .v v8) (.pure (.v v8)) (some 8)
  have ev8 : (Act.put { tmps := xs ++ Array.replicate (29 - xs.size) undef, defers := [] } (some 8) v8).eval (.tmp 8) = v8 := by
    have := hI2.ev (.tmp 8)
    have e8 : (St.put ⟨az ++ List.replicate (29 - az.length) .any, h⟩ (some 8) (.v v8)).val Gl (cOpd (.tmp 8)) = .v v8 := by
      show ((az ++ List.replicate (29 - az.length) AV.any).set 8 (.v v8)).getD 8 .any = .v v8
      rw [List.getD_eq_getElem?_getD, List.getElem?_set_self (by simp [hl9])]
      rfl
    rw [e8] at this
    exact this.v_inv
  refine opsS_val (v := v9) (w' := w) p1 g1 ?_ ?_
  · unfold execOp
    rw [q1]
    simp only [ev8]
    have := hta w
    simp only [Sem.run_bind, this, Result.andThen_ok]
    rfl
  rw [d1]
  have hI3 := hI2.put (x := v9) (a := a9) (.pure (hR9 F)) (some 9)
  refine opsS_of ?_ _ _ _ ?_
  · intro a w' hq
    obtain ⟨u0, q⟩ := hq
    cases q.1
  -- the rest
  rw [show (6 : Nat) = l9.length from hll.symm]
  refine ops_sound (K := fun ρ => ρ = τ) (lm := false) (d := false) ?_ l9 2 (fun j hj => by rw [hli]; exact insF_spec hall j (by rw [hsz] at hj; omega) hj) (by rw [hll, hsz]) _ F own _ _ ((exOps_val hcf hpf _ _ _ _ _ _ h0).2.1 _ rfl) hI3
  rintro a1 w1 ⟨F1, own1, τ1, hI4, rfl⟩
  refine wpS_of_wp (wp_mono ((hx _ _ _ _ _ h1).2 _ hcy F1 own1 B _ a1 w1 hI4) ?_)
  rintro e a2 w2 ⟨rfl, _, F2, own2, τ2, hI5, rfl⟩
  have hback : Inv Gl F2 own2 B w0 ⟨t, τ2.h⟩ act w2 :=
    { tl := hI.tl, tr := fun i x a p q => by
        have hi : i < t.length := (List.getElem?_eq_some_iff.1 q).1
        have hlt : i < act.tmps.size := by rw [hI.tl]; exact hi
        have := hI5.fr (h.length, act.tmps.getD i undef, t.getD i .any) (List.mem_append.2 (.inr (List.mem_map.2 ⟨i, List.mem_range.2 hi, rfl⟩)))
        have e1 : act.tmps.getD i undef = x := by simp [Array.getD, hlt]; rw [Array.getElem?_eq_getElem hlt] at p; exact Option.some.inj p
        have e2 : t.getD i .any = a := by
          have q' : t[i]? = some a := q
          simp [List.getD, q']
        rw [e1, e2] at this
        exact this.mono (fun _ _ r => r) (Le.of_take _ _),
      defers := hI.defers, sub := hI5.sub, hl := hI5.hl, objs := hI5.objs, inj := hI5.inj, below := hI5.below, base := hI5.base, gl := hI5.gl, gw := hI.gw, room := hI5.room, ext := hI5.ext, ext0 := hI5.ext0, nl := Nat.le_trans hI.nl hI5.nl, fr := fun q hq => hI5.fr q (List.mem_append.2 (.inl hq)), pd := hI5.pd }
  have hres : (Go.results fn a2.tmps).run P w2 = .ok (.tuple #[]) w2 := by
    rw [results_eq, hres0]
    simp
  have fin : a2.defers = [] ∧ ∃ u1, ({ c₀ with mode := u' } :: cs : List Frame) = { c₀ with mode := u1 } :: cs ∧ ∃ v, (Go.results fn a2.tmps).run P w2 = .ok v w2 ∧ (Ending.returned v = .returned (.tuple #[]) ∧ u1 = u' ∧ ∃ F' own', Inv Gl F' own' B w0 ⟨t, τ2.h⟩ act w2) :=
    ⟨hI5.defers, u', rfl, _, hres, rfl, rfl, F2, own2, hback⟩
  cases e with
  | normal => exact fin
  | ret => exact fin
  | _ => cases he
end
end Abs
end Go.Proofs.YtnhgeocdffhkjaaDoor
