/- The abstract machine: calls, and regions in the text's order. -/
import Derived.Test.YtnhgeocdffhkjaaDoorAbs7
namespace Go.Proofs.YtnhgeocdffhkjaaDoor
namespace Abs
open Go.RowKit
set_option linter.unusedVariables false
set_option linter.unusedSimpArgs false

def snap (w : World) : Addr → Option Value := fun a => w.cell? a
def RPL (F : Addr → Option Value) (xs : Array Value) (as : List AV) : Prop := xs.size = as.length ∧ ∀ (i : Nat) (x : Value) (a : AV), xs[i]? = some x → as[i]? = some a → RP F x a

/-- What a function makes of its arguments: a call returns it, and turns nothing that was there. -/
def Pure (P : Program) (Gl : Nat → Option (List AV)) (f : FuncId) (as : List AV) (res : AV) : Prop :=
  ∀ (w : World) (F : Addr → Option Value) (xs : Array Value), (∀ a x, F a = some x → w.cell? a = some x) → GlOk Gl F → GlW Gl w.heap.size w → RPL F xs as →
    Calls P f xs w fun e w' => ∃ v F', e = .returned v ∧ (∀ ad y, F ad = some y → F' ad = some y) ∧ (∀ ad y, F' ad = some y → w'.cell? ad = some y) ∧ (∀ ad y, F' ad = some y → F ad = some y ∨ w.heap.size ≤ ad.block) ∧ RP F' v res ∧ Below w.heap.size w w'

def RL (F : Addr → Option Value) (own : List Ent) (xs : Array Value) (as : List AV) : Prop := xs.size = as.length ∧ ∀ (i : Nat) (x : Value) (a : AV), xs[i]? = some x → as[i]? = some a → R F own x a

/-- What a function makes of its arguments and of the memory of its caller's own. -/
def PureH (P : Program) (Gl : Nat → Option (List AV)) (f : FuncId) (h : List AObj) (as : List AV) (Q : AV → List AObj → Prop) : Prop :=
  ∀ (F : Addr → Option Value) (own : List Ent) (B : Nat) (w0 : W0) (t : List AV) (act : Act) (w : World) (xs : Array Value), Inv Gl F own B w0 ⟨t, h⟩ act w → RL F own xs as →
    Calls P f xs w fun e w' => ∃ v res h' F' own', e = .returned v ∧ Inv Gl F' own' B w0 ⟨t, h'⟩ act w' ∧ R F' own' v res ∧ Q res h'

/-- One instruction, a call or none. -/
def aExec (P : Program) (Gl : Nat → Option (List AV)) (d : Bool) (σ : St) (dst : Option Nat) (K : St → Prop) : I → Prop
  | .call fo args => (d = false ∧ ∃ f cs, σ.val Gl fo = .clo f cs ∧ callable P f = true ∧ PureH P Gl f σ.h (args.map (σ.val Gl) ++ cs) fun res h' => K (St.put ⟨σ.t, h'⟩ dst res)) ∨ ∃ f, σ.val Gl fo = .v (.func (.func f) #[] #[]) ∧ callable P f = true ∧ ((∃ as res, keepAL σ.h (args.map (σ.val Gl)) = some as ∧ Pure P Gl f as res ∧ (d = true → (if scalar res then σ.h else freeze σ.h ((args.map (σ.val Gl)).flatMap rowsA)) = σ.h) ∧ K (St.put ⟨σ.t, if scalar res then σ.h else freeze σ.h ((args.map (σ.val Gl)).flatMap rowsA)⟩ dst res)) ∨
      (d = false ∧ PureH P Gl f σ.h (args.map (σ.val Gl)) fun res h' => K (St.put ⟨σ.t, h'⟩ dst res)))
  | i => match step Gl σ i with
    | some (p, a, h') => p ∧ K (St.put ⟨σ.t, h'⟩ dst a)
    | none => False

/-- What a slot holds behind an operation that was not wanted. -/
def und : AV := .v (.tuple #[])
def aStep (P : Program) (Gl : Nat → Option (List AV)) (d : Bool) (σ : St) (ins : Ins) (K : St → Prop) : Prop :=
  match ins.gd with
  | none => aExec P Gl d σ ins.dst K ins.i
  | some (s, want) => match σ.t.getD s .any with
    | .v (.bool b) => if b = want then aExec P Gl d σ ins.dst K ins.i else K (σ.put ins.dst und)
    | .v (.tuple _) => K (σ.put ins.dst und)
    | _ => False

def aOps (P : Program) (Gl : Nat → Option (List AV)) (d : Bool) (K : St → Prop) : List Ins → St → Prop
  | [], σ => K σ
  | i :: r, σ => aStep P Gl d σ i (aOps P Gl d K r)

/-- A value that the region appends to. -/
def isBase (P : Program) (ops : Array Oper) (o : Oper) : Bool := ops.toList.any fun q => match cI P false q.op with
  | some (.app _ _ _ (.t d) _) => o.dst == some d
  | _ => false
/-- A part of a struct that lies in a variable. -/
def isFa (ops : Array Oper) : Operand → Bool
  | .tmp d => ops.toList.any fun q => q.dst == some d && (match q.op with | .fieldAddr .. => true | _ => false)
  | _ => false
def lmOf (P : Program) (lm : Bool) (ops : Array Oper) (o : Oper) : Bool := match o.op with
  | .slice _ x _ _ _ => isFa ops x
  | _ => lm && !isBase P ops o
def cIns (P : Program) (lm : Bool) (ops : Array Oper) (o : Oper) : Option Ins :=
  match cI P (lmOf P lm ops o) o.op with
  | none => none
  | some i => match o.guard with
    | none => some ⟨o.dst, none, i⟩
    | some (j, want) => match (ops[j]?).bind (·.dst) with
      | some s => some ⟨o.dst, some (s, want), i⟩
      | none => none

section
variable {P : Program} {Gl : Nat → Option (List AV)} {F : Addr → Option Value} {own : List Ent} {B : Nat} {w0 : W0} {σ : St} {act : Act} {w : World}

/-- A state that some abstract state with K stands for. -/
def Some' (Gl : Nat → Option (List AV)) (B : Nat) (w0 : W0) (K : St → Prop) (act : Act) (w : World) : Prop := ∃ F own σ, Inv Gl F own B w0 σ act w ∧ K σ

theorem scalar_RP {F F' : Addr → Option Value} {x : Value} {a : AV} (h : RP F x a) (hs : scalar a = true) : RP F' x a := by
  have one : ∀ {x : Value} {a : AV}, RP F x a → allV a = true → RP F' x a := by
    intro x a h hv
    cases a <;> first | (cases hv; done) | skip
    cases h
    exact .v _
  have two : ∀ {x : Value} {cs : List AV}, RP F x (.agg cs) → cs.all allV = true → RP F' x (.agg cs) := by
    intro x cs h hv
    cases h with
    | agg xs cs hl h1 hR => exact .agg xs cs hl h1 fun j x a p q => one (hR j x a p q) (List.all_eq_true.1 hv a (List.mem_of_getElem? q))
  cases a with
  | v y => cases h; exact .v _
  | agg cs => exact two h hs
  | tup vs =>
    cases h with
    | tup xs cs hl hR =>
      refine .tup xs vs hl fun j x a p q => ?_
      have := List.all_eq_true.1 hs a (List.mem_of_getElem? q)
      cases a with
      | v y => have := hR j x _ p q; cases this; exact .v _
      | agg cs => exact two (hR j x _ p q) this
      | _ => cases this
  | _ => cases hs

theorem Inv.call (h : Inv Gl F own B w0 σ act w) {w' : World} {F' : Addr → Option Value} (hF : ∀ ad y, F ad = some y → F' ad = some y) (hs : ∀ ad y, F' ad = some y → w'.cell? ad = some y) (hn : ∀ ad y, F' ad = some y → F ad = some y ∨ w.heap.size ≤ ad.block) (hb : Below w.heap.size w w') : Inv Gl F' own B w0 σ act w' := by
  refine h.turn (h' := σ.h) hF (Le.refl _) hs h.hl (fun id e o p q => ?_) h.inj ?_ h.base (fun ad y q => ?_) (hpw := fun g hg _ => hb.block g hg) (hpF := fun g j y q => (hn _ _ q).imp id .inr)
  · have hO := h.objs id e o p q
    refine hO.mono hF (Le.refl _) (fun g hg => hb.block g (hO.lt hg)) (fun g j hg hj => ?_)
    cases hq : F' ⟨g, j, none⟩ with
    | none => rfl
    | some y =>
      rcases hn _ _ hq with q | q
      · rw [hO.fz hg hj] at q; cases q
      · have := hO.lt hg; simp only at q; omega
  · exact h.below.trans (hb.mono (Nat.le_trans h.room h.below.size))
  · rcases hn ad y q with q' | q'
    · exact .inl q'
    · exact .inr (Nat.le_trans (Nat.le_trans h.room h.below.size) q')

theorem cI_call {lm : Bool} {o : Oper} {f : Opd} {args : List Opd} (hc : cI P lm o.op = some (.call f args)) : ∃ c x, o.op = .call c ∧ c.callee = .value x ∧ f = cOpd x ∧ args = c.args.toList.map cOpd := by
  cases hop : o.op with
  | call c =>
    rw [hop] at hc
    obtain ⟨callee, as', tys⟩ := c
    simp only [cI, cCall] at hc
    split at hc
    · rename_i b
      simp only [cBuiltin] at hc
      split at hc
      · unfold cLen at hc; split at hc
        · split at hc <;> cases hc
        · cases hc
      · unfold cApp at hc; repeat' split at hc
        all_goals cases hc
      · unfold cCopy at hc; repeat' split at hc
        all_goals cases hc
      · unfold cTwo at hc; split at hc <;> cases hc
      · unfold cTwo at hc; split at hc <;> cases hc
      · cases hc
    · rename_i x'
      split at hc
      · cases hc
        exact ⟨_, x', rfl, rfl, rfl, rfl⟩
      · cases hc
    · cases hc
  | binOp op xt x y yt =>
    rw [hop] at hc
    simp only [cI, cBin] at hc
    repeat' split at hc
    all_goals first
      | (cases hc; done)
      | (cases hn : negOf op <;> rw [hn] at hc <;> cases hc; done)
  | makeSlice t l c => rw [hop] at hc; simp only [cI] at hc; repeat' split at hc
                       all_goals cases hc
  | buildSlice t n ps => rw [hop] at hc; simp only [cI] at hc; repeat' split at hc
                         all_goals first | (cases hc; done) | (cases lm <;> cases hc; done)
  | build t ps =>
    rw [hop] at hc
    simp only [cI] at hc
    repeat' split at hc
    all_goals first
      | (cases hc; done)
      | (rw [Option.map_eq_some_iff] at hc; obtain ⟨_, _, q⟩ := hc; cases q)
  | slice t x lo hi mx =>
    rw [hop] at hc
    cases mx with
    | some m =>
      cases lo <;> cases hi <;> simp only [cI] at hc
      all_goals (repeat' split at hc)
      all_goals cases hc
    | none =>
      simp only [cI] at hc
      repeat' split at hc
      all_goals cases hc
  | alloc t =>
    rw [hop] at hc
    simp only [cI, cAlloc] at hc
    repeat' split at hc
    all_goals cases hc
  | makeFunc fn first cs =>
    rw [hop] at hc
    cases fn with
    | func f =>
      simp only [cI] at hc
      split at hc <;> cases hc
    | _ => cases hc
  | _ =>
    rw [hop] at hc
    simp only [cI] at hc
    repeat' split at hc
    all_goals cases hc
theorem exec_sound (h : Inv Gl F own B w0 σ act w) {lm : Bool} {o : Oper} {i : I} (hc : cI P lm o.op = some i) {d : Bool} {K : St → Prop} (he : aExec P Gl d σ o.dst K i) (Q : Exit → Act → World → Prop) : o.wp P act w (Some' Gl B w0 K) Q := by
  by_cases hcall : ∃ f args, i = .call f args
  · obtain ⟨f, args, rfl⟩ := hcall
    obtain ⟨c, x, hop, hcal, hfo, hargs⟩ := cI_call hc
    subst hargs hfo
    rcases he with ⟨_, f, cs, hfv, hcb, hP⟩ | he
    · obtain ⟨fn, hfn, hbody, hname⟩ := callable_spec hcb
      obtain ⟨ys, hev, hyl, hyR⟩ : ∃ ys, act.eval x = .func (.func f) #[] ys ∧ ys.size = cs.length ∧ ∀ (j : Nat) (x : Value) (a : AV), ys[j]? = some x → cs[j]? = some a → R F own x a := by have := h.ev x; rw [hfv] at this; exact this.clo_inv
      have hrun : (execOp act.eval o).run P w = .ok (.enter f (c.args.map act.eval ++ ys)) w := by
        unfold execOp
        simp only [hop]
        have hb' : ¬ fn.body = none := by intro q; rw [q] at hbody; cases hbody
        have hn' : ¬ fn.name = "runtime.NumGoroutine" := by simpa using hname
        simp [resolve, hcal, hev, Deferred.ofValue, invoke, callFunc, hfn, hn', hb']
      unfold Oper.wp
      rw [hrun, Oper.upon_enter]
      have hrl : RL F own (c.args.map act.eval ++ ys) ((c.args.toList.map cOpd).map (σ.val Gl) ++ cs) := by
        refine ⟨by simp [hyl], fun j x a hx ha => ?_⟩
        rcases Nat.lt_or_ge j c.args.size with hj | hj
        · rw [Array.getElem?_append_left (by simpa using hj), Array.getElem?_map, Array.getElem?_eq_getElem hj] at hx
          cases hx
          rw [List.getElem?_append_left (by simpa using hj)] at ha
          simp [List.getElem?_eq_getElem, hj] at ha
          subst ha
          exact h.ev c.args[j]
        · rw [Array.getElem?_append_right (by simpa using hj)] at hx
          rw [List.getElem?_append_right (by simpa using hj)] at ha
          exact hyR _ x a hx (by simpa using ha)
      refine (hP F own B w0 σ.t act w (c.args.map act.eval ++ ys) h hrl).mono ?_
      rintro e w' ⟨v, res, h', F', own', rfl, hI, hR, hK⟩
      exact ⟨F', own', _, hI.put hR o.dst, hK⟩
    obtain ⟨f, hfv, hcb, he⟩ := he
    obtain ⟨fn, hfn, hbody, hname⟩ := callable_spec hcb
    have hev : act.eval x = .func (.func f) #[] #[] := by have := h.ev x; rw [hfv] at this; exact this.v_inv
    have hrun : (execOp act.eval o).run P w = .ok (.enter f (c.args.map act.eval)) w := by
      unfold execOp
      simp only [hop]
      have hb' : ¬ fn.body = none := by intro q; rw [q] at hbody; cases hbody
      have hn' : ¬ fn.name = "runtime.NumGoroutine" := by simpa using hname
      simp [resolve, hcal, hev, Deferred.ofValue, invoke, callFunc, hfn, hn', hb']
    unfold Oper.wp
    rw [hrun, Oper.upon_enter]
    rcases he with ⟨as, res, hk, hP, _, hK⟩ | ⟨_, hP⟩
    case inr =>
      have hrl : RL F own (c.args.map act.eval) ((c.args.toList.map cOpd).map (σ.val Gl)) := by
        refine ⟨by simp, fun j x a hx ha => ?_⟩
        have hj : j < c.args.size := by have := (Array.getElem?_eq_some_iff.1 hx).1; simpa using this
        rw [Array.getElem?_map, Array.getElem?_eq_getElem hj] at hx
        cases hx
        simp [List.getElem?_eq_getElem, hj] at ha
        subst ha
        exact h.ev c.args[j]
      refine (hP F own B w0 σ.t act w (c.args.map act.eval) h hrl).mono ?_
      rintro e w' ⟨v, res, h', F', own', rfl, hI, hR, hK⟩
      exact ⟨F', own', _, hI.put hR o.dst, hK⟩
    obtain ⟨F1, hF1, hI1, hkp⟩ := h.freezeL (((c.args.toList.map cOpd).map (σ.val Gl)).flatMap rowsA)
    obtain ⟨l1, l2⟩ := keepAL_sound h hF1 _ as hk hkp
    have hrpl : RPL F1 (c.args.map act.eval) as := by
      refine ⟨by simpa using l1, fun j x a hx ha => ?_⟩
      have hj : j < c.args.size := by have := (Array.getElem?_eq_some_iff.1 hx).1; simpa using this
      rw [Array.getElem?_map, Array.getElem?_eq_getElem hj] at hx
      cases hx
      exact (l2 j (act.eval c.args[j]) (σ.val Gl (cOpd c.args[j])) a (by simp [List.getElem?_eq_getElem, hj]) ha (h.ev c.args[j])).1
    have hgw : GlW Gl w.heap.size w := fun g cs q => by
      obtain ⟨q1, vs, ty, fr, q2, q3⟩ := hI1.gw g cs q
      exact ⟨Nat.lt_of_lt_of_le q1 (Nat.le_trans hI1.room hI1.below.size), vs, ty, fr, by rw [hI1.below.block _ q1]; exact q2, q3⟩
    refine (hP w F1 (c.args.map act.eval) hI1.sub hI1.gl hgw hrpl).mono ?_
    rintro e w' ⟨v, F', rfl, g1, g2, g3, g4, g5⟩
    simp only
    cases hsc : scalar res with
    | true =>
      rw [hsc] at hK
      simp only [if_true] at hK
      have hI2 := h.call (F' := F) (w' := w') (fun _ _ q => q) (fun ad y q => by rw [World.cell?_of_block (w := w) (g5.block _ (h.F_lt q))]; exact h.sub _ _ q) (fun _ _ q => .inl q) g5
      exact ⟨F, own, _, hI2.put (.pure (scalar_RP g4 hsc)) o.dst, hK⟩
    | false =>
      rw [hsc] at hK
      simp only [Bool.false_eq_true, if_false] at hK
      have hI2 := hI1.call g1 g2 g3 g5
      exact ⟨F', own, _, hI2.put (.pure g4) o.dst, hK⟩
  · have he' : (match step Gl σ i with | some (p, a, h') => p ∧ K (St.put ⟨σ.t, h'⟩ o.dst a) | none => False) := by
      cases i <;> first | exact he | exact absurd ⟨_, _, rfl⟩ hcall
    cases hs : step Gl σ i with
    | none => rw [hs] at he'; exact he'.elim
    | some q =>
      obtain ⟨p, a, h'⟩ := q
      rw [hs] at he'
      obtain ⟨hp, hK⟩ := he'
      obtain ⟨nx, x, w', F', own', hrun, hnx, hI, hR⟩ := step_ok h hc hs hp
      unfold Oper.wp
      rw [hrun]
      rcases hnx with rfl | ⟨rfl, rfl⟩
      · exact ⟨F', own', _, hI.put hR o.dst, hK⟩
      · exact ⟨F', own', _, hI.put hR o.dst, hK⟩

theorem step_sound (h : Inv Gl F own B w0 σ act w) {lm : Bool} {ops : Array Oper} {o : Oper} {ins : Ins} (hc : cIns P lm ops o = some ins) {d : Bool} {K : St → Prop} (he : aStep P Gl d σ ins K) (Q : Exit → Act → World → Prop) {k : Nat} (hk : ops[k]? = some o) : wpOp P ops Q k (Some' Gl B w0 K) act w := by
  unfold wpOp
  rw [hk]
  simp only
  unfold cIns at hc
  cases hi : cI P (lmOf P lm ops o) o.op with
  | none => rw [hi] at hc; cases hc
  | some i =>
    rw [hi] at hc
    simp only at hc
    cases hg : o.guard with
    | none =>
      rw [hg] at hc
      cases hc
      rw [if_pos (by simp [Region.wanted, hg])]
      exact .inl (exec_sound h hi he Q)
    | some q =>
      obtain ⟨j, want⟩ := q
      rw [hg] at hc
      simp only at hc
      cases hs : (ops[j]?).bind (·.dst) with
      | none => rw [hs] at hc; cases hc
      | some s =>
        rw [hs] at hc
        cases hc
        simp only [aStep] at he
        split at he
        · rename_i b hb
          have hy : yielded ops act.tmps j = some b := by
            unfold yielded
            rw [hs]
            have hlt : s < σ.t.length := by
              rcases Nat.lt_or_ge s σ.t.length with q | q
              · exact q
              · simp [List.getD, List.getElem?_eq_none q] at hb
            have hlt' : s < act.tmps.size := by rw [h.tl]; exact hlt
            have e1 : σ.t[s]? = some (.v (.bool b)) := by rw [← hb]; simp [List.getD, List.getElem?_eq_getElem hlt]
            have := (h.tr s _ _ (Array.getElem?_eq_getElem hlt') e1).v_inv
            simp only [Option.bind_some, Array.getElem?_eq_getElem hlt', this]
          by_cases hbw : b = want
          · rw [if_pos hbw] at he
            rw [if_pos (by simp [Region.wanted, hg, hy, hbw])]
            exact .inl (exec_sound h hi he Q)
          · rw [if_neg hbw] at he
            rw [if_neg (by simp [Region.wanted, hg, hy, hbw])]
            exact ⟨F, own, _, h.put (x := undef) (a := und) (.pure (.v undef)) o.dst, he⟩
        · rename_i ys hb
          have hy : yielded ops act.tmps j = none := by
            unfold yielded
            rw [hs]
            have hlt : s < σ.t.length := by
              rcases Nat.lt_or_ge s σ.t.length with q | q
              · exact q
              · simp [List.getD, List.getElem?_eq_none q] at hb
            have hlt' : s < act.tmps.size := by rw [h.tl]; exact hlt
            have e1 : σ.t[s]? = some (.v (.tuple ys)) := by rw [← hb]; simp [List.getD, List.getElem?_eq_getElem hlt]
            have := (h.tr s _ _ (Array.getElem?_eq_getElem hlt') e1).v_inv
            simp only [Option.bind_some, Array.getElem?_eq_getElem hlt', this]
          rw [if_neg (by simp [Region.wanted, hg, hy])]
          exact ⟨F, own, _, h.put (x := undef) (a := und) (.pure (.v undef)) o.dst, he⟩
        · exact he.elim

theorem ops_sound {lm d : Bool} {ops : Array Oper} {Q : Exit → Act → World → Prop} {K : St → Prop} (hQ : ∀ a w, Some' Gl B w0 K a w → Q .normal a w) : ∀ (l : List Ins) (k : Nat), (∀ j, k + j < ops.size → ∃ ins o, l[j]? = some ins ∧ ops[k + j]? = some o ∧ cIns P lm ops o = some ins) → k + l.length = ops.size →
    ∀ (σ : St) (F : Addr → Option Value) (own : List Ent) (act : Act) (w : World), aOps P Gl d K l σ → Inv Gl F own B w0 σ act w → wpOps P ops Q (List.range' k l.length) act w := by
  intro l
  induction l with
  | nil => intro k _ _ σ F own act w ha hI; exact hQ act w ⟨F, own, σ, hI, ha⟩
  | cons ins l ih =>
    intro k hl hk σ F own act w ha hI
    obtain ⟨ins', o, e1, e2, e3⟩ := hl 0 (by simp at hk; omega)
    simp at e1
    subst e1
    simp only [Nat.add_zero] at e2
    rw [List.length_cons, List.range'_succ, wpOps_cons]
    refine wpOp_mono ?_ (step_sound hI e3 ha Q e2)
    rintro a w1 ⟨F1, own1, σ1, hI1, hK⟩
    exact ih (k + 1) (fun j hj => by
      obtain ⟨i', o', f1, f2, f3⟩ := hl (j + 1) (by omega)
      exact ⟨i', o', by simpa using f1, by rw [← f2]; congr 1; omega, f3⟩) (by simp at hk; omega) σ1 F1 own1 a w1 hK hI1
end
end Abs
end Go.Proofs.YtnhgeocdffhkjaaDoor
