/- The abstract machine, run: calls, regions. -/
import Derived.Test.YtnhgeocdffhkjaaDoorEX1
namespace Go.Proofs.YtnhgeocdffhkjaaDoor
namespace Abs
open Go.RowKit
set_option linter.unusedVariables false
set_option linter.unusedSimpArgs false

section
variable {P : Program} {Gl : Nat → Option (List AV)}
/-- How a call dies. -/
def Died (B : Nat) (w0 : W0) (v : Value) (w : World) : Prop := (∀ ad y, w0.F ad = some y → w.cell? ad = some y) ∧ Below B w0.w w
/-- A call dies of a value. -/
def PanH (P : Program) (Gl : Nat → Option (List AV)) (f : FuncId) (h : List AObj) (as : List AV) (v : Value) : Prop :=
  ∀ (F : Addr → Option Value) (own : List Ent) (B : Nat) (w0 : W0) (t : List AV) (act : Act) (w : World) (xs : Array Value), Inv Gl F own B w0 ⟨t, h⟩ act w → RL F own xs as →
    Calls P f xs w fun e w' => e = .panicked [{ v, recovered := false }] ∧ Died B w0 v w'
/-- What a call's answer says. -/
def IrOk (P : Program) (Gl : Nat → Option (List AV)) (f : Nat) (as : List AV) (h : List AObj) : IR → Prop
  | .val a h' ids => PureH P Gl f h as (fun r k => r = a ∧ k = h') ∧ Tch h h' ids
  | .pan v => PanH P Gl f h as v
def CfOk (P : Program) (Gl : Nat → Option (List AV)) (cf : Nat → List AV → List AObj → Option IR) : Prop := ∀ f as h r, cf f as h = some r → callable P f = true ∧ IrOk P Gl f as h r
def PfOk (P : Program) (Gl : Nat → Option (List AV)) (pf : Nat → List AV → Option AV) : Prop := ∀ f as res, pf f as = some res → callable P f = true ∧ Pure P Gl f as res
/-- The function that an instruction calls, and its arguments. -/
def CallAt (Gl : Nat → Option (List AV)) (σ : St) (fo : Opd) (args : List Opd) (f : Nat) (as : List AV) : Prop :=
  (σ.val Gl fo = .v (.func (.func f) #[] #[]) ∧ as = args.map (σ.val Gl)) ∨ ∃ cs, σ.val Gl fo = .clo f cs ∧ as = args.map (σ.val Gl) ++ cs
def DiesAt (P : Program) (Gl : Nat → Option (List AV)) (σ : St) (ins : Ins) (v : Value) : Prop :=
  ins.gd = none ∧ ∃ fo args f as, ins.i = .call fo args ∧ CallAt Gl σ fo args f as ∧ callable P f = true ∧ PanH P Gl f σ.h as v

theorem fnV_eq {v : Value} {f : Nat} (h : fnV v = some f) : v = .func (.func f) #[] #[] := by
  cases v with
  | func fn a b =>
    cases fn with
    | func g =>
      simp only [fnV] at h
      split at h
      · rename_i h1 h2
        have e1 : a = #[] := by simpa using h1
        have e2 : b = #[] := by simpa using h2
        cases h
        rw [e1, e2]
      · cases h
    | _ => cases h
  | _ => cases h
theorem frzB_id {h : List AObj} {ids : List Nat} (hf : frzB h ids = true) : freeze h ids = h := freeze_id ids h fun id hid o ho => by
  have := List.all_eq_true.1 hf id hid
  rw [ho] at this
  exact Nat.eq_of_beq_eq_true this

variable {cf : Nat → List AV → List AObj → Option IR} {pf : Nat → List AV → Option AV}
theorem exI_val (hcf : CfOk P Gl cf) (hpf : PfOk P Gl pf) {d : Bool} {σ : St} {dst : Option Nat} {i : I} {a : AV} {h' : List AObj} {ids : List Nat} (h : exI Gl cf pf d σ i = some (.val a h' ids)) : (∀ K : St → Prop, K (St.put ⟨σ.t, h'⟩ dst a) → aExec P Gl d σ dst K i) ∧ Tch σ.h h' ids := by
  by_cases hn : i.isCall = false
  · have h1 : (match exS Gl σ i with | some (a, h') => some (IR.val a h' (tI Gl σ i)) | none => none) = some (.val a h' ids) := by
      cases i <;> first | exact h | cases hn
    split at h1
    · rename_i a0 h0 hs
      cases h1
      obtain ⟨p, e, hp⟩ := exS_ok hs
      exact ⟨fun K hK => (aExec_nc hn).2 ⟨p, _, _, e, hp, hK⟩, tI_ok e⟩
    · cases h1
  · obtain ⟨fo, args, rfl⟩ : ∃ fo args, i = .call fo args := by
      cases i with
      | call fo args => exact ⟨_, _, rfl⟩
      | _ => exact absurd rfl hn
    simp only [exI] at h
    split at h
    · rename_i v hv
      split at h
      · rename_i f hf
        rw [fnV_eq hf] at hv
        split at h
        · rename_i hd
          split at h
          · rename_i as hk
            split at h
            · rename_i res hres
              split at h
              · rename_i hz
                cases h
                obtain ⟨hc, hP⟩ := hpf _ _ _ hres
                have e : (if scalar a then σ.h else freeze σ.h ((args.map (σ.val Gl)).flatMap rowsA)) = σ.h := by
                  rw [Bool.or_eq_true] at hz
                  rcases hz with q | q
                  · rw [if_pos q]
                  · rw [frzB_id q]; split <;> rfl
                exact ⟨fun K hK => .inr ⟨f, hv, hc, .inl ⟨as, a, hk, hP, fun _ => e, by rw [e]; exact hK⟩⟩, .refl _ _⟩
              · cases h
            · cases h
          · cases h
        · rename_i hd
          obtain ⟨hc, hP, hT⟩ := hcf _ _ _ _ h
          refine ⟨fun K hK => .inr ⟨f, hv, hc, .inr ⟨by simpa using hd, hP.mono ?_⟩⟩, hT⟩
          rintro _ _ ⟨rfl, rfl⟩; exact hK
      · cases h
    · rename_i f cs hv
      split at h
      · cases h
      · rename_i hd
        obtain ⟨hc, hP, hT⟩ := hcf _ _ _ _ h
        refine ⟨fun K hK => .inl ⟨by simpa using hd, f, cs, hv, hc, hP.mono ?_⟩, hT⟩
        rintro _ _ ⟨rfl, rfl⟩; exact hK
    · cases h
theorem exI_pan (hcf : CfOk P Gl cf) {d : Bool} {σ : St} {i : I} {v : Value} (h : exI Gl cf pf d σ i = some (.pan v)) : ∃ fo args f as, i = .call fo args ∧ CallAt Gl σ fo args f as ∧ callable P f = true ∧ PanH P Gl f σ.h as v := by
  by_cases hn : i.isCall = false
  · have h1 : (match exS Gl σ i with | some (a, h') => some (IR.val a h' (tI Gl σ i)) | none => none) = some (.pan v) := by
      cases i <;> first | exact h | cases hn
    split at h1 <;> cases h1
  · obtain ⟨fo, args, rfl⟩ : ∃ fo args, i = .call fo args := by
      cases i with
      | call fo args => exact ⟨_, _, rfl⟩
      | _ => exact absurd rfl hn
    simp only [exI] at h
    split at h
    · rename_i v' hv
      split at h
      · rename_i f hf
        rw [fnV_eq hf] at hv
        split at h
        · split at h
          · split at h
            · split at h <;> cases h
            · cases h
          · cases h
        · obtain ⟨hc, hP⟩ := hcf _ _ _ _ h
          exact ⟨fo, args, f, _, rfl, .inl ⟨hv, rfl⟩, hc, hP⟩
      · cases h
    · rename_i f cs hv
      split at h
      · cases h
      · obtain ⟨hc, hP⟩ := hcf _ _ _ _ h
        exact ⟨fo, args, f, _, rfl, .inr ⟨cs, hv, rfl⟩, hc, hP⟩
    · cases h
theorem gdB_wants {σ : St} {ins : Ins} (h : wants σ ins) : gdB σ ins = some true := by
  unfold wants at h
  unfold gdB
  split
  · rfl
  · rename_i s want hg
    rw [hg] at h
    simp only at h
    rw [h]
    simp
theorem exIns_val (hcf : CfOk P Gl cf) (hpf : PfOk P Gl pf) {d : Bool} {σ : St} {ins : Ins} {a : AV} {h' : List AObj} {ids : List Nat} (h : exIns Gl cf pf d σ ins = some (.val a h' ids)) : (∀ K : St → Prop, K (St.put ⟨σ.t, h'⟩ ins.dst a) → aStep P Gl d σ ins K) ∧ Tch σ.h h' ids := by
  unfold exIns at h
  split at h
  · rename_i hg
    obtain ⟨h1, h2⟩ := exI_val (dst := ins.dst) hcf hpf h
    refine ⟨fun K hK => ?_, h2⟩
    have := h1 K hK
    unfold gdB at hg
    unfold aStep
    split at hg
    · rename_i e; rw [e]; exact this
    · rename_i s want e
      rw [e]
      simp only
      split at hg
      · rename_i b hb
        rw [hb]
        simp only [Option.some.injEq, beq_iff_eq] at hg
        simp only [hg, if_true]; exact this
      · cases hg
      · cases hg
  · rename_i hg
    cases h
    refine ⟨fun K hK => ?_, .refl _ _⟩
    unfold gdB at hg
    unfold aStep
    split at hg
    · cases hg
    · rename_i s want e
      rw [e]
      simp only
      split at hg
      · rename_i b hb
        rw [hb]
        have hne : ¬ b = want := by
          simp only [Option.some.injEq, beq_eq_false_iff_ne] at hg
          exact hg
        simp only [if_neg hne]
        exact hK
      · rename_i xs hb
        rw [hb]
        exact hK
      · cases hg
  · cases h
theorem exIns_pan (hcf : CfOk P Gl cf) {d : Bool} {σ : St} {ins : Ins} {v : Value} (h : exIns Gl cf pf d σ ins = some (.pan v)) (hg : ins.gd = none) : DiesAt P Gl σ ins v := by
  unfold exIns at h
  split at h
  · exact ⟨hg, exI_pan hcf h⟩
  · cases h
  · cases h

/-- An operation that dies. -/
theorem dies_wp {F : Addr → Option Value} {own : List Ent} {B : Nat} {w0 : W0} {σ : St} {act : Act} {w : World} (hI : Inv Gl F own B w0 σ act w) {lm : Bool} {ops : Array Oper} {o : Oper} {ins : Ins} (hc : cIns P lm ops o = some ins) {k : Nat} (hk : ops[k]? = some o) {v : Value} (hd : DiesAt P Gl σ ins v) {Q : Exit → Act → World → Prop} (hQ : ∀ w', Died B w0 v w' → Q (.panic [{ v, recovered := false }]) act w') (next : Act → World → Prop) : wpOp P ops Q k next act w := by
  obtain ⟨hgd, fo, args, f, as, hi, hat, hcb, hP⟩ := hd
  unfold wpOp
  rw [hk]
  simp only
  unfold cIns at hc
  cases hci : cI P (lmOf P lm ops o) o.op with
  | none => rw [hci] at hc; cases hc
  | some i =>
    rw [hci] at hc
    simp only at hc
    have hg : o.guard = none := by
      cases hg : o.guard with
      | none => rfl
      | some q =>
        obtain ⟨j, want⟩ := q
        rw [hg] at hc
        simp only at hc
        split at hc
        · cases hc; cases hgd
        · cases hc
    rw [hg] at hc
    cases hc
    simp only at hi
    subst hi
    rw [if_pos (by simp [Region.wanted, hg])]
    left
    obtain ⟨c, x, hop, hcal, rfl, rfl⟩ := cI_call hci
    obtain ⟨fn, hfn, hbody, hname⟩ := callable_spec hcb
    obtain ⟨ys, hev, hrl⟩ : ∃ ys, act.eval x = .func (.func f) #[] ys ∧ RL F own (c.args.map act.eval ++ ys) as := by
      have base : ∀ (cs : List AV) (ys : Array Value), ys.size = cs.length → (∀ (j : Nat) (x : Value) (a : AV), ys[j]? = some x → cs[j]? = some a → R F own x a) → RL F own (c.args.map act.eval ++ ys) ((c.args.toList.map cOpd).map (σ.val Gl) ++ cs) := fun cs ys hyl hyR => by
        refine ⟨by simp [hyl], fun j x a hx ha => ?_⟩
        rcases Nat.lt_or_ge j c.args.size with hj | hj
        · rw [Array.getElem?_append_left (by simpa using hj), Array.getElem?_map, Array.getElem?_eq_getElem hj] at hx
          cases hx
          rw [List.getElem?_append_left (by simpa using hj)] at ha
          simp [List.getElem?_eq_getElem, hj] at ha
          subst ha
          exact hI.ev c.args[j]
        · rw [Array.getElem?_append_right (by simpa using hj)] at hx
          rw [List.getElem?_append_right (by simpa using hj)] at ha
          exact hyR _ x a hx (by simpa using ha)
      rcases hat with ⟨hfv, rfl⟩ | ⟨cs, hfv, rfl⟩
      · have hev : act.eval x = .func (.func f) #[] #[] := by have := hI.ev x; rw [hfv] at this; exact this.v_inv
        refine ⟨#[], hev, ?_⟩
        have := base [] #[] rfl (fun j x a p => by simp at p)
        rw [List.append_nil] at this; exact this
      · have := hI.ev x
        rw [hfv] at this
        obtain ⟨ys, hev, hyl, hyR⟩ := this.clo_inv
        exact ⟨ys, hev, base cs ys hyl hyR⟩
    have hrun : (execOp act.eval o).run P w = .ok (.enter f (c.args.map act.eval ++ ys)) w := by
      unfold execOp
      simp only [hop]
      have hb' : ¬ fn.body = none := by intro q; rw [q] at hbody; cases hbody
      have hn' : ¬ fn.name = "runtime.NumGoroutine" := by simpa using hname
      simp [resolve, hcal, hev, Deferred.ofValue, invoke, callFunc, hfn, hn', hb']
    unfold Oper.wp
    rw [hrun, Oper.upon_enter]
    refine (hP F own B w0 σ.t act w _ hI hrl).mono ?_
    rintro e w' ⟨rfl, hD⟩
    exact hQ w' hD

/-- The blocks told of, and those that stay. -/
def TU (N : Nat) (V : List Nat) (h h' : List AObj) : Prop := h.length ≤ h'.length ∧ ∀ id, id < N → id < h.length → id ∉ V → h'[id]? = h[id]?
theorem TU.refl (N : Nat) (V : List Nat) (h : List AObj) : TU N V h h := ⟨Nat.le_refl _, fun _ _ _ _ => rfl⟩
theorem TU.trans {N : Nat} {V V' : List Nat} {h h1 h2 : List AObj} (a : TU N V h h1) (b : TU N V' h1 h2) (hs : ∀ id ∈ V, id ∈ V') : TU N V' h h2 :=
  ⟨Nat.le_trans a.1 b.1, fun id hN hid hn => by rw [b.2 id hN (Nat.lt_of_lt_of_le hid a.1) hn, a.2 id hN hid fun q => hn (hs id q)]⟩
theorem addI_sub (N : Nat) : ∀ (ids U : List Nat), (∀ id ∈ U, id ∈ addI N ids U) ∧ ∀ id ∈ ids, id < N → id ∈ addI N ids U := by
  intro ids
  induction ids with
  | nil => intro U; exact ⟨fun _ h => h, fun _ h => by simp at h⟩
  | cons i ids ih =>
    intro U
    simp only [addI]
    split
    · rename_i hc
      obtain ⟨h1, h2⟩ := ih (i :: U)
      refine ⟨fun id h => h1 id (List.mem_cons_of_mem _ h), fun id h hN => ?_⟩
      rcases List.mem_cons.1 h with rfl | h
      · exact h1 _ (by simp)
      · exact h2 id h hN
    · rename_i hc
      obtain ⟨h1, h2⟩ := ih U
      refine ⟨h1, fun id h hN => ?_⟩
      rcases List.mem_cons.1 h with rfl | h
      · refine h1 _ ?_
        have hb : Nat.blt id N = true := Nat.ble_eq_true_of_le hN
        rw [hb] at hc
        simp only [Bool.true_and, Bool.not_eq_true', Bool.not_eq_false] at hc
        obtain ⟨j, hj, e⟩ := List.any_eq_true.1 hc
        rw [Nat.eq_of_beq_eq_true e]; exact hj
      · exact h2 id h hN
theorem TU.step {N : Nat} {h h' : List AObj} {ids U : List Nat} (ht : Tch h h' ids) : TU N (addI N ids U) h h' :=
  ⟨ht.1, fun id hN hid hn => ht.2 id hid fun q => hn ((addI_sub N ids U).2 id q hN)⟩

theorem exOps_val (hcf : CfOk P Gl cf) (hpf : PfOk P Gl pf) {d : Bool} {N : Nat} : ∀ (l : List Ins) (σ : St) (U : List Nat) (e : Exit) (τ : St) (V : List Nat), exOps Gl cf pf d N l σ U = some (.nrm e τ V) → e = .normal ∧ (∀ K : St → Prop, K τ → aOps P Gl d K l σ) ∧ TU N V σ.h τ.h ∧ ∀ id ∈ U, id ∈ V := by
  intro l
  induction l with
  | nil => intro σ U e τ V h; cases h; exact ⟨rfl, fun K hK => hK, .refl _ _ _, fun _ h => h⟩
  | cons i l ih =>
    intro σ U e τ V h
    simp only [exOps] at h
    split at h
    · rename_i a h' ids hi
      obtain ⟨h1, h2⟩ := exIns_val hcf hpf hi
      obtain ⟨k1, k2, k3, k4⟩ := ih _ _ _ _ _ h
      rw [put_hh] at k3
      exact ⟨k1, fun K hK => h1 _ (k2 K hK), (TU.step (U := U) h2).trans k3 k4, fun id hid => k4 id ((addI_sub N ids U).1 id hid)⟩
    · split at h <;> cases h
    · cases h
/-- A region in the text's order that dies. -/
theorem exOps_pan (hcf : CfOk P Gl cf) (hpf : PfOk P Gl pf) {lm d : Bool} {N : Nat} {ops : Array Oper} {Q : Exit → Act → World → Prop} {B : Nat} {w0 : W0} {v : Value} (hQ : ∀ a w, a.defers = w0.df → Died B w0 v w → Q (.panic [{ v, recovered := false }]) a w) : ∀ (l : List Ins) (k : Nat), (∀ j, k + j < ops.size → ∃ ins o, l[j]? = some ins ∧ ops[k + j]? = some o ∧ cIns P lm ops o = some ins) → k + l.length = ops.size →
    ∀ (σ : St) (U : List Nat) (F : Addr → Option Value) (own : List Ent) (act : Act) (w : World), exOps Gl cf pf d N l σ U = some (.pan v) → Inv Gl F own B w0 σ act w → d = false ∧ wpOps P ops Q (List.range' k l.length) act w := by
  intro l
  induction l with
  | nil => intro k _ _ σ U F own act w h; cases h
  | cons ins l ih =>
    intro k hl hk σ U F own act w h hI
    obtain ⟨ins', o, e1, e2, e3⟩ := hl 0 (by simp at hk; omega)
    simp at e1
    subst e1
    simp only [Nat.add_zero] at e2
    rw [List.length_cons, List.range'_succ, wpOps_cons]
    simp only [exOps] at h
    split at h
    · rename_i a h' ids hi
      obtain ⟨h1, h2⟩ := exIns_val hcf hpf hi
      have key := fun F own act w hI => ih (k + 1) (fun j hj => by
        obtain ⟨i', o', f1, f2, f3⟩ := hl (j + 1) (by omega)
        exact ⟨i', o', by simpa using f1, by rw [← f2]; congr 1; omega, f3⟩) (by simp at hk; omega) (St.put ⟨σ.t, h'⟩ ins.dst a) _ F own act w h hI
      have hd : d = false := by
        cases d with
        | false => rfl
        | true =>
          exfalso
          clear key ih hl hk e2 e3 hI h1 h2 hi
          revert h
          generalize St.put ⟨σ.t, h'⟩ ins.dst a = τ
          generalize addI N ids U = W
          clear U
          induction l generalizing τ W with
          | nil => intro h; cases h
          | cons j l ihl =>
            intro h
            simp only [exOps] at h
            split at h
            · exact ihl _ _ h
            · simp at h
            · cases h
      refine ⟨hd, wpOp_mono ?_ (step_sound hI e3 (h1 _ (show (fun ρ => ρ = St.put ⟨σ.t, h'⟩ ins.dst a) _ from rfl)) Q e2)⟩
      rintro a1 w1 ⟨F1, own1, σ1, hI1, rfl⟩
      exact (key F1 own1 a1 w1 hI1).2
    · rename_i v' hi
      split at h
      · cases h
      · rename_i hg
        cases h
        simp only [Bool.or_eq_true, not_or, Bool.not_eq_true] at hg
        have hgd : ins.gd = none := by
          cases hq : ins.gd with
          | none => rfl
          | some _ => rw [hq] at hg; cases hg.2
        exact ⟨hg.1, dies_wp hI e3 e2 (exIns_pan hcf hi hgd) (fun w' hD => hQ act w' hI.defers hD) _⟩
    · cases h

/-- A region with marks. -/
theorem exR_val (hcf : CfOk P Gl cf) (hpf : PfOk P Gl pf) {M N : Nat} : ∀ (l : List (Nat × Ins)) (c : Bool) (σ : St) (q : RW) (U : List Nat) (e : Exit) (τ : St) (V : List Nat) (q' : RW), M ≤ σ.h.length → exR Gl cf pf M N c l σ q U = some (.nrm e τ V, q') →
    e = .normal ∧ (∀ id ∈ q.rd, id ∈ q'.rd) ∧ (∀ id ∈ q.uw, id ∈ q'.uw) ∧ TU N V σ.h τ.h ∧ (∀ id ∈ U, id ∈ V) ∧ ∀ W : List Nat, (∀ id ∈ q'.uw, id ∈ W) → (∀ id ∈ q'.rd, id < M ∧ id ∉ W) → ∀ K : St → Prop, K τ → aOpsR P Gl M W K l σ := by
  intro l
  induction l with
  | nil => intro c σ q U e τ V q' _ h; cases h; exact ⟨rfl, fun _ h => h, fun _ h => h, .refl _ _ _, fun _ h => h, fun _ _ _ K hK => hK⟩
  | cons p l ih =>
    intro c σ q U e τ V q' hM h
    obtain ⟨m, i⟩ := p
    match m, h with
    | 0, h =>
      simp only [exR] at h
      split at h
      · rename_i a h' ids hi
        obtain ⟨h1, h2⟩ := exIns_val hcf hpf hi
        obtain ⟨k1, k2, k3, k4, k5, k6⟩ := ih _ _ _ _ _ _ _ _ (by rw [put_hh]; exact Nat.le_trans hM h2.1) h
        rw [put_hh] at k4
        exact ⟨k1, k2, k3, (TU.step (U := U) h2).trans k4 k5, fun id hid => k5 id ((addI_sub N ids U).1 id hid), fun W a b K hK => h1 _ (k6 W a b K hK)⟩
      · cases h
    | 1, h =>
      simp only [exR] at h
      split at h
      · rename_i a h' ids hi
        obtain ⟨h1, h2⟩ := exIns_val hcf hpf hi
        obtain ⟨k1, k2, k3, k4, k5, k6⟩ := ih _ _ _ _ _ _ _ _ (by rw [put_hh]; exact Nat.le_trans hM h2.1) h
        rw [put_hh] at k4
        refine ⟨k1, fun id hid => k2 id (List.mem_append.2 (.inr hid)), k3, (TU.step (U := U) h2).trans k4 k5, fun id hid => k5 id ((addI_sub N ids U).1 id hid), fun W a b K hK => ⟨fun hw id hid => ?_, h1 _ (k6 W a b K hK)⟩⟩
        refine b id (k2 id (List.mem_append.2 (.inl ?_)))
        rw [gdB_wants hw]
        exact hid
      · cases h
    | m + 2, h =>
      simp only [exR] at h
      split at h
      · rename_i a h' ids hi
        obtain ⟨h1, h2⟩ := exIns_val hcf hpf hi
        obtain ⟨k1, k2, k3, k4, k5, k6⟩ := ih _ _ _ _ _ _ _ _ (by rw [put_hh]; exact Nat.le_trans hM h2.1) h
        rw [put_hh] at k4
        refine ⟨k1, k2, fun id hid => k3 id ((addI_sub M ids q.uw).1 id hid), (TU.step (U := U) h2).trans k4 k5, fun id hid => k5 id ((addI_sub N ids U).1 id hid), fun W a b K hK => ?_⟩
        show aStep P Gl false σ i (fun ρ => agree M W σ.h ρ.h ∧ aOpsR P Gl M W K l ρ)
        refine h1 _ ⟨?_, k6 W a b K hK⟩
        rw [put_hh]
        exact fun id hid hn => h2.2 id (Nat.lt_of_lt_of_le hid hM) fun r => hn (a id (k3 id ((addI_sub M ids q.uw).2 id r hid)))
      · split at h
        · cases h
        · cases h
      · cases h
theorem exR_pan (hcf : CfOk P Gl cf) (hpf : PfOk P Gl pf) {M N : Nat} : ∀ (l : List (Nat × Ins)) (c : Bool) (σ : St) (q : RW) (U : List Nat) (v : Value) (q' : RW), exR Gl cf pf M N c l σ q U = some (.pan v, q') →
    c = true ∧ (∀ id ∈ q.rd, id ∈ q'.rd) ∧ ∃ pre p post, l = pre ++ p :: post ∧ (∀ a ∈ pre, calm a = true) ∧ waits p post = true ∧ p.2.gd = none ∧ p.2.i.isCall = true ∧ ∀ W : List Nat, (∀ id ∈ q'.rd, id < M ∧ id ∉ W) → aOpsR P Gl M W (fun ρ => DiesAt P Gl ρ p.2 v) pre σ := by
  intro l
  induction l with
  | nil => intro c σ q U v q' h; cases h
  | cons p l ih =>
    intro c σ q U v q' h
    obtain ⟨m, i⟩ := p
    match m, h with
    | 0, h =>
      simp only [exR] at h
      split at h
      · rename_i a h' ids hi
        obtain ⟨h1, h2⟩ := exIns_val hcf hpf hi
        obtain ⟨k1, k2, pre, p, post, rfl, k3, k4, k5, k6, k7⟩ := ih _ _ _ _ _ _ h
        rw [Bool.and_eq_true] at k1
        refine ⟨k1.1, k2, (0, i) :: pre, p, post, rfl, fun a ha => ?_, k4, k5, k6, fun W b => h1 _ (k7 W b)⟩
        rcases List.mem_cons.1 ha with rfl | ha
        · exact k1.2
        · exact k3 a ha
      · cases h
    | 1, h =>
      simp only [exR] at h
      split at h
      · rename_i a h' ids hi
        obtain ⟨h1, h2⟩ := exIns_val hcf hpf hi
        obtain ⟨k1, k2, pre, p, post, rfl, k3, k4, k5, k6, k7⟩ := ih _ _ _ _ _ _ h
        rw [Bool.and_eq_true] at k1
        refine ⟨k1.1, fun id hid => k2 id (List.mem_append.2 (.inr hid)), (1, i) :: pre, p, post, rfl, fun a ha => ?_, k4, k5, k6, fun W b => ⟨fun hw id hid => ?_, h1 _ (k7 W b)⟩⟩
        · rcases List.mem_cons.1 ha with rfl | ha
          · exact k1.2
          · exact k3 a ha
        · refine b id (k2 id (List.mem_append.2 (.inl ?_)))
          rw [gdB_wants hw]
          exact hid
      · cases h
    | m + 2, h =>
      simp only [exR] at h
      split at h
      · rename_i a h' ids hi
        obtain ⟨k1, _⟩ := ih _ _ _ _ _ _ h
        cases k1
      · rename_i v' hi
        split at h
        · rename_i hc
          cases h
          simp only [Bool.and_eq_true, Bool.not_eq_true'] at hc
          have hgd : i.gd = none := by
            cases hq : i.gd with
            | none => rfl
            | some _ => rw [hq] at hc; cases hc.2
          exact ⟨hc.1.1, fun _ h => h, [], (m + 2, i), l, rfl, fun a ha => by simp at ha, hc.1.2, hgd, (by obtain ⟨_, fo, args, f, as, e, _⟩ := exIns_pan hcf hi hgd; rw [e]; rfl), fun W _ => exIns_pan hcf hi hgd⟩
        · cases h
      · cases h
end
end Abs
end Go.Proofs.YtnhgeocdffhkjaaDoor
