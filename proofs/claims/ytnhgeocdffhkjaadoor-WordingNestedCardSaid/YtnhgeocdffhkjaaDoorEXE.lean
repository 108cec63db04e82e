/- Parse: its deferred call. -/
import Derived.Test.YtnhgeocdffhkjaaDoorEXD
import Derived.KernelRfl
namespace Go.Proofs.YtnhgeocdffhkjaaDoor
namespace Abs
open Go.RowKit
set_option linter.unusedVariables false
set_option linter.unusedSimpArgs false
section
variable {P : Program} {Gl : Nat → Option (List AV)}
/-- Operations in the text's order, one by one. -/
theorem op_val {ops : Array Oper} {Q : Exit → Act → World → Prop} {i : Nat} {rest : List Nat} {a : Act} {w w' : World} {o : Oper} {v : Value} (ho : ops[i]? = some o) (hg : o.guard = none) (hr : (execOp a.eval o).run P w = .ok (.value v) w') (h : wpOps P ops Q rest (a.put o.dst v) w') : wpOps P ops Q (i :: rest) a w := by
  simp only [wpOps, ho]
  rw [if_pos (by simp [Region.wanted, hg])]
  left
  unfold Oper.wp
  rw [hr]; exact h
theorem op_pan {ops : Array Oper} {Q : Exit → Act → World → Prop} {i : Nat} {rest : List Nat} {a : Act} {w w' : World} {o : Oper} {v : Value} (ho : ops[i]? = some o) (hg : o.guard = none) (hr : (execOp a.eval o).run P w = .halt (.panic v) w') (h : Q (.panic [{ v, recovered := false }]) a w') : wpOps P ops Q (i :: rest) a w := by
  simp only [wpOps, ho]
  rw [if_pos (by simp [Region.wanted, hg])]
  left
  unfold Oper.wp
  rw [hr]; exact h
theorem op_def {ops : Array Oper} {Q : Exit → Act → World → Prop} {i : Nat} {rest : List Nat} {a : Act} {w w' : World} {o : Oper} {d : Deferred} (ho : ops[i]? = some o) (hg : o.guard = none) (hr : (execOp a.eval o).run P w = .ok (.defer d) w') (h : wpOps P ops Q rest ({ a with defers := d :: a.defers }.put o.dst undef) w') : wpOps P ops Q (i :: rest) a w := by
  simp only [wpOps, ho]
  rw [if_pos (by simp [Region.wanted, hg])]
  left
  unfold Oper.wp
  rw [hr]; exact h
theorem opsS_val {ops : Array Oper} {Q : Exit → Act → List Frame → World → Prop} {i : Nat} {rest : List Nat} {a : Act} {cs : List Frame} {w w' : World} {o : Oper} {v : Value} (ho : ops[i]? = some o) (hg : o.guard = none) (hr : (execOp a.eval o).run P w = .ok (.value v) w') (h : wpOpsS P ops Q rest (a.put o.dst v) cs w') : wpOpsS P ops Q (i :: rest) a cs w := by
  simp only [wpOpsS, ho]
  rw [if_pos (by simp [Region.wanted, hg]), hr]
  exact h
theorem opsS_rec {ops : Array Oper} {Q : Exit → Act → List Frame → World → Prop} {i : Nat} {rest : List Nat} {a : Act} {cs cs' : List Frame} {w : World} {o : Oper} {v : Value} (ho : ops[i]? = some o) (hg : o.guard = none) (hr : (execOp a.eval o).run P w = .ok .recover w) (hc : recoverD cs = some (v, cs') ∨ (recoverD cs = none ∧ v = .nilIface ∧ cs' = cs)) (h : wpOpsS P ops Q rest (a.put o.dst v) cs' w) : wpOpsS P ops Q (i :: rest) a cs w := by
  simp only [wpOpsS, ho]
  rw [if_pos (by simp [Region.wanted, hg]), hr]
  rcases hc with hc | ⟨hc, rfl, rfl⟩
  · simp only [hc]; exact h
  · simp only [hc]; exact h
theorem opsS_of {ops : Array Oper} {Q : Exit → Act → List Frame → World → Prop} {cs : List Frame} (hno : ∀ a w, ¬ Q .outgrown a cs w) : ∀ (l : List Nat) (a : Act) (w : World), wpOps P ops (fun e a w => Q e a cs w) l a w → wpOpsS P ops Q l a cs w
  | [], a, w, h => h
  | i :: rest, a, w, h => by
    simp only [wpOps] at h
    simp only [wpOpsS]
    cases ho : ops[i]? with
    | none => rw [ho] at h; exact opsS_of hno rest a w h
    | some o =>
      rw [ho] at h
      simp only at h ⊢
      split at h
      · rename_i hw
        rw [if_pos hw]
        rcases h with h | ⟨_, a0, w0, h0⟩
        · unfold Oper.wp at h
          generalize (execOp a.eval o).run P w = r at h
          have conv : ∀ (nx : Act → World → Prop) (nx' : Act → World → Prop), (∀ a w, nx a w → nx' a w) → o.upon P a nx (fun e a w => Q e a cs w) r → o.upon P a nx' (fun e a w => Q e a cs w) r := by
            intro nx nx' hn hu
            unfold Oper.upon at hu ⊢
            split at hu
            · exact hn _ _ hu
            · exact hn _ _ hu
            · exact hn _ _ hu
            · refine Calls.mono hu ?_
              intro e w' he
              cases e with
              | returned v => exact hn _ _ he
              | panicked c => exact he
              | outgrown => exact he
            · refine Rows.mono hu ?_
              intro v w' he
              exact hn _ _ he
            · exact hu
            · exact hu.elim
          have h2 := conv _ (fun a w => wpOpsS P ops Q rest a cs w) (fun a w hh => opsS_of hno rest a w hh) h
          split
          · rename_i w' 
            exact h2.elim
          · exact h2
        · exact absurd h0 (hno a0 w0)
      · rename_i hw
        rw [if_neg hw]
        exact opsS_of hno rest _ w h
/-- The operations of a region from one on, those that are made. -/
def insF (P : Program) (ops : Array Oper) (k : Nat) : List Ins := (ops.toList.drop k).filterMap (cIns P false ops)
theorem insF_spec {ops : Array Oper} {k m : Nat} (hall : ((ops.toList.drop k).take m).all (fun o => (cIns P false ops o).isSome) = true) : ∀ j, j < m → k + j < ops.size → ∃ ins o, (insF P ops k)[j]? = some ins ∧ ops[k + j]? = some o ∧ cIns P false ops o = some ins := by
  unfold insF
  have key : ∀ (l : List Oper) (m : Nat), (l.take m).all (fun o => (cIns P false ops o).isSome) = true → ∀ (j : Nat) (o : Oper), j < m → l[j]? = some o → ∃ ins, (l.filterMap (cIns P false ops))[j]? = some ins ∧ cIns P false ops o = some ins := by
    intro l
    induction l with
    | nil => intro m _ j o _ hj; simp at hj
    | cons x l ih =>
      intro m ha j o hm hj
      cases m with
      | zero => omega
      | succ m =>
        simp only [List.take_succ_cons, List.all_cons, Bool.and_eq_true] at ha
        obtain ⟨i, hi⟩ := Option.isSome_iff_exists.1 ha.1
        rw [List.filterMap_cons_some hi]
        cases j with
        | zero => cases hj; exact ⟨i, rfl, hi⟩
        | succ j => exact ih m ha.2 j o (by omega) (by simpa using hj)
  intro j hm hj
  have ho : ops[k + j]? = some ops[k + j] := Array.getElem?_eq_getElem hj
  obtain ⟨ins, h1, h2⟩ := key (ops.toList.drop k) m hall j ops[k + j] hm (by rw [List.getElem?_drop]; simp)
  exact ⟨ins, _, h1, ho, h2⟩
theorem prefix_run {ops : Array Oper} {Q : Exit → Act → World → Prop} {rest : List Nat} {B : Nat} {w0 : W0} {K : St → Prop} (hK : ∀ a w, Some' Gl B w0 K a w → wpOps P ops Q rest a w) : ∀ (l : List Ins) (k : Nat), (∀ j, j < l.length → ∃ o ins, l[j]? = some ins ∧ ops[k + j]? = some o ∧ cIns P false ops o = some ins) →
    ∀ (σ : St) (F : Addr → Option Value) (own : List Ent) (act : Act) (w : World), aOps P Gl false K l σ → Inv Gl F own B w0 σ act w → wpOps P ops Q (List.range' k l.length ++ rest) act w := by
  intro l
  induction l with
  | nil => intro k _ σ F own act w ha hI; exact hK act w ⟨F, own, σ, hI, ha⟩
  | cons ins l ih =>
    intro k hl σ F own act w ha hI
    obtain ⟨o, ins', e1, e2, e3⟩ := hl 0 (by simp)
    simp at e1
    subst e1
    simp only [Nat.add_zero] at e2
    rw [List.length_cons, List.range'_succ, List.cons_append, wpOps_cons]
    refine wpOp_mono ?_ (step_sound hI e3 ha Q e2)
    rintro a w1 ⟨F1, own1, σ1, hI1, hK1⟩
    exact ih (k + 1) (fun j hj => by
      obtain ⟨o', i', f1, f2, f3⟩ := hl (j + 1) (by simp; omega)
      exact ⟨o', i', by simpa using f1, by rw [← f2]; congr 1; omega, f3⟩) σ1 F1 own1 a w1 hK1 hI1
end
end Abs
end Go.Proofs.YtnhgeocdffhkjaaDoor
