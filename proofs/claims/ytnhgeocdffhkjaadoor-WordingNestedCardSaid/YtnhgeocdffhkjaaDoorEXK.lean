/- Parse at this seat: what fails; tables of calls. -/
import Derived.Test.YtnhgeocdffhkjaaDoorEXJ
namespace Go.Proofs.YtnhgeocdffhkjaaDoor
namespace Abs
open Go.RowKit
set_option linter.unusedVariables false
set_option linter.unusedSimpArgs false
set_option maxRecDepth 20000
noncomputable def o21 : Array Oper := rgO (Tryd.f21.body.getD .skip)
noncomputable def l21 : List Ins := (insF Tryd.prog o21 0).take 6
theorem l21_len : l21.length = 6 := by kernel_rfl
theorem l21_all : ((o21.toList.drop 0).take 6).all (fun o => (cIns Tryd.prog false o21 o).isSome) = true := by kernel_rfl
theorem o21_size : o21.size = 8 := rfl
theorem b21 : Tryd.f21.body = some (.region 0 o21 false) := rfl
theorem o21_6 : ∃ o, o21[6]? = some o ∧ o.guard = none ∧ o.dst = some 10 ∧ o.op = .makeInterface 46 (.tmp 9) := ⟨_, rfl, rfl, rfl, rfl⟩
theorem o21_7 : ∃ o, o21[7]? = some o ∧ o.guard = none ∧ o.op = .panic (.tmp 10) := ⟨_, rfl, rfl, rfl⟩
def noC : Nat → List AV → List AObj → Option IR := fun _ _ _ => none
def noP : Nat → List AV → Option AV := fun _ _ => none
theorem noC_ok {P : Program} {Gl : Nat → Option (List AV)} : CfOk P Gl noC := fun f az h r q => by cases q
theorem noP_ok {P : Program} {Gl : Nat → Option (List AV)} : PfOk P Gl noP := fun f az r q => by cases q
def pan2 (a : AV) : FR := match a with
  | .agg cs => match cs with
    | [x, y] => match x with
      | .v x => match y with
        | .v y => .pan (.iface 46 (.agg #[x, y]))
        | _ => .no
      | _ => .no
    | _ => .no
  | _ => .no
noncomputable def fail21 (az : List AV) (h : List AObj) : FR := match Nat.ble az.length 11 with
  | true => match exOps GlD noC noP false 0 l21 ⟨az ++ List.replicate (11 - az.length) .any, h⟩ [] with
    | some (.nrm _ τ _) => match Nat.ble 11 τ.t.length with
      | true => pan2 (τ.t.getD 9 .any)
      | false => .no
    | _ => .no
  | false => .no
theorem pan2_ok {a : AV} {r : IR} (h : (pan2 a).ir = some r) : ∃ x y, a = .agg [.v x, .v y] ∧ r = .pan (.iface 46 (.agg #[x, y])) := by
  unfold pan2 at h
  split at h
  · split at h
    · split at h
      · split at h
        · cases h; exact ⟨_, _, rfl, rfl⟩
        · cases h
      · cases h
    · cases h
  · cases h
theorem run_mi {o : Oper} {a : Act} {w : World} (h : o.op = .makeInterface 46 (.tmp 9)) : (execOp a.eval o).run Tryd.prog w = .ok (.value (.iface 46 (a.eval (.tmp 9)))) w := by
  unfold execOp
  simp only [h]
  kernel_rfl
theorem run_pn {P : Program} {o : Oper} {a : Act} {w : World} {x : Value} (h : o.op = .panic (.tmp 10)) (he : a.eval (.tmp 10) = .iface 46 x) : (execOp a.eval o).run P w = .halt (.panic (.iface 46 x)) w := by
  unfold execOp
  simp only [h, he]
  rfl
theorem fail_ok {az : List AV} {h : List AObj} {r : IR} (hr : (fail21 az h).ir = some r) : callable Tryd.prog 21 = true ∧ IrOk Tryd.prog GlD 21 az h r := by
  refine ⟨by kernel_rfl, ?_⟩
  unfold fail21 at hr
  split at hr
  · split at hr
    · rename_i e τ V hx
      split at hr
      rotate_left
      · cases hr
      rename_i hlen
      obtain ⟨x, y, ha, rfl⟩ := pan2_ok hr
      show PanH Tryd.prog GlD 21 h az (.iface 46 (.agg #[x, y]))
      refine PanH.ofW Tryd.func21 b21 fun F own B w0 act w hI => ?_
      refine wp_region ?_
      rw [o21_size, show List.range 8 = List.range' 0 l21.length ++ [6, 7] by rw [l21_len]; rfl]
      refine prefix_run (K := fun ρ => ρ = τ) ?_ l21 0 (fun j hj => ?_) _ F own act w ((exOps_val noC_ok noP_ok _ _ _ _ _ _ hx).2.1 _ rfl) hI
      · rintro a w1 ⟨F1, own1, τ', hI1, rfl⟩
        obtain ⟨p6, h61, h62, h63, h64⟩ := o21_6
        obtain ⟨p7, h71, h72, h73⟩ := o21_7
        have e9 : a.eval (.tmp 9) = .agg #[x, y] := by
          have := hI1.ev (.tmp 9)
          rw [show τ'.val GlD (cOpd (.tmp 9)) = .agg [.v x, .v y] from ha] at this
          obtain ⟨zs, e1, e2, _, e3⟩ := this.agg_inv
          rw [e1]
          have hz : zs.size = 2 := e2
          have z0 : zs[0]? = some x := by
            have : zs[0]? = some (zs[0]'(by omega)) := Array.getElem?_eq_getElem (by omega)
            rw [this, (e3 0 _ _ this rfl).v_inv]
          have z1 : zs[1]? = some y := by
            have : zs[1]? = some (zs[1]'(by omega)) := Array.getElem?_eq_getElem (by omega)
            rw [this, (e3 1 _ _ this rfl).v_inv]
          congr 1
          apply Array.ext (by rw [hz]; rfl)
          intro i h1 h2
          match i, h1, h2 with
          | 0, h1, h2 => rw [Array.getElem?_eq_getElem (by omega)] at z0; exact Option.some.inj z0
          | 1, h1, h2 => rw [Array.getElem?_eq_getElem (by omega)] at z1; exact Option.some.inj z1
          | n + 2, h1, h2 => omega
        refine op_val h61 h62 (run_mi h64) ?_
        rw [h63]
        have hsz : 10 < a.tmps.size := by
          rw [hI1.tl]
          exact Nat.le_of_ble_eq_true hlen
        have e10 : (a.put (some 10) (.iface 46 (a.eval (.tmp 9)))).eval (.tmp 10) = .iface 46 (.agg #[x, y]) := by
          rw [e9]
          simp [Act.put, Act.eval, hsz]
        refine op_pan h71 h72 (run_pn h73 e10) ?_
        exact ⟨rfl, by show a.defers = _; exact hI1.defers, fun ad y q => hI1.sub _ _ (hI1.ext0 _ _ q), hI1.below⟩
      · have hj' : j < 6 := by rw [l21_len] at hj; exact hj
        obtain ⟨ins, o, f1, f2, f3⟩ := insF_spec (P := Tryd.prog) l21_all j hj' (by rw [o21_size]; omega)
        exact ⟨o, ins, by unfold l21; rw [List.getElem?_take, if_pos hj']; exact f1, f2, f3⟩
    · cases hr
  · cases hr
end Abs
end Go.Proofs.YtnhgeocdffhkjaaDoor
