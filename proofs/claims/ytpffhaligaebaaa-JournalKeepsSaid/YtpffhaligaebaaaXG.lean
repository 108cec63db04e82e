/- The typed machine: regions with marks. -/
import Derived.Test.YtpffhaligaebaaaXF
namespace Go.Proofs.Ytpffhaligaebaaa
namespace Abs
open Go.RowKit
set_option linter.unusedVariables false
set_option linter.unusedSimpArgs false
section
variable {P : Program} {c : Cfg} {ρ : List Nat} {X : XS} {H : List AObj} {σ : St} {β : Type} {r : β} {sp : Sp} {m N : Nat}
theorem getD_take {l : List Nat} {m i : Nat} (hi : i < m) : (l.take m).getD i 0 = l.getD i 0 := by simp [List.getD, List.getElem?_take, hi]
theorem low_get {h : List XO} {m id : Nat} (hi : id < m) : (lowHX m h)[id]? = (h[id]?).map (lowOX m) := by
  simp only [lowHX, List.getElem?_map, List.getElem?_take, hi, if_true]
theorem low_len (m : Nat) (o : XO) : (lowOX m o).len = o.len := by cases o <;> rfl
theorem low_v1 {h : List XO} {x : XV} {a : AV} (hv : V1 ρ h x a) : V1 (ρ.take m) (lowHX m h) (low1X m x) a := by
  cases x with
  | row id =>
    simp only [low1X]
    split
    · rename_i hb
      have hb := blt_t hb
      obtain ⟨ty, T, fz, es, he, rfl⟩ := hv
      exact ⟨ty, T, fz, es, by rw [low_get hb, he]; rfl, by rw [getD_take hb]⟩
    · trivial
  | sub id off len =>
    simp only [low1X]
    split
    · rename_i hb
      have hb := blt_t hb
      obtain ⟨ty, T, fz, es, he, rfl⟩ := hv
      exact ⟨ty, T, fz, es, by rw [low_get hb, he]; rfl, by rw [getD_take hb]⟩
    · trivial
  | ptr id i off =>
    simp only [low1X]
    split
    · rename_i hb
      have hb := blt_t hb
      obtain ⟨o, he, rfl⟩ := hv
      exact ⟨lowOX m o, by rw [low_get hb, he]; rfl, by rw [getD_take hb, low_len]⟩
    · trivial
  | agg => exact hv.elim
  | tup => exact hv.elim
  | _ => exact hv
theorem low_va {h : List XO} {x : XV} {a : AV} (hv : VA ρ h x a) : VA (ρ.take m) (lowHX m h) (lowAX m x) a := by
  by_cases ha : ∃ cs, x = .agg cs
  · obtain ⟨cs, rfl⟩ := ha
    obtain ⟨us, rfl, hcs⟩ := hv
    refine ⟨us, rfl, by simp [hcs.1], fun i z b p q => ?_⟩
    rw [List.getElem?_map] at p
    cases hz : cs[i]? with
    | none => rw [hz] at p; cases p
    | some w => rw [hz] at p; cases p; exact low_v1 (hcs.2 i w b hz q)
  · have e1 : lowAX m x = low1X m x := by cases x <;> first | rfl | exact absurd ⟨_, rfl⟩ ha
    rw [e1]
    exact VA.of1 (low_v1 (by cases x <;> first | exact hv | exact absurd ⟨_, rfl⟩ ha))
theorem low_vt {h : List XO} {x : XV} {a : AV} (hv : VT ρ h x a) : VT (ρ.take m) (lowHX m h) (lowTX m x) a := by
  by_cases ha : ∃ cs, x = .tup cs
  · obtain ⟨cs, rfl⟩ := ha
    obtain ⟨us, rfl, hcs⟩ := hv
    refine ⟨us, rfl, by simp [hcs.1], fun i z b p q => ?_⟩
    rw [List.getElem?_map] at p
    cases hz : cs[i]? with
    | none => rw [hz] at p; cases p
    | some w => rw [hz] at p; cases p; exact low_va (hcs.2 i w b hz q)
  · have e1 : lowTX m x = lowAX m x := by cases x <;> first | rfl | exact absurd ⟨_, rfl⟩ ha
    rw [e1]
    exact VT.ofA (low_va (by cases x <;> first | exact hv | exact absurd ⟨_, rfl⟩ ha))
theorem low_hs {h : List XO} (hs : HS ρ h H) (hA : ∀ i, i < m → i < ρ.length → ρ.getD i 0 < N) : HS (ρ.take m) (lowHX m h) (H.take N) := by
  refine ⟨by simp [lowHX, hs.rl], List.Nodup.sublist (List.take_sublist _ _) hs.nd, fun i o q => ?_⟩
  have hil : i < (lowHX m h).length := (List.getElem?_eq_some_iff.1 q).1
  have him : i < m := by simp [lowHX] at hil; omega
  rw [low_get him] at q
  cases ho : h[i]? with
  | none => rw [ho] at q; cases q
  | some o0 =>
    rw [ho] at q; cases q
    have hih : i < h.length := (List.getElem?_eq_some_iff.1 ho).1
    obtain ⟨O, hO, hR⟩ := hs.hr i o0 ho
    refine ⟨O, by rw [getD_take him, List.getElem?_take, if_pos (hA i him (by rw [hs.rl]; exact hih))]; exact hO, ?_⟩
    cases o0 with
    | row => exact hR
    | box ty cs =>
      obtain ⟨a, b, c', d, e, he, hcs⟩ := hR
      refine ⟨a, by simpa [lowOX] using b, c', d, e, he, by simp [hcs.1], fun j z w p q => ?_⟩
      rw [List.getElem?_map] at p
      cases hz : cs[j]? with
      | none => rw [hz] at p; cases p
      | some u => rw [hz] at p; cases p; exact low_v1 (hcs.2 j u w hz q)
theorem low_back {h : List XO} (hρ : ρ.length = h.length) : Trn (ρ.take m) (lowHX m h) ρ h [] := by
  refine Trn.mk (fun id o q _ => ?_) (fun id hid => ?_)
  · have hil : id < (lowHX m h).length := (List.getElem?_eq_some_iff.1 q).1
    have him : id < m := by simp [lowHX] at hil; omega
    rw [low_get him] at q
    cases ho : h[id]? with
    | none => rw [ho] at q; cases q
    | some o0 =>
      rw [ho] at q; cases q
      refine ⟨o0, rfl, ?_⟩
      cases o0 with
      | row => exact ⟨rfl, rfl, rfl⟩
      | box => trivial
  · have him : id < m := by simp [lowHX] at hid; omega
    rw [getD_take him]
theorem killTL_nil (x : XV) : killTL [] x = x := rfl
/-- A marked reader. -/
theorem xrd_ok (hc : CfgOk P c) (hS : Sim ρ X σ) (hsp : SpR ρ X.h σ sp) (hA : ∀ i, i < m → i < ρ.length → ρ.getD i 0 < N) {K : XS → Sp → Option β} {ins : Ins} {Q : St → Prop} (hcl : ins.i.cls ≤ 1) (hx : xrd c m X sp K ins = some r)
    (hQ : ∀ (X' : XS) (sp' : Sp) (t' : List AV), Sim ρ X' ⟨t', σ.h⟩ → SpR ρ X'.h ⟨t', σ.h⟩ sp' → X'.h = X.h → K X' sp' = some r → Q ⟨t', σ.h.take N⟩) : aStep P (gx c.GX) true ⟨σ.t, σ.h.take N⟩ ins Q := by
  have hs' := low_hs (N := N) hS.h hA
  have hu := Upd.same hS.h
  obtain ⟨dst, gd, i⟩ := ins
  have putT : ∀ (a : AV), St.put ⟨σ.t, σ.h.take N⟩ dst a = ⟨(St.put ⟨σ.t, σ.h⟩ dst a).t, σ.h.take N⟩ := fun a => by cases dst <;> rfl
  have putT2 : ∀ (a : AV), St.put ⟨σ.t, σ.h⟩ dst a = ⟨(St.put ⟨σ.t, σ.h⟩ dst a).t, σ.h⟩ := fun a => by cases dst <;> rfl
  cases gd with
  | none =>
    show aExec P (gx c.GX) true ⟨σ.t, σ.h.take N⟩ dst Q i
    simp only [xrd] at hx
    refine xexec_ok (σ := ⟨σ.t, σ.h.take N⟩) hc hs' (fun o => low_vt (rdG_ok hS o)) hx ?_
    rintro a H' ⟨ρ', v, kl, h', tch, u1, u2, u3, u4, u5⟩
    obtain ⟨rfl, rfl, rfl, rfl⟩ := u4 hcl rfl
    have hv : VT ρ X.h v a := by have := (low_back (m := m) hS.h.rl).T u2; rw [killTL_nil] at this; exact this
    show Q (St.put ⟨σ.t, σ.h.take N⟩ dst a)
    rw [putT]
    have h1 := put_ok (X := X) (kl := []) hS.t hu hv dst
    have h2 := drop_ok (kl := []) hsp hu dst a
    rw [putT2] at h1 h2
    exact hQ _ _ _ h1 h2 rfl u5
  | some g =>
    obtain ⟨s, want⟩ := g
    simp only [xrd] at hx
    have hvs := vt_get hS.t s
    have go : ∀ b : Bool, σ.t.getD s .any = .v (.bool b) → (match (generalizing := false) specI i, dst, xspec c.GX c.tt (lowHX m X.h) X.t sp (lowTX m) s want i with
      | true, some u, some (p, v) => if (Nat.blt u X.t.length && !(Nat.beq u s)) = true then cond (p || not (bEq b want)) (K ⟨X.t.set u .any, X.h⟩ ((u, s, want, v) :: spDrop (some u) sp)) none else none
      | _, _, _ => none) = some r → aStep P (gx c.GX) true ⟨σ.t, σ.h.take N⟩ ⟨dst, some (s, want), i⟩ Q := by
      clear hx
      intro b hg hx
      have hstep : aStep P (gx c.GX) true ⟨σ.t, σ.h.take N⟩ ⟨dst, some (s, want), i⟩ Q = if b = want then aExec P (gx c.GX) true ⟨σ.t, σ.h.take N⟩ dst Q i else Q (St.put ⟨σ.t, σ.h.take N⟩ dst und) := by
        simp only [aStep, hg]
      rw [hstep]
      split at hx
      case h_2 => cases hx
      rename_i u p v hsi hxs
      split at hx
      case isFalse => cases hx
      rename_i hub
      simp only [Bool.and_eq_true, Bool.not_eq_true'] at hub
      have hul := blt_t hub.1
      have hus : u ≠ s := fun q => by subst q; simp at hub
      have hul' : u < σ.t.length := by rw [← hS.t.1]; exact hul
      cases hpb : (p || not (bEq b want)) with
      | false => rw [hpb] at hx; cases hx
      | true =>
        rw [hpb] at hx
        have hx : K ⟨X.t.set u .any, X.h⟩ ((u, s, want, v) :: spDrop (some u) sp) = some r := hx
        obtain ⟨_, hncall⟩ := specI_cls hsi
        have hany : ∀ a, Sim ρ ⟨X.t.set u .any, X.h⟩ (St.put ⟨σ.t, σ.h⟩ (some u) a) := fun a => put_ok (X := X) (kl := []) hS.t hu (vt_any a) (some u)
        by_cases hw : b = want
        · rw [if_pos hw]
          have hp : p = true := by
            subst hw
            simpa [bEq] using hpb
          obtain ⟨q, a, e1, e2, e4⟩ := xspec_ok (σ' := ⟨σ.t, σ.h.take N⟩) hs' (fun x a q => low_vt q) (fun o => val_h o) hS hsp (by rw [hg, hw]) hcl hxs hp
          rw [aExec_step hncall, e1]
          refine ⟨e2, ?_⟩
          have hv : VT ρ X.h v a := by have := (low_back (m := m) hS.h.rl).T e4; rw [killTL_nil] at this; exact this
          exact hQ _ _ (St.put ⟨σ.t, σ.h⟩ (some u) a).t (hany a) (spec_new hsp hS.h hul' hus hg (.inl ⟨hw, hv⟩)) rfl hx
        · rw [if_neg hw]
          exact hQ _ _ (St.put ⟨σ.t, σ.h⟩ (some u) und).t (hany und) (spec_new hsp hS.h hul' hus hg (.inr ⟨hw, rfl⟩)) rfl hx
    split at hx
    · rename_i b hb
      rw [hb] at hvs
      exact go b (vt_bool hvs) hx
    · cases hx
theorem xopsR_ok (hc : CfgOk P c) {K : XS → Option β} {H0 : List AObj} {ρ0 : List Nat} : ∀ (l : List (Nat × Ins)) (X : XS) (sp : Sp) (ρ : List Nat) (σ : St), Sim ρ X σ → SpR ρ X.h σ sp → Frm H0 ρ0 ρ σ.h → (∀ i, i < m → i < ρ.length → ρ.getD i 0 < N) → (∀ i, m ≤ i → i < ρ.length → N ≤ ρ.getD i 0) → N ≤ σ.h.length → m ≤ X.h.length →
    xopsR c m K l X sp = some r → aOpsR P (gx c.GX) N (fun τ => ∃ ρ' X', Sim ρ' X' τ ∧ Frm H0 ρ0 ρ' τ.h ∧ K X' = some r) l σ := by
  intro l
  induction l with
  | nil => intro X sp ρ σ hS _ hF _ _ _ _ hx; exact ⟨ρ, X, hS, hF, hx⟩
  | cons p l ih =>
    intro X sp ρ σ hS hsp hF hA hB hN hM hx
    obtain ⟨mk, i⟩ := p
    have next : ∀ (ρ' : List Nat) (X' : XS) (sp' : Sp) (τ : St) (kl tch : List Nat), Sim ρ' X' τ → SpR ρ' X'.h τ sp' → Upd ρ X.h σ.h ρ' X'.h τ.h kl tch → xopsR c m K l X' sp' = some r → aOpsR P (gx c.GX) N (fun τ => ∃ ρ' X', Sim ρ' X' τ ∧ Frm H0 ρ0 ρ' τ.h ∧ K X' = some r) l τ := by
      intro ρ' X' sp' τ kl tch s1 s2 u hK
      obtain ⟨n, e, q⟩ := u.ap
      have hml : m ≤ ρ.length := by rw [hS.h.rl]; exact hM
      refine ih X' sp' ρ' τ s1 s2 (hF.upd hS.h.rl u) (fun j hj hj' => ?_) (fun j hj hj' => ?_) (Nat.le_trans hN u.ge) (Nat.le_trans hM u.hl) hK
      · rw [e, getD_left (by omega)]; exact hA j hj (by omega)
      · rcases Nat.lt_or_ge j ρ.length with hl | hl
        · rw [e, getD_left hl]; exact hB j hj hl
        · rw [e] at hj' ⊢
          simp only [List.length_append] at hj'
          have : (ρ ++ n).getD j 0 = n[j - ρ.length]'(by omega) := by
            simp only [List.getD]
            rw [List.getElem?_append_right hl, List.getElem?_eq_getElem (by omega)]; rfl
          rw [this]
          exact Nat.le_trans hN (q _ (List.getElem_mem _))
    match mk with
    | 0 =>
      simp only [xopsR] at hx
      refine xIns_ok hc 8 X sp _ hS hsp hx ?_
      rintro τ ⟨ρ', X', sp', s1, s2, ⟨kl, tch, u, _⟩, hK⟩
      exact next ρ' X' sp' τ kl tch s1 s2 u hK
    | 1 =>
      simp only [xopsR] at hx
      split at hx
      case isFalse => cases hx
      rename_i hcl
      refine xrd_ok (N := N) hc hS hsp hA (Nat.le_of_ble_eq_true hcl) hx ?_
      intro X' sp' t' s1 s2 he hK
      exact ih X' sp' ρ ⟨t', σ.h⟩ s1 s2 hF hA hB hN (by rw [he]; exact hM) hK
    | k + 2 =>
      have hx : (if (i.gd.isNone && leaves m (rdG c.GX X.t) i.i) = true then xIns c true 8 X sp (fun X' sp' => xopsR c m K l X' sp') i else none) = some r := hx
      split at hx
      case isFalse => cases hx
      rename_i hb
      simp only [Bool.and_eq_true, Option.isNone_iff_eq_none] at hb
      show aStep P (gx c.GX) true σ i (fun ρ => ρ.h.take N = σ.h.take N ∧ aOpsR P (gx c.GX) N _ l ρ)
      refine xIns_ok hc 8 X sp _ hS hsp hx ?_
      rintro τ ⟨ρ', X', sp', s1, s2, ⟨kl, tch, u, hlv⟩, hK⟩
      refine ⟨?_, next ρ' X' sp' τ kl tch s1 s2 u hK⟩
      apply List.ext_getElem?
      intro j
      rw [List.getElem?_take, List.getElem?_take]
      split
      · rename_i hj
        refine u.fr j (by omega) (fun id hid hil q => ?_)
        have := hB id (hlv hb.1 m hb.2 id hid) (by rw [hS.h.rl]; exact hil)
        omega
      · rfl
end
end Abs
end Go.Proofs.Ytpffhaligaebaaa
