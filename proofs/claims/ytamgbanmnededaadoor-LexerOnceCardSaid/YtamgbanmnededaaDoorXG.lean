/- The typed machine: regions with marks. -/
import Derived.Test.YtamgbanmnededaaDoorXF
namespace Go.Proofs.YtamgbanmnededaaDoor
namespace Abs
open Go.RowKit
set_option linter.unusedVariables false
set_option linter.unusedSimpArgs false
section
variable {P : Program} {c : Cfg} {ρ : List Nat} {X : XS} {h : List XO} {H : List AObj} {σ : St} {β : Type} {r : β} {sp : Sp} {m N : Nat} {U : List Nat} {Gl : Nat → Option (List AV)} {rd : Opd → XV}
theorem rows_1 {v : XV} {a : AV} (hv : V1 ρ h v a) (hp : plain1 v = true) : rows1 a = (rowsX1 v).map fun id => ρ.getD id 0 := by
  cases v with
  | d T x =>
    have hw : Wp a (Ty.enc T x) := hv
    have := (wp_keep hw []).2
    cases a with
    | agg cs => rfl
    | _ => exact this
  | k y => have : a = .v y := hv; subst this; rfl
  | row id => obtain ⟨ty, T, fz, es, he, rfl⟩ := hv; rfl
  | sub id o l => obtain ⟨ty, T, fz, es, he, rfl⟩ := hv; rfl
  | _ => cases hp
theorem rows_A {v : XV} {a : AV} (hv : VT ρ h v a) (hp : plainX v = true) : rowsA a = (rowsX v).map fun id => ρ.getD id 0 := by
  cases v with
  | agg cs =>
    obtain ⟨as, rfl, hl⟩ := hv
    show as.flatMap rows1 = (cs.flatMap rowsX1).map _
    have hp' : cs.all plain1 = true := hp
    clear hp
    induction cs generalizing as with
    | nil => rw [hl.nil_left]; rfl
    | cons c cs ih =>
      obtain ⟨a, as', rfl, h1, h2⟩ := hl.cons_left
      simp only [List.all_cons, Bool.and_eq_true] at hp'
      rw [List.flatMap_cons, List.flatMap_cons, List.map_append, rows_1 h1 hp'.1, ih as' h2 hp'.2]
  | d T x => exact (wp_keep (show Wp a (Ty.enc T x) from hv) []).2
  | k y => have : a = .v y := hv; subst this; rfl
  | row id => obtain ⟨ty, T, fz, es, he, rfl⟩ := hv; rfl
  | sub id o l => obtain ⟨ty, T, fz, es, he, rfl⟩ := hv; rfl
  | _ => cases hp
theorem rows_L : ∀ {vs : List XV} {as : List AV}, All2 (VT ρ h) vs as → vs.all plainX = true → as.flatMap rowsA = (vs.flatMap rowsX).map fun id => ρ.getD id 0 := by
  intro vs
  induction vs with
  | nil => intro as hl _; rw [hl.nil_left]; rfl
  | cons v vs ih =>
    intro as hl hp
    obtain ⟨a, as', rfl, h1, h2⟩ := hl.cons_left
    simp only [List.all_cons, Bool.and_eq_true] at hp
    rw [List.flatMap_cons, List.flatMap_cons, List.map_append, rows_A h1 hp.1, ih h2 hp.2]
/-- What an unordered reader reads. -/
theorem idsX_ok {ok : Nat → Bool} (hrd : ∀ o, VT ρ h (rd o) (σ.val Gl o)) {i : I} (hx : idsX ok rd i = true) : ∀ id ∈ i.ids Gl σ, ∃ j, id = ρ.getD j 0 ∧ ok j = true ∧ j < h.length := by
  have one : ∀ x : Opd, (match rd x with | .ptr id _ _ => ok id | .lp _ _ _ => true | _ => false) = true → ∀ id ∈ (match σ.val Gl x with | .ptr id _ _ _ => [id] | _ => []), ∃ j, id = ρ.getD j 0 ∧ ok j = true ∧ j < h.length := by
    intro x hb id hid
    have hv := hrd x
    split at hb
    · rename_i j i o hj
      rw [hj] at hv
      obtain ⟨ob, he, ha⟩ := hv
      rw [ha] at hid
      simp only [List.mem_singleton] at hid
      exact ⟨j, hid, hb, (List.getElem?_eq_some_iff.1 he).1⟩
    · rename_i T y o hj
      rw [hj] at hv
      obtain ⟨cs, ha, _⟩ := hv
      rw [ha] at hid
      cases hid
    · cases hb
  have two : ∀ x : Opd, (match rd x with | .ptr id _ _ => ok id | _ => false) = true → (match rd x with | .ptr id _ _ => ok id | .lp _ _ _ => true | _ => false) = true := by
    intro x hb
    split at hb
    · rename_i h1; rw [h1]; exact hb
    · cases hb
  cases i with
  | load sz ag x => exact one x hx
  | aaddr b st n x k => exact one x hx
  | b2s x =>
    intro id hid
    have hv := hrd x
    simp only [idsX] at hx
    simp only [I.ids] at hid
    split at hx
    · rename_i j hj
      rw [hj] at hv
      obtain ⟨ty, T, fz, es, he, ha⟩ := hv
      rw [ha] at hid
      simp only [List.mem_singleton] at hid
      exact ⟨j, hid, hx, (List.getElem?_eq_some_iff.1 he).1⟩
    · rename_i j o l hj
      rw [hj] at hv
      obtain ⟨ty, T, fz, es, he, ha⟩ := hv
      rw [ha] at hid
      simp only [List.mem_singleton] at hid
      exact ⟨j, hid, hx, (List.getElem?_eq_some_iff.1 he).1⟩
    · rename_i T y hj
      rw [hj] at hv
      have hw : Wp (σ.val Gl x) (Ty.enc T y) := hv
      split at hid
      · rename_i q
        rw [q] at hw
        exfalso
        cases T <;> first | (cases hw; done) | (cases y <;> cases hw)
      · cases hid
    · rename_i v hj
      rw [hj] at hv
      rw [show σ.val Gl x = .v v from hv] at hid
      cases hid
    · cases hx
  | aslice b n x lo hi => exact one x (two x hx)
  | call fo args =>
    simp only [idsX, Bool.and_eq_true] at hx
    intro id hid
    simp only [I.ids] at hid
    rw [rows_L (map_vt (xs := args) hrd) hx.1] at hid
    obtain ⟨j, hj, rfl⟩ := List.mem_map.1 hid
    refine ⟨j, rfl, List.all_eq_true.1 hx.2 j hj, ?_⟩
    obtain ⟨v, hv, hjv⟩ := List.mem_flatMap.1 hj
    obtain ⟨o, ho, rfl⟩ := List.mem_map.1 hv
    have hV := hrd o
    have lt1 : ∀ {v : XV} {a : AV}, V1 ρ h v a → ∀ j ∈ rowsX1 v, j < h.length := by
      intro v a hv j hj
      cases v with
      | row id => obtain ⟨ty, T, fz, es, he, _⟩ := hv; simp only [rowsX1, List.mem_singleton] at hj; subst hj; exact (List.getElem?_eq_some_iff.1 he).1
      | sub id o l => obtain ⟨ty, T, fz, es, he, _⟩ := hv; simp only [rowsX1, List.mem_singleton] at hj; subst hj; exact (List.getElem?_eq_some_iff.1 he).1
      | _ => cases hj
    generalize rd o = v at hV hjv
    cases v with
    | agg cs =>
      obtain ⟨as, _, hl⟩ := hV
      obtain ⟨c', hc', hj'⟩ := List.mem_flatMap.1 hjv
      obtain ⟨k, hk⟩ := List.getElem?_of_mem hc'
      obtain ⟨b, _, hb⟩ := hl.get_left hk
      exact lt1 hb j hj'
    | row id => exact lt1 (show V1 ρ h (.row id) _ from hV) j hjv
    | sub id o l => exact lt1 (show V1 ρ h (.sub id o l) _ from hV) j hjv
    | _ => cases hjv
  | _ => intro id hid; cases hid
theorem ok_low {j : Nat} (h : (Nat.blt j m && !(U.any (Nat.beq j))) = true) : j < m ∧ j ∉ U := by
  simp only [Bool.and_eq_true, Bool.not_eq_true'] at h
  refine ⟨blt_t h.1, fun q => ?_⟩
  have : U.any (Nat.beq j) = true := List.any_eq_true.2 ⟨j, q, Nat.beq_refl j⟩
  rw [this] at h; cases h.2
theorem ok_up {j : Nat} (h : (Nat.ble m j || U.any (Nat.beq j)) = true) : m ≤ j ∨ j ∈ U := by
  simp only [Bool.or_eq_true, List.any_eq_true] at h
  rcases h with q | ⟨x, hx, q⟩
  · exact .inl (Nat.le_of_ble_eq_true q)
  · have := beq_eq q; subst this; exact .inr hx
theorem getD_inj (hnd : ρ.Nodup) {i j : Nat} (hi : i < ρ.length) (hj : j < ρ.length) (h : ρ.getD i 0 = ρ.getD j 0) : i = j := by
  simp only [List.getD, List.getElem?_eq_getElem hi, List.getElem?_eq_getElem hj, Option.getD_some] at h
  exact (List.getElem_inj hnd).1 h
/-- An unordered reader. -/
theorem xrd_ok (hc : CfgOk P c) {ok : Nat → Bool} (hS : Sim ρ X σ) (hsp : SpR ρ X.h σ sp) {K : XS → Sp → Option β} {ins : Ins} {Q : St → Prop} (hcl : ins.i.cls ≤ 1) (hx : xrd c ok X sp K ins = some r)
    (hQ : ∀ (X' : XS) (sp' : Sp) (τ : St), Sim ρ X' τ → SpR ρ X'.h τ sp' → X'.h = X.h → τ.h = σ.h → K X' sp' = some r → Q τ) : (wants σ ins → ∀ id ∈ ins.i.ids (gx c.GX) σ, ∃ j, id = ρ.getD j 0 ∧ ok j = true ∧ j < X.h.length) ∧ aStep P (gx c.GX) true σ ins Q := by
  have hu := Upd.same hS.h
  obtain ⟨dst, gd, i⟩ := ins
  cases gd with
  | none =>
    simp only [xrd] at hx
    split at hx
    case isFalse => cases hx
    rename_i hid
    refine ⟨fun _ => idsX_ok (rdG_ok hS) hid, ?_⟩
    show aExec P (gx c.GX) true σ dst Q i
    refine xun_ok hc hS hsp hx fun τ hτ => ?_
    obtain ⟨ρ', X', sp', a1, a2, ⟨kl, tch, a3, _, a4⟩, a5⟩ := hτ
    obtain ⟨rfl, e1, e2⟩ := a4 hcl rfl
    exact hQ X' sp' τ a1 a2 e1 e2 a5
  | some g =>
    obtain ⟨s, want⟩ := g
    simp only [xrd] at hx
    have hvs := vt_get hS.t s
    split at hx
    case h_2 => cases hx
    rename_i b hb
    change Bool at b
    rw [hb] at hvs
    have hg := vt_bool hvs
    split at hx
    case h_2 => cases hx
    rename_i u p v hsi hxs
    split at hx
    case isFalse => cases hx
    rename_i hub
    simp only [Bool.and_eq_true, Bool.not_eq_true'] at hub
    obtain ⟨⟨hu1, hu2⟩, hid⟩ := hub
    have hul := blt_t hu1
    have hus : u ≠ s := fun q => by subst q; simp at hu2
    have hul' : u < σ.t.length := by rw [← hS.t.1]; exact hul
    refine ⟨fun hw => idsX_ok (fun o => rdC_ok hS hsp (by simp only [List.mem_singleton, forall_eq]; exact hw) o) hid, ?_⟩
    have hstep : aStep P (gx c.GX) true σ ⟨some u, some (s, want), i⟩ Q = if b = want then aExec P (gx c.GX) true σ (some u) Q i else Q (St.put σ (some u) und) := by
      simp only [aStep, hg]
    rw [hstep]
    cases hpb : (p || not (bEq b want)) with
    | false => rw [hpb] at hx; cases hx
    | true =>
      rw [hpb] at hx
      have hx : K ⟨X.t.set u .any, X.h⟩ ((u, s, want, v) :: spDrop (some u) sp) = some r := hx
      obtain ⟨_, hncall⟩ := specI_cls hsi
      have hany : ∀ a, Sim ρ ⟨X.t.set u .any, X.h⟩ (St.put ⟨σ.t, σ.h⟩ (some u) a) := fun a => put_ok (X := X) (kl := []) hS.t hu (vt_any a) (some u)
      by_cases hw : b = want
      · rw [if_pos hw]
        have hp : p = true := by
          subst hw
          simpa [bEq] using hpb
        obtain ⟨q, a, e1, e2, e4⟩ := xspec_ok hS hsp (by rw [hg, hw]) hcl hxs hp
        rw [aExec_step hncall, e1]
        exact ⟨e2, hQ _ _ (St.put ⟨σ.t, σ.h⟩ (some u) a) (hany a) (spec_new hsp hS.h hul' hus hg (.inl ⟨hw, e4⟩)) rfl rfl hx⟩
      · rw [if_neg hw]
        exact hQ _ _ (St.put ⟨σ.t, σ.h⟩ (some u) und) (hany und) (spec_new hsp hS.h hul' hus hg (.inr ⟨hw, rfl⟩)) rfl rfl hx
theorem xopsR_ok (hc : CfgOk P c) {K : XS → Option β} {H0 : List AObj} {ρ0 : List Nat} {V : List Nat} : ∀ (l : List (Nat × Ins)) (X : XS) (sp : Sp) (ρ : List Nat) (σ : St), Sim ρ X σ → SpR ρ X.h σ sp → Frm H0 ρ0 ρ σ.h → (∀ i, i < m → i < ρ.length → ρ.getD i 0 < N ∧ (ρ.getD i 0 ∈ V ↔ i ∈ U)) → (∀ i, m ≤ i → i < ρ.length → N ≤ ρ.getD i 0) → N ≤ σ.h.length → m ≤ X.h.length →
    xopsR c m U K l X sp = some r → aOpsR P (gx c.GX) N V (fun τ => ∃ ρ' X', Sim ρ' X' τ ∧ Frm H0 ρ0 ρ' τ.h ∧ K X' = some r) l σ := by
  intro l
  induction l with
  | nil => intro X sp ρ σ hS _ hF _ _ _ _ hx; exact ⟨ρ, X, hS, hF, hx⟩
  | cons p l ih =>
    intro X sp ρ σ hS hsp hF hA hB hN hM hx
    obtain ⟨mk, i⟩ := p
    have next : ∀ (ρ' : List Nat) (X' : XS) (sp' : Sp) (τ : St) (kl tch : List Nat), Sim ρ' X' τ → SpR ρ' X'.h τ sp' → Upd ρ X.h σ.h ρ' X'.h τ.h kl tch → xopsR c m U K l X' sp' = some r → aOpsR P (gx c.GX) N V (fun τ => ∃ ρ' X', Sim ρ' X' τ ∧ Frm H0 ρ0 ρ' τ.h ∧ K X' = some r) l τ := by
      intro ρ' X' sp' τ kl tch s1 s2 u hK
      obtain ⟨n, e, q⟩ := u.ap
      have hml : m ≤ ρ.length := by rw [hS.h.rl]; exact hM
      refine ih X' sp' ρ' τ s1 s2 (hF.upd hS.h.rl u) (fun j hj hj' => ?_) (fun j hj hj' => ?_) (Nat.le_trans hN u.ge) (Nat.le_trans hM u.hl) hK
      · rw [e, getD_left (by omega)]; exact hA j hj (by omega)
      · rcases Nat.lt_or_ge j ρ.length with hl | hl
        · rw [e, getD_left hl]; exact hB j hj hl
        · rw [e] at hj' ⊢
          simp only [List.length_append] at hj'
          have : (ρ ++ n).getD j 0 = n[j - ρ.length]'(by omega) := by
            simp only [List.getD]
            rw [List.getElem?_append_right hl, List.getElem?_eq_getElem (by omega)]; rfl
          rw [this]
          exact Nat.le_trans hN (q _ (List.getElem_mem _))
    match mk with
    | 0 =>
      simp only [xopsR] at hx
      refine xIns_ok hc 8 X sp _ hS hsp hx ?_
      rintro τ ⟨ρ', X', sp', s1, s2, ⟨kl, tch, u, _⟩, hK⟩
      exact next ρ' X' sp' τ kl tch s1 s2 u hK
    | 1 =>
      simp only [xopsR] at hx
      split at hx
      case isFalse => cases hx
      rename_i hcl
      obtain ⟨k1, k2⟩ := xrd_ok (Q := aOpsR P (gx c.GX) N V (fun τ => ∃ ρ' X', Sim ρ' X' τ ∧ Frm H0 ρ0 ρ' τ.h ∧ K X' = some r) l) hc hS hsp (Nat.le_of_ble_eq_true hcl) hx (fun X' sp' τ s1 s2 he hh hK => ih X' sp' ρ τ s1 s2 (by rw [hh]; exact hF) hA hB (by rw [hh]; exact hN) (by rw [he]; exact hM) hK)
      refine ⟨fun hw id hid => ?_, k2⟩
      obtain ⟨j, rfl, hok, hj⟩ := k1 hw id hid
      obtain ⟨o1, o2⟩ := ok_low hok
      have := hA j o1 (by rw [hS.h.rl]; exact hj)
      exact ⟨this.1, fun q => o2 (this.2.1 q)⟩
    | k + 2 =>
      show aStep P (gx c.GX) false σ i (fun ρ => agree N V σ.h ρ.h ∧ aOpsR P (gx c.GX) N V _ l ρ)
      have fin : ∀ (ρ' : List Nat) (X' : XS) (sp' : Sp) (τ : St) (kl tch : List Nat), Sim ρ' X' τ → SpR ρ' X'.h τ sp' → Upd ρ X.h σ.h ρ' X'.h τ.h kl tch → (∀ id ∈ tch, (Nat.ble m id || U.any (Nat.beq id)) = true) → xopsR c m U K l X' sp' = some r → agree N V σ.h τ.h ∧ aOpsR P (gx c.GX) N V (fun τ => ∃ ρ' X', Sim ρ' X' τ ∧ Frm H0 ρ0 ρ' τ.h ∧ K X' = some r) l τ := by
        intro ρ' X' sp' τ kl tch s1 s2 u hlv hK
        refine ⟨?_, next ρ' X' sp' τ kl tch s1 s2 u hK⟩
        intro j hj hjV
        refine u.fr j (by omega) (fun id hid hil q => ?_)
        have hil' : id < ρ.length := by rw [hS.h.rl]; exact hil
        rcases ok_up (hlv id hid) with r1 | r1
        · have := hB id r1 hil'; omega
        · rcases Nat.lt_or_ge id m with r2 | r2
          · exact hjV (q ▸ (hA id r2 hil').2.2 r1)
          · have := hB id r2 hil'; omega
      obtain ⟨dst, gd, ii⟩ := i
      cases gd with
      | none =>
        have hx : (if leaves (fun id => Nat.ble m id || U.any (Nat.beq id)) (rdG c.GX X.t) ii = true then xIns c false (fun id => Nat.ble m id || U.any (Nat.beq id)) 8 X sp (fun X' sp' => xopsR c m U K l X' sp') ⟨dst, none, ii⟩ else none) = some r := hx
        split at hx
        case isFalse => cases hx
        rename_i hb
        refine xIns_ok hc 8 X sp _ hS hsp hx ?_
        rintro τ ⟨ρ', X', sp', s1, s2, ⟨kl, tch, u, hlv⟩, hK⟩
        exact fin ρ' X' sp' τ kl tch s1 s2 u (hlv rfl hb) hK
      | some g =>
        obtain ⟨s, want⟩ := g
        have hx : (match X.t.getD s .any with
          | .d .bool b => cond b (xwr c (fun id => Nat.ble m id || U.any (Nat.beq id)) X sp dst s want ii (fun X' sp' => xopsR c m U K l X' sp') true) (xwr c (fun id => Nat.ble m id || U.any (Nat.beq id)) X sp dst s want ii (fun X' sp' => xopsR c m U K l X' sp') false)
          | _ => none) = some r := hx
        have hvs := vt_get hS.t s
        split at hx
        case h_2 => cases hx
        rename_i b hb
        change Bool at b
        rw [hb] at hvs
        have hg := vt_bool hvs
        have hw : xwr c (fun id => Nat.ble m id || U.any (Nat.beq id)) X sp dst s want ii (fun X' sp' => xopsR c m U K l X' sp') b = some r := by
          cases b <;> exact hx
        obtain ⟨m1, m2⟩ := matL_ok hS hsp hg
        have hstep : ∀ Q, aStep P (gx c.GX) false σ ⟨dst, some (s, want), ii⟩ Q = if b = want then aExec P (gx c.GX) false σ dst Q ii else Q (σ.put dst und) := by
          intro Q; simp only [aStep, hg]
        rw [hstep]
        unfold xwr at hw
        by_cases hbw : b = want
        · rw [if_pos hbw]
          rw [if_pos (by rw [hbw]; simp)] at hw
          split at hw
          case isFalse => cases hw
          rename_i hlv
          refine xun_ok hc m1 m2 hw fun τ hτ => ?_
          obtain ⟨ρ', X', sp', a1, a2, ⟨kl, tch, a3, a4, _⟩, a5⟩ := hτ
          exact fin ρ' X' sp' τ kl tch a1 a2 a3 (a4 hlv) a5
        · rw [if_neg hbw]
          rw [if_neg (by simpa using hbw)] at hw
          have hu1 := Upd.same m1.h
          refine fin ρ _ _ _ [] [] (put_ok (X := ⟨matL s b sp X.t, X.h⟩) (kl := []) m1.t hu1 (show VT ρ X.h kU und from rfl) dst) (drop_ok (kl := []) m2 hu1 dst und) ?_ (fun id q => by simp at q) hw
          have : (σ.put dst und).h = σ.h := put_h (H' := σ.h)
          show Upd ρ X.h σ.h ρ X.h (σ.put dst und).h [] []
          rw [this]; exact Upd.same hS.h
end
end Abs
end Go.Proofs.YtamgbanmnededaaDoor
