/- The typed machine: a step of it is a step of the abstract machine (stores, rows, boxes). -/
import Derived.Test.YtamgbanmnededaaDoorX8
namespace Go.Proofs.YtamgbanmnededaaDoor
namespace Abs
open Go.RowKit
set_option linter.unusedVariables false
set_option linter.unusedSimpArgs false

section
variable {ρ : List Nat} {h : List XO} {H : List AObj} {σ : St} {Gl : Nat → Option (List AV)} {rd : Opd → XV} {tt : Nat → Option Ty}
theorem st_cells {a : AV} (hs : stCells false a = some a.cells) : ∀ c ∈ a.cells, c.cells = [c] := by
  intro c hc
  have hst : st1 false c = true := by
    cases a with
    | agg as =>
      simp only [stCells] at hs
      split at hs
      · rename_i hall; exact List.all_eq_true.1 hall c hc
      · cases hs
    | _ =>
      simp only [stCells] at hs
      split at hs
      · rename_i h1
        simp only [AV.cells, List.mem_singleton] at hc
        subst hc; exact h1
      · cases hs
  cases c <;> first | rfl | (cases hst; done)
theorem sim_store (sz : Nat) (x y : Opd) : SimI Gl ρ h σ rd tt (.store sz x y) := by
  intro hs hrd p v kl h' hx hp
  simp only [xstep] at hx
  have hv := hrd x
  have hvy := hrd y
  split at hx
  case h_2 => cases hx
  rename_i id i o h1
  rw [h1] at hv
  obtain ⟨ob, he, ha⟩ := hv
  rw [he] at hx
  obtain ⟨O, hO, hR⟩ := hs.hr id ob he
  have hleave : ∀ ok : Nat → Bool, leaves ok rd (.store sz x y) = true → ∀ id' ∈ [id], ok id' = true := by
    intro m hm id' hid
    simp only [leaves, h1, Bool.and_eq_true] at hm
    simp only [List.mem_singleton] at hid
    subst hid
    exact hm.1
  cases ob with
  | vec ty cs => cases hx
  | row ty T fz es =>
    obtain ⟨o1, o2, o3, o4, o5⟩ := hR
    have hlen : O.es.length = es.length := by have := o5.1; simpa using this
    simp only at hx
    split at hx
    · rename_i T' w h2
      rw [h2] at hvy
      split at hx
      · rename_i hz
        have hz := beq_eq hz
        split at hx
        · rename_i z hset
          cases hx
          have hlt : i < es.length := of_decide_eq_true hp
          have hst := wp_st (x := w) hvy O.pr
          have hcl : (σ.val Gl y).cells.length = sz := by rw [(Wp.cells hvy).1, enc_cells, hz]
          obtain ⟨s1, s2⟩ := set_ok o5 hlt hvy hset
          refine ⟨o + sz ≤ O.sz ∧ i < es.length ∧ O.fz ≤ i, .any, _, ρ, [id], by simp only [step, ha, hO, XO.len, hlen, if_true, hst, hcl] <;> rfl, ⟨by rw [o2]; omega, hlt, by rw [o4]; simp⟩, ?_, trivial, hleave⟩
          exact Upd.set hs he ⟨rfl, rfl, by simp⟩ ⟨o1, o2, o3, by simpa using o4, s2⟩
        · cases hx
      · cases hx
    · rename_i cs h2
      rw [h2] at hvy
      split at hx
      · rename_i ho
        have ho := beq_eq ho
        subst ho
        split at hx
        · rename_i z hz
          split at hx
          · rename_i hsz
            have hsz := beq_eq hsz
            cases hx
            have hlt : i < es.length := of_decide_eq_true hp
            have hw := toD_pure hz (VT.notup hvy (fun vs q => by cases q))
            have hst := wp_st (x := z) hw O.pr
            have hcl : (σ.val Gl y).cells.length = sz := by rw [(Wp.cells hw).1, enc_cells, hsz]
            have s2 := whole_ok o5 hlt hw
            refine ⟨0 + sz ≤ O.sz ∧ i < es.length ∧ O.fz ≤ i, .any, _, ρ, [id], by simp only [step, ha, hO, XO.len, hlen, if_true, hst, hcl] <;> rfl, ⟨by rw [o2]; omega, hlt, by rw [o4]; simp⟩, ?_, trivial, hleave⟩
            exact Upd.set hs he ⟨rfl, rfl, by simp⟩ ⟨o1, o2, o3, by simpa using o4, s2⟩
          · cases hx
        · split at hx
          case h_2 => cases hx
          rename_i z hz
          split at hx
          case isFalse => cases hx
          rename_i hb
          cases hx
          simp only [Bool.and_eq_true, Bool.not_eq_true'] at hb
          obtain ⟨⟨hb1, hb2⟩, hb3⟩ := hb
          have hsz := beq_eq hb1
          have hlt : i < es.length := of_decide_eq_true hp
          obtain ⟨b, k1, k2, k3, k4⟩ := toD_keep hs hz (VT.notup hvy (fun vs q => by cases q))
          have hnone : stCells O.pr (σ.val Gl y) = none := by
            obtain ⟨as, ha2, hl⟩ := hvy
            obtain ⟨c, hc, hcr⟩ := List.any_eq_true.1 hb2
            obtain ⟨j, hj⟩ := List.mem_iff_getElem?.1 hc
            obtain ⟨d, hd, hv1⟩ := hl.get_left hj
            have hst : st1 true d = false := by
              cases c with
              | row j => obtain ⟨_, _, _, _, _, rfl⟩ := hv1; rfl
              | sub j o l => obtain ⟨_, _, _, _, _, rfl⟩ := hv1; rfl
              | _ => simp [rowsX1] at hcr
            have hall : as.all (st1 true) = false := by
              rcases q : as.all (st1 true) with _ | _
              · rfl
              · have := List.all_eq_true.1 q d (List.mem_of_getElem? hd); rw [hst] at this; cases this
            rw [ha2, o3]
            simp [stCells, hall]
          have u1 := Upd.frz _ hs k4
          have he2 : (frzX h (rowsX (.agg cs)))[id]? = some (.row ty T false es) := by
            have hid : id ∉ rowsX (.agg cs) := fun q => by
              have : (rowsX (.agg cs)).any (Nat.beq id) = true := List.any_eq_true.2 ⟨id, q, Nat.beq_refl id⟩
              rw [this] at hb3; cases hb3
            have key : ∀ (ids : List Nat) (g : List XO), id ∉ ids → (frzX g ids)[id]? = g[id]? := by
              intro ids
              induction ids with
              | nil => intro g _; rfl
              | cons j ids ih =>
                intro g hn
                have hj : j ≠ id := fun q => hn (by simp [q])
                have hi : id ∉ ids := fun q => hn (by simp [q])
                simp only [frzX, List.foldl_cons]
                have := fun g => ih g hi
                simp only [frzX] at this
                rw [this]
                cases hg : g[j]? with
                | none => rfl
                | some o => exact List.getElem?_set_ne hj
            rw [key _ _ hid]; exact he
          obtain ⟨O', hO', p1, p2, p3, p4, p5⟩ := u1.hs.hr id _ he2
          have hst := wp_st k2 O'.pr
          have hcl : b.cells.length = sz := by rw [(Wp.cells k2).1, enc_cells, hsz]
          have s2 := whole_ok p5 hlt k2
          rw [← k3] at hO' u1
          refine ⟨0 + sz ≤ O'.sz ∧ i < es.length ∧ O'.fz ≤ i, .any, _, ρ, rowsX (.agg cs) ++ [id], by simp only [step, ha, hO, XO.len, hlen, if_true, hnone, k1, hO', hst, hcl] <;> rfl, ⟨by rw [p2]; omega, hlt, by rw [p4]; simp⟩, ?_, trivial, fun ok hok id' hid => ?_⟩
          · exact u1.trans (Upd.set u1.hs he2 ⟨rfl, rfl, by simp⟩ ⟨p1, p2, p3, by simpa using p4, s2⟩) hs.rl
          · simp only [leaves, h1, h2, Bool.and_eq_true] at hok
            rcases List.mem_append.1 hid with q | q
            · exact List.all_eq_true.1 hok.2 id' q
            · exact hleave ok (by simp only [leaves, h1, h2, Bool.and_eq_true]; exact hok) id' q
      · cases hx
    · cases hx
  | box ty cs =>
    obtain ⟨o1, o2, o3, o4, e, o5, hc⟩ := hR
    have hlen : O.es.length = 1 := by rw [o5]; rfl
    simp only at hx
    split at hx
    · rename_i vs hvs
      split at hx
      · rename_i hb
        cases hx
        simp only [Bool.and_eq_true] at hb
        have hi := beq_eq hb.1.1.1
        have hsz := beq_eq hb.1.1.2
        have hl := Nat.le_of_ble_eq_true hb.1.2
        have h0 := blt_t hb.2
        subst hi
        obtain ⟨c1, c2⟩ := cells_ok hvs hvy
        have hcl : (σ.val Gl y).cells.length = sz := by rw [← c1.1, hsz]
        have hst : stCells O.pr (σ.val Gl y) = some (σ.val Gl y).cells := by rw [o3]; exact c2
        refine ⟨o + sz ≤ O.sz ∧ 0 < 1 ∧ O.fz ≤ 0, .any, _, ρ, [id], by simp only [step, ha, hO, XO.len, hlen, if_true, hst, hcl] <;> rfl, ⟨by rw [o2]; exact hl, by omega, by rw [o4]; simp⟩, ?_, trivial, hleave⟩
        refine Upd.set hs he trivial ⟨o1, ?_, o3, o4, setCells e o (σ.val Gl y).cells, by simp only [o5, List.set_cons_zero, List.getD_cons_zero], ?_⟩
        · simp only [List.length_append, List.length_take, List.length_drop]; rw [o2]; omega
        · cases e with
          | agg us =>
            have hc : All2 (V1 ρ h) cs us := hc
            show All2 (V1 ρ h) _ (us.take o ++ (σ.val Gl y).cells ++ us.drop (o + (σ.val Gl y).cells.length))
            rw [hcl, ← hsz]
            have := ((hc.take o).append c1).append (hc.drop (o + vs.length))
            exact this
          | _ =>
            have hcl1 : cs.length = 1 := by rw [hc.1]; rfl
            have ho : o = 0 := by omega
            have hs1 : vs.length = 1 := by omega
            subst ho
            have hcs : (σ.val Gl y).cells.length = 1 := by omega
            match hcc : (σ.val Gl y).cells, hcs with
            | [c], _ =>
              rw [hcc] at c1
              have hc1 := st_cells c2 c (by rw [hcc]; simp)
              show All2 (V1 ρ h) _ c.cells
              rw [hc1, List.take_zero, List.nil_append, List.drop_eq_nil_of_le (by omega), List.append_nil]
              exact c1
      · cases hx
    · cases hx
theorem cutL_map {e : Ty} {l u : Int} {xs : List e.den} {as : List AV} (hc : All2 Wp as (xs.map (Ty.enc e))) : All2 Wp ((as.take u.toNat).drop l.toNat) ((cutL l u xs).map (Ty.enc e)) := by
  simp only [cutL, List.map_drop, List.map_take]
  exact (hc.take _).drop _
theorem ok_slice_list (hs : HS ρ h σ.h) (hrd : ∀ o, VT ρ h (rd o) (σ.val Gl o)) {e : Ty} {xs : List e.den} {x : Opd} {lo hi : Option Opd} {sz : Nat} {p : Bool} {l u : Int} (hv : VT ρ h (.d (.list e) xs) (σ.val Gl x)) (hz : e.size = sz) (hcut : xcut xs.length (lo.map rd) (hi.map rd) = some (p, l, u)) (hp : p = true) : StepOk Gl ρ h σ rd (.slice sz x lo hi) (.d (.list e) (cutL l u xs)) [] h := by
  rcases vt_list hv with ⟨ha, rfl⟩ | ⟨as, ha, hl, hc⟩
  · obtain ⟨h1, h2⟩ := xcut_ok hrd hcut hp
    refine StepOk.pure hs (by simp only [step, ha]; simp only [List.length_nil] at h1; rw [h1] <;> rfl) h2 ?_
    have : cutL l u ([] : List e.den) = [] := by simp [cutL]
    rw [this]
    exact Wp.nil _
  · obtain ⟨h1, h2⟩ := xcut_ok hrd hcut hp
    rw [← hl] at h1 h2
    refine StepOk.pure hs (by simp only [step, ha, hz, if_true, h1, Option.map_some] <;> rfl) h2 ?_
    have := cutL_map (l := l) (u := u) hc
    rw [← hz]
    exact .list _ _ _ this.1 this.2
theorem ok_slice_row (hs : HS ρ h σ.h) (hrd : ∀ o, VT ρ h (rd o) (σ.val Gl o)) {id ty off len : Nat} {T : Ty} {fz : Bool} {es : List T.den} {x : Opd} {lo hi : Option Opd} {sz : Nat} {p : Bool} {l u : Int} (he : h[id]? = some (.row ty T fz es)) (ha : σ.val Gl x = .row (ρ.getD id 0) es.length T.size off len) (hz : T.size = sz)
    (hcut : xcut len (lo.map rd) (hi.map rd) = some (p, l, u)) (hp : p = true) : StepOk Gl ρ h σ rd (.slice sz x lo hi) (.sub id (off + l.toNat) (u - l).toNat) [] h := by
  obtain ⟨h1, h2⟩ := xcut_ok hrd hcut hp
  exact StepOk.pure hs (q := 0 ≤ l ∧ l ≤ u ∧ u ≤ (len : Int)) (by simp only [step, ha, hz, if_true, h1, Option.map_some] <;> rfl) h2 ⟨_, _, _, _, he, by rw [hz]⟩
theorem sim_slice3 (sz : Nat) (x y z : Opd) : SimI Gl ρ h σ rd tt (.slice3 sz x y z) := by
  intro hs hrd p v kl h' hx hp
  simp only [xstep] at hx
  have hv := hrd x
  have hy := hrd y
  have hzz := hrd z
  split at hx
  case h_2 => cases hx
  rename_i id k n k' m h1 h2 h3
  rw [h1] at hv; rw [h2] at hy; rw [h3] at hzz
  have ey := vt_int hy
  have ez := vt_int hzz
  obtain ⟨ty, T, fz, es, he, ha⟩ := hv
  rw [he] at hx
  simp only at hx
  split at hx
  case isFalse => cases hx
  rename_i hz
  cases hx
  simp only [Bool.and_eq_true, cutOk, decide_eq_true_eq, iEq, beq_iff_eq] at hp
  exact StepOk.pure hs (q := (0 : Int) ≤ (show Int from n) ∧ (show Int from n) ≤ (es.length : Int) ∧ (show Int from m) = (show Int from n)) (by simp only [step, ha, ey, ez, beq_eq hz, true_and, if_true] <;> rfl) ⟨hp.1.1.2, hp.1.2, (beq_iff_eq (α := Int)).1 hp.2⟩ ⟨_, _, _, _, he, by rw [beq_eq hz], by have := hp.1.2; have := hp.1.1.2; omega⟩
theorem sim_slice (sz : Nat) (x : Opd) (lo hi : Option Opd) : SimI Gl ρ h σ rd tt (.slice sz x lo hi) := by
  intro hs hrd p v kl h' hx hp
  simp only [xstep] at hx
  have hv := lst_vt (hrd x)
  split at hx
  · rename_i e xs h1
    rw [h1] at hv
    split at hx
    · rename_i hz
      split at hx
      · rename_i p' l u hc
        cases hx
        exact ok_slice_list hs hrd hv (beq_eq hz) hc hp
      · cases hx
    · cases hx
  · rename_i h1
    rw [h1] at hv
    split at hx
    · rename_i p' l u hc
      cases hx
      obtain ⟨q1, q2⟩ := xcut_ok hrd hc hp
      exact StepOk.pure hs (by simp only [step, vt_k hv]; rw [q1] <;> rfl) q2 rfl
    · cases hx
  · rename_i id h1
    rw [h1] at hv
    obtain ⟨ty, T, fz, es, he, ha⟩ := hv
    rw [he] at hx
    simp only at hx
    split at hx
    · rename_i hz
      split at hx
      · rename_i p' l u hc
        cases hx
        have := ok_slice_row hs hrd he ha (beq_eq hz) hc hp
        rw [Nat.zero_add] at this
        exact this
      · cases hx
    · cases hx
  · rename_i id off len h1
    rw [h1] at hv
    obtain ⟨ty, T, fz, es, he, ha⟩ := hv
    rw [he] at hx
    simp only at hx
    split at hx
    · rename_i hz
      split at hx
      · rename_i p' l u hc
        cases hx
        exact ok_slice_row hs hrd he ha (beq_eq hz) hc hp
      · cases hx
    · cases hx
  · cases hx
theorem sim_sslice (x : Opd) (lo hi : Option Opd) : SimI Gl ρ h σ rd tt (.sslice x lo hi) := by
  intro hs hrd p v kl h' hx hp
  simp only [xstep] at hx
  have hv := hrd x
  split at hx
  · rename_i s h1
    rw [h1] at hv
    split at hx
    · rename_i p' l u hc
      cases hx
      obtain ⟨q1, q2⟩ := xcut_ok hrd hc hp
      exact StepOk.pure hs (by simp only [step, vt_str hv]; rw [q1] <;> rfl) q2 (Wp.refl _)
    · cases hx
  · cases hx
theorem sim_slen (x : Opd) : SimI Gl ρ h σ rd tt (.slen x) := by
  intro hs hrd p v kl h' hx hp
  simp only [xstep] at hx
  have hv := hrd x
  split at hx
  · rename_i s h1
    rw [h1] at hv
    cases hx
    exact StepOk.pure hs (by simp only [step, vt_str hv] <;> rfl) trivial (Wp.refl _)
  · cases hx
theorem sim_idx (x i : Opd) : SimI Gl ρ h σ rd tt (.idx x i) := by
  intro hs hrd p v kl h' hx hp
  simp only [xstep] at hx
  have hv := hrd x; have hi := hrd i
  split at hx
  · rename_i s k n h1 h2
    rw [h1] at hv; rw [h2] at hi
    cases hx
    exact StepOk.pure hs (by simp only [step, vt_str hv, vt_int hi] <;> rfl) (bnd_iff hp) (Wp.refl _)
  · cases hx
theorem sim_min2 (x y : Opd) : SimI Gl ρ h σ rd tt (.min2 x y) := by
  intro hs hrd p v kl h' hx hp
  simp only [xstep] at hx
  have hv := hrd x; have hi := hrd y
  split at hx
  · rename_i k a k' b h1 h2
    rw [h1] at hv; rw [h2] at hi
    cases hx
    exact StepOk.pure hs (by simp only [step, vt_int hv, vt_int hi] <;> rfl) trivial (Wp.refl _)
  · cases hx
theorem sim_max2 (x y : Opd) : SimI Gl ρ h σ rd tt (.max2 x y) := by
  intro hs hrd p v kl h' hx hp
  simp only [xstep] at hx
  have hv := hrd x; have hi := hrd y
  split at hx
  · rename_i k a k' b h1 h2
    rw [h1] at hv; rw [h2] at hi
    cases hx
    exact StepOk.pure hs (by simp only [step, vt_int hv, vt_int hi] <;> rfl) trivial (Wp.refl _)
  · cases hx
theorem getD_last {l : List Nat} {a : Nat} : (l ++ [a]).getD l.length 0 = a := by simp [List.getD]
theorem new_row (hs : HS ρ h H) {ty sz : Nat} {T : Ty} {ys : List T.den} {as : List AV} (hz : T.size = sz) (hc : All2 Wp as (ys.map (Ty.enc T))) : Upd ρ h H (ρ ++ [H.length]) (h ++ [.row ty T false ys]) (H ++ [⟨ty, sz, 0, true, as⟩]) [] [] ∧ V1 (ρ ++ [H.length]) (h ++ [.row ty T false ys]) (.row h.length) (.row H.length as.length sz 0 as.length) := by
  refine ⟨Upd.new hs ⟨rfl, hz.symm, rfl, by simp, hc⟩, ty, T, false, ys, by simp, ?_⟩
  have : as.length = ys.length := by rw [hc.1, List.length_map]
  rw [this, ← hs.rl, getD_last, hz]
theorem fits_iff {n b : Nat} (h : fits n b = true) : n * b ≤ maxB ∧ n ≤ 4611686018427387904 := by simpa [fits] using h
theorem sim_app (ty sz bytes : Nat) (s x : Opd) : SimI Gl ρ h σ rd tt (.app ty sz bytes s x) := by
  intro hs hrd p v kl h' hx hp
  simp only [xstep] at hx
  have hv := hrd s
  split at hx
  case h_2 => cases hx
  rename_i T hT
  split at hx
  case isFalse => cases hx
  rename_i hz
  have hz := beq_eq hz
  split at hx
  case h_2 => cases hx
  rename_i ys hys
  obtain ⟨as, ha, hc⟩ := elems_ok hs hz hys (hrd x)
  have hal : as.length = ys.length := by rw [hc.1, List.length_map]
  split at hx
  · rename_i h1
    rw [h1] at hv
    cases hx
    obtain ⟨u1, u2⟩ := new_row (ty := ty) hs hz hc
    have hf := fits_iff hp
    refine ⟨as.length * bytes ≤ maxB ∧ as.length ≤ 4611686018427387904, _, _, _, [], by simp only [step, ha, vt_k hv, appY] <;> rfl, by rw [hal]; exact hf, u1, VT.of1 u2, by simp⟩
  · rename_i id h1
    rw [h1] at hv
    obtain ⟨ty', T', fz', es', he, hav⟩ := hv
    rw [he] at hx
    simp only at hx
    split at hx
    case h_2 => cases hx
    rename_i ys' hcast
    split at hx
    case isFalse => cases hx
    rename_i hty
    have hty := beq_eq hty
    cases hx
    obtain ⟨q, rfl⟩ := castT_eq hcast
    cases q
    subst hty
    obtain ⟨O, hO, o1, o2, o3, o4, o5⟩ := hs.hr id _ he
    have hlen : O.es.length = es'.length := by have := o5.1; simpa using this
    have hf := fits_iff hp
    have o4' : O.fz = 0 := by simpa using o4
    have hobj : ObjS ρ h (.row ty T false (es' ++ ys)) { O with es := O.es ++ as } := ⟨o1, o2, o3, by simpa using o4, by rw [List.map_append]; exact o5.append hc⟩
    have hu := Upd.app hs he hobj
    refine ⟨es'.length = es'.length ∧ (es'.length + as.length) * bytes ≤ maxB ∧ es'.length + as.length ≤ 4611686018427387904, .row (ρ.getD id 0) (es'.length + as.length) sz 0 (es'.length + as.length), _, ρ, [id], ?_, ⟨rfl, by rw [hal]; exact hf.1, by rw [hal]; exact hf.2⟩, hu, ?_, ?_⟩
    · simp only [step, ha, hav, appY, hO, hlen, hz, o1, o2, o3, o4', and_self, if_true]
    · refine VT.of1 ⟨ty, T, false, es' ++ ys, ?_, ?_⟩
      · show (killH [id] (h.set id (.row ty T false (es' ++ ys))))[id]? = _
        rw [killH_map, List.getElem?_map, List.getElem?_set_self (List.getElem?_eq_some_iff.1 he).1]; rfl
      · rw [List.length_append, hal, hz]
    · intro m hm id' hid
      simp only [leaves, h1] at hm
      simp only [List.mem_singleton] at hid
      subst hid
      exact hm
  · cases hx
theorem bytes_enc (b : ByteArray) : All2 Wp (bytesAV b) ((bytesT b).map (Ty.enc (.int .u8))) := by
  have : (bytesT b).map (Ty.enc (.int .u8)) = bytesAV b := by
    unfold bytesT bytesAV
    rw [List.map_map]; rfl
  rw [this]; exact All2.rfl' Wp.refl _
theorem bytesT_len (b : ByteArray) : (bytesT b).length = (bytesAV b).length := by unfold bytesT bytesAV; rw [List.length_map, List.length_map]
theorem sim_apps (ty bytes : Nat) (s x : Opd) : SimI Gl ρ h σ rd tt (.apps ty bytes s x) := by
  intro hs hrd p v kl h' hx hp
  simp only [xstep] at hx
  have hv := hrd s
  have hw := hrd x
  split at hx
  case h_2 => cases hx
  rename_i b hT h2
  rw [h2] at hw
  have ew := vt_str hw
  have hc := bytes_enc b
  have hal : (bytesAV b).length = (bytesT b).length := (bytesT_len b).symm
  have hz : Ty.size (.int .u8) = 1 := rfl
  split at hx
  · rename_i h1
    rw [h1] at hv
    cases hx
    obtain ⟨u1, u2⟩ := new_row (ty := ty) hs hz hc
    have hf := fits_iff hp
    refine ⟨(bytesAV b).length * bytes ≤ maxB ∧ (bytesAV b).length ≤ 4611686018427387904, _, _, _, [], by simp only [step, ew, vt_k hv, appY] <;> rfl, by rw [hal]; exact hf, u1, VT.of1 u2, by simp⟩
  · rename_i id h1
    rw [h1] at hv
    obtain ⟨ty', T', fz', es', he, hav⟩ := hv
    rw [he] at hx
    split at hx
    case h_2 => cases hx
    rename_i ty2 es2 hq
    cases hq
    split at hx
    case isFalse => cases hx
    rename_i hty
    have hty := beq_eq hty
    cases hx
    subst hty
    obtain ⟨O, hO, o1, o2, o3, o4, o5⟩ := hs.hr id _ he
    have hlen : O.es.length = es2.length := by have := o5.1; rw [List.length_map] at this; exact this
    have hf := fits_iff hp
    have hobj : ObjS ρ h (.row ty (.int .u8) false (es2 ++ bytesT b)) { O with es := O.es ++ bytesAV b } := ⟨o1, o2, o3, by simpa using o4, by rw [List.map_append]; exact o5.append hc⟩
    have hu := Upd.app hs he hobj
    have hap : step Gl σ (.apps ty bytes s x) = some (es2.length = es2.length ∧ (es2.length + (bytesAV b).length) * bytes ≤ maxB ∧ es2.length + (bytesAV b).length ≤ 4611686018427387904, .row (ρ.getD id 0) (es2.length + (bytesAV b).length) 1 0 (es2.length + (bytesAV b).length), σ.h.set (ρ.getD id 0) { O with es := O.es ++ bytesAV b }) := by
      have ew' : σ.val Gl x = .v (.string b) := ew
      simp only [step, ew', hav, appY, hO]
      exact if_pos ⟨hlen, rfl, o1, o2, trivial, o3, by simpa using o4⟩
    refine ⟨_, _, _, _, [id], hap, ⟨rfl, by rw [hal]; exact hf⟩, hu, ?_, ?_⟩
    · refine VT.of1 ⟨ty, .int .u8, false, es2 ++ bytesT b, ?_, ?_⟩
      · show (killH [id] (h.set id (.row ty (.int .u8) false (es2 ++ bytesT b))))[id]? = _
        rw [killH_map, List.getElem?_map, List.getElem?_set_self (List.getElem?_eq_some_iff.1 he).1]; rfl
      · rw [List.length_append, hal, hz]
    · intro m hm id' hid
      simp only [leaves, h1] at hm
      simp only [List.mem_singleton] at hid
      subst hid
      exact hm
  · cases hx
theorem bytesOf_enc : ∀ (xs : List Int) (as : List AV), All2 Wp as (xs.map (Ty.enc (.int .u8))) → bytesOf as = some (xs.map fun n => UInt8.ofNat n.toNat) := by
  intro xs
  induction xs with
  | nil => intro as h; rw [h.nil_right]; rfl
  | cons x xs ih =>
    intro as h
    obtain ⟨a, as', rfl, h1, h2⟩ := h.cons_right
    have e : a = .v (.int .u8 x) := h1.v_inv
    subst e
    simp only [bytesOf, byteOf, ih as' h2, List.map_cons]
theorem sim_b2s (x : Opd) : SimI Gl ρ h σ rd tt (.b2s x) := by
  intro hs hrd p v kl h' hx hp
  simp only [xstep] at hx
  split at hx
  · rename_i xs hxs
    cases hx
    obtain ⟨as, ha, hc⟩ := elems_ok hs (T := .int .u8) (sz := 1) rfl hxs (hrd x)
    exact StepOk.pure hs (by simp only [step, ha, bytesOf_enc xs as hc, Option.map_some] <;> rfl) trivial (Wp.refl _)
  · cases hx
theorem sim_s2b (ty : Nat) (x : Opd) : SimI Gl ρ h σ rd tt (.s2b ty x) := by
  intro hs hrd p v kl h' hx hp
  simp only [xstep] at hx
  have hw := hrd x
  split at hx
  case h_2 => cases hx
  rename_i b hT h2
  rw [h2] at hw
  have ew := vt_str hw
  cases hx
  obtain ⟨u1, u2⟩ := new_row (ty := ty) hs (T := .int .u8) (sz := 1) rfl (bytes_enc b)
  have hl : (bytesAV b).length = ByteArray.size b := by unfold bytesAV; rw [List.length_map, Array.length_toList]; rfl
  rw [hl] at u2
  refine ⟨ByteArray.size b ≤ 4611686018427387904, _, _, _, [], by simp only [step, ew] <;> rfl, of_decide_eq_true hp, u1, VT.of1 u2, by simp⟩
theorem freeze_len : ∀ (ids : List Nat) (H : List AObj), (freeze H ids).length = H.length := by
  intro ids
  induction ids with
  | nil => intro H; rfl
  | cons id ids ih =>
    intro H
    cases he : H[id]? with
    | none =>
      have e : freeze H (id :: ids) = freeze H ids := by simp only [freeze, List.foldl_cons, he]
      rw [e]; exact ih H
    | some o =>
      have e : freeze H (id :: ids) = freeze (H.set id { o with fz := o.es.length }) ids := by simp only [freeze, List.foldl_cons, he]
      rw [e, ih]; simp
theorem frzX_len : ∀ (ids : List Nat) (h : List XO), (frzX h ids).length = h.length := by
  intro ids
  induction ids with
  | nil => intro H; rfl
  | cons id ids ih =>
    intro H
    cases he : H[id]? with
    | none =>
      have e : frzX H (id :: ids) = frzX H ids := by simp only [frzX, List.foldl_cons, he]
      rw [e]; exact ih H
    | some o =>
      have e : frzX H (id :: ids) = frzX (H.set id (frzO o)) ids := by simp only [frzX, List.foldl_cons, he]
      rw [e, ih]; simp
theorem sim_bslice (ty sz : Nat) (xs : List Opd) : SimI Gl ρ h σ rd tt (.bslice ty sz xs) := by
  intro hs hrd p v kl h' hx hp
  simp only [xstep] at hx
  split at hx
  case h_2 => cases hx
  rename_i T hT
  split at hx
  case isFalse => cases hx
  rename_i hz
  have hz := beq_eq hz
  split at hx
  case h_2 => cases hx
  rename_i ys hys
  cases hx
  obtain ⟨bs, k1, k2, k3, k4⟩ := toDs_ok hs hys (map_vt (Gl := Gl) (σ := σ) hrd)
  have u1 := Upd.frz _ hs k4
  obtain ⟨u2, u3⟩ := new_row (ty := ty) u1.hs hz k2
  have u := u1.trans u2 hs.rl
  have hfl : (freeze σ.h (((xs.map rd).flatMap rowsX).map fun id => ρ.getD id 0)).length = σ.h.length := freeze_len _ _
  rw [hfl, frzX_len] at u3
  rw [hfl, ← k3] at u
  refine ⟨True, _, _, _, _, by simp only [step, k1, lens_ok hz k2, if_true] <;> rfl, trivial, u, VT.of1 u3, ?_⟩
  intro m hm id hid
  simp only [leaves] at hm
  simp only [List.append_nil] at hid
  exact List.all_eq_true.1 hm id hid
theorem pure_list {T : Ty} : ∀ {xs : List XV} {ys : List T.den} {as : List AV}, toDs [] T xs = some ys → All2 (VT ρ h) xs as → keepAL H as = some as ∧ All2 Wp as (ys.map (Ty.enc T)) ∧ ∀ a ∈ as, rowsA a = [] := by
  intro xs
  induction xs with
  | nil =>
    intro ys as hx hv
    cases hx
    have := hv.nil_left
    subst this
    exact ⟨rfl, .nil, by simp⟩
  | cons x xs ih =>
    intro ys as hx hv
    simp only [toDs] at hx
    split at hx
    · rename_i z l hz hl
      cases hx
      obtain ⟨a, as', rfl, hv1, hv2⟩ := hv.cons_left
      have hnt : ∀ vs, x ≠ .tup vs := fun vs q => by
        subst q
        cases T <;> simp [toD, lst] at hz
      have hw := toD_pure hz (hv1.notup hnt)
      obtain ⟨k1, k2⟩ := wp_keep hw H
      obtain ⟨i1, i2, i3⟩ := ih hl hv2
      refine ⟨by simp only [keepAL, k1, i1], .cons hw i2, fun b hb => ?_⟩
      rcases List.mem_cons.1 hb with rfl | hb
      · exact k2
      · exact i3 b hb
    · cases hx
theorem sim_blist (ty sz : Nat) (xs : List Opd) : SimI Gl ρ h σ rd tt (.blist ty sz xs) := by
  intro hs hrd p v kl h' hx hp
  simp only [xstep] at hx
  split at hx
  case h_2 => cases hx
  rename_i T hT
  split at hx
  case isFalse => cases hx
  rename_i hz
  have hz := beq_eq hz
  split at hx
  case h_2 => cases hx
  rename_i ys hys
  cases hx
  obtain ⟨k1, k2, k3⟩ := pure_list (H := σ.h) hys (map_vt (Gl := Gl) (σ := σ) hrd)
  have hr : (xs.map (σ.val Gl)).all (fun a => (rowsA a).isEmpty) = true := List.all_eq_true.2 fun a ha => by rw [k3 a ha]; rfl
  refine StepOk.pure hs (by simp only [step, k1, lens_ok hz k2, hr, Bool.and_self, if_true] <;> rfl) trivial ?_
  rw [← hz]
  exact .list _ _ _ k2.1 k2.2
theorem build_ok (hrd : ∀ o, VT ρ h (rd o) (σ.val Gl o)) : ∀ (ps : List (Nat × Nat × Opd)) (cs : List XV) (as : List AV) (cs' : List XV), All2 (V1 ρ h) cs as → buildX rd cs ps = some cs' → ∃ as', buildC Gl σ as ps = some as' ∧ All2 (V1 ρ h) cs' as' := by
  intro ps
  induction ps with
  | nil => intro cs as cs' hc hb; cases hb; exact ⟨as, rfl, hc⟩
  | cons p ps ih =>
    intro cs as cs' hc hb
    obtain ⟨off, sz, x⟩ := p
    simp only [buildX] at hb
    split at hb
    · rename_i vs hvs
      split at hb
      · rename_i hq
        simp only [Bool.and_eq_true] at hq
        have h1 := beq_eq hq.1
        have h2 := Nat.le_of_ble_eq_true hq.2
        obtain ⟨c1, c2⟩ := cells_ok hvs (hrd x)
        obtain ⟨as', e1, e2⟩ := ih _ _ cs' (((hc.take off).append c1).append (hc.drop (off + sz))) hb
        refine ⟨as', ?_, e2⟩
        have hl : (σ.val Gl x).cells.length = sz := by rw [← c1.1, h1]
        simp only [buildC, c2, hl, true_and, show off + sz ≤ as.length from by rw [← hc.1]; exact h2, if_true]
        exact e1
      · cases hb
    · cases hb
theorem zero_ok (l : List Value) : All2 (V1 ρ h) (l.map vx1) (l.map .v) :=
  ⟨by simp, fun i x a p q => by
    rw [List.getElem?_map] at p q
    cases hv : l[i]? with
    | none => rw [hv] at p; cases p
    | some v => rw [hv] at p q; cases p; cases q; exact vx1_v v⟩
theorem sim_build (zero : List Value) (ps : List (Nat × Nat × Opd)) : SimI Gl ρ h σ rd tt (.build zero ps) := by
  intro hs hrd p v kl h' hx hp
  simp only [xstep] at hx
  split at hx
  · rename_i cs hb
    cases hx
    obtain ⟨as, e1, e2⟩ := build_ok hrd ps _ _ cs (zero_ok zero) hb
    exact StepOk.pure hs (by simp only [step, e1, Option.map_some] <;> rfl) trivial ⟨as, rfl, e2⟩
  · cases hx
theorem new_box (hs : HS ρ h H) {ty : Nat} {cs : List XV} {e : AV} {sz : Nat} (hz : cs.length = sz) (hc : All2 (V1 ρ h) cs e.cells) : Upd ρ h H (ρ ++ [H.length]) (h ++ [.box ty cs]) (H ++ [⟨ty, sz, 0, false, [e]⟩]) [] [] ∧ V1 (ρ ++ [H.length]) (h ++ [.box ty cs]) (.ptr h.length 0 0) (.ptr H.length 1 0 0) := by
  refine ⟨Upd.new hs ⟨rfl, hz.symm, rfl, rfl, e, rfl, hc⟩, .box ty cs, by simp, ?_⟩
  rw [← hs.rl, getD_last]; rfl
theorem sim_box (ty sz : Nat) (x : Opd) : SimI Gl ρ h σ rd tt (.box ty sz x) := by
  intro hs hrd p v kl h' hx hp
  simp only [xstep] at hx
  split at hx
  · rename_i cs hcs
    split at hx
    · rename_i hz
      have hz := beq_eq hz
      cases hx
      obtain ⟨c1, c2⟩ := cells_ok hcs (hrd x)
      have hl : (σ.val Gl x).cells.length = sz := by rw [← c1.1, hz]
      obtain ⟨u1, u2⟩ := new_box (ty := ty) hs hz c1
      exact ⟨True, _, _, _, [], by simp only [step, c2, hl, if_true] <;> rfl, trivial, u1, VT.of1 u2, by simp⟩
    · cases hx
  · cases hx
theorem vx_av (v : Value) : VT ρ h (vx v) (avOf v) := by
  by_cases ha : ∃ cs, v = .agg cs
  · obtain ⟨cs, rfl⟩ := ha; exact ⟨_, rfl, zero_ok cs.toList⟩
  · have e1 : vx v = vx1 v := by cases v <;> first | rfl | exact absurd ⟨_, rfl⟩ ha
    have e2 : avOf v = .v v := by cases v <;> first | rfl | exact absurd ⟨_, rfl⟩ ha
    rw [e1, e2]; exact VT.of1 (vx1_v v)
theorem avOf_size (v : Value) : (avOf v).cells.length = v.cells.size := by
  cases v with
  | agg cs => simp [avOf, AV.cells, Value.cells]
  | _ => rfl
theorem sim_alloc (ty : Nat) (zero : Value) : SimI Gl ρ h σ rd tt (.alloc ty zero) := by
  intro hs hrd p v kl h' hx hp
  simp only [xstep] at hx
  split at hx
  · rename_i cs hcs
    cases hx
    obtain ⟨c1, c2⟩ := cells_ok hcs (vx_av (ρ := ρ) (h := h) zero)
    obtain ⟨u1, u2⟩ := new_box (ty := ty) (sz := zero.cells.size) hs (by rw [c1.1, avOf_size]) c1
    exact ⟨True, _, _, _, [], by simp only [step] <;> rfl, trivial, u1, VT.of1 u2, by simp⟩
  · cases hx
theorem fitsI_iff {n : Int} {b : Nat} (h : fitsI n b = true) : 0 ≤ n ∧ n * b ≤ maxB ∧ n ≤ 4611686018427387904 := by
  simp only [fitsI, Bool.and_eq_true, decide_eq_true_eq] at h
  exact ⟨h.1.1, h.1.2, h.2⟩
theorem okx_mk (hs : HS ρ h σ.h) {ty sz bytes : Nat} {zero : Value} {n : Opd} {m : Int} {T : Ty} {z : T.den} (hn : σ.val Gl n = .v (.int .i64 m)) (hz : T.size = sz) (ht : toD [] T (vx zero) = some z) (hp : fitsI m bytes = true) : StepOk Gl ρ h σ rd (.mk ty sz bytes zero n) (.row h.length) [] (h ++ [.row ty T false (List.replicate m.toNat z)]) := by
  have hf := fitsI_iff hp
  have hnt : ∀ vs, vx zero ≠ .tup vs := fun vs q => by
    rw [q] at ht
    cases T <;> simp [toD, lst] at ht
  have hw := toD_pure ht (VT.notup (vx_av (ρ := ρ) (h := h) zero) hnt)
  have hc : All2 Wp (List.replicate m.toNat (avOf zero)) ((List.replicate m.toNat z).map (Ty.enc T)) := by
    rw [List.map_replicate]
    exact ⟨by simp, fun i x y p q => by
      have p' := List.eq_of_mem_replicate (List.mem_of_getElem? p)
      have q' := List.eq_of_mem_replicate (List.mem_of_getElem? q)
      subst p' q'; exact hw⟩
  obtain ⟨u1, u2⟩ := new_row (ty := ty) hs hz hc
  rw [List.length_replicate] at u2
  exact ⟨_, _, _, _, [], by simp only [step, hn] <;> rfl, hf, u1, VT.of1 u2, by simp⟩
theorem sim_mk (ty sz bytes : Nat) (zero : Value) (n : Opd) : SimI Gl ρ h σ rd tt (.mk ty sz bytes zero n) := by
  intro hs hrd p v kl h' hx hp
  simp only [xstep] at hx
  have hv := hrd n
  split at hx
  · rename_i T m hT h1
    rw [h1] at hv
    split at hx
    · rename_i hz
      split at hx
      · rename_i z hzz
        cases hx
        exact okx_mk hs (vt_int hv) (beq_eq hz) hzz hp
      · cases hx
    · cases hx
  · cases hx
theorem sim_alloca (ty sz n : Nat) (zero : Value) : SimI Gl ρ h σ rd tt (.alloca ty sz n zero) := by
  intro hs hrd p v kl h' hx hp
  simp only [xstep] at hx
  split at hx
  · rename_i T hT
    split at hx
    · rename_i hz
      have hz := beq_eq hz
      split at hx
      · rename_i z ht
        cases hx
        have hnt : ∀ vs, vx zero ≠ .tup vs := fun vs q => by
          rw [q] at ht
          cases T <;> simp [toD, lst] at ht
        have hw := toD_pure ht (VT.notup (vx_av (ρ := ρ) (h := h) zero) hnt)
        have hc : All2 Wp (List.replicate n (avOf zero)) ((List.replicate n z).map (Ty.enc T)) := by
          rw [List.map_replicate]
          exact ⟨by simp, fun i x y p q => by
            have p' := List.eq_of_mem_replicate (List.mem_of_getElem? p)
            have q' := List.eq_of_mem_replicate (List.mem_of_getElem? q)
            subst p' q'; exact hw⟩
        obtain ⟨u1, u2⟩ := new_row (ty := ty) hs hz hc
        refine ⟨True, _, _, _, [], by simp only [step] <;> rfl, trivial, u1, VT.of1 ⟨.row ty T false (List.replicate n z), (show (h ++ [XO.row ty T false (List.replicate n z)])[h.length]? = _ by simp), ?_⟩, by simp⟩
        rw [← hs.rl, getD_last]
        simp [XO.len]
      · cases hx
    · cases hx
  · cases hx
theorem okx_aaddr (hs : HS ρ h σ.h) {bsz st n id j : Nat} {x i : Opd} {k : IntKind} {m : Int} {ty : Nat} {T : Ty} {fz : Bool} {es : List T.den} (he : h[id]? = some (.row ty T fz es)) (ha : σ.val Gl x = .ptr (ρ.getD id 0) (XO.len (.row ty T fz es)) j 0) (ei : σ.val Gl i = .v (.int k m)) (hz : T.size = bsz) (hb : 0 ≤ m ∧ m < (n : Int)) :
    StepOk Gl ρ h σ rd (.aaddr bsz st n x i) (.ptr id (j + m.toNat * st) 0) [] h := by
  obtain ⟨O, hO, o1, o2, _⟩ := hs.hr id _ he
  exact StepOk.pure hs (q := 0 ≤ m ∧ m < (n : Int)) (a := .ptr (ρ.getD id 0) (XO.len (.row ty T fz es)) (j + m.toNat * st) 0) (by simp only [step, ha, ei, hO]; rw [if_pos ⟨trivial, by rw [o2]; exact hz⟩]) hb ⟨_, he, rfl⟩
theorem tupL_enc {T : Ty} : ∀ {fs : List Ty} {x : Ty.denL fs} {xs : List T.den}, tupL T fs x = some xs → Ty.encL fs x = xs.flatMap fun y => (Ty.enc T y).cells := by
  intro fs
  induction fs with
  | nil => intro x xs h; cases h; rfl
  | cons t ts ih =>
    intro x xs h
    simp only [tupL] at h
    split at h
    · rename_i a l ha hl
      cases h
      obtain ⟨e, rfl⟩ := castT_eq ha
      subst e
      simp only [Ty.encL, List.flatMap_cons, ih hl]
    · cases h
theorem flat_nth {α β : Type} (f : α → List β) (k : Nat) (hk : ∀ x, (f x).length = k) : ∀ (xs : List α) (m : Nat) (hm : m < xs.length), ((xs.flatMap f).drop (m * k)).take k = f xs[m] := by
  intro xs
  induction xs with
  | nil => intro m hm; simp at hm
  | cons x xs ih =>
    intro m hm
    rw [List.flatMap_cons]
    cases m with
    | zero => simp [hk x]
    | succ m =>
      have e : (f x ++ xs.flatMap f).drop ((m + 1) * k) = (xs.flatMap f).drop (m * k) := by
        rw [List.drop_append, List.drop_eq_nil_of_le (by rw [hk x, Nat.add_mul, Nat.one_mul]; omega), List.nil_append, hk x]
        congr 1
        rw [Nat.add_mul, Nat.one_mul]; omega
      rw [e]
      exact ih m (by simpa using hm)
theorem sim_aaddr (bsz st n : Nat) (x i : Opd) : SimI Gl ρ h σ rd tt (.aaddr bsz st n x i) := by
  intro hs hrd p v kl h' hx hp
  simp only [xstep] at hx
  have hv := hrd x
  have hi := hrd i
  split at hx
  · rename_i id j o k m h1 h2
    rw [h1] at hv; rw [h2] at hi
    have ei := vt_int hi
    obtain ⟨ob, he, ha⟩ := hv
    rw [he] at hx
    split at hx
    · rename_i ty T fz es hq
      cases hq
      split at hx
      · rename_i hz
        simp only [Bool.and_eq_true] at hz
        have h0 := beq_eq hz.1
        subst h0
        cases hx
        exact okx_aaddr hs he ha ei (beq_eq hz.2) (bnd_iff hp)
      · cases hx
    · cases hx
  · rename_i T ts y o k m h1 h2
    rw [h1] at hv; rw [h2] at hi
    have ei := vt_int hi
    split at hx
    case h_2 => cases hx
    rename_i xs hxs
    split at hx
    case isFalse => cases hx
    rename_i hz
    simp only [Bool.and_eq_true] at hz
    obtain ⟨⟨⟨z1, z2⟩, z3⟩, z4⟩ := hz
    have z1 := beq_eq z1
    have z2 := beq_eq z2
    have z3 := beq_eq z3
    have z4 := beq_eq z4
    subst z1; subst z3
    cases hx
    have hb := bnd_iff hp
    obtain ⟨cs, ha, hc⟩ := hv
    rw [List.drop_zero] at hc
    have hm : m.toNat < xs.length := by omega
    have e1 : atI xs m T.dflt = xs[m.toNat] := by
      show xs.getD m.toNat _ = _
      simp [List.getD, List.getElem?_eq_getElem hm]
    refine StepOk.pure hs (by simp only [step, ha, ei] <;> rfl) hb ⟨_, rfl, ?_⟩
    rw [List.drop_zero, e1]
    have hq := (hc.drop (m.toNat * T.size)).take T.size
    have e2 : (Ty.enc (.tup (T :: ts)) y).cells = xs.flatMap fun x => (Ty.enc T x).cells := tupL_enc hxs
    rw [e2, flat_nth (fun x => (Ty.enc T x).cells) T.size (fun x => enc_cells T x) xs m.toNat hm] at hq
    rw [Nat.one_mul, ← z2]
    exact hq
  · cases hx
theorem sim_aslice (bsz n : Nat) (x : Opd) (lo hi : Option Opd) : SimI Gl ρ h σ rd tt (.aslice bsz n x lo hi) := by
  intro hs hrd p v kl h' hx hp
  simp only [xstep] at hx
  have hv := hrd x
  split at hx
  · rename_i id j o h1
    rw [h1] at hv
    obtain ⟨ob, he, ha⟩ := hv
    rw [he] at hx
    split at hx
    · rename_i ty T fz es hq
      cases hq
      split at hx
      · rename_i hz
        simp only [Bool.and_eq_true] at hz
        have h0 := beq_eq hz.1.1
        have h00 := beq_eq hz.2
        subst h0 h00
        split at hx
        · rename_i p l u hc
          cases hx
          simp only [Bool.and_eq_true] at hp
          obtain ⟨k1, k2⟩ := xcut_ok hrd hc hp.1
          obtain ⟨O, hO, o1, o2, _⟩ := hs.hr id _ he
          have hle : n ≤ es.length := of_decide_eq_true hp.2
          refine StepOk.pure hs (q := (0 ≤ l ∧ l ≤ u ∧ u ≤ (n : Int)) ∧ 0 + n ≤ XO.len (.row ty T fz es)) (a := .row (ρ.getD id 0) (XO.len (.row ty T fz es)) bsz (0 + l.toNat) (u - l).toNat) (by simp only [step, ha, hO]; rw [if_pos ⟨trivial, by rw [o2]; exact beq_eq hz.1.2⟩, k1]; rfl) ⟨k2, by simp only [XO.len]; omega⟩ ⟨_, _, _, _, he, by rw [beq_eq hz.1.2, Nat.zero_add]; rfl⟩
        · cases hx
      · cases hx
    · cases hx
  · cases hx
theorem okx_copy (hs : HS ρ h σ.h) {id ty off len sz : Nat} {T : Ty} {es ys : List T.den} {d s : Opd} (he : h[id]? = some (.row ty T false es)) (ha : σ.val Gl d = .row (ρ.getD id 0) es.length T.size off len) (hz : T.size = sz)
    (hv : VT ρ h (rd s) (σ.val Gl s)) (hy : elemsX h T (rd s) = some ys) (hl : off + len ≤ es.length) : StepOk Gl ρ h σ rd (.copy sz d s) (.d (.int .i64) ((min ys.length len : Nat) : Int)) [] (h.set id (.row ty T false (cpy es off len ys))) := by
  obtain ⟨as, e1, e2⟩ := elems_ok hs hz hy hv
  obtain ⟨O, hO, o1, o2, o3, o4, o5⟩ := hs.hr id _ he
  have hal : as.length = ys.length := by rw [e2.1, List.length_map]
  have hol : O.es.length = es.length := by have := o5.1; simpa using this
  have htl : (as.take len).length = (ys.take len).length := by simp [hal]
  have hR : All2 Wp (O.es.take off ++ as.take len ++ O.es.drop (off + (as.take len).length)) ((cpy es off len ys).map (Ty.enc T)) := by
    unfold cpy
    rw [List.map_append, List.map_append, List.map_take, List.map_take, List.map_drop, htl]
    exact ((o5.take off).append (e2.take len)).append (o5.drop _)
  have hlen : (cpy es off len ys).length = es.length := by
    unfold cpy
    simp only [List.length_append, List.length_take, List.length_drop]
    omega
  have hu := Upd.set hs (o' := .row ty T false (cpy es off len ys)) (O' := { O with es := O.es.take off ++ as.take len ++ O.es.drop (off + (as.take len).length) }) he (by simp [same2, hlen]) ⟨o1, o2, o3, by rw [o4]; simp, hR⟩
  refine ⟨O.fz ≤ off, .v (.int .i64 ((min as.length len : Nat) : Int)), _, ρ, [id], ?_, ?_, hu, ?_, ?_⟩
  · simp only [step, e1, ha, hO]
    rw [if_pos ⟨hol, hz, by rw [o2, hz], o3, by simpa using o4⟩]
  · rw [o4]; simp
  · rw [hal]; exact vt_d (.refl _)
  · intro m hm; cases hm
theorem sim_copy (sz : Nat) (d s : Opd) : SimI Gl ρ h σ rd tt (.copy sz d s) := by
  intro hs hrd p v kl h' hx hp
  simp only [xstep] at hx
  have hv := hrd d
  split at hx
  · rename_i id off len h1
    rw [h1] at hv
    obtain ⟨ty, T, fz, es, he, ha⟩ := hv
    rw [he] at hx
    simp only at hx
    split at hx
    · rename_i ys hy
      split at hx
      · rename_i hz
        cases hx
        exact okx_copy hs he ha (beq_eq hz) (hrd s) hy (of_decide_eq_true hp)
      · cases hx
    · cases hx
  · rename_i id h1
    rw [h1] at hv
    obtain ⟨ty, T, fz, es, he, ha⟩ := hv
    rw [he] at hx
    simp only at hx
    split at hx
    · rename_i ys hy
      split at hx
      · rename_i hz
        cases hx
        exact okx_copy hs he ha (beq_eq hz) (hrd s) hy (by omega)
      · cases hx
    · cases hx
  · cases hx
theorem okX_st {x : XV} {a : AV} (hk : okX x = true) (hv : VT ρ h x a) : st1 false a = true ∧ a.cells = [a] ∧ V1 ρ h x a := by
  have hv1 : V1 ρ h x a := by cases x <;> first | exact hv | (cases hk; done)
  obtain ⟨c1, c2⟩ := st_ok hv1 hk
  exact ⟨c1, c2, hv1⟩
theorem sim_bvec (ty : Nat) (xs : List Opd) : SimI Gl ρ h σ rd tt (.bvec ty xs) := by
  intro hs hrd p v kl h' hx hp
  simp only [xstep] at hx
  split at hx
  case isFalse => cases hx
  rename_i hall
  cases hx
  have hone : ∀ x ∈ xs, st1 false (σ.val Gl x) = true ∧ (σ.val Gl x).cells = [σ.val Gl x] ∧ V1 ρ h (rd x) (σ.val Gl x) := fun x hxm =>
    okX_st (List.all_eq_true.1 hall _ (List.mem_map.2 ⟨x, hxm, rfl⟩)) (hrd x)
  have hst : (xs.map (σ.val Gl)).all (st1 false) = true := List.all_eq_true.2 fun a ha => by
    obtain ⟨x, hxm, rfl⟩ := List.mem_map.1 ha
    exact (hone x hxm).1
  have hO : ObjS ρ h (.vec ty (xs.map rd)) ⟨ty, 1, 0, false, xs.map (σ.val Gl)⟩ := by
    refine ⟨rfl, rfl, rfl, rfl, by simp, fun i c e q q' => ?_⟩
    rw [List.getElem?_map] at q q'
    cases hi : xs[i]? with
    | none => rw [hi] at q; cases q
    | some x =>
      rw [hi] at q q'
      cases q; cases q'
      exact (hone x (List.mem_of_getElem? hi)).2
  refine ⟨True, .row σ.h.length xs.length 1 0 xs.length, _, ρ ++ [σ.h.length], [], by simp only [step, hst, if_true] <;> rfl, trivial, Upd.new hs hO, ?_, fun _ _ _ q => by simp at q⟩
  refine VT.of1 ⟨ty, xs.map rd, by show (h ++ _)[h.length]? = _; simp, ?_⟩
  rw [← hs.rl, getD_last]; simp
theorem xstep_sim (i : I) : SimI Gl ρ h σ rd tt i := by
  cases i with
  | mov x => exact sim_mov x
  | pick c a b => exact sim_pick c a b
  | bin op x y => exact sim_bin op x y
  | beq n x y => exact sim_beq n x y
  | nilq n x => exact sim_nilq n x
  | aeq n fs x y => exact sim_aeq n fs x y
  | un op x => exact sim_un op x
  | conv k x => exact sim_conv k x
  | fld o s g x => exact sim_fld o s g x
  | ext i x => exact sim_ext i x
  | faddr o x => exact sim_faddr o x
  | iaddr s x i => exact sim_iaddr s x i
  | load s g x => exact sim_load s g x
  | store s x y => exact sim_store s x y
  | slice s x lo hi => exact sim_slice s x lo hi
  | slice3 s x y z => exact sim_slice3 s x y z
  | bvec t xs => exact sim_bvec t xs
  | sslice x lo hi => exact sim_sslice x lo hi
  | len x => exact sim_len x
  | slen x => exact sim_slen x
  | nck x => exact sim_nck x
  | idx x i => exact sim_idx x i
  | app t s b x y => exact sim_app t s b x y
  | apps t b x y => exact sim_apps t b x y
  | b2s x => exact sim_b2s x
  | s2b t x => exact sim_s2b t x
  | bslice t s xs => exact sim_bslice t s xs
  | blist t s xs => exact sim_blist t s xs
  | build z ps => exact sim_build z ps
  | box t s x => exact sim_box t s x
  | alloc t z => exact sim_alloc t z
  | mk t s b z n => exact sim_mk t s b z n
  | alloca t s n z => exact sim_alloca t s n z
  | aaddr b s n x i => exact sim_aaddr b s n x i
  | aslice b n x lo hi => exact sim_aslice b n x lo hi
  | copy s x y => exact sim_copy s x y
  | min2 x y => exact sim_min2 x y
  | max2 x y => exact sim_max2 x y
  | call f as => intro hs hrd p v kl h' hx hp; cases hx
end
end Abs
end Go.Proofs.YtamgbanmnededaaDoor
