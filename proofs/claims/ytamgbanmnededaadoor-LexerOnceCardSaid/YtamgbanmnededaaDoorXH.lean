/- The typed machine: code, functions. -/
import Derived.Test.YtamgbanmnededaaDoorXM
import Derived.LoopN
namespace Go.Proofs.YtamgbanmnededaaDoor
namespace Abs
open Go.RowKit
set_option linter.unusedVariables false
set_option linter.unusedSimpArgs false

section
variable {S R : Type} {step : S → Option (S ⊕ R)}
theorem runO_mono : ∀ {n m : Nat} {s : S} {r : R}, runO step n s = some r → n ≤ m → runO step m s = some r := by
  intro n
  induction n with
  | zero => intro m s r h; cases h
  | succ n ih =>
    intro m s r h hm
    cases m with
    | zero => omega
    | succ m =>
      simp only [runO] at h ⊢
      split at h
      · exact ih h (by omega)
      · exact h
      · cases h
theorem loopO_some {s : S} {r : R} : loopO step s = some r ↔ ∃ n, runO step n s = some r := by
  constructor
  · intro h
    unfold loopO at h
    split at h
    · rename_i hn; exact ⟨_, h⟩
    · cases h
  · rintro ⟨n, h⟩
    have hn : ∃ n r, runO step n s = some r := ⟨n, r, h⟩
    obtain ⟨r', hr'⟩ := hn.choose_spec
    have e1 := runO_mono hr' (Nat.le_max_left _ n)
    have e2 := runO_mono h (Nat.le_max_right hn.choose n)
    rw [e1] at e2
    cases e2
    unfold loopO
    rw [dif_pos hn]
    exact hr'
theorem loopO_eq (step : S → Option (S ⊕ R)) (s : S) : loopO step s = match step s with
    | some (.inl s') => loopO step s'
    | some (.inr r) => some r
    | none => none := by
  apply Option.ext
  intro r
  rw [loopO_some]
  constructor
  · rintro ⟨n, h⟩
    cases n with
    | zero => cases h
    | succ n =>
      simp only [runO] at h
      split at h
      · rename_i s' hs; rw [hs]; exact loopO_some.2 ⟨n, h⟩
      · rename_i r' hs; rw [hs]; exact h
      · cases h
  · intro h
    split at h
    · rename_i s' hs
      obtain ⟨n, hn⟩ := loopO_some.1 h
      exact ⟨n + 1, by simp only [runO, hs]; exact hn⟩
    · rename_i r' hs
      cases h
      exact ⟨1, by simp only [runO, hs]⟩
    · cases h
end

section
variable {P : Program} {c : Cfg} {ρ : List Nat} {X : XS} {σ : St} {F : Addr → Option Value} {own : List Ent} {B : Nat} {w0 : W0} {act : Act} {w : World} {H0 : List AObj} {ρ0 : List Nat} {Gl : Nat → Option (List AV)}
theorem act_self {i : Nat} (hlt : i < act.tmps.size) : act.put (some i) act.tmps[i] = act := by
  have hs : act.tmps.setIfInBounds i act.tmps[i] = act.tmps := by
    apply Array.ext_getElem?
    intro j
    rw [Array.getElem?_setIfInBounds]
    split
    · rename_i hj
      subst hj
      rw [Array.getElem?_eq_getElem hlt]
    · rfl
  show ({ act with tmps := act.tmps.setIfInBounds i act.tmps[i] } : Act) = act
  rw [hs]
theorem Frm.mine {nf id : Nat} {h : List XO} {H : List AObj} (hF : Frm H0 ρ0 ρ H) (hs : HS ρ h H) (hnf : nf = ρ0.length) (hid : nf ≤ id) (hl : id < h.length) : H0.length ≤ ρ.getD id 0 := by
  subst hnf
  obtain ⟨l, hl', hq⟩ := hF.pre
  have hidl : id < ρ.length := by rw [hs.rl]; exact hl
  rw [hl'] at hidl ⊢
  simp only [List.length_append] at hidl
  have : (ρ0 ++ l).getD id 0 = l[id - ρ0.length]'(by omega) := by
    simp only [List.getD]
    rw [List.getElem?_append_right hid, List.getElem?_eq_getElem (by omega)]; rfl
  rw [this]
  exact hq _ (List.getElem_mem _)
theorem pre1_tr {nf : Nat} (hnf : nf = ρ0.length) (hN : w0.N ≤ H0.length) (hcl : ClH H0.length H0) (hI : Inv Gl F own B w0 σ act w) (hS : Sim ρ X σ) (hF : Frm H0 ρ0 ρ σ.h) {s id len ty : Nat} {T : Ty} {es : List T.den} (hk : X.t.getD s .any = .sub id 0 len) (he : X.h[id]? = some (.row ty T false es)) (hid : nf ≤ id) :
    ∃ F' own' σ' ρ', Inv Gl F' own' B w0 σ' act w ∧ Sim ρ' ⟨(X.t.map (killT id)).set s (.row id), (X.h.map (killO id)).set id (.row ty T false (es.take len))⟩ σ' ∧ Frm H0 ρ0 ρ' σ'.h := by
  have hidl : id < X.h.length := (List.getElem?_eq_some_iff.1 he).1
  have hsl : s < X.t.length := by
    rcases Nat.lt_or_ge s X.t.length with q | q
    · exact q
    · simp [List.getD, List.getElem?_eq_none q] at hk
  have hsl' : s < σ.t.length := by rw [← hS.t.1]; exact hsl
  have hv := vt_get hS.t s
  rw [hk] at hv
  obtain ⟨ty', T', fz', es', he', ha⟩ := hv
  rw [he] at he'
  cases he'
  obtain ⟨O, hO, o1, o2, o3, o4, o5⟩ := hS.h.hr id _ he
  have hlen : O.es.length = es.length := by have := o5.1; simpa using this
  have hkn : H0.length ≤ ρ.getD id 0 := hF.mine hS.h hnf hid hidl
  have hs? : σ.t[s]? = some (.row (ρ.getD id 0) O.es.length T.size 0 len) := by
    rw [List.getElem?_eq_getElem hsl']
    simp only [List.getD, List.getElem?_eq_getElem hsl', Option.getD_some] at ha
    rw [ha, hlen]; rfl
  obtain ⟨e', hle, hI'⟩ := hI.cut hO o3 (by rw [o4]; simp) (Nat.le_trans hN hkn) hs?
  have hkH : ρ.getD id 0 < σ.h.length := hS.h.lt hidl
  have hmap : X.h.map (killO id) = X.h.map (killO1 [id]) := killH_map [id] X.h
  have htm : X.t.map (killT id) = X.t.map (killTL [id]) := killL_map [id] X.t
  rw [hmap, htm]
  have ht : Trn ρ X.h ρ ((X.h.map (killO1 [id])).set id (.row ty T false (es.take len))) [id] := Trn.mk (fun j oj e hj => by
    refine ⟨killO1 [id] oj, by rw [List.getElem?_set_ne (fun q => hj (by simp [q])), List.getElem?_map, e]; rfl, ?_⟩
    cases oj <;> simp [same2, killO1]) (fun _ _ => rfl)
  refine ⟨F, _, _, ρ, hI', ⟨?_, by simp [hS.h.rl], hS.h.nd, fun j oj q => ?_⟩, ⟨hF.pre, by simpa using hF.ge, fun j hj hn => ?_⟩⟩
  · have hvr : VT ρ ((X.h.map (killO1 [id])).set id (.row ty T false (es.take len))) (.row id) (.row (ρ.getD id 0) len T.size 0 len) := by
      refine ⟨ty, T, false, es.take len, by rw [List.getElem?_set_self (by simpa using hidl)], ?_⟩
      rw [List.length_take, Nat.min_eq_left (by omega)]
    refine All2.set ⟨by simp [hS.t.1], fun i y b p q => ?_⟩ hvr s
    rw [List.getElem?_map] at p q
    cases hy : X.t[i]? with
    | none => rw [hy] at p; cases p
    | some z =>
      cases hb : σ.t[i]? with
      | none => rw [hb] at q; cases q
      | some c => rw [hy] at p; rw [hb] at q; cases p; cases q; exact (hS.t.2 i z c hy hb).off hS.h hidl ht
  · have q : ((X.h.map (killO1 [id])).set id (.row ty T false (es.take len)))[j]? = some oj := q
    by_cases hj : id = j
    · subst hj
      rw [List.getElem?_set_self (by simpa using hidl)] at q
      cases q
      refine ⟨{ O with es := O.es.take len }, by show ((σ.h.map _).set _ _)[ρ.getD id 0]? = _; rw [List.getElem?_set_self (by simpa using hkH)], o1, o2, o3, by rw [show ({ O with es := O.es.take len } : AObj).fz = O.fz from rfl, o4]; simp, ?_⟩
      rw [List.map_take]; exact o5.take len
    · rw [List.getElem?_set_ne hj, List.getElem?_map] at q
      cases hx : X.h[j]? with
      | none => rw [hx] at q; cases q
      | some ox =>
        rw [hx] at q; cases q
        have hjl := (List.getElem?_eq_some_iff.1 hx).1
        obtain ⟨O1, hO1, hR⟩ := hS.h.hr j ox hx
        refine ⟨_, ?_, hR.off (F := F) (own := own) (e' := e') hS.h hidl ht⟩
        show ((σ.h.map _).set _ _)[ρ.getD j 0]? = _
        rw [List.getElem?_set_ne (fun q => hj (hS.h.inj hidl hjl q)), List.getElem?_map, hO1]; rfl
  · show ((σ.h.map _).set _ _)[j]? = _
    rw [List.getElem?_set_ne (by omega), List.getElem?_map, hF.fr j hj hn]
    cases hj0 : H0[j]? with
    | none => rfl
    | some O1 =>
      show some (offO _ _ _ O1) = some O1
      congr 1
      unfold offO
      split
      · rfl
      · rename_i hpr
        have hpr : O1.pr = false := by simpa using hpr
        have : O1.es.map (offA F own (own.set (ρ.getD id 0) e')) = O1.es := by
          refine (List.map_congr_left fun e hem => ?_).trans (List.map_id O1.es)
          obtain ⟨i, hi⟩ := List.mem_iff_getElem?.1 hem
          have hc : ∀ c ∈ e.cells, off1 F own (own.set (ρ.getD id 0) e') c = c := fun c hcm => by
            obtain ⟨k, hk⟩ := List.mem_iff_getElem?.1 hcm
            exact off1_eq (hcl j O1 hj0 hpr i k e c hi hk F own _ fun i hi => by rw [List.getElem?_set_ne (by omega)])
          show offA F own (own.set (ρ.getD id 0) e') e = e
          by_cases hag : ∃ cs, e = .agg cs
          · obtain ⟨cs, rfl⟩ := hag
            show AV.agg (cs.map _) = _
            congr 1
            exact (List.map_congr_left fun c hcm => hc c hcm).trans (List.map_id cs)
          · rw [offA_else fun cs q => hag ⟨cs, q⟩]
            exact hc e (by cases e <;> first | exact List.mem_singleton.2 rfl | exact absurd ⟨_, rfl⟩ hag)
        rw [this]
theorem pre1_ghc (hI : Inv Gl F own B w0 σ act w) (hS : Sim ρ X σ) (hF : Frm H0 ρ0 ρ σ.h) {id o ty ty' : Nat} {T : Ty} {cs : List XV} (he : X.h[id]? = some (.box ty' cs)) (ho : cs[o]? = some (.k (.slice none 0 0))) (hz : 0 < T.size) :
    ∃ F' own' σ' ρ', Inv Gl F' own' B w0 σ' act w ∧ Sim ρ' ⟨X.t, (X.h ++ [XO.row ty T false []]).set id (.box ty' (cs.set o (.row X.h.length)))⟩ σ' ∧ Frm H0 ρ0 ρ' σ'.h := by
  have hidl : id < X.h.length := (List.getElem?_eq_some_iff.1 he).1
  obtain ⟨O, hO, o1, o2, o3, o4, e, o5, hc⟩ := hS.h.hr id _ he
  have hkH : ρ.getD id 0 < σ.h.length := hS.h.lt hidl
  have hI1 := hI.newNil ty T.size true hz
  obtain ⟨a, ha, hva⟩ := hc.get_left ho
  have hva : a = .v (.slice none 0 0) := hva
  subst hva
  have hrow : R F (own ++ [⟨none, 0, T.size, 0⟩]) (.slice none 0 0) (.row σ.h.length 0 T.size 0 0) := by
    rw [← hI.hl]
    exact .row _ _ _ _ _ _ _ own_last (by simp) ⟨_, _, rfl, by simp, fun q => by simp at q⟩ (fun _ => ⟨rfl, by simp, fun _ => ⟨_, Nat.le_of_eq (Nat.zero_add _), by simp⟩⟩)
  have hO1 : (σ.h ++ [(⟨ty, T.size, 0, true, []⟩ : AObj)])[ρ.getD id 0]? = some O := by rw [List.getElem?_append_left hkH]; exact hO
  have hI2 := hI1.cellNil hO1 o5 o3 ha hrow rfl
  obtain ⟨u1, u2⟩ := new_row (ty := ty) (ys := ([] : List T.den)) (as := []) hS.h rfl .nil
  have he1 : (X.h ++ [XO.row ty T false []])[id]? = some (.box ty' cs) := by rw [List.getElem?_append_left hidl]; exact he
  have hg : (ρ ++ [σ.h.length]).getD id 0 = ρ.getD id 0 := getD_left (by rw [hS.h.rl]; exact hidl)
  have hcl := setC_cells (e := e) (a := .row σ.h.length 0 T.size 0 0) rfl ha
  have hob : ObjS (ρ ++ [σ.h.length]) (X.h ++ [XO.row ty T false []]) (.box ty' (cs.set o (.row X.h.length))) { O with es := [setC e o (.row σ.h.length 0 T.size 0 0)] } := by
    refine ⟨o1, by simpa using o2, o3, o4, _, rfl, ?_⟩
    rw [hcl]
    refine All2.set ?_ u2 o
    have := u1.tr.cells hc
    rw [map_kill_nil] at this
    exact this
  have u3 := Upd.set u1.hs he1 (o' := .box ty' (cs.set o (.row X.h.length))) trivial hob
  have u4 := u1.trans u3 hS.h.rl
  rw [hg] at u4
  refine ⟨F, _, _, ρ ++ [σ.h.length], hI2, ?_, hF.upd hS.h.rl u4⟩
  exact put_ok (X := X) (kl := []) hS.t u4 (v := .any) (a := .any) trivial none
theorem pre1_gha (hI : Inv Gl F own B w0 σ act w) (hS : Sim ρ X σ) (hF : Frm H0 ρ0 ρ σ.h) {s o ty : Nat} {T : Ty} {cs : List XV} (hk : X.t.getD s .any = .agg cs) (ho : cs[o]? = some (.k (.slice none 0 0))) (hz : 0 < T.size) :
    ∃ F' own' σ' ρ', Inv Gl F' own' B w0 σ' act w ∧ Sim ρ' ⟨X.t.set s (.agg (cs.set o (.row X.h.length))), X.h ++ [XO.row ty T false []]⟩ σ' ∧ Frm H0 ρ0 ρ' σ'.h := by
  have hsl : s < X.t.length := by
    rcases Nat.lt_or_ge s X.t.length with q | q
    · exact q
    · simp [List.getD, List.getElem?_eq_none q] at hk
  have hsl' : s < σ.t.length := by rw [← hS.t.1]; exact hsl
  have hst : s < act.tmps.size := by rw [hI.tl]; exact hsl'
  have hv := vt_get hS.t s
  rw [hk] at hv
  obtain ⟨as, has, hc⟩ := hv
  have hs? : σ.t[s]? = some (.agg as) := by
    rw [List.getElem?_eq_getElem hsl']
    simp only [List.getD, List.getElem?_eq_getElem hsl', Option.getD_some] at has
    rw [has]
  obtain ⟨a, ha, hva⟩ := hc.get_left ho
  have hva : a = .v (.slice none 0 0) := hva
  subst hva
  have hI1 := hI.newNil ty T.size true hz
  have hrow : R F (own ++ [⟨none, 0, T.size, 0⟩]) (.slice none 0 0) (.row σ.h.length 0 T.size 0 0) := by
    rw [← hI.hl]
    exact .row _ _ _ _ _ _ _ own_last (by simp) ⟨_, _, rfl, by simp, fun q => by simp at q⟩ (fun _ => ⟨rfl, by simp, fun _ => ⟨_, Nat.le_of_eq (Nat.zero_add _), by simp⟩⟩)
  have hR := hI1.tr s _ _ (Array.getElem?_eq_getElem hst) hs?
  have hag : R F (own ++ [⟨none, 0, T.size, 0⟩]) act.tmps[s] (.agg (as.set o (.row σ.h.length 0 T.size 0 0))) := by
    obtain ⟨xs, hxs, hl, h1, hRc⟩ := hR.agg_inv
    rw [hxs]
    refine .agg xs _ (by simp [hl]) h1 fun j x b p q => ?_
    rw [List.getElem?_set] at q
    split at q
    · rename_i hj
      subst hj
      split at q
      · cases q
        have := (hRc o x _ p ha).v_inv
        subst this
        exact hrow
      · cases q
    · exact hRc j x b p q
  obtain ⟨u1, u2⟩ := new_row (ty := ty) (ys := ([] : List T.den)) (as := []) hS.h rfl .nil
  have hI2 := hI1.put hag (some s)
  rw [act_self hst] at hI2
  refine ⟨F, _, _, ρ ++ [σ.h.length], hI2, ?_, hF.upd hS.h.rl u1⟩
  refine put_ok (X := X) (kl := []) hS.t u1 (v := .agg (cs.set o (.row X.h.length))) (a := .agg (as.set o (.row σ.h.length 0 T.size 0 0))) ⟨_, rfl, ?_⟩ (some s)
  refine All2.set ?_ u2 o
  have := u1.tr.cells hc
  rw [map_kill_nil] at this
  exact this
theorem pre1_ok {nf : Nat} (hnf : nf = ρ0.length) (hN : w0.N ≤ H0.length) (hcl : ClH H0.length H0) (hI : Inv Gl F own B w0 σ act w) (hS : Sim ρ X σ) (hF : Frm H0 ρ0 ρ σ.h) (p : Pre) : ∃ F' own' σ' ρ', Inv Gl F' own' B w0 σ' act w ∧ Sim ρ' (preX1 nf X p) σ' ∧ Frm H0 ρ0 ρ' σ'.h := by
  cases p with
  | gh s ty T =>
    simp only [preX1]
    split
    · rename_i hk
      split
      · rename_i hz
        have hz := blt_t hz
        have hsl : s < X.t.length := by
          rcases Nat.lt_or_ge s X.t.length with q | q
          · exact q
          · simp [List.getD, List.getElem?_eq_none q] at hk
        have hsl' : s < σ.t.length := by rw [← hS.t.1]; exact hsl
        have hv := vt_get hS.t s
        rw [hk] at hv
        have ha := vt_k hv
        have hs? : σ.t[s]? = some (.v (.slice none 0 0)) := by
          rw [List.getElem?_eq_getElem hsl']
          simp only [List.getD, List.getElem?_eq_getElem hsl', Option.getD_some] at ha
          rw [ha]
        obtain ⟨own', hI'⟩ := hI.ghost1 (s, ty, T.size)
        have hgh : ghost σ (s, ty, T.size) = ⟨σ.t.set s (.row σ.h.length 0 T.size 0 0), σ.h ++ [⟨ty, T.size, 0, true, []⟩]⟩ := by
          simp only [ghost, hs?, hz, if_true]
        rw [hgh] at hI'
        obtain ⟨u1, u2⟩ := new_row (ty := ty) (ys := ([] : List T.den)) (as := []) hS.h rfl .nil
        refine ⟨F, own', _, ρ ++ [σ.h.length], hI', ?_, ?_⟩
        · exact put_ok (X := X) (kl := []) hS.t u1 (VT.of1 u2) (some s)
        · exact hF.upd hS.h.rl u1
      · exact ⟨F, own, σ, ρ, hI, hS, hF⟩
    · exact ⟨F, own, σ, ρ, hI, hS, hF⟩
  | fz s T =>
    simp only [preX1]
    split
    · rename_i x hx
      have hsl : s < X.t.length := by
        rcases Nat.lt_or_ge s X.t.length with q | q
        · exact q
        · rw [show X.t.getD s .any = .any by simp [List.getD, List.getElem?_eq_none q]] at hx
          cases T <;> simp [toD, lst] at hx
      have hsl' : s < σ.t.length := by rw [← hS.t.1]; exact hsl
      have hst : s < act.tmps.size := by rw [hI.tl]; exact hsl'
      have hv := vt_get hS.t s
      have hnt : ∀ us, X.t.getD s .any ≠ .tup us := fun us q => by
        rw [q] at hx
        cases T <;> simp [toD, lst] at hx
      obtain ⟨b, k1, k2, k3, k4⟩ := toD_keep hS.h hx (hv.notup hnt)
      obtain ⟨F1, hF1, hI1, hkp⟩ := hI.freezeL (rowsA (σ.t.getD s .any))
      have hsg : σ.t[s]? = some (σ.t.getD s .any) := by simp [List.getD, List.getElem?_eq_getElem hsl']
      have hR := hI.tr s _ _ (Array.getElem?_eq_getElem hst) hsg
      obtain ⟨r1, _, _⟩ := keepA_sound hI hF1 hR k1 hkp
      have hI2 := hI1.put (.pure r1) (some s)
      rw [act_self hst] at hI2
      have hu := Upd.frz _ hS.h k4
      rw [← k3] at hu
      refine ⟨F1, own, _, ρ, hI2, ?_, ?_⟩
      · exact put_ok (X := X) (kl := []) hS.t hu (vt_d k2) (some s)
      · exact hF.upd hS.h.rl hu
    · exact ⟨F, own, σ, ρ, hI, hS, hF⟩
  | ghc s o ty T =>
    simp only [preX1]
    split
    case h_2 => exact ⟨F, own, σ, ρ, hI, hS, hF⟩
    split
    case h_2 => exact ⟨F, own, σ, ρ, hI, hS, hF⟩
    rename_i he
    split
    case h_2 => exact ⟨F, own, σ, ρ, hI, hS, hF⟩
    rename_i ho
    split
    · rename_i hz
      exact pre1_ghc hI hS hF he ho (blt_t hz)
    · exact ⟨F, own, σ, ρ, hI, hS, hF⟩
  | gha s o ty T =>
    simp only [preX1]
    split
    case h_2 => exact ⟨F, own, σ, ρ, hI, hS, hF⟩
    rename_i hk
    split
    case h_2 => exact ⟨F, own, σ, ρ, hI, hS, hF⟩
    rename_i ho
    split
    · rename_i hz
      exact pre1_gha hI hS hF hk ho (blt_t hz)
    · exact ⟨F, own, σ, ρ, hI, hS, hF⟩
  | tr s =>
    simp only [preX1]
    split
    case h_2 => exact ⟨F, own, σ, ρ, hI, hS, hF⟩
    rename_i id off len hk
    split
    case h_2 => exact ⟨F, own, σ, ρ, hI, hS, hF⟩
    rename_i ty T fz es he
    split
    · rename_i hb
      simp only [Bool.and_eq_true, Bool.not_eq_true'] at hb
      have h0 := beq_eq hb.1.1
      have hf := hb.2
      subst h0 hf
      exact pre1_tr hnf hN hcl hI hS hF hk he (Nat.le_of_ble_eq_true hb.1.2)
    · exact ⟨F, own, σ, ρ, hI, hS, hF⟩
theorem pre_ok {nf : Nat} (hnf : nf = ρ0.length) (hN : w0.N ≤ H0.length) (hcl : ClH H0.length H0) (pre : List Pre) : ∀ {X : XS} {F : Addr → Option Value} {own : List Ent} {σ : St} {ρ : List Nat}, Inv Gl F own B w0 σ act w → Sim ρ X σ → Frm H0 ρ0 ρ σ.h → ∃ F' own' σ' ρ', Inv Gl F' own' B w0 σ' act w ∧ Sim ρ' (preX nf pre X) σ' ∧ Frm H0 ρ0 ρ' σ'.h := by
  induction pre with
  | nil => intro X F own σ ρ hI hS hF; exact ⟨F, own, σ, ρ, hI, hS, hF⟩
  | cons p pre ih =>
    intro X F own σ ρ hI hS hF
    obtain ⟨F', own', σ', ρ', a, b, d⟩ := pre1_ok hnf hN hcl hI hS hF p
    exact ih a b d
theorem startsR_ok : ∀ (n j : Nat) (l : List Nat), startsR n j l = true → ∃ r, l = List.range' j n ++ r := by
  intro n
  induction n with
  | zero => intro j l _; exact ⟨l, by simp⟩
  | succ n ih =>
    intro j l h
    cases l with
    | nil => simp [startsR] at h
    | cons a l =>
      simp only [startsR, Bool.and_eq_true] at h
      have := beq_eq h.1
      subst this
      obtain ⟨r, rfl⟩ := ih (a + 1) l h.2
      exact ⟨r, by simp [List.range'_succ]⟩
theorem foc_frm {H : List AObj} {foc : List Nat} {nf : Nat} {h : List XO} (hs : HS ρ h H) (hF : Frm H0 ρ0 ρ H) (hnf : nf = ρ0.length) (hst : startsR nf 0 foc = true) (hnd : foc.Nodup) (hlt : ∀ id ∈ foc, id < h.length) : Frm H0 ρ0 (foc.map fun id => ρ.getD id 0) H := by
  subst hnf
  obtain ⟨r, rfl⟩ := startsR_ok _ _ _ hst
  obtain ⟨l, hl, hq⟩ := hF.pre
  refine ⟨⟨r.map fun id => ρ.getD id 0, ?_, fun x hx => ?_⟩, hF.ge, hF.fr⟩
  · rw [List.map_append]
    congr 1
    apply List.ext_getElem
    · simp
    · intro i h1 h2
      simp only [List.length_map, List.length_range'] at h1
      simp only [List.getElem_map, List.getElem_range', Nat.zero_add, Nat.one_mul]
      rw [hl, getD_left h1]
      simp [List.getD, List.getElem?_eq_getElem h1]
  · obtain ⟨id, hid, rfl⟩ := List.mem_map.1 hx
    have hge : ρ0.length ≤ id := by
      rcases Nat.lt_or_ge id ρ0.length with q | q
      · exfalso
        rw [List.nodup_append] at hnd
        exact hnd.2.2 id (by simp [List.mem_range'_1, q]) id hid rfl
      · exact q
    have hidl : id < ρ.length := by rw [hs.rl]; exact hlt id (by simp [hid])
    rw [hl] at hidl ⊢
    simp only [List.length_append] at hidl
    have : (ρ0 ++ l).getD id 0 = l[id - ρ0.length]'(by omega) := by
      simp only [List.getD]
      rw [List.getElem?_append_right hge, List.getElem?_eq_getElem (by omega)]; rfl
    rw [this]
    exact hq _ (List.getElem_mem _)
theorem extL_ok {nf : Nat} (hN : w0.N ≤ H0.length) (hcl : ClH H0.length H0) {pre : List Pre} {sh : Sh} {s : Ty.denL sh.tys} (hI : Inv Gl F own B w0 σ act w) (hS : Sim ρ X σ) (hF : Frm H0 ρ0 ρ σ.h) (hnf : nf = ρ0.length) (hx : extL nf pre sh X = some s) : ∃ F' own' σ' ρ', Inv Gl F' own' B w0 σ' act w ∧ Sim ρ' (emb sh s) σ' ∧ Frm H0 ρ0 ρ' σ'.h := by
  obtain ⟨F', own', σ', ρ', hI', hS', hF'⟩ := pre_ok hnf hN hcl pre hI hS hF
  unfold extL at hx
  split at hx
  · rename_i foc x he
    split at hx
    · rename_i hb
      cases hx
      simp only [Bool.and_eq_true] at hb
      have hn : (preX nf pre X).t.length = sh.n := by
        have h1 := beq_eq hb.2
        rw [← h1, hS'.t.1, hS.t.1, ← hI'.tl, ← hI.tl]
      obtain ⟨e1, e2, e3, e4⟩ := ext_sim hS'.t hS'.h hn he
      exact ⟨F', own', σ', _, hI', e1, foc_frm hS'.h hF' hnf hb.1 e4 e2⟩
    · cases hx
  · cases hx

/-- What a state stands for. -/
def Std {β : Type} (H0 : List AObj) (ρ0 : List Nat) (K : Exit → XS → Option β) (r : β) (e : Exit) (τ : St) : Prop := ∃ ρ' X', Sim ρ' X' τ ∧ Frm H0 ρ0 ρ' τ.h ∧ K e X' = some r
theorem xwp_soundN (hc : CfgOk P c) (hm : P.follows .mixedOrders = true) {hl0 : List Nat} {N nf : Nat} (hN : w0.N = N) (hN0 : w0.N ≤ H0.length) (hcl : ClH H0.length H0) (hnf : nf = ρ0.length) : ∀ (code : Code) (xc : XC), cC P hl0 code = some xc.er → ∀ (β : Type) (K : Exit → XS → Option β) (r : β) (X : XS) (ρ : List Nat) (σ : St) (F : Addr → Option Value) (own : List Ent) (act : Act) (w : World),
    xwp c nf xc β K X = some r → Sim ρ X σ → Frm H0 ρ0 ρ σ.h → Inv (gx c.GX) F own B w0 σ act w → code.wp P (fun e a w => NG e ∧ Some' (gx c.GX) B w0 (Std H0 ρ0 K r e) a w) act w := by
  intro code
  induction code with
  | skip =>
    intro xc hcc β K r X ρ σ F own act w hx hS hF hI
    cases xc <;> simp only [cC, XC.er, Option.some.injEq, reduceCtorEq] at hcc
    exact wp_skip ⟨ng_normal, F, own, σ, hI, ρ, X, hS, hF, hx⟩
  | region id ops draw =>
    intro xc hcc β K r X ρ σ F own act w hx hS hF hI
    refine awp_soundN hm hN _ _ hcc _ σ F own act w ?_ hI
    have hsp : SpR ρ X.h σ [] := fun q hq => by simp at hq
    cases xc with
    | ops d l => exact xops_ok hc l X [] ρ σ hS hsp hF hx
    | rops U l =>
      refine ⟨(U.filter fun j => Nat.blt j X.h.length).map fun j => ρ.getD j 0, xopsR_ok (m := X.h.length) (N := σ.h.length) (U := U) hc l X [] ρ σ hS hsp hF (fun i hi hi' => ⟨hS.h.lt hi, fun q => ?_, fun q => List.mem_map.2 ⟨i, List.mem_filter.2 ⟨q, Nat.ble_eq_true_of_le hi⟩, rfl⟩⟩) (fun i hi hi' => by rw [hS.h.rl] at hi'; omega) (Nat.le_refl _) (Nat.le_refl _) hx⟩
      obtain ⟨j, hj, he⟩ := List.mem_map.1 q
      obtain ⟨h1, h2⟩ := List.mem_filter.1 hj
      have := getD_inj hS.h.nd (by rw [hS.h.rl]; exact blt_t h2) hi' he
      subst this; exact h1
    | _ =>
      exfalso
      cases draw with
      | false =>
        simp only [cC, XC.er] at hcc
        rw [Option.map_eq_some_iff] at hcc
        obtain ⟨_, _, q⟩ := hcc
        cases q
      | true =>
        simp only [cC, XC.er] at hcc
        repeat' (split at hcc)
        all_goals cases hcc
  | seq a b iha ihb =>
    intro xc hcc β K r X ρ σ F own act w hx hS hF hI
    simp only [cC] at hcc
    split at hcc
    · rename_i x y hxa hyb
      cases xc <;> simp only [XC.er, Option.some.injEq, reduceCtorEq, C.seq.injEq] at hcc
      case seq xa xb =>
        obtain ⟨rfl, rfl⟩ := hcc
        refine wp_seq (wp_mono (iha xa hxa β _ r X ρ σ F own act w hx hS hF hI) ?_)
        rintro e a1 w1 ⟨ng, F1, own1, τ, hI1, ρ1, X1, hS1, hF1, hK⟩
        cases e with
        | normal => exact ihb xb hyb β K r X1 ρ1 τ F1 own1 a1 w1 hK hS1 hF1 hI1
        | _ => exact ⟨ng, F1, own1, τ, hI1, ρ1, X1, hS1, hF1, hK⟩
      case seqj pre sh xa xb =>
        obtain ⟨rfl, rfl⟩ := hcc
        simp only [xwp] at hx
        generalize hA : xwp c nf xa (Ty.denL sh.tys ⊕ β) (fun e Y => match e with
          | .normal => match extL nf pre sh Y with
            | some s' => some (.inl s')
            | none => none
          | e => Option.map Sum.inr (K e Y)) X = oA at hx
        unfold joinO at hx
        split at hx
        · rename_i s0
          refine wp_seq (wp_mono (iha xa hxa _ _ _ X ρ σ F own act w hA hS hF hI) ?_)
          rintro e a1 w1 ⟨ng, F1, own1, τ, hI1, ρ1, X1, hS1, hF1, hK⟩
          cases e with
          | normal =>
            simp only at hK
            split at hK
            · rename_i s2 hs2
              cases hK
              obtain ⟨F2, own2, σ2, ρ2, hI2, hS2, hF2⟩ := extL_ok hN0 hcl hI1 hS1 hF1 hnf hs2
              exact ihb xb hyb β K r _ ρ2 σ2 F2 own2 a1 w1 hx hS2 hF2 hI2
            · cases hK
          | _ =>
            simp only [Option.map_eq_some_iff] at hK
            obtain ⟨_, _, q⟩ := hK
            cases q
        · rename_i r0
          cases hx
          refine wp_seq (wp_mono (iha xa hxa _ _ _ X ρ σ F own act w hA hS hF hI) ?_)
          rintro e a1 w1 ⟨ng, F1, own1, τ, hI1, ρ1, X1, hS1, hF1, hK⟩
          cases e with
          | normal =>
            simp only at hK
            split at hK <;> cases hK
          | _ =>
            simp only [Option.map_eq_some_iff] at hK
            obtain ⟨r2, hr2, q⟩ := hK
            cases q
            exact ⟨ng, F1, own1, τ, hI1, ρ1, X1, hS1, hF1, hr2⟩
        · cases hx
    · cases hcc
  | cond c0 a b iha ihb =>
    intro xc hcc β K r X ρ σ F own act w hx hS hF hI
    simp only [cC] at hcc
    split at hcc
    · rename_i x y hxa hyb
      cases xc <;> simp only [XC.er, Option.some.injEq, reduceCtorEq, C.cond.injEq] at hcc
      rename_i o xa xb
      obtain ⟨rfl, rfl, rfl⟩ := hcc
      simp only [xwp] at hx
      have hv := rdG_ok (c := c) hS (cOpd c0)
      split at hx
      case h_2 => cases hx
      rename_i t ht
      rw [ht] at hv
      have hva := vt_bool hv
      have he := hI.ev c0
      rw [hva] at he
      refine wp_cond he.v_inv ?_
      have lit : ∀ v : Bool, St.val (gx c.GX) σ (cOpd c0) = .v (.bool v) → Sim ρ (litX (cOpd c0) v X) σ := by
        intro v hv
        unfold litX
        split
        · rename_i i hi
          rw [hi] at hv
          exact ⟨same_set hS.t hv, hS.h⟩
        · exact hS
      have key : ∀ v : Bool, St.val (gx c.GX) σ (cOpd c0) = .v (.bool v) → cond v (xwp c nf xa β K (litX (cOpd c0) true X)) (xwp c nf xb β K (litX (cOpd c0) false X)) = some r → Code.wp P (if v = true then a else b) (fun e a w => NG e ∧ Some' (gx c.GX) B w0 (Std H0 ρ0 K r e) a w) act w := by
        intro v hv hx
        cases v with
        | true => simp only [if_true]; exact iha xa hxa β K r _ ρ σ F own act w hx (lit true hv) hF hI
        | false => simp only [Bool.false_eq_true, if_false]; exact ihb xb hyb β K r _ ρ σ F own act w hx (lit false hv) hF hI
      exact key t hva hx
    · cases hcc
  | block id b ih =>
    intro xc hcc β K r X ρ σ F own act w hx hS hF hI
    simp only [cC] at hcc
    cases hb : cC P hl0 b with
    | none => rw [hb] at hcc; cases hcc
    | some x =>
      rw [hb] at hcc
      cases xc <;> simp only [XC.er, Option.map_some, Option.some.injEq, reduceCtorEq, C.block.injEq] at hcc
      rename_i id' xb
      obtain ⟨rfl, rfl⟩ := hcc
      refine wp_block (wp_mono (ih xb hb β _ r X ρ σ F own act w hx hS hF hI) ?_)
      rintro e a1 w1 ⟨ng, F1, own1, τ, hI1, ρ1, X1, hS1, hF1, hK⟩
      cases e with
      | exit i =>
        simp only at hK
        simp only [Exit.inBlock]
        by_cases hi : i = id
        · rw [if_pos (by rw [hi]; simp)] at hK
          rw [if_pos hi]
          exact ⟨ng_normal, F1, own1, τ, hI1, ρ1, X1, hS1, hF1, hK⟩
        · rw [if_neg (fun q => hi (beq_eq q))] at hK
          rw [if_neg hi]
          exact ⟨ng_exit _, F1, own1, τ, hI1, ρ1, X1, hS1, hF1, hK⟩
      | _ => exact ⟨ng, F1, own1, τ, hI1, ρ1, X1, hS1, hF1, hK⟩
  | loop b ih =>
    intro xc hcc β K r X ρ σ F own act w hx hS hF hI
    simp only [cC] at hcc
    cases hb : cC P hl0 b with
    | none => rw [hb] at hcc; cases hcc
    | some x =>
      rw [hb] at hcc
      cases xc <;> simp only [XC.er, Option.map_some, Option.some.injEq, reduceCtorEq, C.loop.injEq] at hcc
      case loop pre sh xb =>
        subst hcc
        simp only [xwp] at hx
        split at hx
        case h_2 => cases hx
        rename_i s0 hs0
        obtain ⟨F0, own0, σ0, ρ0', hI0, hS0, hF0⟩ := extL_ok hN0 hcl hI hS hF hnf hs0
        obtain ⟨n, hn⟩ := loopO_some.1 hx
        have key : ∀ (n : Nat) (s : Ty.denL sh.tys) (ρ : List Nat) (σ : St) (F : Addr → Option Value) (own : List Ent) (act : Act) (w : World), runO (fun s => xwp c nf xb (Ty.denL sh.tys ⊕ β) (fun e Y => match e with
            | .normal => match extL nf pre sh Y with
              | some s' => some (.inl s')
              | none => none
            | e => Option.map Sum.inr (K e Y)) (emb sh s)) n s = some r → Sim ρ (emb sh s) σ → Frm H0 ρ0 ρ σ.h → Inv (gx c.GX) F own B w0 σ act w → Code.rounds P b (fun e a w => NG e ∧ Some' (gx c.GX) B w0 (Std H0 ρ0 K r e) a w) n act w := by
          intro n
          induction n with
          | zero => intro s ρ σ F own act w hr; cases hr
          | succ n ihn =>
            intro s ρ σ F own act w hr hS hF hI
            simp only [runO] at hr
            rw [rounds_succ]
            split at hr
            · rename_i s' hs'
              refine wp_mono (ih xb hb _ _ _ _ ρ σ F own act w hs' hS hF hI) ?_
              rintro e a1 w1 ⟨ng, F1, own1, τ, hI1, ρ1, X1, hS1, hF1, hK⟩
              cases e with
              | normal =>
                simp only at hK
                split at hK
                · rename_i s2 hs2
                  cases hK
                  obtain ⟨F2, own2, σ2, ρ2, hI2, hS2, hF2⟩ := extL_ok hN0 hcl hI1 hS1 hF1 hnf hs2
                  exact ihn s' ρ2 σ2 F2 own2 a1 w1 hr hS2 hF2 hI2
                · cases hK
              | _ =>
                simp only [Option.map_eq_some_iff] at hK
                obtain ⟨_, _, q⟩ := hK
                cases q
            · rename_i r' hs'
              cases hr
              refine wp_mono (ih xb hb _ _ _ _ ρ σ F own act w hs' hS hF hI) ?_
              rintro e a1 w1 ⟨ng, F1, own1, τ, hI1, ρ1, X1, hS1, hF1, hK⟩
              cases e with
              | normal =>
                simp only at hK
                split at hK <;> cases hK
              | _ =>
                simp only [Option.map_eq_some_iff] at hK
                obtain ⟨r2, hr2, q⟩ := hK
                cases q
                exact ⟨ng, F1, own1, τ, hI1, ρ1, X1, hS1, hF1, hr2⟩
            · cases hr
        exact wp_loop_rounds n (key n s0 ρ0' σ0 F0 own0 act w hn hS0 hF0 hI0)
      case loopU n xb =>
        subst hcc
        simp only [xwp] at hx
        have key : ∀ (n : Nat) (X : XS) (ρ : List Nat) (σ : St) (F : Addr → Option Value) (own : List Ent) (act : Act) (w : World), unrollN (fun k Y => xwp c nf xb β (fun e Z => match e with | .normal => k Z | e => K e Z) Y) n X = some r → Sim ρ X σ → Frm H0 ρ0 ρ σ.h → Inv (gx c.GX) F own B w0 σ act w → Code.rounds P b (fun e a w => NG e ∧ Some' (gx c.GX) B w0 (Std H0 ρ0 K r e) a w) n act w := by
          intro n
          induction n with
          | zero => intro X ρ σ F own act w hr; cases hr
          | succ n ihn =>
            intro X ρ σ F own act w hr hS hF hI
            simp only [unrollN] at hr
            rw [rounds_succ]
            refine wp_mono (ih xb hb _ _ _ _ ρ σ F own act w hr hS hF hI) ?_
            rintro e a1 w1 ⟨ng, F1, own1, τ, hI1, ρ1, X1, hS1, hF1, hK⟩
            cases e with
            | normal => exact ihn X1 ρ1 τ F1 own1 a1 w1 hK hS1 hF1 hI1
            | _ => exact ⟨ng, F1, own1, τ, hI1, ρ1, X1, hS1, hF1, hK⟩
        exact wp_loop_rounds n (key n X ρ σ F own act w hx hS hF hI)
  | exit id =>
    intro xc hcc β K r X ρ σ F own act w hx hS hF hI
    cases xc <;> simp only [cC, XC.er, Option.some.injEq, reduceCtorEq, C.exit.injEq] at hcc
    subst hcc
    exact wp_exit ⟨ng_exit _, F, own, σ, hI, ρ, X, hS, hF, hx⟩
  | ret =>
    intro xc hcc β K r X ρ σ F own act w hx hS hF hI
    cases xc <;> simp only [cC, XC.er, Option.some.injEq, reduceCtorEq] at hcc
    exact wp_ret ⟨ng_ret, F, own, σ, hI, ρ, X, hS, hF, hx⟩
  | label l =>
    intro xc hcc β K r X ρ σ F own act w hx hS hF hI
    cases xc <;> simp only [cC, XC.er, Option.some.injEq, reduceCtorEq] at hcc
    exact wp_label ⟨ng_normal, F, own, σ, hI, ρ, X, hS, hF, hx⟩
  | scope b ih =>
    intro xc hcc β K r X ρ σ F own act w hx hS hF hI
    refine wp_scope_straight (wp_mono (ih xc hcc β K r X ρ σ F own act w hx hS hF hI) ?_)
    rintro e a1 w1 ⟨ng, hK⟩
    cases e with
    | goto l => exact absurd rfl (ng l)
    | _ => exact ⟨ng, hK⟩
  | _ => intro xc hcc; cases hcc
theorem xwp_sound (hc : CfgOk P c) (hm : P.follows .mixedOrders = true) {hl0 : List Nat} {N nf : Nat} (hN : w0.N = N) (hN0 : w0.N ≤ H0.length) (hcl : ClH H0.length H0) (hnf : nf = ρ0.length) : ∀ (code : Code) (xc : XC), cC P hl0 code = some xc.er → ∀ (β : Type) (K : Exit → XS → Option β) (r : β) (X : XS) (ρ : List Nat) (σ : St) (F : Addr → Option Value) (own : List Ent) (act : Act) (w : World),
    xwp c nf xc β K X = some r → Sim ρ X σ → Frm H0 ρ0 ρ σ.h → Inv (gx c.GX) F own B w0 σ act w → code.wp P (fun e a w => Some' (gx c.GX) B w0 (Std H0 ρ0 K r e) a w) act w := by
  intro code xc hcc β K r X ρ σ F own act w hx hS hF hI
  exact wp_mono (xwp_soundN hc hm hN hN0 hcl hnf code xc hcc β K r X ρ σ F own act w hx hS hF hI) fun e a w h => h.2
end
end Abs
end Go.Proofs.YtamgbanmnededaaDoor
