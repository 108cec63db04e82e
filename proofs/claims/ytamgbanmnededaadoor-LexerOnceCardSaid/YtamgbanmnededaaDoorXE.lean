/- The typed machine: one instruction. -/
import Derived.Test.YtamgbanmnededaaDoorXD
namespace Go.Proofs.YtamgbanmnededaaDoor
namespace Abs
open Go.RowKit
set_option linter.unusedVariables false
set_option linter.unusedSimpArgs false

structure CfgOk (P : Program) (c : Cfg) : Prop where
  pis : ∀ p ∈ c.pis, POk P (gx c.GX) p
  his : ∀ p ∈ c.his, HOk P (gx c.GX) p
section
variable {P : Program} {c : Cfg} {ρ : List Nat} {h : List XO} {H : List AObj} {σ : St} {rd : Opd → XV} {tt : Nat → Option Ty} {Gl : Nat → Option (List AV)} {β : Type} {r : β}
theorem xstep_cls {i : I} {p : Bool} {v : XV} {kl : Option Nat} {h' : List XO} (hc : i.cls ≤ 1) (hx : xstep tt h rd i = some (p, v, kl, h')) : kl = none ∧ h' = h := by
  cases i <;> simp only [I.cls] at hc <;> first | omega | skip
  all_goals (simp only [xstep] at hx)
  all_goals (repeat' (split at hx))
  all_goals first | (cases hx; done) | (cases hx; exact ⟨rfl, rfl⟩)
theorem step_cls {i : I} (hc : i.cls ≤ 1) {q : Prop} {a : AV} {H' : List AObj} (hx : step Gl σ i = some (q, a, H')) : H' = σ.h := by
  by_cases h0 : i.cls = 0
  · exact (step_free (τ := σ) h0 (fun _ _ => rfl) hx).1
  · cases i with
    | aaddr b st n x i =>
      simp only [step] at hx
      repeat' (split at hx)
      all_goals first
        | (cases hx; done)
        | (cases hx; rfl)
    | b2s x =>
      simp only [step] at hx
      split at hx
      · rw [Option.map_eq_some_iff] at hx; obtain ⟨_, _, q⟩ := hx; cases q; rfl
      · cases hx
    | aslice b n x lo hi =>
      simp only [step] at hx
      repeat' (split at hx)
      all_goals first
        | (cases hx; done)
        | (rw [Option.map_eq_some_iff] at hx; obtain ⟨_, _, q⟩ := hx; cases q; rfl)
    | load sz ag x =>
      simp only [step] at hx
      repeat' (split at hx)
      all_goals first
        | (cases hx; done)
        | (cases hx; rfl)
        | (rw [Option.map_eq_some_iff] at hx; obtain ⟨_, _, q⟩ := hx; cases q; rfl)
    | call f as => cases hx
    | _ => first | exact absurd rfl h0 | (simp [I.cls] at hc; done)
theorem aExec_step {d : Bool} {dst : Option Nat} {K : St → Prop} {i : I} (hn : ∀ f as, i ≠ .call f as) : aExec P Gl d σ dst K i = match step Gl σ i with
    | some (p, a, h') => p ∧ K (St.put ⟨σ.t, h'⟩ dst a)
    | none => False := by
  cases i <;> first | rfl | exact absurd rfl (hn _ _)
theorem ap_same {ρ' : List Nat} {h' : List XO} {H' : List AObj} {kl tch : List Nat} (hu : Upd ρ h H ρ' h' H' kl tch) (hρ : ρ.length = h.length) (he : h'.length = h.length) : ρ' = ρ := by
  obtain ⟨n, e, _⟩ := hu.ap
  have := hu.hs.rl
  rw [e, List.length_append] at this
  have hn : n = [] := List.length_eq_zero_iff.1 (by omega)
  rw [e, hn, List.append_nil]

/-- Behind an instruction. -/
def Aft (ρ : List Nat) (h : List XO) (σ : St) (d : Bool) (ok : Nat → Bool) (rd : Opd → XV) (i : I) (K : XV → List Nat → List XO → Option β) (r : β) (a : AV) (H' : List AObj) : Prop :=
  ∃ ρ' v kl h' tch, Upd ρ h σ.h ρ' h' H' kl tch ∧ VT ρ' h' v a ∧ (leaves ok rd i = true → ∀ id ∈ tch, ok id = true) ∧ (i.cls ≤ 1 → d = true → ρ' = ρ ∧ H' = σ.h ∧ kl = [] ∧ h' = h) ∧ K v kl h' = some r

theorem xcallP_ok (hs : HS ρ h H) {vs : List XV} {as : List AV} (hv : All2 (VT ρ h) vs as) {f : Nat} {d : Bool} {K : XV → List Nat → List XO → Option β} {o : Option β} : ∀ (ps : List PI), (∀ p ∈ ps, POk P Gl p) → xcallP f d h vs K o ps = some r →
    (∃ bs res v h' tch, callable P f = true ∧ keepAL H as = some bs ∧ Pure P Gl f bs res ∧ (d = true → (if scalar res then H else freeze H (as.flatMap rowsA)) = H) ∧ Upd ρ h H ρ h' (if scalar res then H else freeze H (as.flatMap rowsA)) [] tch ∧ (∀ id ∈ tch, id ∈ vs.flatMap rowsX) ∧ VT ρ h' v res ∧ (d = true → h' = h) ∧ K v [] h' = some r) ∨ o = some r := by
  intro ps
  induction ps with
  | nil => intro _ hx; exact .inr hx
  | cons p ps ih =>
    intro hp hx
    simp only [xcallP] at hx
    split at hx
    · rename_i hf
      have hf := beq_eq hf
      subst hf
      split at hx
      · rename_i x ha
        obtain ⟨bs, k1, k2, k3, k4⟩ := argsD_ok hs _ _ _ _ ha hv
        have hpure : ∀ y, p.run x = some y → Pure P Gl p.f bs (oneT (encs p.rs y)) := fun y hy =>
          ((hp p (by simp)).2 x y hy).weak k2.1 fun j a b q q' => (k2.2 j a b q q').wk
        split at hx
        · rename_i hsc
          cases hy : p.run x with
          | none => rw [hy] at hx; cases hx
          | some y =>
            rw [hy] at hx
            have hsr : scalar (oneT (encs p.rs y)) = true := by rw [scal_res _ (scalL_noF hsc)]; exact hsc
            refine .inl ⟨bs, _, resX p.rs y, h, [], (hp p (by simp)).1, k1, hpure y hy, fun _ => by rw [hsr]; rfl, ?_, (fun _ q => by simp at q), resX_ok _ _, fun _ => rfl, hx⟩
            rw [hsr]; exact Upd.same hs
        · rename_i hsc
          split at hx
          · rename_i hd
            cases hy : p.run x with
            | none => rw [hy] at hx; cases hx
            | some y =>
              rw [hy] at hx
              have frz_id : (vs.flatMap rowsX).all (isFz h) = true → freeze H (as.flatMap rowsA) = H ∧ frzX h (vs.flatMap rowsX) = h := by
                intro hd
                rw [k3]
                refine ⟨?_, frzX_id _ _ hd⟩
                clear hx ih hpure
                have : ∀ (ids : List Nat), (∀ id ∈ ids, isRow h id) → ids.all (isFz h) = true → freeze H (ids.map fun id => ρ.getD id 0) = H := by
                  intro ids
                  induction ids with
                  | nil => intro _ _; rfl
                  | cons id ids ih =>
                    intro hr ha
                    simp only [List.all_cons, Bool.and_eq_true] at ha
                    obtain ⟨ty, T, fz, es, he⟩ := hr id (by simp)
                    have hfz : fz = true := by have := ha.1; simp only [isFz, he] at this; exact this
                    obtain ⟨O, hO, o1, o2, o3, o4, o5⟩ := hs.hr id _ he
                    rw [hfz, if_pos rfl] at o4
                    have hlen : O.es.length = es.length := by have := o5.1; simpa using this
                    have hst : H.set (ρ.getD id 0) { O with fz := O.es.length } = H := by
                      have : ({ O with fz := O.es.length } : AObj) = O := by rw [hlen, ← o4]
                      rw [this]
                      apply List.ext_getElem?
                      intro j
                      rw [List.getElem?_set]
                      split
                      · rename_i hj
                        subst hj
                        split
                        · rw [hO]
                        · rename_i hl; rw [List.getElem?_eq_none (by omega)]
                      · rfl
                    have e : freeze H ((id :: ids).map fun id => ρ.getD id 0) = freeze H (ids.map fun id => ρ.getD id 0) := by
                      simp only [List.map_cons, freeze, List.foldl_cons, hO]; rw [hst]
                    rw [e]
                    exact ih (fun j hj => hr j (by simp [hj])) ha.2
                exact this _ k4 hd
              by_cases hall : (vs.flatMap rowsX).all (isFz h) = true
              · obtain ⟨f1, f2⟩ := frz_id hall
                have hif : (if scalar (oneT (encs p.rs y)) = true then H else freeze H (as.flatMap rowsA)) = H := by rw [f1]; split <;> rfl
                rw [f2] at hx
                exact .inl ⟨bs, _, resX p.rs y, h, [], (hp p (by simp)).1, k1, hpure y hy, fun _ => hif, by rw [hif]; exact Upd.same hs, (fun _ q => by simp at q), resX_ok _ _, fun _ => rfl, hx⟩
              · have hd' : d = false ∧ hasFL p.rs = false := by
                  have := Bool.not_eq_true _ ▸ hall
                  rw [this] at hd
                  simpa using hd
                have hsr : scalar (oneT (encs p.rs y)) = false := by rw [scal_res _ hd'.2]; simpa using hsc
                have hu := Upd.frz _ hs k4
                rw [← k3] at hu
                refine .inl ⟨bs, _, resX p.rs y, _, _, (hp p (by simp)).1, k1, hpure y hy, fun q => ?_, by rw [hsr]; exact hu, (fun _ q => q), resX_ok _ _, fun q => ?_, hx⟩
                · rw [hd'.1] at q; cases q
                · rw [hd'.1] at q; cases q
          · cases hx
      · exact ih (fun q hq => hp q (by simp [hq])) hx
    · exact ih (fun q hq => hp q (by simp [hq])) hx
theorem xcallH_ok (hs : HS ρ h H) {vs : List XV} {as : List AV} (hv : All2 (VT ρ h) vs as) {f : Nat} {ok : Nat → Bool} {K : XV → List Nat → List XO → Option β} : ∀ (ps : List HI), (∀ p ∈ ps, HOk P Gl p) → xcallH f ok h vs K ps = some r →
    callable P f = true ∧ PureH P Gl f H as fun res H' => ∃ ρ' v kl h' tch, Upd ρ h H ρ' h' H' kl tch ∧ (∀ id ∈ tch, ok id = true) ∧ VT ρ' h' v res ∧ K v kl h' = some r := by
  intro ps
  induction ps with
  | nil => intro _ hx; cases hx
  | cons p ps ih =>
    intro hp hx
    simp only [xcallH] at hx
    split at hx
    · rename_i hb
      simp only [Bool.and_eq_true] at hb
      have hf := beq_eq hb.1.1
      have hn := beq_eq hb.1.2
      subst hf
      split at hx
      · rename_i foc x he
        split at hx
        case isFalse => cases hx
        rename_i hfo
        cases hy : p.run x with
        | none => rw [hy] at hx; cases hx
        | some y =>
          rw [hy] at hx
          have hS := (ext_sim (X := ⟨vs, h⟩) hv hs hn.symm he).1
          refine ⟨(hp p (by simp)).1, ((hp p (by simp)).2 x y hy H _ as hS).mono ?_⟩
          rintro res H' ⟨ρ', rs, hS', rfl, hF⟩
          obtain ⟨ρc, hu, hvt⟩ := merge_ok hs hv hn.symm he hb.2 hS' hF
          exact ⟨ρc, _, _, _, _, hu, fun id hid => List.all_eq_true.1 hfo id hid, hvt, hx⟩
      · exact ih (fun q hq => hp q (by simp [hq])) hx
    · exact ih (fun q hq => hp q (by simp [hq])) hx
/-- Append to a row whose room is cut off. -/
theorem xappc_ok (hs : HS ρ h σ.h) (hrd : ∀ o, VT ρ h (rd o) (σ.val Gl o)) {tt : Nat → Option Ty} {d : Bool} {ok : Nat → Bool} {K : XV → List Nat → List XO → Option β} {ty sz bytes : Nat} {s x : Opd} {id len : Nat} (h1 : rd s = .csub id len)
    (hx : (match tt ty, h[id]? with
      | some T, some (.row _ T' _ es) => if Nat.beq T.size sz = true then match elemsX h T (rd x), castT (a := .list T') (b := .list T) es with
          | some ys, some es => cond (someE ys) (cond (fits (len + List.length ys) bytes) (K (.row h.length) [] (h ++ [.row ty T false (List.take len es ++ ys)])) none) (K (.sub id 0 len) [] h)
          | _, _ => none
        else none
      | _, _ => none) = some r) : ∃ q a H', step Gl σ (.app ty sz bytes s x) = some (q, a, H') ∧ q ∧ Aft ρ h σ d ok rd (.app ty sz bytes s x) K r a H' := by
  have hv := hrd s
  rw [h1] at hv
  split at hx
  case h_2 => cases hx
  rename_i T ty' T' fz es0 hT he
  split at hx
  case isFalse => cases hx
  rename_i hz
  have hz := beq_eq hz
  split at hx
  case h_2 => cases hx
  rename_i ys es hys hcast
  obtain ⟨q, rfl⟩ := castT_eq hcast
  cases q
  obtain ⟨ty2, T2, fz2, es2, he2, hav, hle⟩ := hv
  rw [he] at he2
  cases he2
  obtain ⟨as, ha, hc⟩ := elems_ok hs hz hys (hrd x)
  have hal : as.length = ys.length := by rw [hc.1, List.length_map]
  obtain ⟨O, hO, o1, o2, o3, o4, o5⟩ := hs.hr id _ he
  have hlen : O.es.length = es0.length := by have := o5.1; simpa using this
  cases hy : ys with
  | nil =>
    rw [hy] at hx
    have has : as = [] := List.length_eq_zero_iff.1 (by rw [hal, hy]; rfl)
    subst has
    refine ⟨True, .row (ρ.getD id 0) es0.length sz 0 len, σ.h, ?_, trivial, ρ, .sub id 0 len, [], h, [], Upd.same hs, ?_, fun _ _ q => by simp at q, fun q => ?_, hx⟩
    · simp only [step, appY, ha, hav, hO, hlen, hz, o2, o3, and_self, if_true, List.isEmpty_nil]
    · exact VT.of1 ⟨ty', T, fz, es0, he, by rw [hz]⟩
    · simp [I.cls] at q
  | cons y0 ys0 =>
    have hse : someE ys = true := by rw [hy]; rfl
    rw [hse] at hx
    simp only [cond_true] at hx
    cases hf : fits (len + List.length ys) bytes with
    | false => rw [hf] at hx; cases hx
    | true =>
      rw [hf] at hx
      simp only [cond_true] at hx
      have hf := fits_iff hf
      have hne : as.isEmpty = false := by
        cases as with
        | nil => rw [hy] at hal; simp at hal
        | cons => rfl
      have hcc : All2 Wp (O.es.take len ++ as) ((es0.take len ++ ys).map (Ty.enc T)) := by
        rw [List.map_append, List.map_take]; exact (o5.take len).append hc
      obtain ⟨u1, u2⟩ := new_row (ty := ty) hs hz hcc
      have hl2 : (O.es.take len ++ as).length = len + as.length := by rw [List.length_append, List.length_take, hlen]; omega
      rw [hl2] at u2
      refine ⟨(len + as.length) * bytes ≤ maxB ∧ len + as.length ≤ 4611686018427387904, .row σ.h.length (len + as.length) sz 0 (len + as.length), σ.h ++ [⟨ty, sz, 0, true, O.es.take len ++ as⟩], ?_, ⟨by rw [hal]; exact hf.1, by rw [hal]; exact hf.2⟩, _, .row h.length, [], _, [], u1, VT.of1 u2, fun _ _ q => by simp at q, fun q => ?_, hx⟩
      · simp only [step, appY, ha, hav, hO, hlen, hz, o2, o3, and_self, if_true, hne, Bool.false_eq_true, if_false]
      · simp [I.cls] at q
theorem xexec_ok (hc : CfgOk P c) (hs : HS ρ h σ.h) (hrd : ∀ o, VT ρ h (rd o) (σ.val (gx c.GX) o)) {d : Bool} {ok : Nat → Bool} {K : XV → List Nat → List XO → Option β} {i : I} {dst : Option Nat} {Q : St → Prop} (hx : xexec c d ok h rd K i = some r) (hQ : ∀ a H', Aft ρ h σ d ok rd i K r a H' → Q (St.put ⟨σ.t, H'⟩ dst a)) : aExec P (gx c.GX) d σ dst Q i := by
  by_cases hcall : ∃ f as, i = .call f as
  · obtain ⟨f, as, rfl⟩ := hcall
    simp only [xexec] at hx
    split at hx
    case h_2 => cases hx
    rename_i fi u hfo
    have hfv : σ.val (gx c.GX) f = .v (.func (.func fi) #[] #[]) := by
      have := hrd f
      rw [hfo] at this
      exact vt_fnc this
    have hv := map_vt (xs := as) hrd
    rcases xcallP_ok hs hv c.pis hc.pis hx with ⟨bs, res, v, h', tch, k0, k1, k2, k3, k4, k4', k5, k6, k7⟩ | ho
    · refine ⟨fi, hfv, k0, .inl ⟨bs, res, k1, k2, k3, hQ _ _ ⟨ρ, v, [], h', tch, k4, k5, (fun hm id hid => List.all_eq_true.1 hm id (k4' id hid)), fun _ hd => ⟨rfl, k3 hd, rfl, k6 hd⟩, k7⟩⟩⟩
    · cases d with
      | true => cases ho
      | false =>
        obtain ⟨k0, kH⟩ := xcallH_ok hs hv c.his hc.his ho
        refine ⟨fi, hfv, k0, .inr ⟨rfl, kH.mono ?_⟩⟩
        rintro res H' ⟨ρ', v, kl, h', tch, u1, u1', u2, u3⟩
        exact hQ _ _ ⟨ρ', v, kl, h', tch, u1, u2, (fun _ => u1'), (fun _ hd => by cases hd), u3⟩
  · have hn : ∀ f as, i ≠ .call f as := fun f as q => hcall ⟨f, as, q⟩
    rw [aExec_step hn]
    by_cases happ : ∃ ty sz bytes s x id len, i = .app ty sz bytes s x ∧ rd s = .csub id len
    · obtain ⟨ty, sz, bytes, s, x, id, len, rfl, h1⟩ := happ
      simp only [xexec, h1] at hx
      obtain ⟨q, a, H', e1, e2, e3⟩ := xappc_ok (d := d) (ok := ok) hs hrd h1 hx
      rw [e1]
      exact ⟨e2, hQ _ _ e3⟩
    have hx' : (match xstep c.tt h rd i with
        | some (p, v, kl, h') => cond p (K v kl.toList (killH kl.toList h')) none
        | none => none) = some r := by
      rw [← hx]
      cases i with
      | call f as => exact absurd rfl (hn _ _)
      | app ty sz bytes s x =>
        simp only [xexec]
        cases h1 : rd s with
        | csub id len => exact absurd ⟨ty, sz, bytes, s, x, id, len, rfl, h1⟩ happ
        | _ => rfl
      | _ => rfl
    split at hx'
    · rename_i p v kl h' hst
      cases p with
      | false => cases hx'
      | true =>
        obtain ⟨q, a, H', ρ', tch, e1, e2, e3, e4, e5⟩ := xstep_sim i hs hrd _ _ _ _ hst rfl
        rw [e1]
        refine ⟨e2, hQ _ _ ⟨ρ', v, kl.toList, _, tch, e3, e4, e5 ok, fun hcl _ => ?_, hx'⟩⟩
        obtain ⟨c1, c2⟩ := xstep_cls hcl hst
        subst c1 c2
        exact ⟨ap_same e3 hs.rl rfl, step_cls hcl e1, rfl, rfl⟩
    · cases hx'
end
end Abs
end Go.Proofs.YtamgbanmnededaaDoor
