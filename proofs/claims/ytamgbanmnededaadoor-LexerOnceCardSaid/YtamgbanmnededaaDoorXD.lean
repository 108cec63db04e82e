/- The typed machine: calls that turn memory of the caller's own; one instruction. -/
import Derived.Test.YtamgbanmnededaaDoorXB
namespace Go.Proofs.YtamgbanmnededaaDoor
namespace Abs
open Go.RowKit
set_option linter.unusedVariables false
set_option linter.unusedSimpArgs false

section
variable {ρ : List Nat} {h : List XO} {H H' : List AObj}
theorem getD_congr {a b : List Nat} {i k : Nat} (q : a[i]? = b[k]?) : a.getD i 0 = b.getD k 0 := by simp only [List.getD, q]
theorem embV_notup : ∀ (vs : List (Nat × Ty)) (r : List Ty) (x : Ty.denL (varTys vs r)) (b : List XV), (∀ z ∈ b, ∀ us, z ≠ .tup us) → ∀ z ∈ (embV vs r x b).1, ∀ us, z ≠ .tup us := by
  intro vs
  induction vs with
  | nil => intro r x b hb; exact hb
  | cons p vs ih =>
    intro r x b hb
    obtain ⟨s, T⟩ := p
    refine ih r x.2 _ fun z hz us q => ?_
    rcases List.mem_or_eq_of_mem_set hz with hz | hz
    · exact hb z hz us q
    · rw [hz] at q; cases q
theorem embRf_notup : ∀ (refs : List (Nat × SR)) (r : List Ty) (x : Ty.denL (refTys refs r)) (b : List XV), (∀ z ∈ b, ∀ us, z ≠ .tup us) → ∀ z ∈ (embRf refs r x b).1, ∀ us, z ≠ .tup us := by
  intro refs
  induction refs with
  | nil => intro r x b hb; exact hb
  | cons p refs ih =>
    intro r x b hb
    obtain ⟨s, sr⟩ := p
    have st : ∀ c : XV, (∀ us, c ≠ .tup us) → ∀ z ∈ b.set s c, ∀ us, z ≠ .tup us := fun c hc z hz us q => by
      rcases List.mem_or_eq_of_mem_set hz with hz | hz
      · exact hb z hz us q
      · rw [hz] at q; exact hc us q
    cases sr with
    | row j => exact ih r x _ (st _ fun us q => by cases q)
    | ptr j i o => exact ih r x _ (st _ fun us q => by cases q)
    | nil => exact ih r x _ (st _ fun us q => by cases q)
    | agg cs => exact ih r _ _ (st _ fun us q => by cases q)
theorem emb_notup (sh : Sh) (x : Ty.denL sh.tys) : ∀ z ∈ (emb sh x).t, ∀ us, z ≠ .tup us := by
  refine embRf_notup _ _ _ _ (embV_notup _ _ _ _ fun z hz us q => ?_)
  have := List.eq_of_mem_replicate hz
  rw [this] at q; cases q
theorem merge_ok {ish osh : Sh} {vs : List XV} {as rs : List AV} {foc ρ' : List Nat} {x : Ty.denL ish.tys} {y : Ty.denL osh.tys} (hs : HS ρ h H) (hv : All2 (VT ρ h) vs as) (hn : vs.length = ish.n) {nf : Nat} (hx : ext nf ish ⟨vs, h⟩ = some (foc, x)) (hk : kinds ish.objs osh.objs = true)
    (hS : Sim ρ' (emb osh y) ⟨rs, H'⟩) (hF : Frm H (foc.map fun id => ρ.getD id 0) ρ' H') :
    ∃ ρc, Upd ρ h H ρc (setFoc foc h.length foc (killH (rowIds foc ish.objs) h) (emb osh y).h) H' (rowIds foc ish.objs) foc ∧ VT ρc (setFoc foc h.length foc (killH (rowIds foc ish.objs) h) (emb osh y).h) (outX foc h.length (emb osh y).t) (oneT rs) := by
  obtain ⟨hS0, hlt, hfl, hnd⟩ := ext_sim (X := ⟨vs, h⟩) hv hs hn hx
  have hnv : ∀ id ∈ foc, ∀ ty cs, h[id]? ≠ some (.vec ty cs) := ext_novec hx
  obtain ⟨l, hl1, hl2⟩ := hF.pre
  have hlt : ∀ id ∈ foc, id < h.length := hlt
  obtain ⟨kl1, kl2⟩ := kinds_ok hk
  have ho2 : (emb osh y).h.map rowK = osh.objs.map rowS := embO_kind _ _
  have ho1 : (emb ish x).h.map rowK = ish.objs.map rowS := embO_kind _ _
  have hol : (emb osh y).h.length = osh.objs.length := by have := congrArg List.length ho2; simpa using this
  have hol1 : (emb ish x).h.length = ish.objs.length := by have := congrArg List.length ho1; simpa using this
  have hkl : (killH (rowIds foc ish.objs) h).length = h.length := by rw [killH_map]; simp
  obtain ⟨s1, s2, s3, s4⟩ := setFoc_ok foc h.length foc (killH (rowIds foc ish.objs) h) (emb osh y).h hnd (fun id hid => by rw [hkl]; exact hlt id hid) (by rw [hol, hfl]; exact kl1)
  rw [hkl] at s1 s3 s4
  generalize hkeq : rowIds foc ish.objs = kl at *
  generalize hceq : setFoc foc h.length foc (killH kl h) (emb osh y).h = hc at *
  have hρ' : ρ'.length = (emb osh y).h.length := hS.h.rl
  have hll : l.length = (emb osh y).h.length - foc.length := by
    have := congrArg List.length hl1; simp at this; omega
  have hfo : foc.length ≤ (emb osh y).h.length := by rw [hol, hfl]; exact kl1
  -- the numbers
  have num : ∀ j, j < (emb osh y).h.length → (ρ ++ l).getD (if Nat.blt j foc.length = true then foc.getD j 0 else h.length + (j - foc.length)) 0 = ρ'.getD j 0 ∧ hc[if Nat.blt j foc.length = true then foc.getD j 0 else h.length + (j - foc.length)]? = ((emb osh y).h[j]?).map (renO foc h.length) := by
    intro j hj
    by_cases hjf : Nat.blt j foc.length = true
    · have hj' := blt_t hjf
      rw [if_pos hjf]
      have hg : foc[j]? = some (foc.getD j 0) := by simp [List.getD, List.getElem?_eq_getElem hj']
      refine ⟨?_, s2 j _ hg⟩
      have hm : foc.getD j 0 ∈ foc := List.mem_of_getElem? hg
      rw [getD_left (by rw [hs.rl]; exact hlt _ hm), hl1, getD_left (by simpa using hj')]
      simp [List.getD, List.getElem?_map, List.getElem?_eq_getElem hj']
    · have hj' := blt_f hjf
      rw [if_neg hjf]
      refine ⟨?_, s4 j hj' hj⟩
      rw [hl1]
      have e1 : (ρ ++ l)[h.length + (j - foc.length)]? = l[j - foc.length]? := by rw [List.getElem?_append_right (by rw [hs.rl]; omega), hs.rl, Nat.add_sub_cancel_left]
      have e2 : ((foc.map fun id => ρ.getD id 0) ++ l)[j]? = l[j - foc.length]? := by rw [List.getElem?_append_right (by simpa using hj')]; simp
      exact getD_congr (e1.trans e2.symm)
  have val1 : ∀ (v : XV) (a : AV), V1 ρ' (emb osh y).h v a → V1 (ρ ++ l) hc (ren1 foc h.length v) a := by
    intro v a hv
    cases v with
    | row j =>
      obtain ⟨ty, T, fz, es, he, rfl⟩ := hv
      obtain ⟨n1, n2⟩ := num j (List.getElem?_eq_some_iff.1 he).1
      exact ⟨ty, T, fz, es, by rw [n2, he]; rfl, by rw [n1]⟩
    | sub j off len => trivial
    | csub j len => trivial
    | vrow j => trivial
    | ptr j i o =>
      obtain ⟨ob, he, rfl⟩ := hv
      obtain ⟨n1, n2⟩ := num j (List.getElem?_eq_some_iff.1 he).1
      refine ⟨renO foc h.length ob, by rw [n2, he]; rfl, ?_⟩
      rw [n1]
      cases ob <;> rfl
    | me j =>
      rcases hv with hv | ⟨ob, he, rfl⟩
      · exact .inl hv
      · obtain ⟨n1, n2⟩ := num j (List.getElem?_eq_some_iff.1 he).1
        refine .inr ⟨renO foc h.length ob, by rw [n2, he]; rfl, ?_⟩
        rw [n1]
        cases ob <;> rfl
    | agg => exact hv.elim
    | tup => exact hv.elim
    | _ => exact hv
  have valA : ∀ (v : XV) (a : AV), VA ρ' (emb osh y).h v a → VA (ρ ++ l) hc (renA foc h.length v) a := by
    intro v a hv
    by_cases ha : ∃ cs, v = .agg cs
    · obtain ⟨cs, rfl⟩ := ha
      obtain ⟨us, rfl, hcs⟩ := hv
      refine ⟨us, rfl, by simp [hcs.1], fun i z b p q => ?_⟩
      rw [List.getElem?_map] at p
      cases hz : cs[i]? with
      | none => rw [hz] at p; cases p
      | some w => rw [hz] at p; cases p; exact val1 w b (hcs.2 i w b hz q)
    · have e1 : renA foc h.length v = ren1 foc h.length v := by cases v <;> first | rfl | exact absurd ⟨_, rfl⟩ ha
      rw [e1]
      exact VA.of1 (val1 v a (by cases v <;> first | exact hv | exact absurd ⟨_, rfl⟩ ha))
  have nov : ∀ (j : Nat) (ty : Nat) (cs : List XV), (emb osh y).h[j]? ≠ some (.vec ty cs) := fun j ty cs q => embO_novec _ _ ty cs (List.mem_of_getElem? q)
  have obj1 : ∀ (j : Nat) (o : XO) (O : AObj), (emb osh y).h[j]? = some o → ObjS ρ' (emb osh y).h o O → ObjS (ρ ++ l) hc (renO foc h.length o) O := by
    intro j o O hj hR
    cases o with
    | vec ty cs => exact absurd hj (nov j ty cs)
    | row => exact hR
    | box ty cs =>
      obtain ⟨a, b, c, d, e, he, hcs⟩ := hR
      refine ⟨a, by simpa using b, c, d, e, he, by simp [hcs.1], fun i z w p q => ?_⟩
      rw [List.getElem?_map] at p
      cases hz : cs[i]? with
      | none => rw [hz] at p; cases p
      | some u => rw [hz] at p; cases p; exact val1 u w (hcs.2 i u w hz q)
  -- what was known
  have kind1 : ∀ (j id : Nat) (o : XO), foc[j]? = some id → h[id]? = some o → (ish.objs.map rowS)[j]? = some (rowK o) := by
    intro j id o hj ho
    have hjl : j < (emb ish x).h.length := by rw [hol1, ← hfl]; exact (List.getElem?_eq_some_iff.1 hj).1
    obtain ⟨O1, hO1, hR1⟩ := hS0.h.hr j _ (List.getElem?_eq_getElem hjl)
    obtain ⟨O2, hO2, hR2⟩ := hs.hr id o ho
    have : (foc.map fun id => ρ.getD id 0).getD j 0 = ρ.getD id 0 := by simp [List.getD, List.getElem?_map, hj]
    rw [this] at hO1
    have hO1 : H[ρ.getD id 0]? = some O1 := hO1
    rw [hO2] at hO1
    cases hO1
    rw [← ho1, List.getElem?_map, List.getElem?_eq_getElem hjl]
    show some (rowK _) = some (rowK o)
    rw [← objS_pr hR1, objS_pr hR2]
  have tr : Trn ρ h (ρ ++ l) hc kl := by
    refine Trn.mk (fun id o ho hn => ?_) (fun id hid => getD_left (by rw [hs.rl]; exact hid))
    by_cases hf : id ∈ foc
    · obtain ⟨j, hj⟩ := List.mem_iff_getElem?.1 hf
      have hjl : j < foc.length := (List.getElem?_eq_some_iff.1 hj).1
      have hk1 := kind1 j id o hj ho
      have hbox : rowK o = false := by
        cases hr : rowK o with
        | false => rfl
        | true =>
          rw [hr] at hk1
          have := rowIds_ok foc ish.objs hfl j id hj hk1
          rw [hkeq] at this
          exact absurd this hn
      have hjo : j < (emb osh y).h.length := by omega
      have hk2 := kl2 j (by rw [← hfl]; exact hjl)
      rw [hk1, hbox, ← ho2, List.getElem?_map, List.getElem?_eq_getElem hjo] at hk2
      have hk3 : rowK (emb osh y).h[j] = false := by simpa using hk2.symm
      refine ⟨renO foc h.length (emb osh y).h[j], by rw [s2 j id hj, List.getElem?_eq_getElem hjo]; rfl, ?_⟩
      cases o with
      | row => cases hbox
      | vec ty cs => exact absurd ho (hnv id hf ty cs)
      | box ty cs =>
        have hnj := nov j
        rw [List.getElem?_eq_getElem hjo] at hnj
        generalize (emb osh y).h[j] = o2 at hk3 hnj ⊢
        cases o2 with
        | row => cases hk3
        | vec ty' cs' => exact absurd rfl (hnj ty' cs')
        | box => trivial
    · refine ⟨killO1 kl o, ?_, ?_⟩
      · rw [s3 id (List.getElem?_eq_some_iff.1 ho).1 hf, killH_map, List.getElem?_map, ho]; rfl
      · cases o <;> simp [same2, killO1]
  refine ⟨ρ ++ l, ⟨⟨?_, ?_, fun id o ho => ?_⟩, tr, hF.ge, fun j hj hn => ?_, ⟨l, rfl, hl2⟩, by rw [s1]; omega⟩, ?_⟩
  · rw [List.length_append, s1, hs.rl, hll]
  · have hnd' := hS.h.nd
    rw [hl1, List.nodup_append] at hnd'
    rw [List.nodup_append]
    refine ⟨hs.nd, hnd'.2.1, fun a ha b hb => ?_⟩
    have := hs.mem_lt ha
    have := hl2 b hb
    omega
  · by_cases hid : id < h.length
    · by_cases hf : id ∈ foc
      · obtain ⟨j, hj⟩ := List.mem_iff_getElem?.1 hf
        have hjl : j < foc.length := (List.getElem?_eq_some_iff.1 hj).1
        have hjo : j < (emb osh y).h.length := by omega
        rw [s2 j id hj, List.getElem?_eq_getElem hjo] at ho
        cases ho
        obtain ⟨O, hO, hR⟩ := hS.h.hr j _ (List.getElem?_eq_getElem hjo)
        refine ⟨O, ?_, obj1 _ _ _ (List.getElem?_eq_getElem hjo) hR⟩
        rw [getD_left (by rw [hs.rl]; exact hid)]
        have : ρ'.getD j 0 = ρ.getD id 0 := by rw [hl1, getD_left (by simpa using hjl)]; simp [List.getD, List.getElem?_map, hj]
        rw [this] at hO; exact hO
      · rw [s3 id hid hf, killH_map, List.getElem?_map] at ho
        cases hx2 : h[id]? with
        | none => rw [hx2] at ho; cases ho
        | some ox =>
          rw [hx2] at ho; cases ho
          obtain ⟨O, hO, hR⟩ := hs.hr id ox hx2
          refine ⟨O, ?_, tr.obj hR⟩
          rw [getD_left (by rw [hs.rl]; exact hid), hF.fr _ (hs.lt hid) (fun q => ?_)]
          · exact hO
          · obtain ⟨id', hid', e⟩ := List.mem_map.1 q
            exact hf (hs.inj (hlt id' hid') hid e ▸ hid')
    · have hidl := (List.getElem?_eq_some_iff.1 ho).1
      rw [s1] at hidl
      have hk' := s4 (id - h.length + foc.length) (by omega) (by omega)
      rw [Nat.add_sub_cancel, show h.length + (id - h.length) = id by omega, ho] at hk'
      have hjo : id - h.length + foc.length < (emb osh y).h.length := by omega
      rw [List.getElem?_eq_getElem hjo] at hk'
      cases hk'
      obtain ⟨O, hO, hR⟩ := hS.h.hr _ _ (List.getElem?_eq_getElem hjo)
      refine ⟨O, ?_, obj1 _ _ _ (List.getElem?_eq_getElem hjo) hR⟩
      have e1 : (ρ ++ l)[id]? = l[id - h.length]? := by rw [List.getElem?_append_right (by rw [hs.rl]; omega), hs.rl]
      have e2 : ρ'[id - h.length + foc.length]? = l[id - h.length]? := by rw [hl1, List.getElem?_append_right (by simp)]; simp
      have : (ρ ++ l).getD id 0 = ρ'.getD (id - h.length + foc.length) 0 := getD_congr (e1.trans e2.symm)
      rw [this]; exact hO
  · refine hF.fr j hj (fun q => ?_)
    obtain ⟨id, hid, e⟩ := List.mem_map.1 q
    exact hn id hid (hlt id hid) e
  · have ht := hS.t
    have hts : ∀ (z : XV) (a : AV), VT ρ' (emb osh y).h z a → (∀ us, z ≠ .tup us) → VA (ρ ++ l) hc (renA foc h.length z) a := fun z a q hz => valA z a (q.notup hz)
    have hnt : ∀ z ∈ (emb osh y).t, ∀ us, z ≠ .tup us := emb_notup osh y
    unfold outX oneT
    generalize (emb osh y).t = tl at ht hnt
    match tl, rs, ht, hnt with
    | [], rs, ht, _ => have := ht.nil_left; subst this; exact ⟨[], rfl, .nil⟩
    | [v], rs, ht, hnt =>
      obtain ⟨a, r, rfl, hv, htt⟩ := ht.cons_left
      have := htt.nil_left
      subst this
      exact VT.ofA (hts v a hv (hnt v (by simp)))
    | v :: w :: tl, rs, ht, hnt =>
      obtain ⟨a, r, rfl, hv, htt⟩ := ht.cons_left
      obtain ⟨b, r', rfl, hw, htt'⟩ := htt.cons_left
      refine ⟨_, rfl, by simpa using ht.1, fun i z c p q => ?_⟩
      rw [List.getElem?_map] at p
      cases hz : (v :: w :: tl)[i]? with
      | none => rw [hz] at p; cases p
      | some u => rw [hz] at p; cases p; exact hts u c (ht.2 i u c hz q) (hnt u (List.mem_of_getElem? hz))
end
end Abs
end Go.Proofs.YtamgbanmnededaaDoor
