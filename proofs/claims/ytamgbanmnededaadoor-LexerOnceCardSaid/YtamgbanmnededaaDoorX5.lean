/- The typed machine: values read as native ones, plain operations. -/
import Derived.Test.YtamgbanmnededaaDoorX4
namespace Go.Proofs.YtamgbanmnededaaDoor
namespace Abs
open Go.RowKit
set_option linter.unusedVariables false
set_option linter.unusedSimpArgs false

section
variable {ρ : List Nat} {h : List XO} {H : List AObj}
/-- What a value is kept as. -/
def KeepsA (ρ : List Nat) (h : List XO) (H : List AObj) (x : XV) (a e : AV) : Prop :=
  ∃ b, keepA H a = some b ∧ Wp b e ∧ rowsA a = (rowsX x).map (fun id => ρ.getD id 0) ∧ ∀ id ∈ rowsX x, isRow h id
theorem lst_v1 {x : XV} {a : AV} (hv : V1 ρ h x a) : V1 ρ h (lst x) a := by
  unfold lst
  split
  · rename_i e o
    cases o with
    | none => have := Wp.v_inv hv; subst this; exact Wp.nil _
    | some xs => exact hv
  · exact hv
theorem lst_va {x : XV} {a : AV} (hv : VA ρ h x a) : VA ρ h (lst x) a := by
  by_cases ha : ∃ cs, x = .agg cs
  · obtain ⟨cs, rfl⟩ := ha; exact hv
  · exact VA.of1 (lst_v1 (by cases x <;> first | exact hv | exact absurd ⟨_, rfl⟩ ha))
theorem lst_vt {x : XV} {a : AV} (hv : VT ρ h x a) : VT ρ h (lst x) a := by
  by_cases ha : ∃ cs, x = .tup cs
  · obtain ⟨cs, rfl⟩ := ha; exact hv
  · exact VT.ofA (lst_va (by cases x <;> first | exact hv | exact absurd ⟨_, rfl⟩ ha))
theorem lst_rows (x : XV) : rowsX (lst x) = rowsX x := by
  unfold lst
  split <;> rfl
def DLs (ρ : List Nat) (h : List XO) (H : List AObj) (fs : List Ty) : Prop :=
  ∀ (cs : List XV) (as : List AV) (z : Ty.denL fs) (r : List XV), All2 (V1 ρ h) cs as → toDL h fs cs = some (z, r) →
    ∃ cs1 as1 as2 bs, cs = cs1 ++ r ∧ as = as1 ++ as2 ∧ All2 (V1 ρ h) r as2 ∧ keepL H as1 = some bs ∧ All2 Wp bs (Ty.encL fs z) ∧ as1.flatMap rows1 = (cs1.flatMap rowsX1).map (fun id => ρ.getD id 0) ∧ ∀ id ∈ cs1.flatMap rowsX1, isRow h id
theorem keepL_app2 : ∀ {l m l' m' : List AV}, keepL H l = some l' → keepL H m = some m' → keepL H (l ++ m) = some (l' ++ m') := by
  intro l
  induction l with
  | nil => intro m l' m' h1 h2; cases h1; exact h2
  | cons a l ih =>
    intro m l' m' h1 h2
    simp only [keepL] at h1
    split at h1
    · rename_i b n hb hn
      cases h1
      simp only [List.cons_append, keepL, hb, ih hn h2]
    · cases h1
theorem keep_d {T T' : Ty} {y : T'.den} {z : T.den} {a : AV} (hc : castT y = some z) (hv : VA ρ h (.d T' y) a) : KeepsA ρ h H (.d T' y) a (Ty.enc T z) := by
  obtain ⟨rfl, rfl⟩ := castT_eq hc
  obtain ⟨k1, k2⟩ := wp_keep (x := z) hv H
  exact ⟨a, k1, hv, k2, by simp [rowsX, rowsX1]⟩
theorem toDL_cons {t : Ty} (ht : ¬ ∃ gs, t = .tup gs) (ts : List Ty) (cs : List XV) : toDL h (t :: ts) cs = match cs with
    | [] => none
    | c :: r => match toD h t c with
      | some x => match toDL h ts r with
        | some (y, r') => some ((x, y), r')
        | none => none
      | none => none := by
  cases t <;> first | exact absurd ⟨_, rfl⟩ ht | (cases cs <;> rfl)
theorem keep_row (hs : HS ρ h H) {id off len ty : Nat} {T : Ty} {fz : Bool} {es : List T.den} (he : h[id]? = some (.row ty T fz es)) : keep1 H (.row (ρ.getD id 0) es.length T.size off len) = some (.list T.size ((((H[ρ.getD id 0]?).map (·.es)).getD []).drop off |>.take len)) ∧ Wp (.list T.size ((((H[ρ.getD id 0]?).map (·.es)).getD []).drop off |>.take len)) (Ty.enc (.list T) ((es.drop off).take len)) := by
  obtain ⟨O, hO, o1, o2, o3, o4, o5⟩ := hs.hr id _ he
  have hlen : O.es.length = es.length := by have := o5.1; simpa using this
  refine ⟨by simp only [keep1, hO, hlen, o2, o3, true_and, and_self, if_true, Option.map_some, Option.getD_some], ?_⟩
  simp only [hO, Option.map_some, Option.getD_some]
  have := (o5.drop off).take len
  show Wp _ (.list T.size (((es.drop off).take len).map (Ty.enc T)))
  rw [List.map_take, List.map_drop]
  exact .list _ _ _ this.1 this.2
theorem toD_kF {e : Ty} {v : Value} {z : Ty.den (.listF e)} (hx : toD h (.listF e) (.k v) = some z) : v = .slice none 0 0 ∧ z = none := by
  cases v with
  | slice ad n c =>
    cases ad with
    | some _ => cases hx
    | none =>
      cases n with
      | succ n => cases hx
      | zero =>
        cases c with
        | succ c => cases hx
        | zero => exact ⟨rfl, (Option.some.inj hx).symm⟩
  | _ => cases hx
theorem toD_keep2 (hs : HS ρ h H) (T : Ty) : (∀ (x : XV) (z : T.den) (a : AV), toD h T x = some z → VA ρ h x a → KeepsA ρ h H x a (Ty.enc T z)) ∧ ∀ gs, T = .tup gs → DLs ρ h H gs := by
  have scal : ∀ (T : Ty), (∀ x, toD h T x = match (generalizing := false) x with | .d T' x => castT x | _ => none) → ∀ (x : XV) (z : T.den) (a : AV), toD h T x = some z → VA ρ h x a → KeepsA ρ h H x a (Ty.enc T z) := by
    intro T hT x z a hz hv
    rw [hT] at hz
    cases x with
    | d T' y => exact keep_d hz hv
    | _ => cases hz
  refine Ty.rec (motive_1 := fun T => (∀ (x : XV) (z : T.den) (a : AV), toD h T x = some z → VA ρ h x a → KeepsA ρ h H x a (Ty.enc T z)) ∧ ∀ gs, T = .tup gs → DLs ρ h H gs)
    (motive_2 := fun fs => DLs ρ h H fs) ?_ ?_ ?_ ?_ ?_ ?_ ?_ ?_ ?_ T
  · intro k; exact ⟨scal (.int k) (fun x => by cases x <;> simp only [toD]), fun gs q => by cases q⟩
  · exact ⟨scal .bool (fun x => by cases x <;> simp only [toD]), fun gs q => by cases q⟩
  · exact ⟨scal .str (fun x => by cases x <;> simp only [toD]), fun gs q => by cases q⟩
  · intro e _
    refine ⟨fun x z a hz hv => ?_, fun gs q => by cases q⟩
    simp only [toD] at hz
    have hv := lst_va hv
    unfold KeepsA
    rw [← lst_rows x]
    show KeepsA ρ h H (lst x) a _
    generalize lst x = x at hz hv
    cases x with
    | d T' y => exact keep_d hz hv
    | k v =>
      split at hz
      all_goals first | (cases ‹_ = _›; done) | skip
      all_goals try (rename_i q; cases q)
      all_goals first
        | (cases hz; done)
        | (cases hz; have hv : a = .v (.slice none 0 0) := hv; subst hv; exact ⟨_, rfl, Wp.nil _, rfl, by simp [rowsX, rowsX1]⟩)
    | row id =>
      obtain ⟨ty, T, fz, es, he, rfl⟩ := hv
      simp only [he] at hz
      obtain ⟨q, rfl⟩ := castT_eq hz
      cases q
      obtain ⟨k1, k2⟩ := keep_row hs (off := 0) (len := es.length) he
      refine ⟨_, k1, ?_, rfl, ?_⟩
      · simpa using k2
      · simp [rowsX, rowsX1]; exact ⟨_, _, _, _, he⟩
    | sub id off len =>
      obtain ⟨ty, T, fz, es, he, rfl⟩ := hv
      simp only [he] at hz
      obtain ⟨q, rfl⟩ := castT_eq hz
      cases q
      obtain ⟨k1, k2⟩ := keep_row hs (off := off) (len := len) he
      refine ⟨_, k1, k2, rfl, ?_⟩
      simp [rowsX, rowsX1]; exact ⟨_, _, _, _, he⟩
    | _ => simp at hz
  · intro fs ih
    refine ⟨fun x z a hz hv => ?_, fun gs q => by cases q; exact ih⟩
    cases x with
    | d T' y => simp only [toD] at hz; exact keep_d hz hv
    | agg cs =>
      simp only [toD] at hz
      split at hz
      · rename_i z' hz'
        have hzz : z' = z := Option.some.inj hz
        subst hzz
        obtain ⟨as, rfl, hc⟩ := hv
        obtain ⟨cs1, as1, as2, bs, rfl, rfl, h2, hk, hw, hrows, hval⟩ := ih cs as z' [] hc hz'
        have := h2.nil_left
        subst this
        simp only [List.append_nil]
        refine ⟨.agg bs, by simp [keepA, hk], .agg _ _ hw.1 hw.2, hrows, hval⟩
      · cases hz
    | _ => simp [toD] at hz
  · intro f; exact ⟨scal (.fnc f) (fun x => by cases x <;> simp only [toD]), fun gs q => by cases q⟩
  · intro e _
    refine ⟨fun x z a hz hv => ?_, fun gs q => by cases q⟩
    cases x with
    | d T' y =>
      simp only [toD] at hz
      split at hz
      · rename_i o ho; cases hz; exact keep_d ho hv
      · split at hz
        · rename_i xs hxs
          cases hz
          exact (show KeepsA ρ h H (.d T' y) a (Ty.enc (.list e) xs) from keep_d hxs hv)
        · cases hz
    | k v =>
      obtain ⟨rfl, rfl⟩ := toD_kF hz
      have hv : a = .v (.slice none 0 0) := hv
      subst hv
      exact ⟨_, rfl, Wp.refl _, rfl, by simp [rowsX, rowsX1]⟩
    | row id =>
      obtain ⟨ty, T, fz, es, he, rfl⟩ := hv
      simp only [toD, he] at hz
      split at hz
      · rename_i xs hxs
        cases hz
        obtain ⟨q, rfl⟩ := castT_eq hxs
        cases q
        obtain ⟨k1, k2⟩ := keep_row hs (off := 0) (len := es.length) he
        refine ⟨_, k1, ?_, rfl, ?_⟩
        · show Wp _ (Ty.enc (.list e) es)
          simpa using k2
        · simp [rowsX, rowsX1]; exact ⟨_, _, _, _, he⟩
      · cases hz
    | sub id off len =>
      obtain ⟨ty, T, fz, es, he, rfl⟩ := hv
      simp only [toD, he] at hz
      split at hz
      · rename_i xs hxs
        cases hz
        obtain ⟨q, rfl⟩ := castT_eq hxs
        cases q
        obtain ⟨k1, k2⟩ := keep_row hs (off := off) (len := len) he
        refine ⟨_, k1, k2, rfl, ?_⟩
        simp [rowsX, rowsX1]; exact ⟨_, _, _, _, he⟩
      · cases hz
    | _ => simp [toD] at hz
  · intro cs as z r hc hz
    simp only [toDL] at hz
    cases hz
    exact ⟨[], [], as, [], rfl, rfl, hc, rfl, .nil, rfl, by simp⟩
  · intro t ts h1 h2 cs as z r hc hz
    by_cases ht : ∃ gs, t = .tup gs
    · obtain ⟨gs, rfl⟩ := ht
      simp only [toDL] at hz
      split at hz
      · rename_i x r1 hx
        split at hz
        · rename_i y r2 hy
          cases hz
          obtain ⟨cs1, as1, as2, bs, rfl, rfl, q2, hk, hw, hrows, hval⟩ := h1.2 gs rfl cs as x r1 hc hx
          obtain ⟨cs3, as3, as4, bs', rfl, rfl, q2', hk', hw', hrows', hval'⟩ := h2 _ _ y r q2 hy
          refine ⟨cs1 ++ cs3, as1 ++ as3, as4, bs ++ bs', by simp, by simp, q2', keepL_app2 hk hk', ?_, by simp [hrows, hrows'], fun id hid => ?_⟩
          · simp only [Ty.encL]; exact hw.append hw'
          · simp only [List.flatMap_append, List.mem_append] at hid
            rcases hid with q | q
            · exact hval id q
            · exact hval' id q
        · cases hz
      · cases hz
    · rw [toDL_cons ht] at hz
      cases cs with
      | nil => cases hz
      | cons c cr =>
        simp only at hz
        split at hz
        · rename_i x hx
          split at hz
          · rename_i y r2 hy
            cases hz
            obtain ⟨a, as', rfl, hv, hc'⟩ := hc.cons_left
            obtain ⟨b, kb, wb, rb, vb⟩ := h1.1 c x a hx (VA.of1 hv)
            obtain ⟨cs3, as3, as4, bs', rfl, rfl, q2', hk', hw', hrows', hval'⟩ := h2 _ _ y r hc' hy
            have htup : t.isTup = false := by cases t <;> first | rfl | exact absurd ⟨_, rfl⟩ ht
            have hpb : Pl1 b := by
              rcases enc_agg (T := t) (x := x) with ⟨q, _⟩ | ⟨_, q⟩
              · rw [htup] at q; cases q
              · exact q.of_wp wb
            have hna : ∀ us, a ≠ .agg us := fun us q => by
              subst q
              simp only [keepA, Option.map_eq_some_iff] at kb
              obtain ⟨_, _, q⟩ := kb
              subst q
              rcases hpb with ⟨_, q, _⟩ | ⟨_, _, q⟩ <;> cases q
            have kb1 : keep1 H a = some b := by cases a <;> first | exact kb | exact absurd rfl (hna _)
            have rb1 : rows1 a = rowsA a := by cases a <;> first | rfl | exact absurd rfl (hna _)
            have rx1 : rowsX1 c = rowsX c := by cases c <;> first | rfl | exact hv.elim
            refine ⟨c :: cs3, a :: as3, as4, b :: bs', by simp, by simp, q2', by simp only [keepL, kb1, hk'], ?_, by simp [hrows', rb1, rb, rx1], fun id hid => ?_⟩
            · have hcel : (Ty.enc t x).cells = [Ty.enc t x] := by
                rcases enc_agg (T := t) (x := x) with ⟨q, _⟩ | ⟨_, q⟩
                · rw [htup] at q; cases q
                · exact q.cells
              show All2 Wp (b :: bs') ((Ty.enc t x).cells ++ Ty.encL ts y)
              rw [hcel]
              exact .cons wb hw'
            · simp only [List.flatMap_cons, List.mem_append] at hid
              rcases hid with q | q
              · exact vb id (rx1 ▸ q)
              · exact hval' id q
          · cases hz
        · cases hz
theorem toD_keep (hs : HS ρ h H) {T : Ty} {x : XV} {z : T.den} {a : AV} (hz : toD h T x = some z) (hv : VA ρ h x a) : KeepsA ρ h H x a (Ty.enc T z) := (toD_keep2 hs T).1 x z a hz hv

/-- The same without rows. -/
theorem toD_pure2 (T : Ty) : (∀ (x : XV) (z : T.den) (a : AV), toD [] T x = some z → VA ρ h x a → Wp a (Ty.enc T z)) ∧ ∀ gs, T = .tup gs → ∀ (cs : List XV) (as : List AV) (z : Ty.denL gs) (r : List XV), All2 (V1 ρ h) cs as → toDL [] gs cs = some (z, r) → ∃ as1 as2, as = as1 ++ as2 ∧ All2 (V1 ρ h) r as2 ∧ All2 Wp as1 (Ty.encL gs z) := by
  have dd : ∀ (T T' : Ty) (y : T'.den) (z : T.den) (a : AV), castT y = some z → VA ρ h (.d T' y) a → Wp a (Ty.enc T z) := by
    intro T T' y z a hc hv
    obtain ⟨rfl, rfl⟩ := castT_eq hc
    exact hv
  have scal : ∀ (T : Ty), (∀ x, toD [] T x = match (generalizing := false) x with | .d T' x => castT x | _ => none) → ∀ (x : XV) (z : T.den) (a : AV), toD [] T x = some z → VA ρ h x a → Wp a (Ty.enc T z) := by
    intro T hT x z a hz hv
    rw [hT] at hz
    cases x with
    | d T' y => exact dd _ _ _ _ _ hz hv
    | _ => cases hz
  refine Ty.rec (motive_1 := fun T => (∀ (x : XV) (z : T.den) (a : AV), toD [] T x = some z → VA ρ h x a → Wp a (Ty.enc T z)) ∧ ∀ gs, T = .tup gs → ∀ (cs : List XV) (as : List AV) (z : Ty.denL gs) (r : List XV), All2 (V1 ρ h) cs as → toDL [] gs cs = some (z, r) → ∃ as1 as2, as = as1 ++ as2 ∧ All2 (V1 ρ h) r as2 ∧ All2 Wp as1 (Ty.encL gs z))
    (motive_2 := fun gs => ∀ (cs : List XV) (as : List AV) (z : Ty.denL gs) (r : List XV), All2 (V1 ρ h) cs as → toDL [] gs cs = some (z, r) → ∃ as1 as2, as = as1 ++ as2 ∧ All2 (V1 ρ h) r as2 ∧ All2 Wp as1 (Ty.encL gs z)) ?_ ?_ ?_ ?_ ?_ ?_ ?_ ?_ ?_ T
  · intro k; exact ⟨scal (.int k) (fun x => by cases x <;> simp only [toD]), fun gs q => by cases q⟩
  · exact ⟨scal .bool (fun x => by cases x <;> simp only [toD]), fun gs q => by cases q⟩
  · exact ⟨scal .str (fun x => by cases x <;> simp only [toD]), fun gs q => by cases q⟩
  · intro e _
    refine ⟨fun x z a hz hv => ?_, fun gs q => by cases q⟩
    simp only [toD] at hz
    have hv := lst_va hv
    generalize lst x = x at hz hv
    cases x with
    | d T' y => exact dd _ _ _ _ _ hz hv
    | k v =>
      split at hz
      all_goals first | (cases ‹_ = _›; done) | skip
      all_goals try (rename_i q; cases q)
      all_goals first
        | (cases hz; done)
        | (cases hz; have hv : a = .v (.slice none 0 0) := hv; subst hv; exact Wp.nil _)
    | _ => simp at hz
  · intro fs ih
    refine ⟨fun x z a hz hv => ?_, fun gs q => by cases q; exact ih⟩
    cases x with
    | d T' y => simp only [toD] at hz; exact dd _ _ _ _ _ hz hv
    | agg cs =>
      simp only [toD] at hz
      split at hz
      · rename_i z' hz'
        have hzz : z' = z := Option.some.inj hz
        subst hzz
        obtain ⟨as, rfl, hc⟩ := hv
        obtain ⟨as1, as2, rfl, h2, hw⟩ := ih cs as z' [] hc hz'
        have := h2.nil_left
        subst this
        rw [List.append_nil]
        exact .agg _ _ hw.1 hw.2
      · cases hz
    | _ => simp [toD] at hz
  · intro f; exact ⟨scal (.fnc f) (fun x => by cases x <;> simp only [toD]), fun gs q => by cases q⟩
  · intro e _
    refine ⟨fun x z a hz hv => ?_, fun gs q => by cases q⟩
    cases x with
    | d T' y =>
      simp only [toD] at hz
      split at hz
      · rename_i o ho; cases hz; exact dd _ _ _ _ _ ho hv
      · split at hz
        · rename_i xs hxs
          cases hz
          exact (show Wp a (Ty.enc (.list e) xs) from dd _ _ _ _ _ hxs hv)
        · cases hz
    | k v =>
      obtain ⟨rfl, rfl⟩ := toD_kF hz
      have hv : a = .v (.slice none 0 0) := hv
      subst hv
      exact Wp.refl _
    | _ => simp [toD] at hz
  · intro cs as z r hc hz
    simp only [toDL] at hz
    cases hz
    exact ⟨[], as, rfl, hc, .nil⟩
  · intro t ts h1 h2 cs as z r hc hz
    by_cases ht : ∃ gs, t = .tup gs
    · obtain ⟨gs, rfl⟩ := ht
      simp only [toDL] at hz
      split at hz
      · rename_i x r1 hx
        split at hz
        · rename_i y r2 hy
          cases hz
          obtain ⟨as1, as2, rfl, q2, hw⟩ := h1.2 gs rfl cs as x r1 hc hx
          obtain ⟨as3, as4, rfl, q2', hw'⟩ := h2 _ _ y r q2 hy
          refine ⟨as1 ++ as3, as4, by simp, q2', ?_⟩
          simp only [Ty.encL]; exact hw.append hw'
        · cases hz
      · cases hz
    · rw [toDL_cons ht] at hz
      cases cs with
      | nil => cases hz
      | cons c cr =>
        simp only at hz
        split at hz
        · rename_i x hx
          split at hz
          · rename_i y r2 hy
            cases hz
            obtain ⟨a, as', rfl, hv, hc'⟩ := hc.cons_left
            have wb := h1.1 c x a hx (VA.of1 hv)
            obtain ⟨as3, as4, rfl, q2', hw'⟩ := h2 _ _ y r hc' hy
            have htup : t.isTup = false := by cases t <;> first | rfl | exact absurd ⟨_, rfl⟩ ht
            refine ⟨a :: as3, as4, by simp, q2', ?_⟩
            have hcel : (Ty.enc t x).cells = [Ty.enc t x] := by
              rcases enc_agg (T := t) (x := x) with ⟨q, _⟩ | ⟨_, q⟩
              · rw [htup] at q; cases q
              · exact q.cells
            show All2 Wp (a :: as3) ((Ty.enc t x).cells ++ Ty.encL ts y)
            rw [hcel]
            exact .cons wb hw'
          · cases hz
        · cases hz
theorem toD_pure {T : Ty} {x : XV} {z : T.den} {a : AV} (hz : toD [] T x = some z) (hv : VA ρ h x a) : Wp a (Ty.enc T z) := (toD_pure2 T).1 x z a hz hv
end
end Abs
end Go.Proofs.YtamgbanmnededaaDoor
