/- The typed machine: calls. -/
import Derived.Test.YtamgbanmnededaaDoorXA
namespace Go.Proofs.YtamgbanmnededaaDoor
namespace Abs
open Go.RowKit
set_option linter.unusedVariables false
set_option linter.unusedSimpArgs false

def encs : (ps : List Ty) → Ty.denL ps → List AV
  | [], _ => []
  | T :: ps, x => Ty.enc T x.1 :: encs ps x.2
def oneT (l : List AV) : AV := match l with
  | [a] => a
  | l => .tup l
def POk (P : Program) (Gl : Nat → Option (List AV)) (p : PI) : Prop := callable P p.f = true ∧ ∀ x y, p.run x = some y → Pure P Gl p.f (encs p.ps x) (oneT (encs p.rs y))
/-- What is left of a heap behind a function. -/
structure Frm (H0 : List AObj) (ρ0 ρ : List Nat) (H : List AObj) : Prop where
  pre : ∃ l, ρ = ρ0 ++ l ∧ ∀ x ∈ l, H0.length ≤ x
  ge : H0.length ≤ H.length
  fr : ∀ j, j < H0.length → j ∉ ρ0 → H[j]? = H0[j]?
def HOk (P : Program) (Gl : Nat → Option (List AV)) (p : HI) : Prop := callable P p.f = true ∧ ∀ x y, p.run x = some y → ∀ (H : List AObj) (ρ : List Nat) (as : List AV), Sim ρ (emb p.ish x) ⟨as, H⟩ →
  PureH P Gl p.f H as (fun res H' => ∃ ρ' rs, Sim ρ' (emb p.osh y) ⟨rs, H'⟩ ∧ oneT rs = res ∧ Frm H ρ ρ' H')
theorem Frm.refl (H : List AObj) (ρ : List Nat) : Frm H ρ ρ H := ⟨⟨[], by simp, by simp⟩, Nat.le_refl _, fun _ _ _ => rfl⟩
theorem Frm.upd {H0 H H' : List AObj} {ρ0 ρ ρ' kl tch : List Nat} {h h' : List XO} (hf : Frm H0 ρ0 ρ H) (hρ : ρ.length = h.length) (hu : Upd ρ h H ρ' h' H' kl tch) : Frm H0 ρ0 ρ' H' := by
  obtain ⟨l, e1, q1⟩ := hf.pre
  obtain ⟨n, e2, q2⟩ := hu.ap
  refine ⟨⟨l ++ n, by rw [e2, e1, List.append_assoc], fun x hx => ?_⟩, Nat.le_trans hf.ge hu.ge, fun j hj hn => ?_⟩
  · rcases List.mem_append.1 hx with q | q
    · exact q1 x q
    · exact Nat.le_trans hf.ge (q2 x q)
  · rw [hu.fr j (Nat.lt_of_lt_of_le hj hf.ge) (fun id _ hid q => ?_), hf.fr j hj hn]
    have hmem : ρ.getD id 0 ∈ ρ := by
      have hl : id < ρ.length := by rw [hρ]; exact hid
      simp only [List.getD, List.getElem?_eq_getElem hl, Option.getD_some]
      exact List.getElem_mem _
    rw [q, e1] at hmem
    rcases List.mem_append.1 hmem with q' | q'
    · exact hn q'
    · have := q1 j q'; omega

section
variable {ρ : List Nat} {h : List XO} {H : List AObj}
theorem listX_ok : ∀ (rs : List Ty) (y : Ty.denL rs), All2 (VA ρ h) (listX rs y) (encs rs y) := by
  intro rs
  induction rs with
  | nil => intro y; exact .nil
  | cons T rs ih => intro y; exact .cons (Wp.refl _) (ih y.2)
theorem resX_ok (rs : List Ty) (y : Ty.denL rs) : VT ρ h (resX rs y) (oneT (encs rs y)) := by
  have hc := listX_ok (ρ := ρ) (h := h) rs y
  unfold resX oneT
  generalize listX rs y = l at hc
  generalize encs rs y = m at hc
  match l, m, hc with
  | [], m, hc => have := hc.nil_left; subst this; exact ⟨[], rfl, .nil⟩
  | [v], m, hc =>
    obtain ⟨a, r, rfl, hv, ht⟩ := hc.cons_left
    have := ht.nil_left
    subst this
    exact VT.ofA hv
  | v :: w :: l, m, hc =>
    obtain ⟨a, r, rfl, hv, ht⟩ := hc.cons_left
    obtain ⟨b, r', rfl, hw, ht'⟩ := ht.cons_left
    exact ⟨_, rfl, hc⟩
theorem scal_cells (T : Ty) : hasF T = false → ∀ x : T.den, ((Ty.enc T x).cells.all allV = scalT T) := by
  refine Ty.rec (motive_1 := fun T => hasF T = false → ∀ x : T.den, (Ty.enc T x).cells.all allV = scalT T) (motive_2 := fun fs => hasFL fs = false → ∀ x : Ty.denL fs, (Ty.encL fs x).all allV = scalL fs) ?_ ?_ ?_ ?_ ?_ ?_ ?_ ?_ ?_ T
  · intro k _ x; rfl
  · intro _ x; rfl
  · intro _ x; rfl
  · intro e _ _ x; rfl
  · intro fs ih h x; exact ih h x
  · intro f _ x; rfl
  · intro e _ h; cases h
  · intro _ x; rfl
  · intro t ts h1 h2 h x
    simp only [hasFL, Bool.or_eq_false_iff] at h
    simp only [Ty.encL, List.all_append, h1 h.1, h2 h.2, scalL]
theorem scal_one (T : Ty) (hF : hasF T = false) (x : T.den) : (match Ty.enc T x with | .v _ => true | .agg cs => cs.all allV | _ => false) = scalT T := by
  cases T with
  | tup fs => exact scal_cells (.tup fs) hF x
  | listF e => cases hF
  | _ => rfl
theorem scal_all : ∀ (rs : List Ty) (hF : hasFL rs = false) (y : Ty.denL rs), ((encs rs y).all fun a => match a with | .v _ => true | .agg cs => cs.all allV | _ => false) = scalL rs := by
  intro rs
  induction rs with
  | nil => intro _ y; rfl
  | cons T rs ih =>
    intro h y
    simp only [hasFL, Bool.or_eq_false_iff] at h
    simp only [encs, List.all_cons, scal_one T h.1, ih h.2, scalL]
theorem scal_res (rs : List Ty) (hF : hasFL rs = false) (y : Ty.denL rs) : scalar (oneT (encs rs y)) = scalL rs := by
  match rs, hF, y with
  | [], _, y => rfl
  | [T], hF, y =>
    simp only [hasFL, Bool.or_false] at hF
    show scalar (Ty.enc T y.1) = (scalT T && true)
    rw [Bool.and_true, ← scal_one T hF y.1]
    cases T with
    | listF e => cases hF
    | _ => rfl
  | T :: U :: rs, hF, y => exact scal_all (T :: U :: rs) hF y
mutual
theorem scal_noF : ∀ {T : Ty}, scalT T = true → hasF T = false
  | .int _, _ => rfl
  | .bool, _ => rfl
  | .str, _ => rfl
  | .list _, _ => rfl
  | .tup fs, h => scalL_noF (fs := fs) h
  | .fnc _, _ => rfl
  | .listF _, h => by cases h
theorem scalL_noF : ∀ {fs : List Ty}, scalL fs = true → hasFL fs = false
  | [], _ => rfl
  | t :: ts, h => by
    simp only [scalL, Bool.and_eq_true] at h
    simp only [hasFL, scal_noF h.1, scalL_noF h.2, Bool.or_self]
end
theorem argsD_ok (hs : HS ρ h H) : ∀ (ps : List Ty) (vs : List XV) (x : Ty.denL ps) (as : List AV), argsD h ps vs = some x → All2 (VT ρ h) vs as → ∃ bs, keepAL H as = some bs ∧ All2 Wp bs (encs ps x) ∧ as.flatMap rowsA = (vs.flatMap rowsX).map (fun id => ρ.getD id 0) ∧ ∀ id ∈ vs.flatMap rowsX, isRow h id := by
  intro ps
  induction ps with
  | nil =>
    intro vs x as hx hv
    cases vs with
    | nil => have := hv.nil_left; subst this; exact ⟨[], rfl, .nil, rfl, by simp⟩
    | cons => simp [argsD] at hx
  | cons T ps ih =>
    intro vs x as hx hv
    cases vs with
    | nil => simp [argsD] at hx
    | cons v vs =>
      simp only [argsD] at hx
      split at hx
      · rename_i z l hz hl
        cases hx
        obtain ⟨a, as', rfl, hv1, hv2⟩ := hv.cons_left
        have hnt : ∀ us, v ≠ .tup us := fun us q => by
          subst q
          cases T <;> simp [toD, lst] at hz
        obtain ⟨b, k1, k2, k3, k4⟩ := toD_keep hs hz (hv1.notup hnt)
        obtain ⟨bs, i1, i2, i3, i4⟩ := ih vs l as' hl hv2
        refine ⟨b :: bs, by simp only [keepAL, k1, i1], .cons k2 i2, by simp [k3, i3], fun id hid => ?_⟩
        simp only [List.flatMap_cons, List.mem_append] at hid
        rcases hid with q | q
        · exact k4 id q
        · exact i4 id q
      · cases hx
theorem frzX_id : ∀ (ids : List Nat) (h : List XO), ids.all (isFz h) = true → frzX h ids = h := by
  intro ids
  induction ids with
  | nil => intro h _; rfl
  | cons id ids ih =>
    intro h ha
    simp only [List.all_cons, Bool.and_eq_true] at ha
    have hset : (match h[id]? with | some o => h.set id (frzO o) | none => h) = h := by
      have := ha.1
      unfold isFz at this
      split at this
      · rename_i ty T fz es he
        rw [he]
        subst this
        simp only [frzO]
        apply List.ext_getElem?
        intro j
        rw [List.getElem?_set]
        split
        · rename_i hj
          subst hj
          split
          · rw [he]
          · rename_i hl; rw [List.getElem?_eq_none (by omega)]
        · rfl
      · cases this
    show frzX (match h[id]? with | some o => h.set id (frzO o) | none => h) ids = h
    rw [hset]; exact ih h ha.2

def rowK : XO → Bool
  | .row .. => true
  | _ => false
def rowS : SO → Bool
  | .row .. => true
  | _ => false
theorem objS_pr {o : XO} {O : AObj} (hR : ObjS ρ h o O) : O.pr = rowK o := by
  cases o with
  | row => exact hR.2.2.1
  | box => exact hR.2.2.1
  | vec => exact hR.2.2.1
theorem embO_novec : ∀ (os : List SO) (y : Ty.denL (SO.tys os)) (ty : Nat) (cs : List XV), XO.vec ty cs ∉ embO os y := by
  intro os
  induction os with
  | nil => intro y ty cs q; simp [embO] at q
  | cons so os ih =>
    intro y ty cs q
    cases so with
    | row ty' T fz =>
      simp only [embO, List.mem_cons] at q
      rcases q with q | q
      · cases q
      · exact ih _ _ _ q
    | box ty' cs' =>
      simp only [embO, List.mem_cons] at q
      rcases q with q | q
      · cases q
      · exact ih _ _ _ q
theorem embO_kind : ∀ (os : List SO) (y : Ty.denL (SO.tys os)), (embO os y).map rowK = os.map rowS := by
  intro os
  induction os with
  | nil => intro y; rfl
  | cons so os ih =>
    intro y
    cases so with
    | row ty T fz => simp only [embO, List.map_cons, rowK, rowS, ih]
    | box ty cs => simp only [embO, List.map_cons, rowK, rowS, ih]
theorem kinds_ok : ∀ {os os' : List SO}, kinds os os' = true → os.length ≤ os'.length ∧ ∀ (j : Nat), j < os.length → (os.map rowS)[j]? = (os'.map rowS)[j]? := by
  intro os
  induction os with
  | nil => intro os' _; exact ⟨by simp, fun j hj => by simp at hj⟩
  | cons so os ih =>
    intro os' hk
    cases os' with
    | nil => cases so <;> simp [kinds] at hk
    | cons so' os' =>
      have hk' : kinds os os' = true ∧ rowS so = rowS so' := by cases so <;> cases so' <;> simp [kinds] at hk <;> exact ⟨hk, rfl⟩
      obtain ⟨a, b⟩ := ih hk'.1
      refine ⟨by simp; exact a, fun j hj => ?_⟩
      cases j with
      | zero => simp [hk'.2]
      | succ j => simpa using b j (by simpa using hj)
theorem rowIds_ok : ∀ (foc : List Nat) (os : List SO), foc.length = os.length → ∀ (j id : Nat), foc[j]? = some id → (os.map rowS)[j]? = some true → id ∈ rowIds foc os := by
  intro foc
  induction foc with
  | nil => intro os _ j id q; simp at q
  | cons f foc ih =>
    intro os hl j id q k
    cases os with
    | nil => simp at hl
    | cons so os =>
      have hl' : foc.length = os.length := by simpa using hl
      cases j with
      | zero =>
        simp at q k
        subst q
        cases so with
        | row => simp [rowIds]
        | box => cases k
      | succ j =>
        have := ih os hl' j id (by simpa using q) (by simpa using k)
        cases so with
        | row => simp only [rowIds, List.mem_cons]; exact .inr this
        | box => simp only [rowIds]; exact this
theorem rowIds_sub : ∀ (foc : List Nat) (os : List SO), ∀ id ∈ rowIds foc os, id ∈ foc := by
  intro foc
  induction foc with
  | nil => intro os id q; cases os <;> simp [rowIds] at q
  | cons f foc ih =>
    intro os id q
    cases os with
    | nil => simp [rowIds] at q
    | cons so os =>
      cases so with
      | row =>
        simp only [rowIds, List.mem_cons] at q
        rcases q with q | q
        · simp [q]
        · simp [ih os id q]
      | box =>
        simp only [rowIds] at q
        simp [ih os id q]
theorem setFoc_ok (foc : List Nat) (base : Nat) : ∀ (l : List Nat) (h os : List XO), l.Nodup → (∀ id ∈ l, id < h.length) → l.length ≤ os.length →
    (setFoc foc base l h os).length = h.length + (os.length - l.length) ∧ (∀ (k id : Nat), l[k]? = some id → (setFoc foc base l h os)[id]? = (os[k]?).map (renO foc base)) ∧ (∀ id, id < h.length → id ∉ l → (setFoc foc base l h os)[id]? = h[id]?) ∧ ∀ k, l.length ≤ k → k < os.length → (setFoc foc base l h os)[h.length + (k - l.length)]? = (os[k]?).map (renO foc base) := by
  intro l
  induction l with
  | nil =>
    intro h os _ _ _
    refine ⟨by simp [setFoc], fun k id q => by simp at q, fun id hid _ => ?_, fun k _ hk => ?_⟩
    · simp only [setFoc]; rw [List.getElem?_append_left hid]
    · simp only [setFoc, List.length_nil, Nat.sub_zero]
      rw [List.getElem?_append_right (by omega), Nat.add_sub_cancel_left, List.getElem?_map]
  | cons f l ih =>
    intro h os hn hlt hle
    cases os with
    | nil => simp at hle
    | cons o os =>
      rw [List.nodup_cons] at hn
      have hf := hlt f (by simp)
      obtain ⟨a, b, c, d⟩ := ih (h.set f (renO foc base o)) os hn.2 (fun id hid => by simp; exact hlt id (by simp [hid])) (by simpa using hle)
      refine ⟨by simp only [setFoc]; rw [a]; simp, fun k id q => ?_, fun id hid hn' => ?_, fun k hk hk' => ?_⟩
      · cases k with
        | zero =>
          simp at q
          subst q
          simp only [setFoc]
          rw [c f (by simpa using hf) hn.1, List.getElem?_set_self hf]
          rfl
        | succ k =>
          simp only [setFoc]
          rw [b k id (by simpa using q)]
          simp
      · simp only [setFoc]
        simp only [List.mem_cons, not_or] at hn'
        rw [c id (by simpa using hid) hn'.2, List.getElem?_set_ne (fun q => hn'.1 q.symm)]
      · cases k with
        | zero => simp at hk
        | succ k =>
          simp only [setFoc]
          have := d k (by simpa using hk) (by simpa using hk')
          rw [List.length_set] at this
          simp only [List.length_cons, Nat.add_sub_add_right, List.getElem?_cons_succ]
          exact this
end
end Abs
end Go.Proofs.YtamgbanmnededaaDoor
