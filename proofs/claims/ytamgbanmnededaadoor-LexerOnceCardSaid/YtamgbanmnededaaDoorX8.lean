/- The typed machine: a step of it is a step of the abstract machine (all steps). -/
import Derived.Test.YtamgbanmnededaaDoorX7
namespace Go.Proofs.YtamgbanmnededaaDoor
namespace Abs
open Go.RowKit
set_option linter.unusedVariables false
set_option linter.unusedSimpArgs false

section
variable {ρ : List Nat} {h : List XO} {H : List AObj} {σ : St} {Gl : Nat → Option (List AV)} {rd : Opd → XV} {tt : Nat → Option Ty}
theorem vt_list {e : Ty} {xs : List e.den} {a : AV} (hv : VT ρ h (.d (.list e) xs) a) : (a = .v (.slice none 0 0) ∧ xs = []) ∨ ∃ as, a = .list e.size as ∧ as.length = xs.length ∧ All2 Wp as (xs.map (Ty.enc e)) := by
  rcases Wp.list_inv hv with ⟨ha, hn⟩ | ⟨as, ha, hc⟩
  · exact .inl ⟨ha, List.map_eq_nil_iff.1 hn⟩
  · exact .inr ⟨as, ha, by rw [hc.1, List.length_map], hc⟩
abbrev SimI (Gl : Nat → Option (List AV)) (ρ : List Nat) (h : List XO) (σ : St) (rd : Opd → XV) (tt : Nat → Option Ty) (i : I) : Prop :=
  HS ρ h σ.h → (∀ o, VT ρ h (rd o) (σ.val Gl o)) → ∀ (p : Bool) (v : XV) (kl : Option Nat) (h' : List XO), xstep tt h rd i = some (p, v, kl, h') → p = true → StepOk Gl ρ h σ rd i v kl.toList h'

theorem sim_len (x : Opd) : SimI Gl ρ h σ rd tt (.len x) := by
  intro hs hrd p v kl h' hx hp
  simp only [xstep] at hx
  have hv := lst_vt (hrd x)
  split at hx
  · rename_i e xs hr
    rw [hr] at hv
    cases hx
    rcases vt_list hv with ⟨ha, rfl⟩ | ⟨as, ha, hl, hc⟩
    · exact StepOk.pure hs (by simp only [step, ha] <;> rfl) trivial (Wp.refl _)
    · refine StepOk.pure hs (by simp only [step, ha] <;> rfl) trivial ?_
      rw [hl]
      exact Wp.refl _
  · rename_i id hr
    rw [hr] at hv
    obtain ⟨ty, T, fz, es, he, ha⟩ := hv
    rw [he] at hx
    cases hx
    exact StepOk.pure hs (by simp only [step, ha] <;> rfl) trivial (Wp.refl _)
  · rename_i id off len hr
    rw [hr] at hv
    obtain ⟨ty, T, fz, es, he, ha⟩ := hv
    cases hx
    exact StepOk.pure hs (by simp only [step, ha] <;> rfl) trivial (Wp.refl _)
  · rename_i id hr
    rw [hr] at hv
    obtain ⟨ty, cs, he, ha⟩ := hv
    rw [he] at hx
    cases hx
    exact StepOk.pure hs (by simp only [step, ha] <;> rfl) trivial (Wp.refl _)
  · rename_i hr
    rw [hr] at hv
    cases hx
    have ha := vt_k hv
    exact StepOk.pure hs (by simp only [step, ha] <;> rfl) trivial (Wp.refl _)
  · cases hx
theorem sim_mov (x : Opd) : SimI Gl ρ h σ rd tt (.mov x) := by
  intro hs hrd p v kl h' hx hp
  simp only [xstep] at hx
  cases hx
  exact StepOk.pure hs rfl trivial (hrd x)
theorem sim_pick (c a b : Opd) : SimI Gl ρ h σ rd tt (.pick c a b) := by
  intro hs hrd p v kl h' hx hp
  simp only [xstep] at hx
  split at hx
  · rename_i t T x T' y h1 h2 h3
    split at hx
    · rename_i y' hy
      cases hx
      have hc := hrd c; have ha := hrd a; have hb := hrd b
      rw [h1] at hc; rw [h2] at ha; rw [h3] at hb
      have ec := vt_bool hc
      obtain ⟨rfl, rfl⟩ := castT_eq hy
      refine StepOk.pure hs (by simp only [step, ec] <;> rfl) trivial ?_
      cases t
      · exact hb
      · exact ha
    · cases hx
  · cases hx
theorem sim_bin (op : BinOp) (x y : Opd) : SimI Gl ρ h σ rd tt (.bin op x y) := by
  intro hs hrd p v kl h' hx hp
  simp only [xstep] at hx
  split at hx
  · rename_i p' v' hb
    cases hx
    obtain ⟨va, vb, q, r, ea, eb, hq, hqq, hv⟩ := xbin_ok hb hp (hrd x) (hrd y)
    exact StepOk.pure hs (by simp only [step, ea, eb, hq, Option.map_some]) hqq hv
  · cases hx
theorem sim_beq (neg : Bool) (x y : Opd) : SimI Gl ρ h σ rd tt (.beq neg x y) := by
  intro hs hrd p v kl h' hx hp
  simp only [xstep] at hx
  have hvx := hrd x; have hvy := hrd y
  split at hx
  · rename_i a b h1 h2
    rw [h1] at hvx; rw [h2] at hvy
    cases hx
    have ea := vt_bool hvx; have eb := vt_bool hvy
    refine StepOk.pure hs (by simp only [step, ea, eb] <;> rfl) trivial ?_
    cases neg <;> exact Wp.refl _
  · cases hx
theorem sim_nilq (neg : Bool) (x : Opd) : SimI Gl ρ h σ rd tt (.nilq neg x) := by
  intro hs hrd p v kl h' hx hp
  simp only [xstep] at hx
  have hv := hrd x
  split at hx
  · rename_i e xs hr
    rw [hr] at hv
    cases hx
    rcases vt_list hv with ⟨ha, rfl⟩ | ⟨as, ha, hl, hc⟩
    · cases hp
    · refine StepOk.pure hs (by simp only [step, ha] <;> rfl) ?_ (Wp.refl _)
      intro q
      subst q
      have : xs = [] := List.length_eq_zero_iff.1 hl.symm
      subst this
      cases hp
  · rename_i e o hr
    rw [hr] at hv
    cases hx
    cases o with
    | none =>
      have ha := Wp.v_inv hv
      refine StepOk.pure hs (by simp only [step, ha] <;> rfl) trivial ?_
      cases neg <;> exact Wp.refl _
    | some xs =>
      rcases vt_list (show VT ρ h (.d (.list e) xs) _ from hv) with ⟨ha, rfl⟩ | ⟨as, ha, hl, hc⟩
      · cases hp
      · refine StepOk.pure hs (by simp only [step, ha] <;> rfl) ?_ ?_
        · intro q
          subst q
          have : xs = [] := List.length_eq_zero_iff.1 hl.symm
          subst this
          cases hp
        · cases neg <;> exact Wp.refl _
  · rename_i hr
    rw [hr] at hv
    cases hx
    have ha := vt_k hv
    exact StepOk.pure hs (by simp only [step, ha] <;> rfl) trivial (Wp.refl _)
  · rename_i id hr
    rw [hr] at hv
    obtain ⟨ty, T, fz, es, he, ha⟩ := hv
    rw [he] at hx
    cases hx
    refine StepOk.pure hs (by simp only [step, ha] <;> rfl) ?_ (Wp.refl _)
    cases es with
    | nil => cases hp
    | cons => simp
  · cases hx
theorem eqA_ok {xs ys : List XV} {as bs : List AV} (hx : All2 (V1 ρ h) xs as) (hy : All2 (V1 ρ h) ys bs) : ∀ (fs : List (Nat × Nat)) (b : Bool), xeqA xs ys fs = some b → eqA as bs fs = some b := by
  intro fs
  induction fs with
  | nil => intro b hb; exact hb
  | cons f fs ih =>
    intro b hb
    obtain ⟨i, c⟩ := f
    simp only [xeqA] at hb
    simp only [eqA]
    split at hb
    · rename_i h0; rw [if_pos h0]; exact ih b hb
    · rename_i h0
      rw [if_neg h0]
      split at hb
      · rename_i u w hu hw
        cases hb
        rw [ih w hw]
        have gx : ∀ {xs : List XV} {as : List AV}, All2 (V1 ρ h) xs as → ∀ i, V1 ρ h (xs.getD i .any) (as.getD i .any) := fun {xs as} hx i => by
          rcases Nat.lt_or_ge i as.length with q | q
          · exact hx.getD q _ _
          · have : xs[i]? = none := List.getElem?_eq_none (by rw [hx.1]; exact q)
            simp [List.getD, this]; trivial
        have h1 := gx hx i
        have h2 := gx hy i
        have key : eq1 c (as.getD i .any) (bs.getD i .any) = some u := by
          unfold xeq1 at hu
          split at hu
          · rename_i k a k' b' e1 e2
            rw [e1] at h1; rw [e2] at h2
            rw [Wp.v_inv h1, Wp.v_inv h2]
            exact hu
          · rename_i a b' e1 e2
            rw [e1] at h1; rw [e2] at h2
            rw [Wp.v_inv h1, Wp.v_inv h2]
            exact hu
          · rename_i a b' e1 e2
            rw [e1] at h1; rw [e2] at h2
            rw [Wp.v_inv h1, Wp.v_inv h2]
            exact hu
          · cases hu
        rw [key]
      · cases hb
theorem agg_ok {x : XV} {cs : List XV} {a : AV} (hx : aggX x = some cs) (hv : VT ρ h x a) : ∃ as, a = .agg as ∧ All2 (V1 ρ h) cs as := by
  unfold aggX at hx
  split at hx
  · rename_i fs y
    cases hx
    obtain ⟨as, rfl, _⟩ := Wp.agg_inv hv
    exact ⟨as, rfl, flat_v (T := .tup fs) hv⟩
  · cases hx; exact hv
  · cases hx
theorem sim_aeq (neg : Bool) (fs : List (Nat × Nat)) (x y : Opd) : SimI Gl ρ h σ rd tt (.aeq neg fs x y) := by
  intro hs hrd p v kl h' hx hp
  simp only [xstep] at hx
  split at hx
  · rename_i xs ys h1 h2
    split at hx
    · rename_i b hb
      cases hx
      obtain ⟨as, ea, c1⟩ := agg_ok h1 (hrd x)
      obtain ⟨bs, eb, c2⟩ := agg_ok h2 (hrd y)
      have hq := eqA_ok c1 c2 fs b hb
      refine StepOk.pure hs (by simp only [step, ea, eb, hq, Option.map_some] <;> rfl) trivial ?_
      cases neg <;> exact Wp.refl _
    · cases hx
  · cases hx
theorem sim_un (op : UnOp) (x : Opd) : SimI Gl ρ h σ rd tt (.un op x) := by
  intro hs hrd p v kl h' hx hp
  simp only [xstep] at hx
  have hv := hrd x
  split at hx
  · rename_i k n h1
    rw [h1] at hv
    cases hx
    exact StepOk.pure hs (by simp only [step, vt_int hv, unV, Option.map_some] <;> rfl) trivial (Wp.refl _)
  · rename_i b h1
    rw [h1] at hv
    cases hx
    exact StepOk.pure hs (by simp only [step, vt_bool hv, unV, Option.map_some] <;> rfl) trivial (Wp.refl _)
  · cases hx
theorem sim_conv (k : IntKind) (x : Opd) : SimI Gl ρ h σ rd tt (.conv k x) := by
  intro hs hrd p v kl h' hx hp
  simp only [xstep] at hx
  have hv := hrd x
  split at hx
  · rename_i k' n h1
    rw [h1] at hv
    cases hx
    exact StepOk.pure hs (by simp only [step, vt_int hv] <;> rfl) trivial (Wp.refl _)
  · cases hx
theorem sim_fld (off sz : Nat) (ag : Bool) (x : Opd) : SimI Gl ρ h σ rd tt (.fld off sz ag x) := by
  intro hs hrd p v kl h' hx hp
  simp only [xstep] at hx
  split at hx
  · rename_i v' hf
    cases hx
    obtain ⟨cs, ha, hq⟩ := ok_fldX hf (hrd x)
    cases ag with
    | true =>
      simp only [if_true] at hq
      exact StepOk.pure hs (by simp only [step, ha, hq.1, if_true] <;> rfl) trivial hq.2
    | false =>
      simp only [Bool.false_eq_true, if_false] at hq
      obtain ⟨c, hc, hv⟩ := hq
      exact StepOk.pure hs (by simp only [step, ha, hc, Bool.false_eq_true, if_false, Option.map_some] <;> rfl) trivial hv
  · cases hx
theorem sim_ext (i : Nat) (x : Opd) : SimI Gl ρ h σ rd tt (.ext i x) := by
  intro hs hrd p v kl h' hx hp
  simp only [xstep] at hx
  have hv := hrd x
  split at hx
  · rename_i vs h1
    rw [h1] at hv
    obtain ⟨as, ha, hc⟩ := hv
    split at hx
    · rename_i w hw
      cases hx
      obtain ⟨a, h2, h3⟩ := hc.get_left hw
      exact StepOk.pure hs (by simp only [step, ha, h2, Option.map_some] <;> rfl) trivial (VT.ofA h3)
    · cases hx
  · cases hx
theorem sim_faddr (off : Nat) (x : Opd) : SimI Gl ρ h σ rd tt (.faddr off x) := by
  intro hs hrd p v kl h' hx hp
  simp only [xstep] at hx
  have hv := hrd x
  split at hx
  · rename_i id i o h1
    rw [h1] at hv
    obtain ⟨ob, he, ha⟩ := hv
    cases hx
    exact StepOk.pure hs (by simp only [step, ha] <;> rfl) trivial ⟨ob, he, rfl⟩
  · rename_i T y o h1
    rw [h1] at hv
    obtain ⟨cs, ha, hc⟩ := hv
    cases hx
    refine StepOk.pure hs (by simp only [step, ha] <;> rfl) trivial ⟨_, rfl, ?_⟩
    have := hc.drop off
    rw [List.drop_drop] at this
    exact this
  · cases hx
theorem sim_nck (x : Opd) : SimI Gl ρ h σ rd tt (.nck x) := by
  intro hs hrd p v kl h' hx hp
  simp only [xstep] at hx
  have hv := hrd x
  split at hx
  · rename_i id i o h1
    rw [h1] at hv
    obtain ⟨ob, he, ha⟩ := hv
    cases hx
    exact StepOk.pure hs (by simp only [step, ha] <;> rfl) trivial ⟨ob, he, rfl⟩
  · rename_i T y o h1
    rw [h1] at hv
    obtain ⟨cs, ha, hc⟩ := hv
    cases hx
    exact StepOk.pure hs (by simp only [step, ha] <;> rfl) trivial ⟨_, rfl, hc⟩
  · cases hx
theorem beq_eq {a b : Nat} (h : Nat.beq a b = true) : a = b := Nat.eq_of_beq_eq_true h
theorem ok_iaddr_list (hs : HS ρ h σ.h) {e : Ty} {xs : List e.den} {k : IntKind} {n : Int} {x i : Opd} {sz : Nat} (hv : VT ρ h (.d (.list e) xs) (σ.val Gl x)) (ei : σ.val Gl i = .v (.int k n)) (hz : e.size = sz) (hb : bnd n (lenI xs) = true) : StepOk Gl ρ h σ rd (.iaddr sz x i) (.lp e (atI xs n e.dflt) 0) [] h := by
  have hb := bnd_iff hb
  rcases vt_list hv with ⟨ha, rfl⟩ | ⟨as, ha, hl, hc⟩
  · simp [lenI] at hb; omega
  · have hlt : n.toNat < xs.length := by have := hb.2; simp only [lenI] at this; omega
    refine StepOk.pure hs (q := 0 ≤ n ∧ n < as.length) (a := .lptr (as.getD n.toNat .any).cells) (by simp only [step, ha, ei, hz, if_true]) ⟨hb.1, by rw [hl]; exact hb.2⟩ ⟨_, rfl, ?_⟩
    rw [List.drop_zero]
    have := hc.getD (n := n.toNat) (by rw [List.length_map]; exact hlt) .any .any
    rw [getD_map_enc _ hlt] at this
    exact this.cells
theorem sim_iaddr (sz : Nat) (x i : Opd) : SimI Gl ρ h σ rd tt (.iaddr sz x i) := by
  intro hs hrd p v kl h' hx hp
  simp only [xstep] at hx
  have hv := lst_vt (hrd x)
  have hi := hrd i
  split at hx
  · rename_i e xs k n h1 h2
    rw [h1] at hv; rw [h2] at hi
    have ei := vt_int hi
    split at hx
    · rename_i hz
      cases hx
      exact ok_iaddr_list hs hv ei (beq_eq hz) hp
    · cases hx
  · rename_i id k n h1 h2
    rw [h1] at hv; rw [h2] at hi
    have ei := vt_int hi
    obtain ⟨ty, T, fz, es, he, ha⟩ := hv
    rw [he] at hx
    simp only at hx
    split at hx
    · rename_i hz
      cases hx
      have := ok_iaddr_row (Gl := Gl) (rd := rd) hs he (beq_eq hz) ha ei (bnd_iff hp)
      rw [Nat.zero_add] at this; exact this
    · cases hx
  · rename_i id off len k n h1 h2
    rw [h1] at hv; rw [h2] at hi
    have ei := vt_int hi
    obtain ⟨ty, T, fz, es, he, ha⟩ := hv
    rw [he] at hx
    simp only at hx
    split at hx
    · rename_i hz
      cases hx
      exact ok_iaddr_row (Gl := Gl) (rd := rd) hs he (beq_eq hz) ha ei (bnd_iff hp)
    · cases hx
  · rename_i id k n h1 h2
    rw [h1] at hv; rw [h2] at hi
    have ei := vt_int hi
    obtain ⟨ty, cs, he, ha⟩ := hv
    rw [he] at hx
    simp only at hx
    split at hx
    · rename_i hz
      have hz := beq_eq hz
      subst hz
      cases hx
      have hb := bnd_iff hp
      refine StepOk.pure hs (q := (0 : Int) ≤ (show Int from n) ∧ (show Int from n) < (cs.length : Int)) (by simp only [step, ha, ei, if_true] <;> rfl) hb ⟨.vec ty cs, he, ?_⟩
      simp only [XO.len, Nat.zero_add]
    · cases hx
  · cases hx
theorem sim_load (sz : Nat) (ag : Bool) (x : Opd) : SimI Gl ρ h σ rd tt (.load sz ag x) := by
  intro hs hrd p v kl h' hx hp
  simp only [xstep] at hx
  have hv := hrd x
  split at hx
  · rename_i T y o h1
    rw [h1] at hv
    obtain ⟨cs, ha, hc⟩ := hv
    split at hx
    · rename_i w hw
      cases hx
      obtain ⟨T', x', rfl, hq⟩ := at_spec _ _ _ _ _ _ hw
      cases ag with
      | true =>
        simp only [if_true] at hq
        have hl : sz ≤ cs.length := by rw [hc.1, List.length_drop]; omega
        refine StepOk.pure hs (by simp only [step, ha, hl, if_true] <;> rfl) trivial ?_
        show Wp _ _
        rw [hq.2]
        have := hc.take sz
        exact .agg _ _ this.1 this.2
      | false =>
        simp only [Bool.false_eq_true, if_false] at hq
        have : ((Ty.enc T y).cells.drop o)[0]? = some (Ty.enc T' x') := by rw [List.getElem?_drop, Nat.add_zero]; exact hq
        obtain ⟨c, h2, h3⟩ := hc.get_right this
        have hh : cs.head? = some c := by rw [List.head?_eq_getElem?]; exact h2
        exact StepOk.pure hs (by simp only [step, ha, hh, Bool.false_eq_true, if_false, Option.map_some] <;> rfl) trivial h3
    · cases hx
  · rename_i id i o h1
    rw [h1] at hv
    obtain ⟨ob, he, ha⟩ := hv
    rw [he] at hx
    obtain ⟨O, hO, hR⟩ := hs.hr id ob he
    cases ob with
    | row ty T fz es =>
      simp only at hx
      split at hx
      · rename_i w hw
        cases hx
        obtain ⟨o1, o2, o3, o4, o5⟩ := hR
        have hlen : O.es.length = es.length := by have := o5.1; simpa using this
        have hlt : i < es.length := of_decide_eq_true hp
        have hcell : All2 Wp (O.es.getD i .any).cells (Ty.enc T (es.getD i T.dflt)).cells := by
          have := o5.getD (n := i) (by rw [List.length_map]; exact hlt) .any .any
          rw [getD_map_enc _ hlt] at this
          exact this.cells
        have hq := ok_load_cells (ρ := ρ) (h := h) hw hcell
        have hsz : (O.es.getD i .any).cells.length = T.size := by rw [hcell.1, enc_cells]
        cases ag with
        | true =>
          simp only [if_true] at hq
          exact StepOk.pure hs (q := o + sz ≤ O.sz ∧ i < es.length) (by simp only [step, ha, hO, XO.len, hlen, if_true] <;> rfl) ⟨by rw [o2]; omega, hlt⟩ hq.2
        | false =>
          simp only [Bool.false_eq_true, if_false] at hq
          obtain ⟨c, hc, hv⟩ := hq
          have hol : o < (O.es.getD i .any).cells.length := (List.getElem?_eq_some_iff.1 hc).1
          refine StepOk.pure hs (q := o < O.sz ∧ i < es.length) (by simp only [step, ha, hO, XO.len, hlen, if_true, Bool.false_eq_true, if_false] <;> rfl) ⟨by rw [o2]; omega, hlt⟩ ?_
          have : (O.es.getD i .any).cells.getD o .any = c := by simp only [List.getD] at hc ⊢; rw [hc]; rfl
          rw [this]; exact hv
      · cases hx
    | vec ty cs =>
      obtain ⟨o1, o2, o3, o4, hc⟩ := hR
      simp only at hx
      split at hx
      case isFalse => cases hx
      rename_i hb
      simp only [Bool.and_eq_true, Bool.not_eq_true'] at hb
      obtain ⟨rfl, hb⟩ := hb
      have h0 := beq_eq hb
      subst h0
      split at hx
      case h_2 => cases hx
      rename_i w hw
      cases hx
      obtain ⟨e, h2, h3, h4⟩ := hc.get_left hw
      have hil : i < cs.length := (List.getElem?_eq_some_iff.1 hw).1
      refine StepOk.pure hs (q := 0 < O.sz ∧ i < cs.length) (by simp only [step, ha, hO, XO.len, hc.1, if_true, Bool.false_eq_true, if_false] <;> rfl) ⟨by omega, hil⟩ ?_
      have : (O.es.getD i .any).cells.getD 0 .any = e := by simp only [List.getD, h2, Option.getD_some, h3]; rfl
      rw [this]; exact VT.of1 h4
    | box ty cs =>
      obtain ⟨o1, o2, o3, o4, e, o5, hc⟩ := hR
      have hlen : O.es.length = 1 := by rw [o5]; rfl
      simp only at hx
      cases ag with
      | true =>
        simp only [if_true] at hx
        split at hx
        · rename_i hb
          cases hx
          simp only [Bool.and_eq_true] at hb
          have hi := beq_eq hb.1
          have hl := Nat.le_of_ble_eq_true hb.2
          subst hi
          refine StepOk.pure hs (q := o + sz ≤ O.sz ∧ 0 < 1) (by simp only [step, ha, hO, XO.len, hlen, if_true] <;> rfl) ⟨by rw [o2]; exact hl, by omega⟩ ?_
          rw [o5]
          exact ⟨_, rfl, (hc.drop o).take sz⟩
        · cases hx
      | false =>
        simp only [Bool.false_eq_true, if_false] at hx
        split at hx
        · rename_i hb
          have hi := beq_eq hb
          subst hi
          split at hx
          · rename_i w hw
            cases hx
            obtain ⟨c, h2, h3⟩ := hc.get_left hw
            have hol : o < cs.length := (List.getElem?_eq_some_iff.1 hw).1
            refine StepOk.pure hs (q := o < O.sz ∧ 0 < 1) (by simp only [step, ha, hO, XO.len, hlen, if_true, Bool.false_eq_true, if_false] <;> rfl) ⟨by rw [o2]; exact hol, by omega⟩ ?_
            rw [o5]
            have : ([e].getD 0 AV.any).cells.getD o .any = c := by simp only [List.getD_cons_zero]; simp only [List.getD, h2]; rfl
            rw [this]; exact VT.of1 h3
          · cases hx
        · cases hx
  · cases hx
end
end Abs
end Go.Proofs.YtamgbanmnededaaDoor
