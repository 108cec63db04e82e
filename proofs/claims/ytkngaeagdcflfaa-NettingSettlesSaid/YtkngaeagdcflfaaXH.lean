/- The typed machine: code, functions. -/
import Derived.Test.YtkngaeagdcflfaaXG
import Derived.LoopN
namespace Go.Proofs.Ytkngaeagdcflfaa
namespace Abs
open Go.RowKit
set_option linter.unusedVariables false
set_option linter.unusedSimpArgs false

section
variable {S R : Type} {step : S → Option (S ⊕ R)}
theorem runO_mono : ∀ {n m : Nat} {s : S} {r : R}, runO step n s = some r → n ≤ m → runO step m s = some r := by
  intro n
  induction n with
  | zero => intro m s r h; cases h
  | succ n ih =>
    intro m s r h hm
    cases m with
    | zero => omega
    | succ m =>
      simp only [runO] at h ⊢
      split at h
      · exact ih h (by omega)
      · exact h
      · cases h
theorem loopO_some {s : S} {r : R} : loopO step s = some r ↔ ∃ n, runO step n s = some r := by
  constructor
  · intro h
    unfold loopO at h
    split at h
    · rename_i hn; exact ⟨_, h⟩
    · cases h
  · rintro ⟨n, h⟩
    have hn : ∃ n r, runO step n s = some r := ⟨n, r, h⟩
    obtain ⟨r', hr'⟩ := hn.choose_spec
    have e1 := runO_mono hr' (Nat.le_max_left _ n)
    have e2 := runO_mono h (Nat.le_max_right hn.choose n)
    rw [e1] at e2
    cases e2
    unfold loopO
    rw [dif_pos hn]
    exact hr'
theorem loopO_eq (step : S → Option (S ⊕ R)) (s : S) : loopO step s = match step s with
    | some (.inl s') => loopO step s'
    | some (.inr r) => some r
    | none => none := by
  apply Option.ext
  intro r
  rw [loopO_some]
  constructor
  · rintro ⟨n, h⟩
    cases n with
    | zero => cases h
    | succ n =>
      simp only [runO] at h
      split at h
      · rename_i s' hs; rw [hs]; exact loopO_some.2 ⟨n, h⟩
      · rename_i r' hs; rw [hs]; exact h
      · cases h
  · intro h
    split at h
    · rename_i s' hs
      obtain ⟨n, hn⟩ := loopO_some.1 h
      exact ⟨n + 1, by simp only [runO, hs]; exact hn⟩
    · rename_i r' hs
      cases h
      exact ⟨1, by simp only [runO, hs]⟩
    · cases h
end

section
variable {P : Program} {c : Cfg} {ρ : List Nat} {X : XS} {σ : St} {F : Addr → Option Value} {own : List Ent} {B : Nat} {w0 : W0} {act : Act} {w : World} {H0 : List AObj} {ρ0 : List Nat} {Gl : Nat → Option (List AV)}
theorem act_self {i : Nat} (hlt : i < act.tmps.size) : act.put (some i) act.tmps[i] = act := by
  have hs : act.tmps.setIfInBounds i act.tmps[i] = act.tmps := by
    apply Array.ext_getElem?
    intro j
    rw [Array.getElem?_setIfInBounds]
    split
    · rename_i hj
      subst hj
      rw [Array.getElem?_eq_getElem hlt]
    · rfl
  show ({ act with tmps := act.tmps.setIfInBounds i act.tmps[i] } : Act) = act
  rw [hs]
theorem pre1_ok (hI : Inv Gl F own B w0 σ act w) (hS : Sim ρ X σ) (hF : Frm H0 ρ0 ρ σ.h) (p : Pre) : ∃ F' own' σ' ρ', Inv Gl F' own' B w0 σ' act w ∧ Sim ρ' (preX1 X p) σ' ∧ Frm H0 ρ0 ρ' σ'.h := by
  cases p with
  | gh s ty T =>
    simp only [preX1]
    split
    · rename_i hk
      split
      · rename_i hz
        have hz := blt_t hz
        have hsl : s < X.t.length := by
          rcases Nat.lt_or_ge s X.t.length with q | q
          · exact q
          · simp [List.getD, List.getElem?_eq_none q] at hk
        have hsl' : s < σ.t.length := by rw [← hS.t.1]; exact hsl
        have hv := vt_get hS.t s
        rw [hk] at hv
        have ha := vt_k hv
        have hs? : σ.t[s]? = some (.v (.slice none 0 0)) := by
          rw [List.getElem?_eq_getElem hsl']
          simp only [List.getD, List.getElem?_eq_getElem hsl', Option.getD_some] at ha
          rw [ha]
        obtain ⟨own', hI'⟩ := hI.ghost1 (s, ty, T.size)
        have hgh : ghost σ (s, ty, T.size) = ⟨σ.t.set s (.row σ.h.length 0 T.size 0 0), σ.h ++ [⟨ty, T.size, 0, true, []⟩]⟩ := by
          simp only [ghost, hs?, hz, if_true]
        rw [hgh] at hI'
        obtain ⟨u1, u2⟩ := new_row (ty := ty) (ys := ([] : List T.den)) (as := []) hS.h rfl .nil
        refine ⟨F, own', _, ρ ++ [σ.h.length], hI', ?_, ?_⟩
        · exact put_ok (X := X) (kl := []) hS.t u1 (VT.of1 u2) (some s)
        · exact hF.upd hS.h.rl u1
      · exact ⟨F, own, σ, ρ, hI, hS, hF⟩
    · exact ⟨F, own, σ, ρ, hI, hS, hF⟩
  | fz s T =>
    simp only [preX1]
    split
    · rename_i x hx
      have hsl : s < X.t.length := by
        rcases Nat.lt_or_ge s X.t.length with q | q
        · exact q
        · rw [show X.t.getD s .any = .any by simp [List.getD, List.getElem?_eq_none q]] at hx
          cases T <;> simp [toD, lst] at hx
      have hsl' : s < σ.t.length := by rw [← hS.t.1]; exact hsl
      have hst : s < act.tmps.size := by rw [hI.tl]; exact hsl'
      have hv := vt_get hS.t s
      have hnt : ∀ us, X.t.getD s .any ≠ .tup us := fun us q => by
        rw [q] at hx
        cases T <;> simp [toD, lst] at hx
      obtain ⟨b, k1, k2, k3, k4⟩ := toD_keep hS.h hx (hv.notup hnt)
      obtain ⟨F1, hF1, hI1, hkp⟩ := hI.freezeL (rowsA (σ.t.getD s .any))
      have hsg : σ.t[s]? = some (σ.t.getD s .any) := by simp [List.getD, List.getElem?_eq_getElem hsl']
      have hR := hI.tr s _ _ (Array.getElem?_eq_getElem hst) hsg
      obtain ⟨r1, _, _⟩ := keepA_sound hI hF1 hR k1 hkp
      have hI2 := hI1.put (.pure r1) (some s)
      rw [act_self hst] at hI2
      have hu := Upd.frz _ hS.h k4
      rw [← k3] at hu
      refine ⟨F1, own, _, ρ, hI2, ?_, ?_⟩
      · exact put_ok (X := X) (kl := []) hS.t hu (vt_d k2) (some s)
      · exact hF.upd hS.h.rl hu
    · exact ⟨F, own, σ, ρ, hI, hS, hF⟩
theorem pre_ok (pre : List Pre) : ∀ {X : XS} {F : Addr → Option Value} {own : List Ent} {σ : St} {ρ : List Nat}, Inv Gl F own B w0 σ act w → Sim ρ X σ → Frm H0 ρ0 ρ σ.h → ∃ F' own' σ' ρ', Inv Gl F' own' B w0 σ' act w ∧ Sim ρ' (preX pre X) σ' ∧ Frm H0 ρ0 ρ' σ'.h := by
  induction pre with
  | nil => intro X F own σ ρ hI hS hF; exact ⟨F, own, σ, ρ, hI, hS, hF⟩
  | cons p pre ih =>
    intro X F own σ ρ hI hS hF
    obtain ⟨F', own', σ', ρ', a, b, d⟩ := pre1_ok hI hS hF p
    exact ih a b d
theorem startsR_ok : ∀ (n j : Nat) (l : List Nat), startsR n j l = true → ∃ r, l = List.range' j n ++ r := by
  intro n
  induction n with
  | zero => intro j l _; exact ⟨l, by simp⟩
  | succ n ih =>
    intro j l h
    cases l with
    | nil => simp [startsR] at h
    | cons a l =>
      simp only [startsR, Bool.and_eq_true] at h
      have := beq_eq h.1
      subst this
      obtain ⟨r, rfl⟩ := ih (a + 1) l h.2
      exact ⟨r, by simp [List.range'_succ]⟩
theorem foc_frm {H : List AObj} {foc : List Nat} {nf : Nat} {h : List XO} (hs : HS ρ h H) (hF : Frm H0 ρ0 ρ H) (hnf : nf = ρ0.length) (hst : startsR nf 0 foc = true) (hnd : foc.Nodup) (hlt : ∀ id ∈ foc, id < h.length) : Frm H0 ρ0 (foc.map fun id => ρ.getD id 0) H := by
  subst hnf
  obtain ⟨r, rfl⟩ := startsR_ok _ _ _ hst
  obtain ⟨l, hl, hq⟩ := hF.pre
  refine ⟨⟨r.map fun id => ρ.getD id 0, ?_, fun x hx => ?_⟩, hF.ge, hF.fr⟩
  · rw [List.map_append]
    congr 1
    apply List.ext_getElem
    · simp
    · intro i h1 h2
      simp only [List.length_map, List.length_range'] at h1
      simp only [List.getElem_map, List.getElem_range', Nat.zero_add, Nat.one_mul]
      rw [hl, getD_left h1]
      simp [List.getD, List.getElem?_eq_getElem h1]
  · obtain ⟨id, hid, rfl⟩ := List.mem_map.1 hx
    have hge : ρ0.length ≤ id := by
      rcases Nat.lt_or_ge id ρ0.length with q | q
      · exfalso
        rw [List.nodup_append] at hnd
        exact hnd.2.2 id (by simp [List.mem_range'_1, q]) id hid rfl
      · exact q
    have hidl : id < ρ.length := by rw [hs.rl]; exact hlt id (by simp [hid])
    rw [hl] at hidl ⊢
    simp only [List.length_append] at hidl
    have : (ρ0 ++ l).getD id 0 = l[id - ρ0.length]'(by omega) := by
      simp only [List.getD]
      rw [List.getElem?_append_right hge, List.getElem?_eq_getElem (by omega)]; rfl
    rw [this]
    exact hq _ (List.getElem_mem _)
theorem extL_ok {nf : Nat} {pre : List Pre} {sh : Sh} {s : Ty.denL sh.tys} (hI : Inv Gl F own B w0 σ act w) (hS : Sim ρ X σ) (hF : Frm H0 ρ0 ρ σ.h) (hnf : nf = ρ0.length) (hx : extL nf pre sh X = some s) : ∃ F' own' σ' ρ', Inv Gl F' own' B w0 σ' act w ∧ Sim ρ' (emb sh s) σ' ∧ Frm H0 ρ0 ρ' σ'.h := by
  obtain ⟨F', own', σ', ρ', hI', hS', hF'⟩ := pre_ok pre hI hS hF
  unfold extL at hx
  split at hx
  · rename_i foc x he
    split at hx
    · rename_i hb
      cases hx
      simp only [Bool.and_eq_true] at hb
      have hn : (preX pre X).t.length = sh.n := by
        have h1 := beq_eq hb.2
        rw [← h1, hS'.t.1, hS.t.1, ← hI'.tl, ← hI.tl]
      obtain ⟨e1, e2, e3, e4⟩ := ext_sim hS'.t hS'.h hn he
      exact ⟨F', own', σ', _, hI', e1, foc_frm hS'.h hF' hnf hb.1 e4 e2⟩
    · cases hx
  · cases hx

/-- What a state stands for. -/
def Std {β : Type} (H0 : List AObj) (ρ0 : List Nat) (K : Exit → XS → Option β) (r : β) (e : Exit) (τ : St) : Prop := ∃ ρ' X', Sim ρ' X' τ ∧ Frm H0 ρ0 ρ' τ.h ∧ K e X' = some r
theorem xwp_sound (hc : CfgOk P c) (hm : P.follows .mixedOrders = true) {hl0 : List Nat} {N nf : Nat} (hN : w0.N = N) (hnf : nf = ρ0.length) : ∀ (code : Code) (xc : XC), cC P hl0 code = some xc.er → ∀ (β : Type) (K : Exit → XS → Option β) (r : β) (X : XS) (ρ : List Nat) (σ : St) (F : Addr → Option Value) (own : List Ent) (act : Act) (w : World),
    xwp c nf xc β K X = some r → Sim ρ X σ → Frm H0 ρ0 ρ σ.h → Inv (gx c.GX) F own B w0 σ act w → code.wp P (fun e a w => Some' (gx c.GX) B w0 (Std H0 ρ0 K r e) a w) act w := by
  intro code
  induction code with
  | skip =>
    intro xc hcc β K r X ρ σ F own act w hx hS hF hI
    cases xc <;> simp only [cC, XC.er, Option.some.injEq, reduceCtorEq] at hcc
    exact wp_skip ⟨F, own, σ, hI, ρ, X, hS, hF, hx⟩
  | region id ops draw =>
    intro xc hcc β K r X ρ σ F own act w hx hS hF hI
    refine awp_sound hm hN _ _ hcc _ σ F own act w ?_ hI
    have hsp : SpR ρ X.h σ [] := fun q hq => by simp at hq
    cases xc with
    | ops d l => exact xops_ok hc l X [] ρ σ hS hsp hF hx
    | rops U l =>
      refine ⟨(U.filter fun j => Nat.blt j X.h.length).map fun j => ρ.getD j 0, xopsR_ok (m := X.h.length) (N := σ.h.length) (U := U) hc l X [] ρ σ hS hsp hF (fun i hi hi' => ⟨hS.h.lt hi, fun q => ?_, fun q => List.mem_map.2 ⟨i, List.mem_filter.2 ⟨q, Nat.ble_eq_true_of_le hi⟩, rfl⟩⟩) (fun i hi hi' => by rw [hS.h.rl] at hi'; omega) (Nat.le_refl _) (Nat.le_refl _) hx⟩
      obtain ⟨j, hj, he⟩ := List.mem_map.1 q
      obtain ⟨h1, h2⟩ := List.mem_filter.1 hj
      have := getD_inj hS.h.nd (by rw [hS.h.rl]; exact blt_t h2) hi' he
      subst this; exact h1
    | _ =>
      exfalso
      cases draw with
      | false =>
        simp only [cC, XC.er] at hcc
        rw [Option.map_eq_some_iff] at hcc
        obtain ⟨_, _, q⟩ := hcc
        cases q
      | true =>
        simp only [cC, XC.er] at hcc
        repeat' (split at hcc)
        all_goals cases hcc
  | seq a b iha ihb =>
    intro xc hcc β K r X ρ σ F own act w hx hS hF hI
    simp only [cC] at hcc
    split at hcc
    · rename_i x y hxa hyb
      cases xc <;> simp only [XC.er, Option.some.injEq, reduceCtorEq, C.seq.injEq] at hcc
      rename_i xa xb
      obtain ⟨rfl, rfl⟩ := hcc
      refine wp_seq (wp_mono (iha xa hxa β _ r X ρ σ F own act w hx hS hF hI) ?_)
      rintro e a1 w1 ⟨F1, own1, τ, hI1, ρ1, X1, hS1, hF1, hK⟩
      cases e with
      | normal => exact ihb xb hyb β K r X1 ρ1 τ F1 own1 a1 w1 hK hS1 hF1 hI1
      | _ => exact ⟨F1, own1, τ, hI1, ρ1, X1, hS1, hF1, hK⟩
    · cases hcc
  | cond c0 a b iha ihb =>
    intro xc hcc β K r X ρ σ F own act w hx hS hF hI
    simp only [cC] at hcc
    split at hcc
    · rename_i x y hxa hyb
      cases xc <;> simp only [XC.er, Option.some.injEq, reduceCtorEq, C.cond.injEq] at hcc
      rename_i o xa xb
      obtain ⟨rfl, rfl, rfl⟩ := hcc
      simp only [xwp] at hx
      have hv := rdG_ok (c := c) hS (cOpd c0)
      split at hx
      case h_2 => cases hx
      rename_i t ht
      rw [ht] at hv
      have hva := vt_bool hv
      have he := hI.ev c0
      rw [hva] at he
      refine wp_cond he.v_inv ?_
      have lit : ∀ v : Bool, St.val (gx c.GX) σ (cOpd c0) = .v (.bool v) → Sim ρ (litX (cOpd c0) v X) σ := by
        intro v hv
        unfold litX
        split
        · rename_i i hi
          rw [hi] at hv
          exact ⟨same_set hS.t hv, hS.h⟩
        · exact hS
      have key : ∀ v : Bool, St.val (gx c.GX) σ (cOpd c0) = .v (.bool v) → cond v (xwp c nf xa β K (litX (cOpd c0) true X)) (xwp c nf xb β K (litX (cOpd c0) false X)) = some r → Code.wp P (if v = true then a else b) (fun e a w => Some' (gx c.GX) B w0 (Std H0 ρ0 K r e) a w) act w := by
        intro v hv hx
        cases v with
        | true => simp only [if_true]; exact iha xa hxa β K r _ ρ σ F own act w hx (lit true hv) hF hI
        | false => simp only [Bool.false_eq_true, if_false]; exact ihb xb hyb β K r _ ρ σ F own act w hx (lit false hv) hF hI
      exact key t hva hx
    · cases hcc
  | block id b ih =>
    intro xc hcc β K r X ρ σ F own act w hx hS hF hI
    simp only [cC] at hcc
    cases hb : cC P hl0 b with
    | none => rw [hb] at hcc; cases hcc
    | some x =>
      rw [hb] at hcc
      cases xc <;> simp only [XC.er, Option.map_some, Option.some.injEq, reduceCtorEq, C.block.injEq] at hcc
      rename_i id' xb
      obtain ⟨rfl, rfl⟩ := hcc
      refine wp_block (wp_mono (ih xb hb β _ r X ρ σ F own act w hx hS hF hI) ?_)
      rintro e a1 w1 ⟨F1, own1, τ, hI1, ρ1, X1, hS1, hF1, hK⟩
      cases e with
      | exit i =>
        simp only at hK
        simp only [Exit.inBlock]
        by_cases hi : i = id
        · rw [if_pos (by rw [hi]; simp)] at hK
          rw [if_pos hi]
          exact ⟨F1, own1, τ, hI1, ρ1, X1, hS1, hF1, hK⟩
        · rw [if_neg (fun q => hi (beq_eq q))] at hK
          rw [if_neg hi]
          exact ⟨F1, own1, τ, hI1, ρ1, X1, hS1, hF1, hK⟩
      | _ => exact ⟨F1, own1, τ, hI1, ρ1, X1, hS1, hF1, hK⟩
  | loop b ih =>
    intro xc hcc β K r X ρ σ F own act w hx hS hF hI
    simp only [cC] at hcc
    cases hb : cC P hl0 b with
    | none => rw [hb] at hcc; cases hcc
    | some x =>
      rw [hb] at hcc
      cases xc <;> simp only [XC.er, Option.map_some, Option.some.injEq, reduceCtorEq, C.loop.injEq] at hcc
      rename_i pre sh xb
      subst hcc
      simp only [xwp] at hx
      split at hx
      case h_2 => cases hx
      rename_i s0 hs0
      obtain ⟨F0, own0, σ0, ρ0', hI0, hS0, hF0⟩ := extL_ok hI hS hF hnf hs0
      obtain ⟨n, hn⟩ := loopO_some.1 hx
      have key : ∀ (n : Nat) (s : Ty.denL sh.tys) (ρ : List Nat) (σ : St) (F : Addr → Option Value) (own : List Ent) (act : Act) (w : World), runO (fun s => xwp c nf xb (Ty.denL sh.tys ⊕ β) (fun e Y => match e with
          | .normal => match extL nf pre sh Y with
            | some s' => some (.inl s')
            | none => none
          | e => Option.map Sum.inr (K e Y)) (emb sh s)) n s = some r → Sim ρ (emb sh s) σ → Frm H0 ρ0 ρ σ.h → Inv (gx c.GX) F own B w0 σ act w → Code.rounds P b (fun e a w => Some' (gx c.GX) B w0 (Std H0 ρ0 K r e) a w) n act w := by
        intro n
        induction n with
        | zero => intro s ρ σ F own act w hr; cases hr
        | succ n ihn =>
          intro s ρ σ F own act w hr hS hF hI
          simp only [runO] at hr
          rw [rounds_succ]
          split at hr
          · rename_i s' hs'
            refine wp_mono (ih xb hb _ _ _ _ ρ σ F own act w hs' hS hF hI) ?_
            rintro e a1 w1 ⟨F1, own1, τ, hI1, ρ1, X1, hS1, hF1, hK⟩
            cases e with
            | normal =>
              simp only at hK
              split at hK
              · rename_i s2 hs2
                cases hK
                obtain ⟨F2, own2, σ2, ρ2, hI2, hS2, hF2⟩ := extL_ok hI1 hS1 hF1 hnf hs2
                exact ihn s' ρ2 σ2 F2 own2 a1 w1 hr hS2 hF2 hI2
              · cases hK
            | _ =>
              simp only [Option.map_eq_some_iff] at hK
              obtain ⟨_, _, q⟩ := hK
              cases q
          · rename_i r' hs'
            cases hr
            refine wp_mono (ih xb hb _ _ _ _ ρ σ F own act w hs' hS hF hI) ?_
            rintro e a1 w1 ⟨F1, own1, τ, hI1, ρ1, X1, hS1, hF1, hK⟩
            cases e with
            | normal =>
              simp only at hK
              split at hK <;> cases hK
            | _ =>
              simp only [Option.map_eq_some_iff] at hK
              obtain ⟨r2, hr2, q⟩ := hK
              cases q
              exact ⟨F1, own1, τ, hI1, ρ1, X1, hS1, hF1, hr2⟩
          · cases hr
      exact wp_loop_rounds n (key n s0 ρ0' σ0 F0 own0 act w hn hS0 hF0 hI0)
  | exit id =>
    intro xc hcc β K r X ρ σ F own act w hx hS hF hI
    cases xc <;> simp only [cC, XC.er, Option.some.injEq, reduceCtorEq, C.exit.injEq] at hcc
    subst hcc
    exact wp_exit ⟨F, own, σ, hI, ρ, X, hS, hF, hx⟩
  | ret =>
    intro xc hcc β K r X ρ σ F own act w hx hS hF hI
    cases xc <;> simp only [cC, XC.er, Option.some.injEq, reduceCtorEq] at hcc
    exact wp_ret ⟨F, own, σ, hI, ρ, X, hS, hF, hx⟩
  | _ => intro xc hcc; cases hcc
end
end Abs
end Go.Proofs.Ytkngaeagdcflfaa
