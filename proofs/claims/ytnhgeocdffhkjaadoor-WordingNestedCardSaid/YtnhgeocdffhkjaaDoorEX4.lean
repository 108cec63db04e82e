/- The abstract machine, run: code does what its run says. -/
import Derived.Test.YtnhgeocdffhkjaaDoorEX3
namespace Go.Proofs.YtnhgeocdffhkjaaDoor
namespace Abs
open Go.RowKit
set_option linter.unusedVariables false
set_option linter.unusedSimpArgs false

section
variable {P : Program} {Gl : Nat → Option (List AV)}
/-- The marked rest of a region. -/
theorem marks_cIns {hl : List Nat} {ops : Array Oper} {l : List Ins} (hc : cL P false ops ops.toList = some l) : (marks hl ops l).length = ops.size ∧ ∀ (j : Nat) (o : Oper), ops[j]? = some o → ∃ p, (marks hl ops l)[j]? = some p ∧ cIns P false ops o = some p.2 := by
  obtain ⟨l1, l2⟩ := cL_sound _ _ hc
  refine ⟨by rw [marks_len]; simpa using l1, fun j o ho => ?_⟩
  obtain ⟨ins, a1, a2⟩ := l2 j o (by simpa using ho)
  obtain ⟨m, hm⟩ := marks_at (hc := hl) (ops := ops) a1
  exact ⟨_, hm, a2⟩
/-- Scopes are seen through. -/
theorem cC_core {hl : List Nat} : ∀ (code : Code) (c : C), cC P hl code = some c → ∃ core, cC P hl core = some c ∧ (∀ b, core ≠ .scope b) ∧ ∀ (Q : Exit → Act → World → Prop) (a : Act) (w : World), (∀ l a w, ¬ Q (.goto l) a w) → core.wp P Q a w → code.wp P Q a w := by
  intro code
  induction code with
  | scope b ih =>
    intro c hc
    simp only [cC] at hc
    obtain ⟨core, h1, h2, h3⟩ := ih c hc
    refine ⟨core, h1, h2, fun Q a w hQ h => wp_scope_straight (wp_mono (h3 Q a w hQ h) ?_)⟩
    intro e a1 w1 h
    cases e with
    | goto l => exact absurd h (hQ l a1 w1)
    | _ => exact h
  | _ => intro c hc; exact ⟨_, hc, (fun b q => by cases q), fun Q a w _ h => h⟩
theorem postX_ng {B : Nat} {w0 : W0} {o : Out} : ∀ l a w, ¬ PostX Gl B w0 o (.goto l) a w := by
  intro l a w h
  cases o with
  | nrm e τ V => obtain ⟨h1, h2, _⟩ := h; exact h2 l h1.symm
  | pan v => obtain ⟨h1, _⟩ := h; cases h1
theorem cC_region {hl : List Nat} {id : Nat} {ops : Array Oper} {draw : Bool} {c : C} (h : cC P hl (.region id ops draw) = some c) : (∃ d l, c = .ops d l ∧ (d = false → draw = false ∧ cL P false ops ops.toList = some l)) ∨ ∃ l, c = .rops l ∧ draw = true ∧ ∃ l0, cL P false ops ops.toList = some l0 ∧ l = marks hl ops l0 ∧ (drawOkR ops l = true ∨ drawOkP ops l = true) := by
  cases draw with
  | false =>
    simp only [cC] at h
    cases hl' : cL P false ops ops.toList with
    | none => rw [hl'] at h; cases h
    | some l => rw [hl'] at h; cases h; exact .inl ⟨_, _, rfl, fun _ => ⟨rfl, rfl⟩⟩
  | true =>
    simp only [cC] at h
    split at h
    · rename_i l0 hl0
      split at h
      · cases h; exact .inl ⟨_, _, rfl, fun q => by cases q⟩
      · split at h
        · rename_i hd
          cases h
          rw [Bool.or_eq_true] at hd
          exact .inr ⟨_, rfl, rfl, l0, hl0, rfl, hd⟩
        · split at h
          · split at h
            · cases h; exact .inl ⟨_, _, rfl, fun q => by cases q⟩
            · cases h
          · cases h
    · cases h

/-- A loop, round by round. -/
def LpOk (P : Program) (Gl : Nat → Option (List AV)) (hl : List Nat) (n : Nat) (ex : Nat → C → St → List Nat → Option Out) : Prop := ∀ N b σ U o, ex N (.loop b) σ U = some o → OutT N U σ.h o ∧
  ∀ x, cC P hl x = some b → ∀ F own B w0 act w, Inv Gl F own B w0 σ act w → Code.rounds P x (PostX Gl B w0 o) n act w
theorem rwOk_spec {M : Nat} {q : RW} (h : rwOk M q = true) : ∀ id ∈ q.rd, id < M ∧ id ∉ q.uw := fun id hid => by
  have := List.all_eq_true.1 h id hid
  simp only [Bool.and_eq_true, Bool.not_eq_true'] at this
  refine ⟨blt_lt this.1, fun hm => ?_⟩
  have h2 : q.uw.any (Nat.beq id) = true := List.any_eq_true.2 ⟨id, hm, Nat.beq_refl id⟩
  rw [this.2] at h2; cases h2

theorem exC_ok2 (hm : P.follows .mixedOrders = true) {hl : List Nat} {hd : Hand} (hh : HandOk P Gl hd) : ∀ n, ExOk P Gl hl (exC Gl (fnE P hl) hd n) ∧ LpOk P Gl hl n (exC Gl (fnE P hl) hd n) := by
  intro n
  induction n with
  | zero => exact ⟨fun N c σ U o h => (by cases h), fun N b σ U o h => (by cases h)⟩
  | succ n ih =>
    obtain ⟨ih, ihl⟩ := ih
    have loops : LpOk P Gl hl (n + 1) (exC Gl (fnE P hl) hd (n + 1)) := by
      intro N b σ U o h
      simp only [exC] at h
      split at h
      · rename_i τ V ha
        obtain ⟨o1, o2⟩ := ih _ _ _ _ _ ha
        obtain ⟨p1, p2⟩ := ihl _ _ _ _ _ h
        refine ⟨?_, fun x hx F own B w0 act w hI => ?_⟩
        · cases o with
          | nrm e ρ W => exact ⟨o1.1.trans p1.1 p1.2, fun id hid => p1.2 id (o1.2 id hid)⟩
          | pan v => trivial
        · rw [rounds_succ]
          refine wp_mono (o2 x hx F own B w0 act w hI) ?_
          rintro e a1 w1 ⟨rfl, _, F1, own1, τ', hI1, rfl⟩
          exact p2 x hx F1 own1 B w0 a1 w1 hI1
      · rename_i hne
        obtain ⟨o1, o2⟩ := ih _ _ _ _ _ h
        refine ⟨o1, fun x hx F own B w0 act w hI => ?_⟩
        rw [rounds_succ]
        refine wp_mono (o2 x hx F own B w0 act w hI) ?_
        intro e a1 w1 hp
        cases e with
        | normal =>
          exfalso
          cases o with
          | nrm e τ V => obtain ⟨rfl, _⟩ := hp; exact hne τ V h
          | pan v => obtain ⟨q, _⟩ := hp; cases q
        | _ => exact hp
    refine ⟨?_, loops⟩
    have hcf := cfA_ok hh ih
    have hpf := pfA_ok hh ih
    intro N c σ U o h
    have wrap : (OutT N U σ.h o ∧ ∀ core, (∀ b, core ≠ .scope b) → cC P hl core = some c → ∀ F own B w0 act w, Inv Gl F own B w0 σ act w → core.wp P (PostX Gl B w0 o) act w) → OutT N U σ.h o ∧ ∀ code, cC P hl code = some c → ∀ F own B w0 act w, Inv Gl F own B w0 σ act w → code.wp P (PostX Gl B w0 o) act w := by
      rintro ⟨h1, h2⟩
      refine ⟨h1, fun code hc F own B w0 act w hI => ?_⟩
      obtain ⟨core, k1, k2, k3⟩ := cC_core code c hc
      exact k3 _ _ _ postX_ng (h2 core k2 k1 F own B w0 act w hI)
    apply wrap
    clear wrap
    cases c with
    | skip =>
      simp only [exC] at h
      cases h
      refine ⟨⟨.refl _ _ _, fun _ h => h⟩, fun core hs hc F own B w0 act w hI => ?_⟩
      have hp : PostX Gl B w0 (.nrm .normal σ U) .normal act w := ⟨rfl, ng_normal, F, own, σ, hI, rfl⟩
      cases core with
      | skip => exact wp_skip hp
      | label l => exact wp_label hp
      | scope b => exact absurd rfl (hs b)
      | region id ops draw => rcases cC_region hc with ⟨_, _, q, _⟩ | ⟨_, q, _⟩ <;> cases q
      | seq a b => simp only [cC] at hc; split at hc <;> cases hc
      | cond o a b => simp only [cC] at hc; split at hc <;> cases hc
      | block id b => simp only [cC] at hc; cases hb : cC P hl b <;> rw [hb] at hc <;> cases hc
      | loop b => simp only [cC] at hc; cases hb : cC P hl b <;> rw [hb] at hc <;> cases hc
      | _ => cases hc
    | ret =>
      simp only [exC] at h
      cases h
      refine ⟨⟨.refl _ _ _, fun _ h => h⟩, fun core hs hc F own B w0 act w hI => ?_⟩
      have hp : PostX Gl B w0 (.nrm .ret σ U) .ret act w := ⟨rfl, ng_ret, F, own, σ, hI, rfl⟩
      cases core with
      | ret => exact wp_ret hp
      | scope b => exact absurd rfl (hs b)
      | region id ops draw => rcases cC_region hc with ⟨_, _, q, _⟩ | ⟨_, q, _⟩ <;> cases q
      | seq a b => simp only [cC] at hc; split at hc <;> cases hc
      | cond o a b => simp only [cC] at hc; split at hc <;> cases hc
      | block id b => simp only [cC] at hc; cases hb : cC P hl b <;> rw [hb] at hc <;> cases hc
      | loop b => simp only [cC] at hc; cases hb : cC P hl b <;> rw [hb] at hc <;> cases hc
      | _ => cases hc
    | exit id =>
      simp only [exC] at h
      cases h
      refine ⟨⟨.refl _ _ _, fun _ h => h⟩, fun core hs hc F own B w0 act w hI => ?_⟩
      have hp : PostX Gl B w0 (.nrm (.exit id) σ U) (.exit id) act w := ⟨rfl, ng_exit _, F, own, σ, hI, rfl⟩
      cases core with
      | exit i => cases hc; exact wp_exit hp
      | scope b => exact absurd rfl (hs b)
      | region id ops draw => rcases cC_region hc with ⟨_, _, q, _⟩ | ⟨_, q, _⟩ <;> cases q
      | seq a b => simp only [cC] at hc; split at hc <;> cases hc
      | cond o a b => simp only [cC] at hc; split at hc <;> cases hc
      | block id b => simp only [cC] at hc; cases hb : cC P hl b <;> rw [hb] at hc <;> cases hc
      | loop b => simp only [cC] at hc; cases hb : cC P hl b <;> rw [hb] at hc <;> cases hc
      | _ => cases hc
    | seq a b =>
      simp only [exC] at h
      split at h
      · rename_i τ V ha
        obtain ⟨o1, o2⟩ := ih _ _ _ _ _ ha
        obtain ⟨p1, p2⟩ := ih _ _ _ _ _ h
        refine ⟨?_, fun core hs hc F own B w0 act w hI => ?_⟩
        · cases o with
          | nrm e ρ W => exact ⟨o1.1.trans p1.1 p1.2, fun id hid => p1.2 id (o1.2 id hid)⟩
          | pan v => trivial
        · cases core with
          | seq x y =>
            simp only [cC] at hc
            split at hc
            · rename_i x' y' hx hy
              cases hc
              refine wp_seq (wp_mono (o2 x hx F own B w0 act w hI) ?_)
              rintro e a1 w1 ⟨rfl, _, F1, own1, τ', hI1, rfl⟩
              exact p2 y hy F1 own1 B w0 a1 w1 hI1
            · cases hc
          | scope b => exact absurd rfl (hs b)
          | region id ops draw => rcases cC_region hc with ⟨_, _, q, _⟩ | ⟨_, q, _⟩ <;> cases q
          | cond o a b => simp only [cC] at hc; split at hc <;> cases hc
          | block id b => simp only [cC] at hc; cases hb : cC P hl b <;> rw [hb] at hc <;> cases hc
          | loop b => simp only [cC] at hc; cases hb : cC P hl b <;> rw [hb] at hc <;> cases hc
          | _ => cases hc
      · rename_i hne
        obtain ⟨o1, o2⟩ := ih _ _ _ _ _ h
        refine ⟨o1, fun core hs hc F own B w0 act w hI => ?_⟩
        cases core with
        | seq x y =>
          simp only [cC] at hc
          split at hc
          · rename_i x' y' hx hy
            cases hc
            refine wp_seq (wp_mono (o2 x hx F own B w0 act w hI) ?_)
            intro e a1 w1 hp
            cases e with
            | normal =>
              exfalso
              cases o with
              | nrm e τ V => obtain ⟨rfl, _⟩ := hp; exact hne τ V h
              | pan v => obtain ⟨q, _⟩ := hp; cases q
            | _ => exact hp
          · cases hc
        | scope b => exact absurd rfl (hs b)
        | region id ops draw => rcases cC_region hc with ⟨_, _, q, _⟩ | ⟨_, q, _⟩ <;> cases q
        | cond o a b => simp only [cC] at hc; split at hc <;> cases hc
        | block id b => simp only [cC] at hc; cases hb : cC P hl b <;> rw [hb] at hc <;> cases hc
        | loop b => simp only [cC] at hc; cases hb : cC P hl b <;> rw [hb] at hc <;> cases hc
        | _ => cases hc
    | cond x a b =>
      have key : ∀ (t : Bool), σ.val Gl x = .v (.bool t) → exC Gl (fnE P hl) hd n N (if t = true then a else b) σ U = some o → OutT N U σ.h o ∧ ∀ core, (∀ b, core ≠ .scope b) → cC P hl core = some (.cond x a b) → ∀ F own B w0 act w, Inv Gl F own B w0 σ act w → core.wp P (PostX Gl B w0 o) act w := by
        intro t hv hx
        obtain ⟨o1, o2⟩ := ih _ _ _ _ _ hx
        refine ⟨o1, fun core hs hc F own B w0 act w hI => ?_⟩
        cases core with
        | cond c0 u v =>
          simp only [cC] at hc
          split at hc
          · rename_i u' v' hu hv'
            cases hc
            have he := hI.ev c0
            rw [hv] at he
            refine wp_cond he.v_inv ?_
            cases t with
            | true => simp only [if_true] at o2 ⊢; exact o2 u hu F own B w0 act w hI
            | false => simp only [Bool.false_eq_true, if_false] at o2 ⊢; exact o2 v hv' F own B w0 act w hI
          · cases hc
        | scope b => exact absurd rfl (hs b)
        | region id ops draw => rcases cC_region hc with ⟨_, _, q, _⟩ | ⟨_, q, _⟩ <;> cases q
        | seq a b => simp only [cC] at hc; split at hc <;> cases hc
        | block id b => simp only [cC] at hc; cases hb : cC P hl b <;> rw [hb] at hc <;> cases hc
        | loop b => simp only [cC] at hc; cases hb : cC P hl b <;> rw [hb] at hc <;> cases hc
        | _ => cases hc
      simp only [exC] at h
      split at h
      · rename_i hv; exact key true hv h
      · rename_i hv; exact key false hv h
      · cases h
    | block id b =>
      have key : ∀ (o' : Out), exC Gl (fnE P hl) hd n N b σ U = some o' → (match o' with | .nrm (.exit i) τ V => (if Nat.beq i id = true then some (Out.nrm .normal τ V) else some (.nrm (.exit i) τ V)) | o => some o) = some o → OutT N U σ.h o ∧ ∀ core, (∀ b, core ≠ .scope b) → cC P hl core = some (.block id b) → ∀ F own B w0 act w, Inv Gl F own B w0 σ act w → core.wp P (PostX Gl B w0 o) act w := by
        intro o' hx ho
        obtain ⟨o1, o2⟩ := ih _ _ _ _ _ hx
        have hpost : OutT N U σ.h o ∧ ∀ B w0 e a w, PostX Gl B w0 o' e a w → Exit.inBlock id (PostX Gl B w0 o) e a w := by
          split at ho
          · rename_i i τ V
            split at ho
            · rename_i hi
              cases ho
              refine ⟨o1, fun B w0 e a w hp => ?_⟩
              obtain ⟨rfl, _, hs⟩ := hp
              simp only [Exit.inBlock, Nat.eq_of_beq_eq_true hi, if_true]
              exact ⟨rfl, ng_normal, hs⟩
            · rename_i hi
              cases ho
              refine ⟨o1, fun B w0 e a w hp => ?_⟩
              obtain ⟨rfl, hng, hs⟩ := hp
              have hne : ¬ i = id := fun q => hi (by rw [q]; exact Nat.beq_refl id)
              simp only [Exit.inBlock, if_neg hne]
              exact ⟨rfl, hng, hs⟩
          · rename_i o'' hne
            cases ho
            refine ⟨o1, fun B w0 e a w hp => ?_⟩
            cases e with
            | exit i =>
              exfalso
              cases o with
              | nrm e τ V => obtain ⟨q, _⟩ := hp; subst q; exact hne i τ V rfl
              | pan v => obtain ⟨q, _⟩ := hp; cases q
            | _ => exact hp
        refine ⟨hpost.1, fun core hs hc F own B w0 act w hI => ?_⟩
        cases core with
        | block j y =>
          simp only [cC] at hc
          cases hb : cC P hl y with
          | none => rw [hb] at hc; cases hc
          | some y' =>
            rw [hb] at hc; cases hc
            exact wp_block (wp_mono (o2 y hb F own B w0 act w hI) fun e a w hp => hpost.2 B w0 e a w hp)
        | scope b => exact absurd rfl (hs b)
        | region id ops draw => rcases cC_region hc with ⟨_, _, q, _⟩ | ⟨_, q, _⟩ <;> cases q
        | seq a b => simp only [cC] at hc; split at hc <;> cases hc
        | cond o a b => simp only [cC] at hc; split at hc <;> cases hc
        | loop b => simp only [cC] at hc; cases hb : cC P hl b <;> rw [hb] at hc <;> cases hc
        | _ => cases hc
      simp only [exC] at h
      cases hx : exC Gl (fnE P hl) hd n N b σ U with
      | none => rw [hx] at h; cases h
      | some o' =>
        rw [hx] at h
        refine key o' hx ?_
        cases o' with
        | nrm e τ V => cases e <;> exact h
        | pan v => exact h
    | loop b =>
      obtain ⟨o1, o2⟩ := loops _ _ _ _ _ h
      refine ⟨o1, fun core hs hc F own B w0 act w hI => ?_⟩
      cases core with
      | loop y =>
        simp only [cC] at hc
        cases hb : cC P hl y with
        | none => rw [hb] at hc; cases hc
        | some y' =>
          rw [hb] at hc; cases hc
          exact wp_loop_rounds _ (o2 y hb F own B w0 act w hI)
      | scope b => exact absurd rfl (hs b)
      | region id ops draw => rcases cC_region hc with ⟨_, _, q, _⟩ | ⟨_, q, _⟩ <;> cases q
      | seq a b => simp only [cC] at hc; split at hc <;> cases hc
      | cond o a b => simp only [cC] at hc; split at hc <;> cases hc
      | block id b => simp only [cC] at hc; cases hb : cC P hl b <;> rw [hb] at hc <;> cases hc
      | _ => cases hc
    | ops d l =>
      simp only [exC] at h
      cases o with
      | nrm e τ V =>
        obtain ⟨rfl, k2, k3, k4⟩ := exOps_val hcf hpf _ _ _ _ _ _ h
        refine ⟨⟨k3, k4⟩, fun core hs hc F own B w0 act w hI => ?_⟩
        refine wp_mono (awp_soundN (N := w0.N) hm rfl core _ hc (fun e ρ => e = .normal ∧ ρ = τ) σ F own act w (by rw [awp_ops]; exact k2 _ ⟨rfl, rfl⟩) hI) ?_
        rintro e a1 w1 ⟨hng, F1, own1, ρ, hI1, rfl, rfl⟩
        exact ⟨rfl, hng, F1, own1, ρ, hI1, rfl⟩
      | pan v =>
        refine ⟨trivial, fun core hs hc F own B w0 act w hI => ?_⟩
        cases core with
        | region id ops draw =>
          rcases cC_region hc with ⟨d', l', q, r⟩ | ⟨_, q, _⟩
          · cases q
            have hQ : ∀ a w, a.defers = w0.df → Died B w0 v w → PostX Gl B w0 (.pan v) (.panic [{ v, recovered := false }]) a w := fun a w h1 h2 => ⟨rfl, h1, h2⟩
            have hdf : d = false := by
              cases hd' : d with
              | false => rfl
              | true =>
                exfalso
                subst hd'
                clear hc r hI loops ihl ih
                revert h
                generalize σ = τ
                generalize U = W
                induction l generalizing τ W with
                | nil => intro h; cases h
                | cons j l ihl =>
                  intro h
                  simp only [exOps] at h
                  split at h
                  · exact ihl _ _ h
                  · simp at h
                  · cases h
            obtain ⟨rfl, hcl⟩ := r hdf
            subst hdf
            obtain ⟨l1, l2⟩ := cL_sound _ _ hcl
            have hlen : l.length = ops.size := by simpa using l1
            refine wp_region ?_
            have := (exOps_pan (P := P) (lm := false) (ops := ops) hcf hpf hQ l 0 (fun j hj => by
              have hj' : j < ops.size := by rw [Nat.zero_add] at hj; exact hj
              have ho : ops[j]? = some ops[j] := Array.getElem?_eq_getElem hj'
              obtain ⟨ins, a1, a2⟩ := l2 j ops[j] (by rw [Array.getElem?_toList]; exact ho)
              exact ⟨ins, ops[j], a1, by rw [Nat.zero_add]; exact ho, a2⟩) (by omega) σ U F own act w h hI).2
            rw [hlen] at this
            rw [List.range_eq_range']; exact this
          · cases q
        | scope b => exact absurd rfl (hs b)
        | seq a b => simp only [cC] at hc; split at hc <;> cases hc
        | cond o a b => simp only [cC] at hc; split at hc <;> cases hc
        | block id b => simp only [cC] at hc; cases hb : cC P hl b <;> rw [hb] at hc <;> cases hc
        | loop b => simp only [cC] at hc; cases hb : cC P hl b <;> rw [hb] at hc <;> cases hc
        | _ => cases hc
    | rops l =>
      simp only [exC] at h
      split at h
      · rename_i o' q hx
        split at h
        · rename_i hrw
          cases h
          have hrd := rwOk_spec hrw
          cases o with
          | nrm e τ V =>
            obtain ⟨rfl, k2, k3, k4, k5, k6⟩ := exR_val hcf hpf _ _ _ _ _ _ _ _ _ (Nat.le_refl _) hx
            refine ⟨⟨k4, k5⟩, fun core hs hc F own B w0 act w hI => ?_⟩
            refine wp_mono (awp_soundN (N := w0.N) hm rfl core _ hc (fun e ρ => e = .normal ∧ ρ = τ) σ F own act w ⟨q.uw, k6 q.uw (fun _ h => h) hrd _ ⟨rfl, rfl⟩⟩ hI) ?_
            rintro e a1 w1 ⟨hng, F1, own1, ρ, hI1, rfl, rfl⟩
            exact ⟨rfl, hng, F1, own1, ρ, hI1, rfl⟩
          | pan v =>
            obtain ⟨_, _, pre, p, post, hL, c1, c2, c3, c4, c5⟩ := exR_pan hcf hpf _ _ _ _ _ _ _ hx
            refine ⟨trivial, fun core hs hc F own B w0 act w hI => ?_⟩
            cases core with
            | region id ops draw =>
              rcases cC_region hc with ⟨_, _, q, _⟩ | ⟨l', q, rfl, l0, hl0, rfl, hdr⟩
              · cases q
              · cases q
                obtain ⟨m1, m2⟩ := marks_cIns (hl := hl) hl0
                have hQ : ∀ a w, a.defers = w0.df → Died B w0 v w → PostX Gl B w0 (.pan v) (.panic [{ v, recovered := false }]) a w := fun a w h1 h2 => ⟨rfl, h1, h2⟩
                refine wp_region_any hm ?_
                exact drawnPan (lm := false) m1 m2 hdr hL c1 c2 c4 hQ (c5 _ hrd) (hI.same (w' := w.drew) rfl rfl rfl rfl)
            | scope b => exact absurd rfl (hs b)
            | seq a b => simp only [cC] at hc; split at hc <;> cases hc
            | cond o a b => simp only [cC] at hc; split at hc <;> cases hc
            | block id b => simp only [cC] at hc; cases hb : cC P hl b <;> rw [hb] at hc <;> cases hc
            | loop b => simp only [cC] at hc; cases hb : cC P hl b <;> rw [hb] at hc <;> cases hc
            | _ => cases hc
        · cases h
      · cases h
theorem exC_ok (hm : P.follows .mixedOrders = true) {hl : List Nat} {hd : Hand} (hh : HandOk P Gl hd) (n : Nat) : ExOk P Gl hl (exC Gl (fnE P hl) hd n) := (exC_ok2 hm hh n).1
/-- A function of known arguments, run. -/
theorem run_pure (hm : P.follows .mixedOrders = true) {hl : List Nat} {hd : Hand} (hh : HandOk P Gl hd) (n : Nat) {f : Nat} {as : List AV} {res : AV} (h : pfB Gl (fnE P hl) (exC Gl (fnE P hl) hd n) f as = some res) : Pure P Gl f as res := (pfB_ok (exC_ok hm hh n) f as res h).2
end
end Abs
end Go.Proofs.YtnhgeocdffhkjaaDoor
