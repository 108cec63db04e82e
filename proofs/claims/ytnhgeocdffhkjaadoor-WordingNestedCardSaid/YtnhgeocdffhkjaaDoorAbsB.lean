/- The abstract machine: code, and what a function makes of its arguments. -/
import Derived.Test.YtnhgeocdffhkjaaDoorAbsQ
import Derived.LoopN
import Derived.Scope
namespace Go.Proofs.YtnhgeocdffhkjaaDoor
namespace Abs
open Go.RowKit
set_option linter.unusedVariables false
set_option linter.unusedSimpArgs false

/-- What is known of blocks from the n-th on is forgotten. -/
def low0 (n : Nat) : AV → AV
  | .row id G sz off len => if id < n then .row id G sz off len else .any
  | .ptr id G i off => if id < n then .ptr id G i off else .any
  | .crow _ _ _ _ => .any
  | .mp id => if id < n then .mp id else .any
  | .clo _ _ => .any
  | .agg _ => .any
  | .tup _ => .any
  | a => a
def low1 (n : Nat) : AV → AV
  | .clo f cs => .clo f (cs.map (low0 n))
  | a => low0 n a
def lowA (n : Nat) : AV → AV
  | .agg cs => .agg (cs.map (low1 n))
  | a => low1 n a
def lowT (n : Nat) : AV → AV
  | .tup vs => .tup (vs.map (lowA n))
  | a => lowA n a
def lowO (n : Nat) (o : AObj) : AObj := if o.pr then o else { o with es := o.es.map (lowA n) }
def clr (dead : List Nat) (t : List AV) : List AV := dead.foldl (fun t i => t.set i .any) t
def norm (dead : List Nat) (n : Nat) (σ : St) : St := ⟨(clr dead σ.t).map (lowT n), (σ.h.take n).map (lowO n)⟩
/-- A nil slice as an empty row of the call's own. -/
def ghost (σ : St) (g : Nat × Nat × Nat) : St :=
  match σ.t[g.1]? with
  | some (.v (.slice none 0 0)) => if 0 < g.2.2 then ⟨σ.t.set g.1 (.row σ.h.length 0 g.2.2 0 0), σ.h ++ [⟨g.2.1, g.2.2, 0, true, []⟩]⟩ else σ
  | _ => σ

def awp (P : Program) (Gl : Nat → Option (List AV)) (N : Nat) : C → (Exit → St → Prop) → St → Prop
  | .skip, Q, σ => Q .normal σ
  | .ops d l, Q, σ => aOps P Gl d (Q .normal) l σ
  | .rops l, Q, σ => ∃ U, aOpsR P Gl σ.h.length U (Q .normal) l σ
  | .seq a b, Q, σ => awp P Gl N a (fun e τ => match e with | .normal => awp P Gl N b Q τ | e => Q e τ) σ
  | .cond c a b, Q, σ => match σ.val Gl c with
    | .v (.bool t) => if t = true then awp P Gl N a Q σ else awp P Gl N b Q σ
    | _ => False
  | .block id b, Q, σ => awp P Gl N b (fun e τ => match e with | .exit i => if i = id then Q .normal τ else Q (.exit i) τ | e => Q e τ) σ
  | .loop b, Q, σ => ∃ (dead : List Nat) (gh : List (Nat × Nat × Nat)) (n : Nat) (J : St → Prop) (μ : St → Nat), N ≤ n ∧ J (norm dead n (gh.foldl ghost σ)) ∧
      ∀ τ, J τ → awp P Gl N b (fun e ρ => match e with | .normal => J (norm dead n ρ) ∧ μ (norm dead n ρ) < μ τ | e => Q e ρ) τ
  | .exit id, Q, σ => Q (.exit id) σ
  | .ret, Q, σ => Q .ret σ

def cL (P : Program) (lm : Bool) (ops : Array Oper) : List Oper → Option (List Ins)
  | [] => some []
  | o :: r => match cIns P lm ops o, cL P lm ops r with
    | some i, some l => some (i :: l)
    | _, _ => none

/-- Code as the abstract machine's. -/
def cC (P : Program) (hc : List Nat) : Code → Option C
  | .skip => some .skip
  | .region _ ops false => (cL P false ops ops.toList).map (.ops false)
  | .region _ ops true => match cL P false ops ops.toList with
    | some l => if drawOk ops l && !(l.any fun i => isHc hc i.i) then some (.ops true l) else if drawOkR ops (marks hc ops l) || drawOkP ops (marks hc ops l) then some (.rops (marks hc ops l)) else match cL P true ops ops.toList with
      | some l' => if drawOk ops l' then some (.ops true l') else none
      | none => none
    | none => none
  | .seq a b => match cC P hc a, cC P hc b with
    | some x, some y => some (.seq x y)
    | _, _ => none
  | .cond c a b => match cC P hc a, cC P hc b with
    | some x, some y => some (.cond (cOpd c) x y)
    | _, _ => none
  | .block id b => (cC P hc b).map (.block id)
  | .loop b => (cC P hc b).map .loop
  | .exit id => some (.exit id)
  | .ret => some .ret
  | .scope b => cC P hc b
  | .label _ => some .skip
  | _ => none

section
variable {P : Program} {Gl : Nat → Option (List AV)} {F : Addr → Option Value} {own : List Ent} {B : Nat} {w0 : W0} {σ : St} {act : Act} {w : World}

theorem R.low0 {n : Nat} {x : Value} {a : AV} (h : R F own x a) : R F (own.take n) x (low0 n a) := by
  cases a with
  | any => exact .pure (.any _)
  | v y => have := h.v_inv; subst this; exact .pure (.v _)
  | list sz xs => exact .pure h.list_inv
  | lptr cs => exact .pure h.lptr_inv
  | row id G sz off len =>
    obtain ⟨e, he, hG, hs, hx⟩ := h.row_inv
    simp only [Abs.low0]
    split
    · rename_i hid; exact .row _ _ _ _ _ _ e (by rw [List.getElem?_take, if_pos hid]; exact he) hG hs hx (h.row_sz he)
    · exact .pure (.any _)
  | ptr id G i off =>
    obtain ⟨e, he, hG, hs, hx⟩ := h.ptr_inv
    simp only [Abs.low0]
    split
    · rename_i hid; exact .ptr _ _ _ _ _ e (by rw [List.getElem?_take, if_pos hid]; exact he) hG hs hx (h.ptr_sz he)
    · exact .pure (.any _)
  | mp id =>
    obtain ⟨e, he, h0, hx⟩ := h.mp_inv
    simp only [Abs.low0]
    split
    · rename_i hid; exact .mp _ _ e (by rw [List.getElem?_take, if_pos hid]; exact he) h0 hx
    · exact .pure (.any _)
  | crow => exact .pure (.any _)
  | clo => exact .pure (.any _)
  | agg cs => exact .pure (.any _)
  | tup cs => exact .pure (.any _)
theorem R.low1 {n : Nat} {x : Value} {a : AV} (h : R F own x a) : R F (own.take n) x (low1 n a) := by
  by_cases ha : ∃ f cs, a = .clo f cs
  · obtain ⟨f, cs, rfl⟩ := ha
    obtain ⟨xs, rfl, hl, hR⟩ := h.clo_inv
    refine .clo f xs _ (by simp [hl]) fun j x a p q => ?_
    rw [List.getElem?_map] at q
    cases hc : cs[j]? with
    | none => rw [hc] at q; cases q
    | some c => rw [hc] at q; cases q; exact (hR j x c p hc).low0
  · have : Abs.low1 n a = Abs.low0 n a := by cases a <;> first | rfl | exact absurd ⟨_, _, rfl⟩ ha
    rw [this]; exact h.low0
theorem R.lowA {n : Nat} {x : Value} {a : AV} (h : R F own x a) : R F (own.take n) x (lowA n a) := by
  by_cases ha : ∃ cs, a = .agg cs
  · obtain ⟨cs, rfl⟩ := ha
    obtain ⟨xs, rfl, hl, h1, hR⟩ := h.agg_inv
    refine .agg xs _ (by simp [hl]) h1 fun j x a p q => ?_
    rw [List.getElem?_map] at q
    cases hc : cs[j]? with
    | none => rw [hc] at q; cases q
    | some c => rw [hc] at q; cases q; exact (hR j x c p hc).low1
  · have : Abs.lowA n a = Abs.low1 n a := by cases a <;> first | rfl | exact absurd ⟨_, rfl⟩ ha
    rw [this]; exact h.low1
theorem R.lowT {n : Nat} {x : Value} {a : AV} (h : R F own x a) : R F (own.take n) x (lowT n a) := by
  by_cases ha : ∃ cs, a = .tup cs
  · obtain ⟨cs, rfl⟩ := ha
    obtain ⟨xs, rfl, hl, hR⟩ := h.tup_inv
    refine .tup xs _ (by simp [hl]) fun j x a p q => ?_
    rw [List.getElem?_map] at q
    cases hc : cs[j]? with
    | none => rw [hc] at q; cases q
    | some c => rw [hc] at q; cases q; exact (hR j x c p hc).lowA
  · have : Abs.lowT n a = Abs.lowA n a := by cases a <;> first | rfl | exact absurd ⟨_, rfl⟩ ha
    rw [this]; exact h.lowA

theorem clr_get (dead : List Nat) : ∀ (t : List AV) (i : Nat) (a : AV), (clr dead t)[i]? = some a → a = .any ∨ t[i]? = some a := by
  induction dead with
  | nil => intro t i a h; exact .inr h
  | cons d ds ih =>
    intro t i a h
    rcases ih (t.set d .any) i a h with q | q
    · exact .inl q
    · rw [List.getElem?_set] at q
      split at q
      · split at q
        · cases q; exact .inl rfl
        · cases q
      · exact .inr q
theorem clr_len (dead : List Nat) : ∀ t : List AV, (clr dead t).length = t.length := by
  induction dead with
  | nil => intro t; rfl
  | cons d ds ih => intro t; show (clr ds (t.set d .any)).length = _; rw [ih]; simp

theorem lowA_cells (n : Nat) (a : AV) : (lowA n a).cells = a.cells.map (low1 n) := by
  cases a with
  | row id G sz off len => by_cases h : id < n <;> simp [lowA, low1, low0, AV.cells, h]
  | ptr id G i off => by_cases h : id < n <;> simp [lowA, low1, low0, AV.cells, h]
  | mp id => by_cases h : id < n <;> simp [lowA, low1, low0, AV.cells, h]
  | _ => rfl

theorem Inv.norm (h : Inv Gl F own B w0 σ act w) (dead : List Nat) (n : Nat) (hN : w0.N ≤ n) : Inv Gl F (own.take n) B w0 (norm dead n σ) act w := by
  have own_of : ∀ {id : Nat} {e : Ent}, (own.take n)[id]? = some e → id < n ∧ own[id]? = some e := fun {id e} q => by
    rw [List.getElem?_take] at q
    split at q
    · exact ⟨by assumption, q⟩
    · cases q
  refine { tl := ?_, tr := fun i x a p q => ?_, defers := h.defers, sub := h.sub, hl := ?_, objs := fun id e o p q => ?_, inj := fun i j e e' g p q => h.inj i j e e' g (own_of p).2 (own_of q).2, below := h.below, base := fun id e g p => h.base id e g (own_of p).2, gl := h.gl, gw := h.gw, room := h.room, ext := h.ext, ext0 := h.ext0, nl := by have := h.nl; simp [Abs.norm]; omega, fr := fun q hq => by rw [List.take_take, Nat.min_eq_left (Nat.le_trans (w0.hfr q hq) hN)]; exact h.fr q hq, pd := PdIn.turn h.pd (fun _ _ _ => rfl) (fun _ _ _ q => .inl q) fun id e g p q => .inl fun r => r id e (own_of p).2 q }
  · simp [Abs.norm, clr_len, h.tl]
  · have q' : ((clr dead σ.t).map (lowT n))[i]? = some a := q
    rw [List.getElem?_map] at q'
    cases hc : (clr dead σ.t)[i]? with
    | none => rw [hc] at q'; cases q'
    | some c =>
      rw [hc] at q'; cases q'
      rcases clr_get dead σ.t i c hc with rfl | hc'
      · exact .pure (.any _)
      · exact (h.tr i x c p hc').lowT
  · simp [Abs.norm, h.hl]
  · obtain ⟨hid, he⟩ := own_of p
    have q' : ((σ.h.take n).map (lowO n))[id]? = some o := q
    rw [List.getElem?_map, List.getElem?_take, if_pos hid] at q'
    cases ho : σ.h[id]? with
    | none => rw [ho] at q'; cases q'
    | some ob =>
      rw [ho] at q'; cases q'
      have hO := h.objs id e ob he ho
      by_cases hpr : ob.pr = true
      · have : lowO n ob = ob := by simp [lowO, hpr]
        rw [this]
        rcases hO with ⟨k0, hO⟩ | hO
        case inr => exact .inr hO
        obtain ⟨k1, k2, k3, k4, k5, k6, k7, k8⟩ := hO
        refine .inl ⟨k0, k1, k2, k3, k4, k5, k6, k7, ?_⟩
        cases hg : e.g with
        | none => rw [hg] at k8; exact k8
        | some g =>
          rw [hg] at k8
          obtain ⟨cs, a1, a2, a3, a4⟩ := k8
          refine ⟨cs, a1, a2, fun i j x a r s => ?_, a4⟩
          obtain ⟨y, b1, b2, b3⟩ := a3 i j x a r s
          refine ⟨y, b1, b2, ?_⟩
          unfold RC at b3 ⊢
          rw [if_pos hpr] at b3 ⊢
          exact b3
      · have e1 : lowO n ob = { ob with es := ob.es.map (lowA n) } := by simp [lowO, hpr]
        rw [e1]
        rcases hO with ⟨k0, hO⟩ | ⟨_, _, m2, _⟩
        case inr => exact absurd m2 hpr
        obtain ⟨k1, k2, k3, k4, k5, k6, k7, k8⟩ := hO
        have el : ∀ (i : Nat) (x : AV), (ob.es.map (lowA n))[i]? = some x → ∃ z, ob.es[i]? = some z ∧ x = lowA n z := fun i x q => by
          rw [List.getElem?_map] at q
          cases hz : ob.es[i]? with
          | none => rw [hz] at q; cases q
          | some z => rw [hz] at q; cases q; exact ⟨z, rfl, rfl⟩
        refine .inl ⟨k0, by simp [k1], k2, k3, k4, ⟨k5.1, by simpa using k5.2⟩, by simpa using k6, fun i x q => ?_, ?_⟩
        · obtain ⟨z, hz, rfl⟩ := el i x q
          rw [lowA_cells, List.length_map]; exact k7 i z hz
        · cases hg : e.g with
          | none => rw [hg] at k8; exact k8
          | some g =>
            rw [hg] at k8
            obtain ⟨cs, a1, a2, a3, a4⟩ := k8
            obtain ⟨fr, a1, af⟩ := a1
            refine ⟨cs, ⟨fr, a1, by rw [List.length_map]; exact af⟩, a2, fun i j x a r s => ?_, a4⟩
            obtain ⟨z, hz, rfl⟩ := el i x r
            rw [lowA_cells, List.getElem?_map] at s
            cases hc : z.cells[j]? with
            | none => rw [hc] at s; cases s
            | some c =>
              rw [hc] at s; cases s
              obtain ⟨y, b1, b2, b3⟩ := a3 i j z c hz hc
              refine ⟨y, b1, b2, ?_⟩
              unfold RC at b3 ⊢
              rw [if_neg hpr] at b3 ⊢
              exact b3.low1

theorem Inv.ghost1 (h : Inv Gl F own B w0 σ act w) (g : Nat × Nat × Nat) : ∃ own', Inv Gl F own' B w0 (ghost σ g) act w := by
  unfold ghost
  split
  · rename_i hv
    split
    · rename_i hsz
      refine ⟨own ++ [⟨none, 0, g.2.2, 0⟩], ?_⟩
      have hI := h.newNil g.2.1 g.2.2 true hsz
      have hlt : g.1 < act.tmps.size := by rw [h.tl]; exact (List.getElem?_eq_some_iff.1 hv).1
      have hx := (h.tr g.1 _ _ (Array.getElem?_eq_getElem hlt) hv).v_inv
      have hrow : R F (own ++ [⟨none, 0, g.2.2, 0⟩]) act.tmps[g.1] (.row σ.h.length 0 g.2.2 0 0) := by
        rw [hx, ← h.hl]
        exact .row _ _ _ _ _ _ _ own_last (by simp) ⟨_, _, rfl, by simp, fun q => by simp at q⟩ (fun _ => ⟨rfl, by simp, fun _ => ⟨_, Nat.le_of_eq (Nat.zero_add _), by simp⟩⟩) (by first | omega | assumption | (simp; done) | (simp; omega) | (dsimp only; omega))
      have := hI.put hrow (some g.1)
      have e : act.put (some g.1) act.tmps[g.1] = act := by
        have hs : act.tmps.setIfInBounds g.1 act.tmps[g.1] = act.tmps := by
          apply Array.ext_getElem?
          intro j
          rw [Array.getElem?_setIfInBounds]
          split
          · rename_i hj
            subst hj
            rw [Array.getElem?_eq_getElem hlt]
          · rfl
        show ({ act with tmps := act.tmps.setIfInBounds g.1 act.tmps[g.1] } : Act) = act
        rw [hs]
      rw [e] at this
      exact this
    · exact ⟨own, h⟩
  · exact ⟨own, h⟩
theorem Inv.ghosts (gh : List (Nat × Nat × Nat)) : ∀ {σ : St} {own : List Ent}, Inv Gl F own B w0 σ act w → ∃ own', Inv Gl F own' B w0 (gh.foldl ghost σ) act w := by
  induction gh with
  | nil => intro σ own h; exact ⟨own, h⟩
  | cons g gh ih => intro σ own h; obtain ⟨own', h'⟩ := h.ghost1 g; exact ih h'

theorem cL_sound {lm : Bool} {ops : Array Oper} : ∀ (os : List Oper) (l : List Ins), cL P lm ops os = some l → l.length = os.length ∧ ∀ (j : Nat) (o : Oper), os[j]? = some o → ∃ ins, l[j]? = some ins ∧ cIns P lm ops o = some ins := by
  intro os
  induction os with
  | nil => intro l h; cases h; exact ⟨rfl, fun j o q => by simp at q⟩
  | cons o os ih =>
    intro l h
    simp only [cL] at h
    split at h
    · rename_i i l' h1 h2
      cases h
      obtain ⟨l1, l2⟩ := ih l' h2
      refine ⟨by simp [l1], fun j o' q => ?_⟩
      cases j with
      | zero => simp at q; subst q; exact ⟨i, rfl, h1⟩
      | succ j => simp at q; obtain ⟨ins, a, b⟩ := l2 j o' q; exact ⟨ins, by simpa using a, b⟩
    · cases h

/-- No jump to a label. -/
def NG (e : Exit) : Prop := ∀ l, e ≠ .goto l
theorem ng_normal : NG .normal := fun l h => by cases h
theorem ng_exit (i : Nat) : NG (.exit i) := fun l h => by cases h
theorem ng_ret : NG .ret := fun l h => by cases h
theorem awp_soundN (hm : P.follows .mixedOrders = true) {hc0 : List Nat} {N : Nat} (hN : w0.N = N) : ∀ (code : Code) (c : C), cC P hc0 code = some c → ∀ (Q : Exit → St → Prop) (σ : St) (F : Addr → Option Value) (own : List Ent) (act : Act) (w : World), awp P Gl N c Q σ → Inv Gl F own B w0 σ act w → code.wp P (fun e a w => NG e ∧ Some' Gl B w0 (Q e) a w) act w := by
  intro code
  induction code with
  | skip => intro c hc Q σ F own act w ha hI; cases hc; exact wp_skip ⟨ng_normal, F, own, σ, hI, ha⟩
  | region id ops draw =>
    intro c hc Q σ F own act w ha hI
    cases draw with
    | false =>
      simp only [cC] at hc
      cases hl : cL P false ops ops.toList with
      | none => rw [hl] at hc; cases hc
      | some l =>
        rw [hl] at hc; cases hc
        obtain ⟨l1, l2⟩ := cL_sound _ _ hl
        have hlen : l.length = ops.size := by simpa using l1
        refine wp_region ?_
        have := ops_sound (P := P) (lm := false) (d := false) (Q := fun e a w => NG e ∧ Some' Gl B w0 (Q e) a w) (K := Q .normal) (fun a w h => ⟨ng_normal, h⟩) l 0 (fun j hj => by
          have hj' : j < ops.size := by rw [Nat.zero_add] at hj; exact hj
          have ho : ops[j]? = some ops[j] := Array.getElem?_eq_getElem hj'
          obtain ⟨ins, a1, a2⟩ := l2 j ops[j] (by rw [Array.getElem?_toList]; exact ho)
          exact ⟨ins, ops[j], a1, by rw [Nat.zero_add]; exact ho, a2⟩) (by omega) σ F own act w ha hI
        rw [hlen] at this
        rw [List.range_eq_range']; exact this
    | true =>
      simp only [cC] at hc
      have key : ∀ lm l, cL P lm ops ops.toList = some l → drawOk ops l = true → c = .ops true l → (Code.region id ops true).wp P (fun e a w => NG e ∧ Some' Gl B w0 (Q e) a w) act w := by
        intro lm l hl hd hcc
        subst hcc
        obtain ⟨l1, l2⟩ := cL_sound _ _ hl
        have hlen : l.length = ops.size := by simpa using l1
        refine wp_region_any hm ?_
        exact drawn_sound (lm := lm) hlen (fun j o ho => l2 j o (by simpa using ho)) hd (fun a w h => ⟨ng_normal, h⟩) ha (hI.same rfl rfl rfl rfl)
      cases hl : cL P false ops ops.toList with
      | none => rw [hl] at hc; cases hc
      | some l =>
        rw [hl] at hc
        simp only at hc
        split at hc
        · rename_i hd; cases hc; exact key false l hl (by rw [Bool.and_eq_true] at hd; exact hd.1) rfl
        · split at hc
          · rename_i hd
            cases hc
            obtain ⟨U, ha⟩ := ha
            obtain ⟨l1, l2⟩ := cL_sound _ _ hl
            have hlen : (marks hc0 ops l).length = ops.size := by rw [marks_len]; simpa using l1
            refine wp_region_any hm ?_
            have hcomp : ∀ (j : Nat) (o : Oper), ops[j]? = some o → ∃ p, (marks hc0 ops l)[j]? = some p ∧ cIns P false ops o = some p.2 := fun j o ho => by
              obtain ⟨ins, a1, a2⟩ := l2 j o (by simpa using ho)
              obtain ⟨m, hm⟩ := marks_at (hc := hc0) (ops := ops) a1
              exact ⟨_, hm, a2⟩
            have hI' := hI.same (w' := w.drew) rfl rfl rfl rfl
            rw [Bool.or_eq_true] at hd
            rcases hd with hd | hd
            · exact drawnR_sound (lm := false) hlen hcomp hd (fun a w h => ⟨ng_normal, h⟩) ha hI'
            · have hf : ∀ q ∈ w0.fr, q.1 ≤ σ.h.length := fun q hq => Nat.le_trans (w0.hfr q hq) hI.nl
              exact drawnP_sound (lm := false) (w0 := ⟨w0.w, w0.F, σ.h.length, w0.fr, hf, w0.pd, w0.pdn, w0.df⟩) hlen hcomp hd (Nat.le_refl _) (fun a w h => ⟨ng_normal, by obtain ⟨F, own, τ, h1, h2⟩ := h; exact ⟨F, own, τ, h1.ofN hI.nl, h2⟩⟩) ha (hI'.reN (Nat.le_refl _) hf)
          · cases hl' : cL P true ops ops.toList with
            | none => rw [hl'] at hc; cases hc
            | some l' =>
              rw [hl'] at hc
              simp only at hc
              split at hc
              · rename_i hd; cases hc; exact key true l' hl' hd rfl
              · cases hc
  | seq a b iha ihb =>
    intro c hc Q σ F own act w ha hI
    simp only [cC] at hc
    split at hc
    · rename_i x y hx hy
      cases hc
      refine wp_seq (wp_mono (iha x hx _ σ F own act w ha hI) ?_)
      rintro e a1 w1 ⟨ng, F1, own1, τ, hI1, hK⟩
      cases e with
      | normal => exact ihb y hy Q τ F1 own1 a1 w1 hK hI1
      | _ => exact ⟨ng, F1, own1, τ, hI1, hK⟩
    · cases hc
  | cond c0 a b iha ihb =>
    intro c hc Q σ F own act w ha hI
    simp only [cC] at hc
    split at hc
    · rename_i x y hx hy
      cases hc
      simp only [awp] at ha
      split at ha
      · rename_i t hv
        have he := hI.ev c0
        rw [hv] at he
        refine wp_cond he.v_inv ?_
        cases t with
        | true => simp only [if_true] at ha ⊢; exact iha x hx Q σ F own act w ha hI
        | false => simp only [Bool.false_eq_true, if_false] at ha ⊢; exact ihb y hy Q σ F own act w ha hI
      · exact ha.elim
    · cases hc
  | block id b ih =>
    intro c hc Q σ F own act w ha hI
    simp only [cC] at hc
    cases hb : cC P hc0 b with
    | none => rw [hb] at hc; cases hc
    | some x =>
      rw [hb] at hc; cases hc
      refine wp_block (wp_mono (ih x hb _ σ F own act w ha hI) ?_)
      rintro e a1 w1 ⟨ng, F1, own1, τ, hI1, hK⟩
      cases e with
      | exit i =>
        simp only at hK
        simp only [Exit.inBlock]
        split
        · rename_i hi; rw [if_pos hi] at hK; exact ⟨ng_normal, F1, own1, τ, hI1, hK⟩
        · rename_i hi; rw [if_neg hi] at hK; exact ⟨ng_exit _, F1, own1, τ, hI1, hK⟩
      | _ => exact ⟨ng, F1, own1, τ, hI1, hK⟩
  | loop b ih =>
    intro c hc Q σ F own act w ha hI
    simp only [cC] at hc
    cases hb : cC P hc0 b with
    | none => rw [hb] at hc; cases hc
    | some x =>
      rw [hb] at hc; cases hc
      obtain ⟨dead, gh, n, J, μ, hn, h0, hr⟩ := ha
      obtain ⟨own', hI'⟩ := Inv.ghosts gh hI
      have hI0 := hI'.norm dead n (by omega)
      -- a round lowers the measure of some abstract state that stands for the frame
      have key : ∀ m, ∀ (τ : St) (F : Addr → Option Value) (own : List Ent) (act : Act) (w : World), μ τ ≤ m → J τ → Inv Gl F own B w0 τ act w → Code.rounds P b (fun e a w => NG e ∧ Some' Gl B w0 (Q e) a w) (m + 1) act w := by
        intro m
        induction m with
        | zero =>
          intro τ F own act w hm' hJ hI
          rw [rounds_succ]
          refine wp_mono (ih x hb _ τ F own act w (hr τ hJ) hI) ?_
          rintro e a1 w1 ⟨ng, F1, own1, ρ, hI1, hK⟩
          cases e with
          | normal => exact absurd hK.2 (by omega)
          | _ => exact ⟨ng, F1, own1, ρ, hI1, hK⟩
        | succ m ihm =>
          intro τ F own act w hm' hJ hI
          rw [rounds_succ]
          refine wp_mono (ih x hb _ τ F own act w (hr τ hJ) hI) ?_
          rintro e a1 w1 ⟨ng, F1, own1, ρ, hI1, hK⟩
          cases e with
          | normal => exact ihm _ F1 _ a1 w1 (by have := hK.2; omega) hK.1 (hI1.norm dead n (by omega))
          | _ => exact ⟨ng, F1, own1, ρ, hI1, hK⟩
      exact wp_loop_rounds _ (key _ _ F _ act w (Nat.le_refl _) h0 hI0)
  | exit id => intro c hc Q σ F own act w ha hI; cases hc; exact wp_exit ⟨ng_exit _, F, own, σ, hI, ha⟩
  | ret => intro c hc Q σ F own act w ha hI; cases hc; exact wp_ret ⟨ng_ret, F, own, σ, hI, ha⟩
  | label l => intro c hc Q σ F own act w ha hI; cases hc; exact wp_label ⟨ng_normal, F, own, σ, hI, ha⟩
  | scope b ih =>
    intro c hc Q σ F own act w ha hI
    simp only [cC] at hc
    refine wp_scope_straight (wp_mono (ih c hc Q σ F own act w ha hI) ?_)
    rintro e a1 w1 ⟨ng, hK⟩
    cases e with
    | goto l => exact absurd rfl (ng l)
    | _ => exact ⟨ng, hK⟩
  | _ => intro c hc; cases hc
theorem awp_sound (hm : P.follows .mixedOrders = true) {hc0 : List Nat} {N : Nat} (hN : w0.N = N) (code : Code) (c : C) (hc : cC P hc0 code = some c) (Q : Exit → St → Prop) (σ : St) (F : Addr → Option Value) (own : List Ent) (act : Act) (w : World) (ha : awp P Gl N c Q σ) (hI : Inv Gl F own B w0 σ act w) : code.wp P (fun e a w => Some' Gl B w0 (Q e) a w) act w :=
  wp_mono (awp_soundN hm hN code c hc Q σ F own act w ha hI) fun e a w h => h.2

/-- Where a function's results lie. -/
inductive RV where
  | t (i : Nat)
  | c (i sz : Nat) (ag : Bool)

def cRes (P : Program) : List ResultVar → Option (List RV)
  | [] => some []
  | .tmp t :: r => (cRes P r).map (.t t :: ·)
  | .cell a t :: r => match agT P t, cRes P r with
    | some (ag, sz), some l => some (.c a sz ag :: l)
    | _, _ => none

def resL (Gl : Nat → Option (List AV)) (σ : St) : List RV → Option (Prop × List AV)
  | [] => some (True, [])
  | .t i :: r => (resL Gl σ r).map fun q => (q.1, σ.t.getD i .any :: q.2)
  | .c i sz ag :: r => match step Gl σ (.load sz ag (.t i)), resL Gl σ r with
    | some (p, a, _), some q => some (p ∧ q.1, a :: q.2)
    | _, _ => none
def resA (Gl : Nat → Option (List AV)) (σ : St) (rs : List RV) : Option (Prop × AV) :=
  match resL Gl σ rs with
  | some (p, [a]) => some (p, a)
  | some (p, l) => some (p, .tup l)
  | none => none

/-- One value reads as another does. -/
def Wk (a b : AV) : Prop := ∀ (F : Addr → Option Value) (x : Value), RP F x a → RP F x b
theorem Wk.refl (a : AV) : Wk a a := fun _ _ h => h
theorem Wk.nil (sz : Nat) : Wk (.v (.slice none 0 0)) (.list sz []) := fun _ _ h => by cases h; exact .nil sz
theorem Wk.tup {as bs : List AV} (hl : as.length = bs.length) (h : ∀ (j : Nat) (a b : AV), as[j]? = some a → bs[j]? = some b → Wk a b) : Wk (.tup as) (.tup bs) := fun F x hR => by
  cases hR with
  | tup xs cs hl' hR' =>
    refine .tup xs bs (by omega) fun j x b p q => ?_
    have hj : j < as.length := by rw [hl]; exact (List.getElem?_eq_some_iff.1 q).1
    exact h j as[j] b (List.getElem?_eq_getElem hj) q F x (hR' j x _ p (List.getElem?_eq_getElem hj))
theorem Wk.agg {as bs : List AV} (hl : as.length = bs.length) (h : ∀ (j : Nat) (a b : AV), as[j]? = some a → bs[j]? = some b → Wk a b) : Wk (.agg as) (.agg bs) := fun F x hR => by
  cases hR with
  | agg xs cs hl' h1 hR' =>
    refine .agg xs bs (by omega) h1 fun j x b p q => ?_
    have hj : j < as.length := by rw [hl]; exact (List.getElem?_eq_some_iff.1 q).1
    exact h j as[j] b (List.getElem?_eq_getElem hj) q F x (hR' j x _ p (List.getElem?_eq_getElem hj))

/-- How a body ends. -/
def Ends (Gl : Nat → Option (List AV)) (rs : List RV) (res : AV) (e : Exit) (σ : St) : Prop :=
  (match e with | .normal => True | .ret => True | _ => False) ∧ ∃ p a b, resA Gl σ rs = some (p, a) ∧ p ∧ keepT σ.h a = some b ∧ Wk b res

def resF (tmps : Array Value) : ResultVar → Sem Value
  | .tmp t => pure (tmps.getD t undef)
  | .cell a t => do loadVar t (← asAddr (tmps.getD a undef))
theorem results_eq (fn : Func) (tmps : Array Value) : Go.results fn tmps = (do let vs ← fn.results.mapM (resF tmps); pure (if h : vs.size = 1 then vs[0] else .tuple vs)) := rfl

theorem results_sound (h : Inv Gl F own B w0 σ act w) : ∀ (vs : List ResultVar) (rs : List RV) (p : Prop) (l : List AV), cRes P vs = some rs → resL Gl σ rs = some (p, l) → p →
    ∃ ys : List Value, (vs.mapM (resF act.tmps)).run P w = .ok ys w ∧ ys.length = l.length ∧ ∀ (j : Nat) (y : Value) (a : AV), ys[j]? = some y → l[j]? = some a → R F own y a := by
  intro vs
  induction vs with
  | nil => intro rs p l hc hr hp; cases hc; cases hr; exact ⟨[], rfl, rfl, fun j y a q => by simp at q⟩
  | cons v vs ih =>
    intro rs p l hc hr hp
    cases v with
    | tmp t =>
      simp only [cRes] at hc
      cases hq : cRes P vs with
      | none => rw [hq] at hc; cases hc
      | some rs' =>
        rw [hq] at hc; cases hc
        simp only [resL] at hr
        cases hr' : resL Gl σ rs' with
        | none => rw [hr'] at hr; cases hr
        | some q =>
          obtain ⟨p', l'⟩ := q
          rw [hr'] at hr; cases hr
          obtain ⟨ys, e1, e2, e3⟩ := ih rs' _ l' hq hr' hp
          refine ⟨act.tmps.getD t undef :: ys, ?_, by simp [e2], fun j y a q q' => ?_⟩
          · rw [List.mapM_cons]; simp only [Sem.run_bind, resF, Sem.run_pure, Result.andThen_ok]; rw [e1]; rfl
          · cases j with
            | zero =>
              have q1 : some (act.tmps.getD t undef) = some y := q
              have q2 : some (σ.t.getD t .any) = some a := q'
              cases q1; cases q2; exact h.ev (.tmp t)
            | succ j => simp at q q'; exact e3 j y a q q'
    | cell ad t =>
      simp only [cRes] at hc
      split at hc
      · rename_i ag sz rs' ha hq
        cases hc
        simp only [resL] at hr
        split at hr
        · rename_i p1 a1 h1 q hs hr'
          obtain ⟨p2, l2⟩ := q
          cases hr
          obtain ⟨ys, e1, e2, e3⟩ := ih rs' p2 l2 hq hr' hp.2
          obtain ⟨ad', y0, ex, hy, hR, _⟩ := load_val (x := .tmp ad) h ha hs hp.1
          refine ⟨y0 :: ys, ?_, by simp [e2], fun j y a q q' => ?_⟩
          · have ex' : act.tmps.getD ad undef = .pointer (some ad') := ex
            have eas : (asAddr (act.tmps.getD ad undef)).run P w = .ok ad' w := by rw [ex']; rfl
            rw [List.mapM_cons]; simp only [Sem.run_bind, resF, eas, Result.andThen_ok, hy]; rw [e1]; rfl
          · cases j with
            | zero => simp at q q'; subst q q'; exact hR
            | succ j => simp at q q'; exact e3 j y a q q'
        · cases hr
      · cases hc

theorem Pure.ofW {f : FuncId} {fn : Func} {code : Code} {rs : List RV} (hf : P.funcs[f]? = some fn) (hb : fn.body = some code) (hr : cRes P fn.results.toList = some rs) {as : List AV} {res : AV}
    (h : ∀ (F : Addr → Option Value) (own : List Ent) (B : Nat) (w0 : W0) (act : Act) (w : World), w0.N = 0 → Inv Gl F own B w0 ⟨as ++ List.replicate (fn.ntmps - as.length) .any, []⟩ act w → code.wp P (fun e a w => Some' Gl B w0 (Ends Gl rs res e) a w) act w) : Pure P Gl f as res := by
  intro w F xs hF hgl hgw hxs
  refine calls_of_wp hf hb ?_
  have hI : Inv Gl F [] w.heap.size ⟨w, F, 0, [], (fun q hq => by simp at hq), [], List.Pairwise.nil, []⟩ ⟨as ++ List.replicate (fn.ntmps - as.length) .any, []⟩ { tmps := xs ++ Array.replicate (fn.ntmps - xs.size) undef, defers := [] } w := by
    refine { tl := by simp [hxs.1], tr := fun i x a p q => ?_, defers := rfl, sub := hF, hl := rfl, objs := fun id e o p => by simp at p, inj := fun i j e e' g p => by simp at p, below := Below.refl _ _, base := fun id e g p => by simp at p, gl := hgl, gw := hgw, room := Nat.le_refl _, ext := fun _ _ q => .inl q, ext0 := fun _ _ q => q, nl := Nat.zero_le _, fr := (fun q hq => by simp at hq), pd := fun q hq => by simp at hq }
    simp only at p q
    rcases Nat.lt_or_ge i as.length with hi | hi
    · rw [List.getElem?_append_left hi] at q
      rw [Array.getElem?_append_left (by rw [hxs.1]; exact hi)] at p
      exact .pure (hxs.2 i x a p q)
    · rw [List.getElem?_append_right hi, List.getElem?_replicate] at q
      split at q
      · cases q; exact .pure (.any _)
      · cases q
  refine wp_mono (h F [] _ _ _ w rfl hI) ?_
  rintro e a1 w1 ⟨F1, own1, τ, hI1, hE, p, a, b, hres, hp, hk, hw⟩
  obtain ⟨p', l, hrl, hal⟩ : ∃ p' l, resL Gl τ rs = some (p', l) ∧ ((∃ x, l = [x] ∧ a = x ∧ p = p') ∨ ((∀ x, l ≠ [x]) ∧ a = .tup l ∧ p = p')) := by
    unfold resA at hres
    split at hres
    · rename_i p0 a0 h0; cases hres; exact ⟨p, [a], h0, .inl ⟨a, rfl, rfl, rfl⟩⟩
    · rename_i p0 l0 hne h0; cases hres; exact ⟨p, l0, h0, .inr ⟨fun x e => hne x e, rfl, rfl⟩⟩
    · cases hres
  have hpp : p' := by rcases hal with ⟨_, _, _, e⟩ | ⟨_, _, e⟩ <;> (rw [← e]; exact hp)
  obtain ⟨ys, hrun, hyl, hyR⟩ := results_sound hI1 fn.results.toList rs p' l hr hrl hpp
  have hmapM : (fn.results.mapM (resF a1.tmps)).run P w1 = .ok ys.toArray w1 := by
    rw [Array.mapM_eq_mapM_toList]
    simp only [Sem.run_map, hrun, Result.andThen_ok]
  have fin : ∀ v, (Go.results fn a1.tmps).run P w1 = .ok v w1 → R F1 own1 v a → bodyPost P fn (fun e w' => ∃ v F', e = .returned v ∧ (∀ ad y, F ad = some y → F' ad = some y) ∧ (∀ ad y, F' ad = some y → w'.cell? ad = some y) ∧ (∀ ad y, F' ad = some y → F ad = some y ∨ w.heap.size ≤ ad.block) ∧ RP F' v res ∧ Below w.heap.size w w') e a1 w1 := by
    intro v hv hR
    obtain ⟨F2, hF2, hI2, hkp⟩ := hI1.freezeL (List.range τ.h.length)
    have hkp' : ∀ id, Kept F2 own1 τ.h w1 id := fun id => by
      intro ob e' g hob
      exact hkp id (List.mem_range.2 (List.getElem?_eq_some_iff.1 hob).1) ob e' g hob
    have hfinal : RP F2 v b := by
      by_cases ha : ∃ vs, a = .tup vs
      · obtain ⟨vs, rfl⟩ := ha
        have hk' : (keepAL τ.h vs).map AV.tup = some b := hk
        cases hq : keepAL τ.h vs with
        | none => rw [hq] at hk'; cases hk'
        | some ds =>
          rw [hq] at hk'; cases hk'
          obtain ⟨zs, rfl, z1, z2⟩ := hR.tup_inv
          obtain ⟨l1, l2⟩ := keepAL_sound hI1 hF2 vs ds hq (fun id _ => hkp' id)
          refine .tup zs ds (by omega) fun j x c p q => ?_
          have hj : j < vs.length := by rw [l1]; exact (List.getElem?_eq_some_iff.1 q).1
          exact (l2 j x vs[j] c (List.getElem?_eq_getElem hj) q (z2 j x _ p (List.getElem?_eq_getElem hj))).1
      · have hk' : keepA τ.h a = some b := by cases a <;> first | exact hk | exact absurd ⟨_, rfl⟩ ha
        exact (keepA_sound hI1 hF2 hR hk' (fun id _ => hkp' id)).1
    have hend : (∃ v, (Go.results fn a1.tmps).run P w1 = .ok v w1 ∧ ∃ v' F', Ending.returned v = .returned v' ∧ (∀ ad y, F ad = some y → F' ad = some y) ∧ (∀ ad y, F' ad = some y → w1.cell? ad = some y) ∧ (∀ ad y, F' ad = some y → F ad = some y ∨ w.heap.size ≤ ad.block) ∧ RP F' v' res ∧ Below w.heap.size w w1) :=
      ⟨v, hv, v, F2, rfl, hI2.ext0, hI2.sub, hI2.ext, hw F2 v hfinal, hI2.below⟩
    cases e with
    | normal => exact ⟨hI1.defers, hend⟩
    | ret => exact ⟨hI1.defers, hend⟩
    | _ => exact hE.elim
  rcases hal with ⟨x, rfl, rfl, _⟩ | ⟨hne, rfl, _⟩
  · have hy1 : ys.length = 1 := by simpa using hyl
    obtain ⟨y, rfl⟩ := List.length_eq_one_iff.1 hy1
    refine fin y ?_ (hyR 0 y a rfl rfl)
    rw [results_eq]
    simp only [Sem.run_bind, hmapM, Result.andThen_ok]
    rfl
  · refine fin (.tuple ys.toArray) ?_ (.tup _ _ (by simp [hyl]) fun j x c p q => hyR j x c (by simpa using p) q)
    rw [results_eq]
    simp only [Sem.run_bind, hmapM, Result.andThen_ok]
    have hy1 : ¬ ys.toArray.size = 1 := fun q => by
      have : l.length = 1 := by rw [← hyl]; simpa using q
      match l, this with
      | [x], _ => exact hne x rfl
    rw [dif_neg hy1]
    rfl

/-- How a body ends that turns its caller's memory. -/
def EndsH (Gl : Nat → Option (List AV)) (rs : List RV) (Q : AV → List AObj → Prop) (e : Exit) (σ : St) : Prop :=
  (match e with | .normal => True | .ret => True | _ => False) ∧ ∃ p a, resA Gl σ rs = some (p, a) ∧ p ∧ Q a σ.h

theorem PureH.ofW {f : FuncId} {fn : Func} {code : Code} {rs : List RV} (hf : P.funcs[f]? = some fn) (hb : fn.body = some code) (hr : cRes P fn.results.toList = some rs) {h0 : List AObj} {as : List AV} {Q : AV → List AObj → Prop}
    (h : ∀ (F : Addr → Option Value) (own : List Ent) (B : Nat) (w0 : W0) (act : Act) (w : World), w0.N = h0.length → Inv Gl F own B w0 ⟨as ++ List.replicate (fn.ntmps - as.length) .any, h0⟩ act w → code.wp P (fun e a w => Some' Gl B w0 (EndsH Gl rs Q e) a w) act w) : PureH P Gl f h0 as Q := by
  intro F own B w0 t act w xs hI hxs
  refine calls_of_wp hf hb ?_
  let fr' : List (Nat × Value × AV) := (List.range t.length).map fun i => (h0.length, act.tmps.getD i undef, t.getD i .any)
  have hfr' : ∀ q ∈ w0.fr ++ fr', q.1 ≤ h0.length := fun q hq => by
    rcases List.mem_append.1 hq with hq | hq
    · exact Nat.le_trans (w0.hfr q hq) hI.nl
    · obtain ⟨i, _, rfl⟩ := List.mem_map.1 hq; exact Nat.le_refl _
  have hown : own.take h0.length = own := List.take_of_length_le (by rw [hI.hl]; exact Nat.le_refl _)
  have hI1 : Inv Gl F own B ⟨w0.w, w0.F, h0.length, w0.fr ++ fr', hfr', w0.pd, w0.pdn, []⟩ ⟨as ++ List.replicate (fn.ntmps - as.length) .any, h0⟩ { tmps := xs ++ Array.replicate (fn.ntmps - xs.size) undef, defers := [] } w := by
    refine { tl := by simp [hxs.1], tr := fun i x a p q => ?_, defers := rfl, sub := hI.sub, hl := hI.hl, objs := hI.objs, inj := hI.inj, below := hI.below, base := hI.base, gl := hI.gl, gw := hI.gw, room := hI.room, ext := hI.ext, ext0 := hI.ext0, nl := Nat.le_refl _, fr := fun q hq => ?_, pd := hI.pd }
    · simp only at p q
      rcases Nat.lt_or_ge i as.length with hi | hi
      · rw [List.getElem?_append_left hi] at q
        rw [Array.getElem?_append_left (by rw [hxs.1]; exact hi)] at p
        exact hxs.2 i x a p q
      · rw [List.getElem?_append_right hi, List.getElem?_replicate] at q
        split at q
        · cases q; exact .pure (.any _)
        · cases q
    · rcases List.mem_append.1 hq with hq | hq
      · exact hI.fr q hq
      · obtain ⟨i, hi, rfl⟩ := List.mem_map.1 hq
        have hi' := List.mem_range.1 hi
        have hlt : i < act.tmps.size := by rw [hI.tl]; exact hi'
        rw [hown]
        exact hI.tr i _ _ (by simp [Array.getD, hlt]) (by simp [List.getD, List.getElem?_eq_getElem hi'])
  refine wp_mono (h F own _ _ _ w rfl hI1) ?_
  rintro e a1 w1 ⟨F1, own1, τ, hI2, hE, p, a, hres, hp, hQ⟩
  obtain ⟨p', l, hrl, hal⟩ : ∃ p' l, resL Gl τ rs = some (p', l) ∧ ((∃ x, l = [x] ∧ a = x ∧ p = p') ∨ ((∀ x, l ≠ [x]) ∧ a = .tup l ∧ p = p')) := by
    unfold resA at hres
    split at hres
    · rename_i p0 a0 h0; cases hres; exact ⟨p, [a], h0, .inl ⟨a, rfl, rfl, rfl⟩⟩
    · rename_i p0 l0 hne h0; cases hres; exact ⟨p, l0, h0, .inr ⟨fun x e => hne x e, rfl, rfl⟩⟩
    · cases hres
  have hpp : p' := by rcases hal with ⟨_, _, _, e⟩ | ⟨_, _, e⟩ <;> (rw [← e]; exact hp)
  obtain ⟨ys, hrun, hyl, hyR⟩ := results_sound hI2 fn.results.toList rs p' l hr hrl hpp
  have hmapM : (fn.results.mapM (resF a1.tmps)).run P w1 = .ok ys.toArray w1 := by
    rw [Array.mapM_eq_mapM_toList]
    simp only [Sem.run_map, hrun, Result.andThen_ok]
  -- the caller's frame again
  have hback : Inv Gl F1 own1 B w0 ⟨t, τ.h⟩ act w1 :=
    { tl := hI.tl, tr := fun i x a p q => by
        have hi : i < t.length := (List.getElem?_eq_some_iff.1 q).1
        have hlt : i < act.tmps.size := by rw [hI.tl]; exact hi
        have := hI2.fr (h0.length, act.tmps.getD i undef, t.getD i .any) (List.mem_append.2 (.inr (List.mem_map.2 ⟨i, List.mem_range.2 hi, rfl⟩)))
        have e1 : act.tmps.getD i undef = x := by simp [Array.getD, hlt]; rw [Array.getElem?_eq_getElem hlt] at p; exact Option.some.inj p
        have e2 : t.getD i .any = a := by
          have q' : t[i]? = some a := q
          simp [List.getD, q']
        rw [e1, e2] at this
        exact this.mono (fun _ _ r => r) (Le.of_take _ _),
      defers := hI.defers, sub := hI2.sub, hl := hI2.hl, objs := hI2.objs, inj := hI2.inj, below := hI2.below, base := hI2.base, gl := hI2.gl, gw := hI.gw, room := hI2.room, ext := hI2.ext, ext0 := hI2.ext0, nl := Nat.le_trans hI.nl hI2.nl, fr := fun q hq => hI2.fr q (List.mem_append.2 (.inl hq)), pd := hI2.pd }
  have fin : ∀ v, (Go.results fn a1.tmps).run P w1 = .ok v w1 → R F1 own1 v a → bodyPost P fn (fun e w' => ∃ v res h' F' own', e = .returned v ∧ Inv Gl F' own' B w0 ⟨t, h'⟩ act w' ∧ R F' own' v res ∧ Q res h') e a1 w1 := by
    intro v hv hR
    have hend : ∃ v, (Go.results fn a1.tmps).run P w1 = .ok v w1 ∧ ∃ v' res h' F' own', Ending.returned v = .returned v' ∧ Inv Gl F' own' B w0 ⟨t, h'⟩ act w1 ∧ R F' own' v' res ∧ Q res h' := ⟨v, hv, v, a, τ.h, F1, own1, rfl, hback, hR, hQ⟩
    cases e with
    | normal => exact ⟨hI2.defers, hend⟩
    | ret => exact ⟨hI2.defers, hend⟩
    | _ => exact hE.elim
  rcases hal with ⟨x, rfl, rfl, _⟩ | ⟨hne, rfl, _⟩
  · have hy1 : ys.length = 1 := by simpa using hyl
    obtain ⟨y, rfl⟩ := List.length_eq_one_iff.1 hy1
    refine fin y ?_ (hyR 0 y a rfl rfl)
    rw [results_eq]
    simp only [Sem.run_bind, hmapM, Result.andThen_ok]
    rfl
  · refine fin (.tuple ys.toArray) ?_ (.tup _ _ (by simp [hyl]) fun j x c p q => hyR j x c (by simpa using p) q)
    rw [results_eq]
    simp only [Sem.run_bind, hmapM, Result.andThen_ok]
    have hy1 : ¬ ys.toArray.size = 1 := fun q => by
      have : l.length = 1 := by rw [← hyl]; simpa using q
      match l, this with
      | [x], _ => exact hne x rfl
    rw [dif_neg hy1]
    rfl
theorem Pure.of (hm : P.follows .mixedOrders = true) {f : FuncId} {fn : Func} {code : Code} {c : C} {rs : List RV} {hl : List Nat} (hf : P.funcs[f]? = some fn) (hb : fn.body = some code) (hc : cC P hl code = some c) (hr : cRes P fn.results.toList = some rs) {as : List AV} {res : AV}
    (h : awp P Gl 0 c (Ends Gl rs res) ⟨as ++ List.replicate (fn.ntmps - as.length) .any, []⟩) : Pure P Gl f as res :=
  Pure.ofW hf hb hr fun F own B w0 act w hN hI => awp_sound hm hN code c hc _ _ F own act w h hI
theorem PureH.of (hm : P.follows .mixedOrders = true) {f : FuncId} {fn : Func} {code : Code} {c : C} {rs : List RV} {hl : List Nat} (hf : P.funcs[f]? = some fn) (hb : fn.body = some code) (hc : cC P hl code = some c) (hr : cRes P fn.results.toList = some rs) {h0 : List AObj} {as : List AV} {Q : AV → List AObj → Prop}
    (h : awp P Gl h0.length c (EndsH Gl rs Q) ⟨as ++ List.replicate (fn.ntmps - as.length) .any, h0⟩) : PureH P Gl f h0 as Q :=
  PureH.ofW hf hb hr fun F own B w0 act w hN hI => awp_sound hm hN code c hc _ _ F own act w h hI
end
end Abs
end Go.Proofs.YtnhgeocdffhkjaaDoor
