/- The abstract machine: regions that draw their order. -/
import Derived.Test.YtnhgeocdffhkjaaDoorAbs8
namespace Go.Proofs.YtnhgeocdffhkjaaDoor
namespace Abs
open Go.RowKit
set_option linter.unusedVariables false
set_option linter.unusedSimpArgs false

def Opd.slots : Opd → List Nat
  | .t i => [i]
  | _ => []
def optSlots : Option Opd → List Nat
  | some x => x.slots
  | none => []

/-- The slots that an instruction reads. -/
def I.reads : I → List Nat
  | .mov x | .un _ x | .conv _ x | .fld _ _ _ x | .ext _ x | .faddr _ x | .load _ _ x | .len x | .slen x | .nck x | .b2s x | .s2b _ x | .box _ _ x | .boxz _ _ _ x | .mk _ _ _ _ x | .nilq _ x => x.slots
  | .pick c a b | .slice3 _ c a b | .mput _ c a b => c.slots ++ a.slots ++ b.slots
  | .bin _ x y | .beq _ x y | .aeq _ _ x y | .iaddr _ x y | .aaddr _ _ _ x y | .copy _ x y | .store _ x y | .idx x y | .aidx _ _ _ x y | .app _ _ _ x y | .apps _ _ x y | .min2 x y | .max2 x y | .mk2 _ _ _ _ x y | .mget _ _ _ x y => x.slots ++ y.slots
  | .slice _ x lo hi | .sslice x lo hi | .aslice _ _ x lo hi | .aslf _ x lo hi => x.slots ++ optSlots lo ++ optSlots hi
  | .bslice _ _ xs | .blist _ _ xs | .bvec _ xs | .bsc _ xs | .clo _ xs => xs.flatMap Opd.slots
  | .build _ ps => ps.flatMap fun p => p.2.2.slots
  | .alloc _ _ => []
  | .mmk _ x => optSlots x
  | .alloca _ _ _ _ => []
  | .call fo args => fo.slots ++ args.flatMap Opd.slots
def Ins.looks (i : Ins) : List Nat := i.i.reads ++ (match i.gd with | some (s, _) => [s] | none => [])

/-- 0: no memory of the call's own; 1: it reads it; 2: it turns it. -/
def I.cls : I → Nat
  | .load .. | .call .. | .aaddr .. | .aslice .. | .b2s .. | .mget .. => 1
  | .store .. | .app .. | .apps .. | .s2b .. | .bslice .. | .bvec .. | .bsc .. | .box .. | .boxz .. | .alloc .. | .alloca .. | .copy .. | .mk .. | .aslf .. | .mk2 .. | .mmk .. | .mput .. => 2
  | _ => 0

section
variable {P : Program} {Gl : Nat → Option (List AV)}

theorem val_congr {σ τ : St} {x : Opd} (h : ∀ s ∈ x.slots, τ.t.getD s .any = σ.t.getD s .any) : τ.val Gl x = σ.val Gl x := by
  cases x with
  | t i => exact h i (by simp [Opd.slots])
  | k v => rfl
  | g i => rfl

theorem build_congr {σ τ : St} : ∀ (ps : List (Nat × Nat × Opd)) (cs : List AV), (∀ s ∈ ps.flatMap (fun p => p.2.2.slots), τ.t.getD s .any = σ.t.getD s .any) → buildC Gl τ cs ps = buildC Gl σ cs ps := by
  intro ps
  induction ps with
  | nil => intro cs _; rfl
  | cons p ps ih =>
    intro cs h
    obtain ⟨o, s, x⟩ := p
    have hx : τ.val Gl x = σ.val Gl x := val_congr fun s hs => h s (by simp [hs])
    simp only [buildC, hx]
    split
    · split
      · exact ih _ fun s hs => h s (by simp only [List.flatMap_cons, List.mem_append]; exact .inr hs)
      · rfl
    · rfl

theorem map_congr {σ τ : St} {xs : List Opd} (h : ∀ s ∈ xs.flatMap Opd.slots, τ.t.getD s .any = σ.t.getD s .any) : xs.map (τ.val Gl) = xs.map (σ.val Gl) := by
  apply List.map_congr_left
  intro x hx
  exact val_congr fun s hs => h s (List.mem_flatMap.2 ⟨x, hx, hs⟩)

theorem opt_congr {σ τ : St} {x : Option Opd} (h : ∀ s ∈ optSlots x, τ.t.getD s .any = σ.t.getD s .any) : x.map (τ.val Gl) = x.map (σ.val Gl) := by
  cases x with
  | none => rfl
  | some x => simp only [Option.map_some]; rw [val_congr h]

/-- The same operands, the same heap: the same step. -/
theorem step_congr {σ τ : St} {i : I} (h : ∀ s ∈ i.reads, τ.t.getD s .any = σ.t.getD s .any) (hh : τ.h = σ.h) : step Gl τ i = step Gl σ i := by
  cases i <;> simp only [I.reads, List.mem_append, or_imp, forall_and] at h <;> first
    | (simp only [step, val_congr h, hh]; done)
    | (simp only [step, val_congr h.1, val_congr h.2, hh]; done)
    | (simp only [step, val_congr h.1.1, val_congr h.1.2, val_congr h.2, hh]; done)
    | (simp only [step, val_congr h.1.1, opt_congr h.1.2, opt_congr h.2, hh]; done)
    | (simp only [step, map_congr h, hh]; done)
    | (simp only [step, opt_congr h, hh]; done)
    | (simp only [step, build_congr _ _ h, hh]; done)
    | (simp only [step, hh]; done)

theorem keep1_rows {h g : List AObj} {a : AV} (hr : rows1 a = []) : keep1 h a = keep1 g a := by
  cases a <;> first | rfl | cases hr
theorem keepL_rows {h g : List AObj} : ∀ {cs : List AV}, cs.flatMap rows1 = [] → keepL h cs = keepL g cs := by
  intro cs
  induction cs with
  | nil => intro _; rfl
  | cons c cs ih =>
    intro hr
    rw [List.flatMap_cons, List.append_eq_nil_iff] at hr
    simp only [keepL]
    rw [keep1_rows (h := h) (g := g) hr.1, ih hr.2]
theorem keepA_rows {h g : List AObj} {a : AV} (hr : rowsA a = []) : keepA h a = keepA g a := by
  cases a with
  | agg cs => simp only [keepA]; rw [keepL_rows (h := h) (g := g) hr]
  | _ => first | rfl | cases hr
theorem keepAL_rows {h g : List AObj} : ∀ {cs : List AV}, (∀ a ∈ cs, rowsA a = []) → keepAL h cs = keepAL g cs := by
  intro cs
  induction cs with
  | nil => intro _; rfl
  | cons c cs ih =>
    intro hr
    simp only [keepAL]
    rw [keepA_rows (h := h) (g := g) (hr c (by simp)), ih fun a ha => hr a (by simp [ha])]

theorem val_h {t : List AV} {h g : List AObj} (x : Opd) : St.val Gl ⟨t, h⟩ x = St.val Gl ⟨t, g⟩ x := by cases x <;> rfl
theorem mapval_h {t : List AV} {h g : List AObj} (xs : List Opd) : xs.map (St.val Gl ⟨t, h⟩) = xs.map (St.val Gl ⟨t, g⟩) := List.map_congr_left fun x _ => val_h x
theorem optval_h {t : List AV} {h g : List AObj} (x : Option Opd) : x.map (St.val Gl ⟨t, h⟩) = x.map (St.val Gl ⟨t, g⟩) := by cases x <;> simp [val_h (Gl := Gl) (t := t) (h := h) (g := g)]
theorem build_h {t : List AV} {h g : List AObj} (ps : List (Nat × Nat × Opd)) (cs : List AV) : buildC Gl ⟨t, h⟩ cs ps = buildC Gl ⟨t, g⟩ cs ps := build_congr ps cs fun _ _ => rfl

/-- A step that takes no memory of the call's own. -/
theorem step_h {t : List AV} {h g : List AObj} {i : I} (hc : i.cls = 0) : step Gl ⟨t, g⟩ i = (step Gl ⟨t, h⟩ i).map fun q => (q.1, q.2.1, g) := by
  cases i with
  | blist ty sz xs =>
    simp only [step, mapval_h (Gl := Gl) (t := t) (h := g) (g := h)]
    generalize xs.map (St.val Gl ⟨t, h⟩) = l
    by_cases hr : l.all (fun a => (rowsA a).isEmpty) = true
    · rw [keepAL_rows (h := g) (g := h) fun a ha => List.isEmpty_iff.1 (List.all_eq_true.1 hr a ha)]
      cases keepAL h l with
      | none => rfl
      | some ys => simp only; split <;> rfl
    · have : ∀ ys : List AV, (ys.all (fun y => y.cells.length == sz) && l.all (fun a => (rowsA a).isEmpty)) = false := fun ys => by
        simp only [Bool.not_eq_true] at hr; rw [hr, Bool.and_false]
      cases keepAL g l <;> cases keepAL h l <;> simp [this]
  | build z ps => simp only [step, build_h (Gl := Gl) (t := t) (h := g) (g := h)]; cases buildC Gl ⟨t, h⟩ (z.map .v) ps <;> rfl
  | slice sz x lo hi =>
    simp only [step, val_h (Gl := Gl) (t := t) (h := g) (g := h), optval_h (Gl := Gl) (t := t) (h := g) (g := h)]
    split
    · split
      · cases cutB _ _ _ <;> rfl
      · rfl
    · cases cutB _ _ _ <;> rfl
    · split
      · cases cutB _ _ _ <;> rfl
      · rfl
    · rfl
  | sslice x lo hi =>
    simp only [step, val_h (Gl := Gl) (t := t) (h := g) (g := h), optval_h (Gl := Gl) (t := t) (h := g) (g := h)]
    split
    · cases cutB _ _ _ <;> rfl
    · rfl
  | bin op x y =>
    simp only [step, val_h (Gl := Gl) (t := t) (h := g) (g := h)]
    split
    · cases binV _ _ _ <;> rfl
    · rfl
  | un op x =>
    simp only [step, val_h (Gl := Gl) (t := t) (h := g) (g := h)]
    split
    · cases unV _ _ <;> rfl
    · rfl
  | aeq n fs x y =>
    simp only [step, val_h (Gl := Gl) (t := t) (h := g) (g := h)]
    split
    · cases eqA _ _ _ <;> rfl
    · rfl
  | fld o sz ag x =>
    simp only [step, val_h (Gl := Gl) (t := t) (h := g) (g := h)]
    split
    · split
      · split <;> rfl
      · rename_i cs _ _; cases cs[o]? <;> rfl
    · rfl
  | ext k x =>
    simp only [step, val_h (Gl := Gl) (t := t) (h := g) (g := h)]
    split
    · rename_i vs _; cases vs[k]? <;> rfl
    · rfl
  | slice3 sz x y z =>
    simp only [step, val_h (Gl := Gl) (t := t) (h := g) (g := h)]
    split
    · split <;> rfl
    · rfl
  | aidx sz ag n x y =>
    simp only [step, val_h (Gl := Gl) (t := t) (h := g) (g := h)]
    split
    · split
      · split <;> rfl
      · rfl
    · rfl
  | iaddr sz x y =>
    simp only [step, val_h (Gl := Gl) (t := t) (h := g) (g := h)]
    split
    · split <;> rfl
    · split <;> rfl
    · rfl
  | _ => first
    | (cases hc; done)
    | (simp only [step, val_h (Gl := Gl) (t := t) (h := g) (g := h)]; first | rfl | (split <;> rfl))

theorem step_free {σ τ : St} {i : I} (hc : i.cls = 0) (h : ∀ s ∈ i.reads, τ.t.getD s .any = σ.t.getD s .any) {p : Prop} {a : AV} {h' : List AObj} (hs : step Gl σ i = some (p, a, h')) : h' = σ.h ∧ step Gl τ i = some (p, a, τ.h) := by
  have e1 : step Gl ⟨τ.t, σ.h⟩ i = some (p, a, h') := by rw [step_congr (σ := σ) (τ := ⟨τ.t, σ.h⟩) h rfl]; exact hs
  have e2 := step_h (Gl := Gl) (t := τ.t) (h := σ.h) (g := τ.h) hc
  rw [e1] at e2
  have e3 := step_h (Gl := Gl) (t := σ.t) (h := σ.h) (g := σ.h) hc
  have hs' : step Gl ⟨σ.t, σ.h⟩ i = some (p, a, h') := hs
  rw [hs'] at e3
  simp only [Option.map_some, Option.some.injEq, Prod.mk.injEq, true_and] at e3
  exact ⟨e3, e2⟩

/-- What one instruction yields. -/
def eOne (P : Program) (Gl : Nat → Option (List AV)) (d : Bool) (σ : St) (a : AV) (h' : List AObj) : I → Prop
  | .call fo args => ∃ f, σ.val Gl fo = .v (.func (.func f) #[] #[]) ∧ callable P f = true ∧ ∃ as, keepAL σ.h (args.map (σ.val Gl)) = some as ∧ Pure P Gl f as a ∧ (d = true → (if scalar a then σ.h else freeze σ.h ((args.map (σ.val Gl)).flatMap rowsA)) = σ.h) ∧ h' = (if scalar a then σ.h else freeze σ.h ((args.map (σ.val Gl)).flatMap rowsA))
  | i => ∃ p, step Gl σ i = some (p, a, h') ∧ p
def aOne (P : Program) (Gl : Nat → Option (List AV)) (d : Bool) (σ : St) (ins : Ins) (a : AV) (h' : List AObj) : Prop :=
  match ins.gd with
  | none => eOne P Gl d σ a h' ins.i
  | some (s, want) => match σ.t.getD s .any with
    | .v (.bool b) => if b = want then eOne P Gl d σ a h' ins.i else a = und ∧ h' = σ.h
    | .v (.tuple _) => a = und ∧ h' = σ.h
    | _ => False

theorem eOne_iff {σ : St} {dst : Option Nat} {K : St → Prop} {i : I} : aExec P Gl true σ dst K i ↔ ∃ a h', eOne P Gl true σ a h' i ∧ K (St.put ⟨σ.t, h'⟩ dst a) := by
  by_cases hcall : ∃ f args, i = .call f args
  · obtain ⟨f, args, rfl⟩ := hcall
    constructor
    · rintro (⟨h1, _⟩ | ⟨f, hf, hcb, (⟨as, res, h1, h2, h3, h4⟩ | ⟨h1, _⟩)⟩)
      · cases h1
      · exact ⟨res, _, ⟨f, hf, hcb, as, h1, h2, h3, rfl⟩, h4⟩
      · cases h1
    · rintro ⟨res, h', ⟨f, hf, hcb, as, h1, h2, h3, rfl⟩, h4⟩
      exact .inr ⟨f, hf, hcb, .inl ⟨as, res, h1, h2, h3, h4⟩⟩
  · have e1 : aExec P Gl true σ dst K i = (match step Gl σ i with | some (p, a, h') => p ∧ K (St.put ⟨σ.t, h'⟩ dst a) | none => False) := by
      cases i <;> first | rfl | exact absurd ⟨_, _, rfl⟩ hcall
    have e2 : ∀ a h', eOne P Gl true σ a h' i = ∃ p, step Gl σ i = some (p, a, h') ∧ p := fun a h' => by
      cases i <;> first | rfl | exact absurd ⟨_, _, rfl⟩ hcall
    rw [e1]
    constructor
    · intro h
      cases hs : step Gl σ i with
      | none => rw [hs] at h; exact h.elim
      | some q =>
        obtain ⟨p, a, h'⟩ := q
        rw [hs] at h
        exact ⟨a, h', by rw [e2]; exact ⟨p, hs, h.1⟩, h.2⟩
    · rintro ⟨a, h', h1, h2⟩
      rw [e2] at h1
      obtain ⟨p, hs, hp⟩ := h1
      rw [hs]
      exact ⟨hp, h2⟩

theorem aOne_iff {σ : St} {K : St → Prop} {ins : Ins} : aStep P Gl true σ ins K ↔ ∃ a h', aOne P Gl true σ ins a h' ∧ K (St.put ⟨σ.t, h'⟩ ins.dst a) := by
  unfold aStep aOne
  cases ins.gd with
  | none => exact eOne_iff
  | some q =>
    obtain ⟨s, want⟩ := q
    simp only
    generalize σ.t.getD s .any = g
    have no : ∀ {X : AV → List AObj → Prop}, (False ↔ ∃ a h', False ∧ X a h') := fun {X} => ⟨fun h => h.elim, fun ⟨_, _, h, _⟩ => h.elim⟩
    cases g with
    | v x => cases x with
      | bool b =>
        simp only
        by_cases hb : b = want
        · simp only [if_pos hb]; exact eOne_iff
        · simp only [if_neg hb]
          constructor
          · intro h; exact ⟨und, σ.h, ⟨rfl, rfl⟩, h⟩
          · rintro ⟨a, h', ⟨rfl, rfl⟩, h⟩; exact h
      | tuple ys =>
        simp only
        constructor
        · intro h; exact ⟨und, σ.h, ⟨rfl, rfl⟩, h⟩
        · rintro ⟨a, h', ⟨rfl, rfl⟩, h⟩; exact h
      | _ => exact no
    | _ => exact no

/-- The same operands, and the same heap where it counts: the same value. -/
theorem eOne_congr {σ τ : St} {i : I} (h : ∀ s ∈ i.reads, τ.t.getD s .any = σ.t.getD s .any) (hh : i.cls ≠ 0 → τ.h = σ.h) {a : AV} {h' : List AObj} (he : eOne P Gl true σ a h' i) :
    (i.cls ≠ 2 → h' = σ.h) ∧ eOne P Gl true τ a (if i.cls = 2 then h' else τ.h) i := by
  by_cases hcall : ∃ f args, i = .call f args
  · obtain ⟨f, args, rfl⟩ := hcall
    obtain ⟨f', hf, hcb, as, h1, h2, h3, rfl⟩ := he
    have hτ := hh (by simp [I.cls])
    have hA : ∀ s ∈ args.flatMap Opd.slots, τ.t.getD s .any = σ.t.getD s .any := fun s hs => h s (by simp only [I.reads, List.mem_append]; exact .inr hs)
    have hO : τ.val Gl f = σ.val Gl f := val_congr fun s hs => h s (by simp only [I.reads, List.mem_append]; exact .inl hs)
    refine ⟨fun _ => h3 rfl, f', by rw [hO]; exact hf, hcb, as, ?_, h2, ?_, ?_⟩
    · rw [map_congr hA, hτ]; exact h1
    · rw [map_congr hA, hτ]; exact h3
    · rw [map_congr hA, hτ, h3 rfl]; simp [I.cls]
  · have e2 : ∀ (ρ : St) a h', eOne P Gl true ρ a h' i = ∃ p, step Gl ρ i = some (p, a, h') ∧ p := fun ρ a h' => by
      cases i <;> first | rfl | exact absurd ⟨_, _, rfl⟩ hcall
    rw [e2] at he
    obtain ⟨p, hs, hp⟩ := he
    rw [e2]
    by_cases hc : i.cls = 0
    · obtain ⟨q1, q2⟩ := step_free hc h hs
      exact ⟨fun _ => q1, p, by rw [if_neg (by omega)]; exact q2, hp⟩
    · have hτ := hh hc
      have hs2 := step_congr (Gl := Gl) h hτ
      rw [hs] at hs2
      by_cases hc2 : i.cls = 2
      · exact ⟨fun q => absurd hc2 q, p, by rw [if_pos hc2]; exact hs2, hp⟩
      · have hload : h' = σ.h := by
          cases i <;> first | (exact absurd rfl hc) | (exact absurd rfl hc2) | (exact absurd ⟨_, _, rfl⟩ hcall) | skip
          all_goals (simp only [step] at hs)
          all_goals (repeat' split at hs)
          all_goals first
            | (cases hs; done)
            | (cases hs; rfl)
            | (rw [Option.map_eq_some_iff] at hs; obtain ⟨_, _, q⟩ := hs; cases q; rfl)
        refine ⟨fun _ => hload, p, ?_, hp⟩
        rw [if_neg hc2, hτ, ← hload]; exact hs2

theorem aOne_congr {σ τ : St} {ins : Ins} (h : ∀ s ∈ ins.looks, τ.t.getD s .any = σ.t.getD s .any) (hh : ins.i.cls ≠ 0 → τ.h = σ.h) {a : AV} {h' : List AObj} (he : aOne P Gl true σ ins a h') :
    (ins.i.cls ≠ 2 → h' = σ.h) ∧ ∃ h'', aOne P Gl true τ ins a h'' ∧ (ins.i.cls ≠ 2 → h'' = τ.h) ∧ (ins.i.cls = 2 → h'' = h') := by
  have hr : ∀ s ∈ ins.i.reads, τ.t.getD s .any = σ.t.getD s .any := fun s hs => h s (by simp [Ins.looks, hs])
  unfold aOne at he ⊢
  cases hg : ins.gd with
  | none =>
    rw [hg] at he
    obtain ⟨q1, q2⟩ := eOne_congr hr hh he
    exact ⟨q1, _, q2, fun c => if_neg c, fun c => if_pos c⟩
  | some q =>
    obtain ⟨s, want⟩ := q
    rw [hg] at he
    simp only at he ⊢
    rw [h s (by simp [Ins.looks, hg])]
    split at he
    · rename_i b hb
      split at he
      · rename_i hbw
        obtain ⟨q1, q2⟩ := eOne_congr hr hh he
        exact ⟨q1, _, by rw [if_pos hbw]; exact q2, fun c => if_neg c, fun c => if_pos c⟩
      · rename_i hbw
        obtain ⟨rfl, rfl⟩ := he
        refine ⟨fun _ => rfl, τ.h, by rw [if_neg hbw]; exact ⟨rfl, rfl⟩, fun _ => rfl, fun c => hh (by omega)⟩
    · obtain ⟨rfl, rfl⟩ := he
      exact ⟨fun _ => rfl, τ.h, ⟨rfl, rfl⟩, fun _ => rfl, fun c => hh (by omega)⟩
    · exact he.elim

def putT (t : List AV) (d : Option Nat) (a : AV) : List AV :=
  match d with
  | some i => t.set i a
  | none => t
theorem put_eq (σ : St) (h : List AObj) (d : Option Nat) (a : AV) : St.put ⟨σ.t, h⟩ d a = ⟨putT σ.t d a, h⟩ := by cases d <;> rfl
theorem putT_len (t : List AV) (d : Option Nat) (a : AV) : (putT t d a).length = t.length := by cases d <;> simp [putT]
theorem putT_ne {t : List AV} {d : Option Nat} {a : AV} {s : Nat} (h : d ≠ some s) : (putT t d a)[s]? = t[s]? := by
  cases d with
  | none => rfl
  | some i => exact List.getElem?_set_ne (fun e => h (by rw [e]))
theorem putT_eq {t t' : List AV} {d : Option Nat} {a : AV} {s : Nat} (hl : t.length = t'.length) (h : t[s]? = t'[s]?) : (putT t d a)[s]? = (putT t' d a)[s]? := by
  cases d with
  | none => exact h
  | some i => simp only [putT, List.getElem?_set]; rw [hl, h]
theorem putT_self {t t' : List AV} {s : Nat} {a : AV} (hl : t.length = t'.length) : (putT t (some s) a)[s]? = (putT t' (some s) a)[s]? := by
  simp [putT, List.getElem?_set, hl]

def dstOf (l : List Ins) (k : Nat) : Option Nat := (l[k]?).bind (·.dst)
/-- The slots behind those of the first k instructions that S names. -/
def tS (t : List AV) (l : List Ins) (as : Nat → AV) (S : Nat → Bool) : Nat → List AV
  | 0 => t
  | k + 1 => if S k then putT (tS t l as S k) (dstOf l k) (as k) else tS t l as S k
theorem tS_len (t : List AV) (l : List Ins) (as : Nat → AV) (S : Nat → Bool) (k : Nat) : (tS t l as S k).length = t.length := by
  induction k with
  | zero => rfl
  | succ k ih => simp only [tS]; split
                 · rw [putT_len]; exact ih
                 · exact ih
theorem tS_congr {t : List AV} {l : List Ins} {as as' : Nat → AV} {S S' : Nat → Bool} {k : Nat} (h : ∀ j, j < k → as j = as' j ∧ S j = S' j) : tS t l as S k = tS t l as' S' k := by
  induction k with
  | zero => rfl
  | succ k ih =>
    simp only [tS]
    rw [ih fun j hj => h j (by omega), (h k (by omega)).1, (h k (by omega)).2]
theorem tS_at {t : List AV} {l : List Ins} {as : Nat → AV} {S S' : Nat → Bool} {s : Nat} {k : Nat} (h : ∀ j, j < k → dstOf l j = some s → S j = S' j) : (tS t l as S k)[s]? = (tS t l as S' k)[s]? := by
  induction k with
  | zero => rfl
  | succ k ih =>
    have ih' := ih fun j hj => h j (by omega)
    have hl : (tS t l as S k).length = (tS t l as S' k).length := by rw [tS_len, tS_len]
    simp only [tS]
    by_cases hd : dstOf l k = some s
    · rw [h k (by omega) hd, hd]
      split
      · exact putT_self hl
      · exact ih'
    · split <;> split <;> simp only [putT_ne hd, ih']
theorem tS_stop {t : List AV} {l : List Ins} {as : Nat → AV} {S : Nat → Bool} {j k : Nat} (hjk : j ≤ k) (h : ∀ i, j ≤ i → i < k → S i = false) : tS t l as S k = tS t l as S j := by
  induction k with
  | zero => have : j = 0 := by omega
            subst this; rfl
  | succ k ih =>
    rcases Nat.lt_or_ge k j with q | q
    · have : j = k + 1 := by omega
      subst this; rfl
    · simp only [tS]
      rw [h k q (by omega)]
      exact ih q fun i a b => h i a (by omega)

/-- The run of a region in the text's order, step by step. -/
theorem trace {K : St → Prop} {l : List Ins} {σ : St} (h : aOps P Gl true K l σ) : ∃ (as : Nat → AV) (hs : Nat → List AObj), hs 0 = σ.h ∧
    (∀ i ins, l[i]? = some ins → aOne P Gl true ⟨tS σ.t l as (fun _ => true) i, hs i⟩ ins (as i) (hs (i + 1))) ∧ K ⟨tS σ.t l as (fun _ => true) l.length, hs l.length⟩ := by
  have key : ∀ k, k ≤ l.length → ∃ (as : Nat → AV) (hs : Nat → List AObj), hs 0 = σ.h ∧ (∀ i ins, i < k → l[i]? = some ins → aOne P Gl true ⟨tS σ.t l as (fun _ => true) i, hs i⟩ ins (as i) (hs (i + 1))) ∧ aOps P Gl true K (l.drop k) ⟨tS σ.t l as (fun _ => true) k, hs k⟩ := by
    intro k
    induction k with
    | zero => intro _; exact ⟨fun _ => .any, fun _ => σ.h, rfl, fun i ins hi => by omega, h⟩
    | succ k ih =>
      intro hk
      obtain ⟨as, hs, h0, h1, h2⟩ := ih (by omega)
      have hlt : k < l.length := by omega
      rw [List.drop_eq_getElem_cons hlt] at h2
      obtain ⟨a, h', ha, hr⟩ := aOne_iff.1 h2
      refine ⟨fun i => if i = k then a else as i, fun i => if i = k + 1 then h' else hs i, by simp [h0], fun i ins hi hl => ?_, ?_⟩
      · have e1 : tS σ.t l (fun i => if i = k then a else as i) (fun _ => true) i = tS σ.t l as (fun _ => true) i := tS_congr fun j hj => ⟨if_neg (by omega), rfl⟩
        simp only [e1]
        by_cases hik : i = k
        · subst hik
          rw [List.getElem?_eq_getElem hlt] at hl
          cases hl
          simp only [if_true]
          rw [if_neg (by omega)]
          exact ha
        · rw [if_neg (by omega), if_neg hik, if_neg (by omega)]
          exact h1 i ins (by omega) hl
      · have e1 : tS σ.t l (fun i => if i = k then a else as i) (fun _ => true) k = tS σ.t l as (fun _ => true) k := tS_congr fun j hj => ⟨if_neg (by omega), rfl⟩
        simp only [tS, if_true, e1]
        rw [put_eq] at hr
        have e2 : dstOf l k = l[k].dst := by simp [dstOf, List.getElem?_eq_getElem hlt]
        rw [e2]
        exact hr
  obtain ⟨as, hs, h0, h1, h2⟩ := key l.length (Nat.le_refl _)
  refine ⟨as, hs, h0, fun i ins hl => h1 i ins (List.getElem?_eq_some_iff.1 hl).1 hl, ?_⟩
  rw [List.drop_length] at h2
  exact h2
end
end Abs
end Go.Proofs.YtnhgeocdffhkjaaDoor
