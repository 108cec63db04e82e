/- The abstract machine: a region that draws its order; readers of memory that no writer turns need no order. -/
import Derived.Test.YtnhgeocdffhkjaaDoorAbsA
namespace Go.Proofs.YtnhgeocdffhkjaaDoor
namespace Abs
open Go.RowKit
set_option linter.unusedVariables false
set_option linter.unusedSimpArgs false

def I.isCall : I → Bool
  | .call .. => true
  | _ => false
/-- The blocks that an instruction reads. -/
def I.ids (Gl : Nat → Option (List AV)) (σ : St) : I → List Nat
  | .load _ _ x => match σ.val Gl x with | .ptr id _ _ _ => [id] | _ => []
  | .aaddr _ _ _ x _ => match σ.val Gl x with | .ptr id _ _ _ => [id] | _ => []
  | .aslice _ _ x _ _ => match σ.val Gl x with | .ptr id _ _ _ => [id] | _ => []
  | .b2s x => match σ.val Gl x with | .row id _ _ _ _ => [id] | _ => []
  | .mget _ _ _ x _ => match σ.val Gl x with | .mp id => [id] | _ => []
  | .call _ args => (args.map (σ.val Gl)).flatMap rowsA
  | _ => []
/-- Of the first N blocks those outside U are the same. -/
def agree (N : Nat) (U : List Nat) (h h' : List AObj) : Prop := ∀ id, id < N → id ∉ U → h'[id]? = h[id]?
theorem agree.symm {N : Nat} {U : List Nat} {h h' : List AObj} (a : agree N U h h') : agree N U h' h := fun id p q => (a id p q).symm
def mcls (p : Nat × Ins) : Nat := match p.1 with
  | 0 => p.2.i.cls
  | 1 => 1
  | _ => 2
theorem mcls_0 {p : Nat × Ins} (h : p.1 = 0) : mcls p = p.2.i.cls := by obtain ⟨m, i⟩ := p; simp only at h; subst h; rfl
theorem mcls_1 {p : Nat × Ins} (h : p.1 = 1) : mcls p = 1 := by obtain ⟨m, i⟩ := p; simp only at h; subst h; rfl
theorem mcls_2 {p : Nat × Ins} (h : p.1 = 2) : mcls p = 2 := by obtain ⟨m, i⟩ := p; simp only at h; subst h; rfl
def clashR (a b : Nat × Ins) : Bool :=
  (match a.2.dst with | some d => b.2.looks.contains d || b.2.dst == some d | none => false) || (match b.2.dst with | some d => a.2.looks.contains d | none => false) ||
  (mcls a == 2 && mcls b != 0 && !(a.1 == 2 && b.1 == 1)) || (mcls b == 2 && mcls a != 0 && !(b.1 == 2 && a.1 == 1)) || (a.2.i.isCall && b.2.i.isCall)
/-- A call of one of these functions turns its caller's memory. -/
def isHc (hc : List Nat) : I → Bool
  | .call (.k (.func (.func f) _ _)) _ => hc.any (Nat.beq f)
  | _ => false
/-- The marks: readers that some writer is not ordered with, and those writers; calls that turn memory. -/
def marks (hc : List Nat) (ops : Array Oper) (l : List Ins) : List (Nat × Ins) :=
  let bm := Region.before ops
  let cl := fun (a : Ins) => if isHc hc a.i then 2 else a.i.cls
  l.zipIdx.map fun (a, i) => (if isHc hc a.i then 2 else if cl a != 0 && l.zipIdx.any (fun (b, j) => cl a + cl b == 3 && cl b != 0 && !(tb bm i j || tb bm j i)) then cl a else 0, a)
def drawOkR (ops : Array Oper) (l : List (Nat × Ins)) : Bool :=
  let bm := Region.before ops
  let n := ops.size
  l.all (fun p => p.1 == 0 || p.1 == 2 || (p.1 == 1 && Nat.ble p.2.i.cls 1)) && (List.range n).all fun i => (direct ops i).all (fun d => decide (d < i)) &&
    (List.range i).all fun j => (!tb bm i j || (direct ops i).contains j || (direct ops i).any fun d => decide (j < d) && tb bm d j) && (!clashR (l.getD j default) (l.getD i default) || tb bm i j)

theorem marks_len (hc : List Nat) (ops : Array Oper) (l : List Ins) : (marks hc ops l).length = l.length := by simp [marks]
theorem marks_at {hc : List Nat} {ops : Array Oper} {l : List Ins} {j : Nat} {i : Ins} (h : l[j]? = some i) : ∃ m, (marks hc ops l)[j]? = some (m, i) := by
  simp only [marks, List.getElem?_map, List.getElem?_zipIdx, h, Option.map_some, Nat.zero_add]
  exact ⟨_, rfl⟩

/-- The guard holds. -/
def wants (σ : St) (ins : Ins) : Prop := match ins.gd with
  | none => True
  | some (s, want) => σ.t.getD s .any = .v (.bool want)
def stepR (P : Program) (Gl : Nat → Option (List AV)) (N : Nat) (U : List Nat) (p : Nat × Ins) (σ : St) (K : St → Prop) : Prop := match p.1 with
  | 0 => aStep P Gl true σ p.2 K
  | 1 => (wants σ p.2 → ∀ id ∈ p.2.i.ids Gl σ, id < N ∧ id ∉ U) ∧ aStep P Gl true σ p.2 K
  | _ => aStep P Gl false σ p.2 fun ρ => agree N U σ.h ρ.h ∧ K ρ
/-- A region with marks: a marked reader reads what was there ahead of the region, outside U; a marked writer leaves that as it is. -/
def aOpsR (P : Program) (Gl : Nat → Option (List AV)) (N : Nat) (U : List Nat) (K : St → Prop) : List (Nat × Ins) → St → Prop
  | [], σ => K σ
  | p :: r, σ => stepR P Gl N U p σ (aOpsR P Gl N U K r)

section
variable {P : Program} {Gl : Nat → Option (List AV)} {F : Addr → Option Value} {own : List Ent} {B : Nat} {w0 : W0} {σ τ : St} {act : Act} {w : World} {N : Nat} {U : List Nat}

theorem drawOkR_spec {ops : Array Oper} {l : List (Nat × Ins)} (h : drawOkR ops l = true) :
    (∀ i d, i < ops.size → d ∈ direct ops i → d < i) ∧ (∀ i j, j < i → i < ops.size → tb (Region.before ops) i j = true → j ∈ direct ops i ∨ ∃ d ∈ direct ops i, j < d ∧ tb (Region.before ops) d j = true) ∧
    (∀ i j, j < i → i < ops.size → clashR (l.getD j default) (l.getD i default) = true → tb (Region.before ops) i j = true) ∧ ∀ p ∈ l, p.1 = 0 ∨ p.1 = 2 ∨ (p.1 = 1 ∧ p.2.i.cls ≤ 1) := by
  unfold drawOkR at h
  rw [Bool.and_eq_true] at h
  obtain ⟨hm, h⟩ := h
  have h1 : ∀ i, i < ops.size → _ := fun i hi => List.all_eq_true.1 h i (List.mem_range.2 hi)
  refine ⟨fun i d hi hd => ?_, fun i j hj hi ht => ?_, fun i j hj hi hc => ?_, fun p hp => ?_⟩
  · have := h1 i hi
    rw [Bool.and_eq_true] at this
    exact of_decide_eq_true (List.all_eq_true.1 this.1 d hd)
  · have := h1 i hi
    rw [Bool.and_eq_true] at this
    have := List.all_eq_true.1 this.2 j (List.mem_range.2 hj)
    rw [Bool.and_eq_true] at this
    have := this.1
    simp only [ht, Bool.not_true, Bool.false_or, Bool.or_eq_true] at this
    rcases this with q | q
    · exact .inl (List.contains_iff_mem.1 q)
    · obtain ⟨d, hd, hq⟩ := List.any_eq_true.1 q
      rw [Bool.and_eq_true] at hq
      exact .inr ⟨d, hd, of_decide_eq_true hq.1, hq.2⟩
  · have := h1 i hi
    rw [Bool.and_eq_true] at this
    have := List.all_eq_true.1 this.2 j (List.mem_range.2 hj)
    rw [Bool.and_eq_true] at this
    have := this.2
    rw [hc] at this
    exact this
  · have := List.all_eq_true.1 hm p hp
    simp only [Bool.or_eq_true, Bool.and_eq_true, beq_iff_eq] at this
    rcases this with (q | q) | ⟨q, r⟩
    · exact .inl q
    · exact .inr (.inl q)
    · exact .inr (.inr ⟨q, Nat.le_of_ble_eq_true r⟩)

/-- What two instructions that do not clash have to do with each other. -/
theorem noclash {a b : Nat × Ins} (h : clashR a b = false) :
    (∀ d, a.2.dst = some d → d ∉ b.2.looks ∧ b.2.dst ≠ some d) ∧ (∀ d, b.2.dst = some d → d ∉ a.2.looks) ∧
    (mcls a = 2 → mcls b = 0 ∨ (a.1 = 2 ∧ b.1 = 1)) ∧ (mcls b = 2 → mcls a = 0 ∨ (b.1 = 2 ∧ a.1 = 1)) ∧ (a.2.i.isCall = true → b.2.i.isCall = false) := by
  unfold clashR at h
  simp only [Bool.or_eq_false_iff] at h
  obtain ⟨⟨⟨⟨h1, h2⟩, h3⟩, h4⟩, h5⟩ := h
  refine ⟨fun d hd => ?_, fun d hd => ?_, fun hm => ?_, fun hm => ?_, fun hm => ?_⟩
  · rw [hd] at h1
    simp only [Bool.or_eq_false_iff, beq_eq_false_iff_ne] at h1
    exact ⟨(fun q => by rw [List.contains_iff_mem.2 q] at h1; cases h1.1), h1.2⟩
  · rw [hd] at h2
    simp only at h2
    exact fun q => by rw [List.contains_iff_mem.2 q] at h2; cases h2
  · rw [hm] at h3
    simp at h3
    by_cases q : mcls b = 0
    · exact .inl q
    · exact .inr (h3 q)
  · rw [hm] at h4
    simp at h4
    by_cases q : mcls a = 0
    · exact .inl q
    · exact .inr (h4 q)
  · rw [hm] at h5
    simpa using h5

/-- An instruction other than a call: what it asks, its value, the heap. -/
def outc (Gl : Nat → Option (List AV)) (σ : St) (ins : Ins) : Option (Prop × AV × List AObj) := match ins.gd with
  | none => step Gl σ ins.i
  | some (s, want) => match σ.t.getD s .any with
    | .v (.bool b) => if b = want then step Gl σ ins.i else some (True, und, σ.h)
    | .v (.tuple _) => some (True, und, σ.h)
    | _ => none
theorem aExec_nc {d : Bool} {dst : Option Nat} {K : St → Prop} {i : I} (hn : i.isCall = false) : aExec P Gl d σ dst K i ↔ ∃ q a h', step Gl σ i = some (q, a, h') ∧ q ∧ K (St.put ⟨σ.t, h'⟩ dst a) := by
  have e : aExec P Gl d σ dst K i = (match step Gl σ i with | some (p, a, h') => p ∧ K (St.put ⟨σ.t, h'⟩ dst a) | none => False) := by cases i <;> first | rfl | (cases hn; done)
  rw [e]
  cases hs : step Gl σ i with
  | none => exact ⟨fun h => h.elim, fun ⟨_, _, _, h, _⟩ => by cases h⟩
  | some q => obtain ⟨p, a, h'⟩ := q; exact ⟨fun h => ⟨p, a, h', rfl, h⟩, fun ⟨_, _, _, h, r⟩ => by cases h; exact r⟩
theorem aStep_nc {d : Bool} {K : St → Prop} {ins : Ins} (hn : ins.i.isCall = false) : aStep P Gl d σ ins K ↔ ∃ q a h', outc Gl σ ins = some (q, a, h') ∧ q ∧ K (St.put ⟨σ.t, h'⟩ ins.dst a) := by
  unfold aStep outc
  cases ins.gd with
  | none => exact aExec_nc hn
  | some g =>
    obtain ⟨s, want⟩ := g
    simp only
    have one : ∀ {X : Prop}, K (σ.put ins.dst und) ↔ ∃ q a h', some ((True : Prop), und, σ.h) = some (q, a, h') ∧ q ∧ K (St.put ⟨σ.t, h'⟩ ins.dst a) := fun {X} => ⟨fun h => ⟨_, _, _, rfl, trivial, h⟩, fun ⟨_, _, _, h, _, r⟩ => by cases h; exact r⟩
    have no : False ↔ ∃ q a h', (none : Option (Prop × AV × List AObj)) = some (q, a, h') ∧ q ∧ K (St.put ⟨σ.t, h'⟩ ins.dst a) := ⟨fun h => h.elim, fun ⟨_, _, _, h, _⟩ => by cases h⟩
    generalize σ.t.getD s .any = g
    cases g with
    | v x => cases x with
      | bool b =>
        simp only
        by_cases hb : b = want
        · simp only [if_pos hb]; exact aExec_nc hn
        · simp only [if_neg hb]; exact one (X := True)
      | tuple ys => exact one (X := True)
      | _ => exact no
    | _ => exact no

theorem step_ids {i : I} (hc : i.cls ≤ 1) (hn : i.isCall = false) (hl : ∀ s ∈ i.reads, τ.t.getD s .any = σ.t.getD s .any) (hi : ∀ id ∈ i.ids Gl σ, τ.h[id]? = σ.h[id]?) {q : Prop} {a : AV} {h' : List AObj} (hs : step Gl σ i = some (q, a, h')) : h' = σ.h ∧ step Gl τ i = some (q, a, τ.h) := by
  by_cases h0 : i.cls = 0
  · exact step_free h0 hl hs
  · have e1 : step Gl ⟨τ.t, σ.h⟩ i = some (q, a, h') := by rw [step_congr (σ := σ) (τ := ⟨τ.t, σ.h⟩) hl rfl]; exact hs
    have hv : ∀ x : Opd, (∀ s ∈ x.slots, s ∈ i.reads) → σ.val Gl x = St.val Gl ⟨τ.t, σ.h⟩ x := fun x hx => (val_congr (σ := σ) (τ := ⟨τ.t, σ.h⟩) fun s hs => hl s (hx s hs)).symm
    have hvh : ∀ x : Opd, τ.val Gl x = St.val Gl ⟨τ.t, σ.h⟩ x := fun x => by cases x <;> rfl
    cases i with
    | load sz ag x =>
      have hvx := hv x (fun s hs => hs)
      simp only [I.ids, hvx] at hi
      simp only [step, hvh] at e1 ⊢
      split at e1
      · split at e1
        · rename_i hag
          rw [if_pos hag]
          split at e1
          · rename_i hsz; cases e1; rw [if_pos hsz]; exact ⟨rfl, rfl⟩
          · cases e1
        · rename_i cs _ hag
          rw [if_neg hag]
          cases cs with
          | nil => cases e1
          | cons c cs => cases e1; exact ⟨rfl, rfl⟩
      · rename_i id G j o hp
        rw [hp] at hi
        rw [hi id (by simp)]
        split at e1
        · rename_i ob hob
          split at e1
          · rename_i hG
            rw [if_pos hG]
            split at e1
            · rename_i hag; cases e1; rw [if_pos hag]; exact ⟨rfl, rfl⟩
            · rename_i hag; cases e1; rw [if_neg hag]; exact ⟨rfl, rfl⟩
          · cases e1
        · cases e1
      · cases e1
    | aaddr bsz st n x k =>
      have hvx := hv x (fun s hs => by simp only [I.reads, List.mem_append]; exact .inl hs)
      simp only [I.ids, hvx] at hi
      simp only [step, hvh] at e1 ⊢
      split at e1
      · rename_i id G j o k' m hp hp2
        rw [hp] at hi
        rw [hi id (by simp)]
        split at e1
        · rename_i ob hob
          split at e1
          · rename_i hG; cases e1; rw [if_pos hG]; exact ⟨rfl, rfl⟩
          · rename_i hG
            split at e1
            · rename_i hG2; cases e1; rw [if_neg hG, if_pos hG2]; exact ⟨rfl, rfl⟩
            · cases e1
        · cases e1
      · cases e1; exact ⟨rfl, rfl⟩
      · cases e1
    | b2s x =>
      have hvx := hv x (fun s hs => hs)
      simp only [I.ids, hvx] at hi
      simp only [step, hvh] at e1 ⊢
      have he : elemsOf τ.h 1 (St.val Gl ⟨τ.t, σ.h⟩ x) = elemsOf σ.h 1 (St.val Gl ⟨τ.t, σ.h⟩ x) := by
        cases hx : St.val Gl ⟨τ.t, σ.h⟩ x with
        | row id G sz off len => rw [hx] at hi; simp only [elemsOf, hi id (by simp)]
        | v y =>
          by_cases hy : y = .slice none 0 0
          · subst hy; rfl
          · have e0 : ∀ h : List AObj, elemsOf h 1 (.v y) = none := fun h => by
              unfold elemsOf
              split
              · rename_i q; cases q
              · rename_i q; cases q; exact absurd rfl hy
              · rename_i q; cases q
              · rfl
            rw [e0, e0]
        | _ => simp only [elemsOf]
      rw [he]
      split at e1
      · rename_i ys hys
        cases hb : bytesOf ys with
        | none => rw [hb] at e1; cases e1
        | some l => rw [hb] at e1; cases e1; exact ⟨rfl, rfl⟩
      · cases e1
    | aslice bsz n x lo hi' =>
      have hvx := hv x (fun s hs => by simp only [I.reads, List.mem_append]; exact .inl (.inl hs))
      have hm : ∀ q : Option Opd, q.map (τ.val Gl) = q.map (St.val Gl ⟨τ.t, σ.h⟩) := fun q => by cases q <;> simp [hvh]
      simp only [I.ids, hvx] at hi
      simp only [step, hvh, hm] at e1 ⊢
      split at e1
      · rename_i id G j o hp
        rw [hp] at hi
        rw [hi id (by simp)]
        split at e1
        · rename_i ob hob
          split at e1
          · rename_i hG
            rw [if_pos hG]
            cases hq : cutB n (lo.map (St.val Gl ⟨τ.t, σ.h⟩)) (hi'.map (St.val Gl ⟨τ.t, σ.h⟩)) with
            | none => rw [hq] at e1; cases e1
            | some q => rw [hq] at e1; cases e1; exact ⟨rfl, rfl⟩
          · rename_i hG
            rw [if_neg hG]
            split at e1
            · rename_i hG2
              rw [if_pos hG2]
              cases hq : cutB n (lo.map (St.val Gl ⟨τ.t, σ.h⟩)) (hi'.map (St.val Gl ⟨τ.t, σ.h⟩)) with
              | none => rw [hq] at e1; cases e1
              | some q => rw [hq] at e1; cases e1; exact ⟨rfl, rfl⟩
            · cases e1
        · cases e1
      · cases e1
    | mget kt ok z x k =>
      have hvx := hv x (fun s hs => by simp only [I.reads, List.mem_append]; exact .inl hs)
      simp only [I.ids, hvx] at hi
      simp only [step, hvh] at e1 ⊢
      split at e1
      · rename_i id hp
        rw [hp] at hi
        rw [hi id (by simp)]
        split at e1
        · rename_i ob hob
          split at e1
          · rename_i hG
            rw [if_pos hG]
            split at e1
            · cases e1; exact ⟨rfl, rfl⟩
            · cases e1; exact ⟨rfl, rfl⟩
          · cases e1
        · cases e1
      · cases e1
    | call f as => cases hn
    | _ => first | exact absurd rfl h0 | (simp [I.cls] at hc; done)

theorem looks_reads {ins : Ins} (h : ∀ s ∈ ins.looks, τ.t.getD s .any = σ.t.getD s .any) : ∀ s ∈ ins.i.reads, τ.t.getD s .any = σ.t.getD s .any := fun s hs => h s (by simp [Ins.looks, hs])
theorem looks_gd {ins : Ins} {s : Nat} {want : Bool} (h : ∀ s ∈ ins.looks, τ.t.getD s .any = σ.t.getD s .any) (hg : ins.gd = some (s, want)) : τ.t.getD s .any = σ.t.getD s .any := h s (by simp [Ins.looks, hg])

theorem wants_congr {ins : Ins} (hl : ∀ s ∈ ins.looks, τ.t.getD s .any = σ.t.getD s .any) : wants τ ins = wants σ ins := by
  unfold wants
  cases hg : ins.gd with
  | none => rfl
  | some g => obtain ⟨s, want⟩ := g; simp only; rw [looks_gd hl hg]
theorem outc_ids {ins : Ins} (hc : ins.i.cls ≤ 1) (hn : ins.i.isCall = false) (hl : ∀ s ∈ ins.looks, τ.t.getD s .any = σ.t.getD s .any) (hi : wants σ ins → ∀ id ∈ ins.i.ids Gl σ, τ.h[id]? = σ.h[id]?) {q : Prop} {a : AV} {h' : List AObj} (hs : outc Gl σ ins = some (q, a, h')) : h' = σ.h ∧ outc Gl τ ins = some (q, a, τ.h) := by
  unfold outc at hs ⊢
  cases hg : ins.gd with
  | none => rw [hg] at hs; exact step_ids hc hn (looks_reads hl) (hi (by unfold wants; rw [hg]; trivial)) hs
  | some g =>
    obtain ⟨s, want⟩ := g
    rw [hg] at hs
    simp only at hs ⊢
    rw [looks_gd hl hg]
    split at hs
    · rename_i b hb
      split at hs
      · rename_i hbw; rw [if_pos hbw]; exact step_ids hc hn (looks_reads hl) (hi (by unfold wants; rw [hg]; simp only; rw [hb, hbw])) hs
      · rename_i hbw; rw [if_neg hbw]; cases hs; exact ⟨rfl, rfl⟩
    · cases hs; exact ⟨rfl, rfl⟩
    · cases hs
theorem outc_eq {ins : Ins} (hl : ∀ s ∈ ins.looks, τ.t.getD s .any = σ.t.getD s .any) (hh : τ.h = σ.h) : outc Gl τ ins = outc Gl σ ins := by
  unfold outc
  rw [step_congr (looks_reads hl) hh, hh]
  cases hg : ins.gd with
  | none => rfl
  | some g => obtain ⟨s, want⟩ := g; simp only; rw [looks_gd hl hg]
theorem outc_cls {ins : Ins} (hc : ins.i.cls ≤ 1) (hn : ins.i.isCall = false) {q : Prop} {a : AV} {h' : List AObj} (hs : outc Gl σ ins = some (q, a, h')) : h' = σ.h := (outc_ids (τ := σ) hc hn (fun _ _ => rfl) (fun _ _ _ => rfl) hs).1
theorem ids_congr {i : I} (hl : ∀ s ∈ i.reads, τ.t.getD s .any = σ.t.getD s .any) : i.ids Gl τ = i.ids Gl σ := by
  have hv : ∀ x : Opd, (∀ s ∈ x.slots, s ∈ i.reads) → τ.val Gl x = σ.val Gl x := fun x hx => val_congr fun s hs => hl s (hx s hs)
  cases i with
  | load sz ag x => simp only [I.ids, hv x (fun s hs => hs)]
  | aaddr bsz st n x k => simp only [I.ids, hv x (fun s hs => by simp only [I.reads, List.mem_append]; exact .inl hs)]
  | aslice bsz n x lo hi => simp only [I.ids, hv x (fun s hs => by simp only [I.reads, List.mem_append]; exact .inl (.inl hs))]
  | b2s x => simp only [I.ids, hv x (fun s hs => hs)]
  | mget kt ok z x k => simp only [I.ids, hv x (fun s hs => by simp only [I.reads, List.mem_append]; exact .inl hs)]
  | call f as => simp only [I.ids, map_congr (Gl := Gl) (σ := σ) (τ := τ) (xs := as) fun s hs => hl s (by simp only [I.reads, List.mem_append]; exact .inr hs)]
  | _ => rfl

/-- What an instruction other than a call comes to in a region with marks. -/
def D (Gl : Nat → Option (List AV)) (N : Nat) (U : List Nat) (p : Nat × Ins) (σ : St) (v : AV) (h2 : List AObj) : Prop :=
  (∃ q, outc Gl σ p.2 = some (q, v, h2) ∧ q) ∧ (p.1 = 1 → wants σ p.2 → ∀ id ∈ p.2.i.ids Gl σ, id < N ∧ id ∉ U) ∧ (2 ≤ p.1 → agree N U σ.h h2)
theorem stepR_D {p : Nat × Ins} (hn : p.2.i.isCall = false) {K : St → Prop} : stepR P Gl N U p σ K ↔ ∃ v h2, D Gl N U p σ v h2 ∧ K (St.put ⟨σ.t, h2⟩ p.2.dst v) := by
  obtain ⟨m, ins⟩ := p
  have ph : ∀ (h2 : List AObj) (v : AV), (St.put ⟨σ.t, h2⟩ ins.dst v).h = h2 := fun h2 v => by cases ins.dst <;> rfl
  match m with
  | 0 =>
    show aStep P Gl true σ ins K ↔ _
    rw [aStep_nc hn]
    constructor
    · rintro ⟨q, a, h', e, hq, hK⟩; exact ⟨a, h', ⟨⟨q, e, hq⟩, (fun r => by cases r), (fun r => absurd r (by simp))⟩, hK⟩
    · rintro ⟨a, h', ⟨⟨q, e, hq⟩, _, _⟩, hK⟩; exact ⟨q, a, h', e, hq, hK⟩
  | 1 =>
    show (_ ∧ aStep P Gl true σ ins K) ↔ _
    rw [aStep_nc hn]
    constructor
    · rintro ⟨hi, q, a, h', e, hq, hK⟩; exact ⟨a, h', ⟨⟨q, e, hq⟩, fun _ => hi, (fun r => absurd r (by simp))⟩, hK⟩
    · rintro ⟨a, h', ⟨⟨q, e, hq⟩, hi, _⟩, hK⟩; exact ⟨hi rfl, q, a, h', e, hq, hK⟩
  | m + 2 =>
    show aStep P Gl false σ ins _ ↔ _
    rw [aStep_nc hn]
    constructor
    · rintro ⟨q, a, h', e, hq, hA, hK⟩
      rw [ph] at hA
      exact ⟨a, h', ⟨⟨q, e, hq⟩, (fun r => absurd r (by simp)), fun _ => hA⟩, hK⟩
    · rintro ⟨a, h', ⟨⟨q, e, hq⟩, _, hA⟩, hK⟩; exact ⟨q, a, h', e, hq, by rw [ph]; exact hA (by simp), hK⟩
theorem D.fn {p : Nat × Ins} {v v' : AV} {h h' : List AObj} (a : D Gl N U p σ v h) (b : D Gl N U p σ v' h') : v = v' ∧ h = h' := by
  obtain ⟨⟨q, e, _⟩, _⟩ := a
  obtain ⟨⟨q', e', _⟩, _⟩ := b
  rw [e] at e'; cases e'; exact ⟨rfl, rfl⟩
def okM (p : Nat × Ins) : Prop := p.1 = 0 ∨ p.1 = 2 ∨ (p.1 = 1 ∧ p.2.i.cls ≤ 1)
theorem D.tr {p : Nat × Ins} (hm : okM p) (hn : p.2.i.isCall = false) (hl : ∀ s ∈ p.2.looks, τ.t.getD s .any = σ.t.getD s .any) (hh : τ.h = σ.h ∨ mcls p = 0 ∨ (p.1 = 1 ∧ agree N U σ.h τ.h)) {v : AV} {h2 : List AObj} (h : D Gl N U p σ v h2) :
    D Gl N U p τ v (if mcls p = 2 then h2 else τ.h) ∧ (mcls p ≠ 2 → h2 = σ.h) := by
  obtain ⟨⟨q, e, hq⟩, hi, ha⟩ := h
  have hi' : p.1 = 1 → wants τ p.2 → ∀ id ∈ p.2.i.ids Gl τ, id < N ∧ id ∉ U := fun r => by rw [ids_congr (looks_reads hl), wants_congr hl]; exact hi r
  have low : p.2.i.cls ≤ 1 → (wants σ p.2 → ∀ id ∈ p.2.i.ids Gl σ, τ.h[id]? = σ.h[id]?) → mcls p ≠ 2 → D Gl N U p τ v (if mcls p = 2 then h2 else τ.h) ∧ (mcls p ≠ 2 → h2 = σ.h) := by
    intro hc hids h2'
    obtain ⟨e1, e2⟩ := outc_ids hc hn hl hids e
    refine ⟨?_, fun _ => e1⟩
    rw [if_neg h2']
    refine ⟨⟨q, e2, hq⟩, hi', fun r => ?_⟩
    exfalso
    rcases hm with m | m | ⟨m, _⟩
    · omega
    · exact h2' (mcls_2 m)
    · omega
  rcases hh with hh | hh | ⟨hh, hag⟩
  · have e' := outc_eq (Gl := Gl) hl hh
    rw [e] at e'
    have hc2 : mcls p ≠ 2 → h2 = σ.h := fun hne => by
      rcases hm with m | m | ⟨m, c⟩
      · have := mcls_0 m
        have hle : p.2.i.cls ≤ 2 := by cases p.2.i <;> simp [I.cls]
        exact outc_cls (by omega) hn e
      · exact absurd (mcls_2 m) hne
      · exact outc_cls c hn e
    refine ⟨⟨⟨q, ?_, hq⟩, hi', fun r => ?_⟩, hc2⟩
    · split
      · exact e'
      · rename_i hne; rw [hh, ← hc2 hne]; exact e'
    · rw [hh]
      split
      · exact ha r
      · exact fun _ _ _ => rfl
  · have h0 : p.1 = 0 := by
      rcases hm with m | m | ⟨m, _⟩
      · exact m
      · rw [mcls_2 m] at hh; cases hh
      · rw [mcls_1 m] at hh; cases hh
    have hc : p.2.i.cls = 0 := by rw [← mcls_0 h0]; exact hh
    refine low (by omega) ?_ (by omega)
    have : p.2.i.ids Gl σ = [] := by cases hp : p.2.i <;> first | rfl | (rw [hp] at hc; cases hc)
    rw [this]; intro _ id hid; cases hid
  · have hc : p.2.i.cls ≤ 1 := by
      rcases hm with m | m | ⟨_, m⟩
      · omega
      · omega
      · exact m
    exact low hc (fun hw id hid => hag id (hi hh hw id hid).1 (hi hh hw id hid).2) (by rw [mcls_1 hh]; simp)

theorem keep1_ids {h g : List AObj} {a : AV} (hr : ∀ id ∈ rows1 a, g[id]? = h[id]?) : keep1 g a = keep1 h a := by
  cases a with
  | row id G sz off len => simp only [keep1]; rw [hr id (by simp [rows1])]
  | _ => rfl
theorem keepL_ids {h g : List AObj} : ∀ {cs : List AV}, (∀ id ∈ cs.flatMap rows1, g[id]? = h[id]?) → keepL g cs = keepL h cs := by
  intro cs
  induction cs with
  | nil => intro _; rfl
  | cons c cs ih =>
    intro hr
    simp only [keepL]
    rw [keep1_ids fun id hi => hr id (by simp only [List.flatMap_cons, List.mem_append]; exact .inl hi), ih fun id hi => hr id (by simp only [List.flatMap_cons, List.mem_append]; exact .inr hi)]
theorem keepA_ids {h g : List AObj} {a : AV} (hr : ∀ id ∈ rowsA a, g[id]? = h[id]?) : keepA g a = keepA h a := by
  cases a with
  | agg cs => simp only [keepA]; rw [keepL_ids hr]
  | row id G sz off len => exact keep1_ids (a := .row id G sz off len) hr
  | _ => rfl
theorem keepAL_ids {h g : List AObj} : ∀ {cs : List AV}, (∀ id ∈ cs.flatMap rowsA, g[id]? = h[id]?) → keepAL g cs = keepAL h cs := by
  intro cs
  induction cs with
  | nil => intro _; rfl
  | cons c cs ih =>
    intro hr
    simp only [keepAL]
    rw [keepA_ids fun id hi => hr id (by simp only [List.flatMap_cons, List.mem_append]; exact .inl hi), ih fun id hi => hr id (by simp only [List.flatMap_cons, List.mem_append]; exact .inr hi)]
theorem set_self {α : Type} {l : List α} {i : Nat} {x : α} (h : l[i]? = some x) : l.set i x = l := by
  apply List.ext_getElem?
  intro j
  rw [List.getElem?_set]
  split
  · rename_i hj
    subst hj
    split
    · exact h.symm
    · rename_i hl; rw [List.getElem?_eq_none (by omega)]
  · rfl
theorem frz_at : ∀ (ids : List Nat) (h : List AObj) (j : Nat) (o : AObj), (freeze h ids)[j]? = some o → ∃ o', h[j]? = some o' ∧ o'.es = o.es ∧ (j ∈ ids → o.fz = o.es.length) ∧ (o.fz = o'.fz ∨ o.fz = o.es.length) := by
  intro ids
  induction ids with
  | nil => intro h j o e; exact ⟨o, e, rfl, fun q => by simp at q, .inl rfl⟩
  | cons id ids ih =>
    intro h j o e
    simp only [freeze, List.foldl_cons] at e
    cases ho : h[id]? with
    | none =>
      rw [ho] at e
      simp only at e
      obtain ⟨o', e1, e2, e3, e4⟩ := ih h j o e
      refine ⟨o', e1, e2, fun q => ?_, e4⟩
      rcases List.mem_cons.1 q with r | r
      · subst r; rw [ho] at e1; cases e1
      · exact e3 r
    | some ob =>
      rw [ho] at e
      simp only at e
      obtain ⟨o', e1, e2, e3, e4⟩ := ih _ j o e
      rw [List.getElem?_set] at e1
      split at e1
      · rename_i hj
        subst hj
        split at e1
        · cases e1
          refine ⟨ob, ho, e2, fun _ => ?_, ?_⟩
          · rcases e4 with r | r
            · rw [r]; simp only at e2 ⊢; rw [e2]
            · exact r
          · rcases e4 with r | r
            · right; rw [r]; simp only at e2 ⊢; rw [e2]
            · exact .inr r
        · cases e1
      · rename_i hj
        refine ⟨o', e1, e2, fun q => ?_, e4⟩
        rcases List.mem_cons.1 q with r | r
        · exact absurd r.symm hj
        · exact e3 r
theorem freeze_id : ∀ (ids : List Nat) (h : List AObj), (∀ id ∈ ids, ∀ o, h[id]? = some o → o.fz = o.es.length) → freeze h ids = h := by
  intro ids
  induction ids with
  | nil => intro h _; rfl
  | cons id ids ih =>
    intro h hq
    simp only [freeze, List.foldl_cons]
    cases ho : h[id]? with
    | none => exact ih h fun j hj => hq j (by simp [hj])
    | some ob =>
      simp only
      have : ({ ob with fz := ob.es.length } : AObj) = ob := by
        have := hq id (by simp) ob ho
        rw [← this]
      rw [this, set_self ho]
      exact ih h fun j hj => hq j (by simp [hj])
theorem freeze_same {h g : List AObj} {ids : List Nat} (hr : ∀ id ∈ ids, g[id]? = h[id]?) (hf : freeze h ids = h) : freeze g ids = g := by
  refine freeze_id ids g fun id hi o ho => ?_
  rw [hr id hi] at ho
  rw [← hf] at ho
  obtain ⟨_, _, _, e3, _⟩ := frz_at ids h id o ho
  exact e3 hi

/-- A step of a region with marks, from a state that agrees on what it reads. -/
theorem stepR_tr {p : Nat × Ins} {K1 K2 : St → Prop} (hm : okM p) (hl : ∀ s ∈ p.2.looks, τ.t.getD s .any = σ.t.getD s .any) (hh : τ.h = σ.h ∨ mcls p = 0 ∨ (p.1 = 1 ∧ agree N U σ.h τ.h))
    (hK : ∀ v h1, K1 (St.put ⟨σ.t, h1⟩ p.2.dst v) → (mcls p ≠ 2 → h1 = σ.h) → (2 ≤ p.1 → agree N U σ.h h1) → K2 (St.put ⟨τ.t, if mcls p = 2 then h1 else τ.h⟩ p.2.dst v)) (h : stepR P Gl N U p σ K1) : stepR P Gl N U p τ K2 := by
  by_cases hcall : p.2.i.isCall = true
  case neg =>
    have hn : p.2.i.isCall = false := by simpa using hcall
    rw [stepR_D hn] at h ⊢
    obtain ⟨v, h2, hD, hk⟩ := h
    obtain ⟨d1, d2⟩ := hD.tr hm hn hl hh
    exact ⟨v, _, d1, hK v h2 hk d2 hD.2.2⟩
  case pos =>
    obtain ⟨m, dst, gd, i⟩ := p
    simp only at hcall hl hh hK
    obtain ⟨fo, args, rfl⟩ : ∃ fo args, i = .call fo args := by cases i <;> first | exact ⟨_, _, rfl⟩ | cases hcall
    have hr := looks_reads hl
    have hA : args.map (τ.val Gl) = args.map (σ.val Gl) := map_congr fun s hs => hr s (by simp only [I.reads, List.mem_append]; exact .inr hs)
    have hO : τ.val Gl fo = σ.val Gl fo := val_congr fun s hs => hr s (by simp only [I.reads, List.mem_append]; exact .inl hs)
    have hidc := ids_congr (Gl := Gl) hr
    have hne0 : ¬ mcls (m, (⟨dst, gd, .call fo args⟩ : Ins)) = 0 := by
      rcases hm with q | q | ⟨q, _⟩ <;> (simp only at q; subst q; simp [mcls, I.cls])
    -- a step that keeps to a guard
    have guard : ∀ (d : Bool) (K1 K2 : St → Prop), (wants σ ⟨dst, gd, .call fo args⟩ → aExec P Gl d σ dst K1 (.call fo args) → aExec P Gl d τ dst K2 (.call fo args)) → (K1 (σ.put dst und) → K2 (τ.put dst und)) → aStep P Gl d σ ⟨dst, gd, .call fo args⟩ K1 → aStep P Gl d τ ⟨dst, gd, .call fo args⟩ K2 := by
      intro d K1 K2 he hu h
      unfold aStep at h ⊢
      cases hg : gd with
      | none => subst hg; exact he trivial h
      | some g =>
        obtain ⟨s, want⟩ := g
        subst hg
        simp only at h ⊢
        rw [looks_gd hl rfl]
        split at h
        · rename_i b hbb
          split at h
          · rename_i hb; rw [if_pos hb]; exact he (by unfold wants; simp only; rw [hbb, hb]) h
          · rename_i hb; rw [if_neg hb]; exact hu h
        · exact hu h
        · exact h.elim
    have und_ : ∀ K1 K2 : St → Prop, (∀ v h1, K1 (St.put ⟨σ.t, h1⟩ dst v) → h1 = σ.h → K2 (St.put ⟨τ.t, τ.h⟩ dst v)) → K1 (σ.put dst und) → K2 (τ.put dst und) := fun K1 K2 hk h => hk und σ.h h rfl
    -- a call that leaves the heap alone
    have pure_ : ∀ K1 K2 : St → Prop, (∀ id ∈ (args.map (σ.val Gl)).flatMap rowsA, τ.h[id]? = σ.h[id]?) → (∀ v h1, K1 (St.put ⟨σ.t, h1⟩ dst v) → h1 = σ.h → K2 (St.put ⟨τ.t, τ.h⟩ dst v)) → aExec P Gl true σ dst K1 (.call fo args) → aExec P Gl true τ dst K2 (.call fo args) := by
      intro K1 K2 hids hk h
      obtain (⟨h1, _⟩ | ⟨f, hf, hcb, (⟨as, res, h1, h2, h3, h4⟩ | ⟨h1, _⟩)⟩) := h
      · cases h1
      · have h3' := h3 rfl
        rw [h3'] at h4
        have e3 : (if scalar res then τ.h else freeze τ.h ((args.map (τ.val Gl)).flatMap rowsA)) = τ.h := by
          split
          · rfl
          · rename_i hs
            rw [if_neg hs] at h3'
            rw [hA]
            exact freeze_same hids h3'
        refine .inr ⟨f, by rw [hO]; exact hf, hcb, .inl ⟨as, res, ?_, h2, fun _ => e3, ?_⟩⟩
        · rw [hA, keepAL_ids hids]; exact h1
        · rw [e3]; exact hk res _ h4 rfl
      · cases h1
    match m, hm, hh, hK, h, hne0 with
    | 0, hm, hh, hK, h, hne0 =>
      have hτ : τ.h = σ.h := by
        rcases hh with q | q | ⟨q, _⟩
        · exact q
        · exact absurd q hne0
        · cases q
      have hk : ∀ v h1, K1 (St.put ⟨σ.t, h1⟩ dst v) → h1 = σ.h → K2 (St.put ⟨τ.t, τ.h⟩ dst v) := fun v h1 q e => hK v h1 q (fun _ => e) (fun r => absurd r (by simp))
      exact guard true K1 K2 (fun _ => pure_ K1 K2 (fun id _ => by rw [hτ]) hk) (und_ K1 K2 hk) h
    | 1, hm, hh, hK, h, hne0 =>
      obtain ⟨hi, h⟩ := h
      have hk : ∀ v h1, K1 (St.put ⟨σ.t, h1⟩ dst v) → h1 = σ.h → K2 (St.put ⟨τ.t, τ.h⟩ dst v) := fun v h1 q e => hK v h1 q (fun _ => e) (fun r => absurd r (by simp))
      refine ⟨by rw [hidc, wants_congr hl]; exact hi, guard true K1 K2 (fun hw => pure_ K1 K2 (fun id hid => ?_) hk) (und_ K1 K2 hk) h⟩
      rcases hh with q | q | ⟨_, q⟩
      · rw [q]
      · exact absurd q hne0
      · exact q id (hi hw id hid).1 (hi hw id hid).2
    | m + 2, hm, hh, hK, h, hne0 =>
      have hτ : τ.h = σ.h := by
        rcases hh with q | q | ⟨q, _⟩
        · exact q
        · exact absurd q hne0
        · cases q
      have ph : ∀ (t : List AV) (h2 : List AObj) (v : AV), (St.put ⟨t, h2⟩ dst v).h = h2 := fun t h2 v => by cases dst <;> rfl
      have hk : ∀ v h1, (agree N U σ.h (St.put ⟨σ.t, h1⟩ dst v).h ∧ K1 (St.put ⟨σ.t, h1⟩ dst v)) → agree N U τ.h (St.put ⟨τ.t, h1⟩ dst v).h ∧ K2 (St.put ⟨τ.t, h1⟩ dst v) := by
        intro v h1 ⟨q1, q2⟩
        rw [ph] at q1 ⊢
        exact ⟨by rw [hτ]; exact q1, hK v h1 q2 (fun q => absurd rfl q) (fun _ => q1)⟩
      refine guard false _ _ (fun _ h => ?_) (fun h => ?_) h
      · obtain (⟨_, f, cs, hf, hcb, h1⟩ | ⟨f, hf, hcb, (⟨as, res, h1, h2, h3, h4⟩ | ⟨_, h1⟩)⟩) := h
        · refine .inl ⟨rfl, f, cs, by rw [hO]; exact hf, hcb, ?_⟩
          rw [hA, hτ]
          intro F own B w0 t act w xs hI hR
          refine (h1 F own B w0 t act w xs hI hR).mono ?_
          rintro e w' ⟨v, res, h', F', own', g1, g2, g3, g4⟩
          exact ⟨v, res, h', F', own', g1, g2, g3, hτ ▸ hk res h' g4⟩
        · refine .inr ⟨f, by rw [hO]; exact hf, hcb, .inl ⟨as, res, by rw [hA, hτ]; exact h1, h2, (fun q => by cases q), ?_⟩⟩
          rw [hA, hτ]
          have q := hk res _ h4
          rw [hτ] at q
          exact q
        · refine .inr ⟨f, by rw [hO]; exact hf, hcb, .inr ⟨rfl, ?_⟩⟩
          rw [hA, hτ]
          intro F own B w0 t act w xs hI hR
          refine (h1 F own B w0 t act w xs hI hR).mono ?_
          rintro e w' ⟨v, res, h', F', own', g1, g2, g3, g4⟩
          exact ⟨v, res, h', F', own', g1, g2, g3, hτ ▸ hk res h' g4⟩
      · have := hk und σ.h h
        have e : (⟨τ.t, σ.h⟩ : St) = τ := by rw [← hτ]
        rw [e] at this
        exact this

/-- An operation that comes to something does come to it. -/
theorem wpOp_real {ops : Array Oper} {k : Nat} {K : Act → World → Prop} (h : wpOp P ops (fun _ _ _ => False) k K act w) : ∃ a1 w1, K a1 w1 := by
  unfold wpOp at h
  split at h
  · exact ⟨_, _, h⟩
  · rename_i o ho
    split at h
    · rcases h with h | ⟨_, a, w, q⟩
      · unfold Oper.wp at h
        generalize (execOp act.eval o).run P w = r at h
        cases r with
        | ok n w' =>
          cases n <;> simp only [Oper.upon] at h <;> first
            | exact h.elim
            | exact ⟨_, _, h⟩
            | skip
          · obtain ⟨e, w1, fr, hR, _⟩ := h []
            cases e with
            | returned v => exact ⟨_, _, hR⟩
            | panicked ch => exact hR.elim
            | outgrown => obtain ⟨_, _, q⟩ := hR; exact q.elim
          · obtain ⟨v, w1, hR, _⟩ := h default []
            exact ⟨_, _, hR⟩
        | halt s w' => cases s <;> exact h.elim
      · exact q.elim
    · exact ⟨_, _, h⟩

/-- A step of a region, carried out. -/
theorem stepR_real {lm : Bool} {ops : Array Oper} {k : Nat} {o : Oper} {p : Nat × Ins} (hm : okM p) (ho : ops[k]? = some o) (hc : cIns P lm ops o = some p.2) (hI : Inv Gl F own B w0 σ act w) {K : St → Prop} (h : stepR P Gl N U p σ K) :
    ∃ F1 own1 act1 w1 v h1, Inv Gl F1 own1 B w0 (St.put ⟨σ.t, h1⟩ p.2.dst v) act1 w1 ∧ K (St.put ⟨σ.t, h1⟩ p.2.dst v) ∧ (mcls p ≠ 2 → h1 = σ.h) ∧ (2 ≤ p.1 → agree N U σ.h h1) := by
  have h' : stepR P Gl N U p σ (fun ρ => ∃ v h1, ρ = St.put ⟨σ.t, h1⟩ p.2.dst v ∧ K ρ ∧ (mcls p ≠ 2 → h1 = σ.h) ∧ (2 ≤ p.1 → agree N U σ.h h1)) := by
    refine stepR_tr (τ := σ) hm (fun _ _ => rfl) (.inl rfl) (fun v h1 k1 k2 k3 => ?_) h
    by_cases hq : mcls p = 2
    · rw [if_pos hq]; exact ⟨v, h1, rfl, k1, k2, k3⟩
    · rw [if_neg hq]; rw [k2 hq] at k1; exact ⟨v, σ.h, rfl, k1, fun _ => rfl, fun _ _ _ _ => rfl⟩
  have ex : ∃ d K', aStep P Gl d σ p.2 K' ∧ ∀ ρ, K' ρ → ∃ v h1, ρ = St.put ⟨σ.t, h1⟩ p.2.dst v ∧ K ρ ∧ (mcls p ≠ 2 → h1 = σ.h) ∧ (2 ≤ p.1 → agree N U σ.h h1) := by
    obtain ⟨m, ins⟩ := p
    match m, h' with
    | 0, h' => exact ⟨true, _, h', fun _ q => q⟩
    | 1, h' => exact ⟨true, _, h'.2, fun _ q => q⟩
    | m + 2, h' => exact ⟨false, _, h', fun _ q => q.2⟩
  obtain ⟨d, K', hs, hK'⟩ := ex
  obtain ⟨act1, w1, F1, own1, ρ, hI1, hk⟩ := wpOp_real (step_sound hI hc hs (fun _ _ _ => False) ho)
  obtain ⟨v, h1, rfl, k1, k2, k3⟩ := hK' ρ hk
  exact ⟨F1, own1, act1, w1, v, h1, hI1, k1, k2, k3⟩

theorem put_t {t : List AV} {h : List AObj} {d : Option Nat} {a : AV} {s : Nat} (hs : d ≠ some s) : (St.put ⟨t, h⟩ d a).t.getD s .any = t.getD s .any := by
  cases d with
  | none => rfl
  | some i =>
    have : i ≠ s := fun q => hs (by rw [q])
    simp only [St.put, List.getD, List.getElem?_set_ne this]
theorem put_hh {t : List AV} {h : List AObj} {d : Option Nat} {a : AV} : (St.put ⟨t, h⟩ d a).h = h := by cases d <;> rfl
theorem put_comm {t : List AV} {h g k : List AObj} {d e : Option Nat} {a b : AV} (hd : ∀ s, d = some s → e ≠ some s) : St.put ⟨(St.put ⟨t, h⟩ d a).t, k⟩ e b = St.put ⟨(St.put ⟨t, g⟩ e b).t, k⟩ d a := by
  cases d with
  | none => cases e <;> rfl
  | some i =>
    cases e with
    | none => rfl
    | some j =>
      have : i ≠ j := fun q => hd i rfl (by rw [q])
      simp only [St.put]
      rw [List.set_comm _ _ this]

/-- The heap behind a step and a later one that does not clash with it. -/
theorem heap_rel {a b : Nat × Ins} (hab : clashR a b = false) (hma : okM a) {h1 : List AObj} (k2 : mcls a ≠ 2 → h1 = σ.h) (k3 : 2 ≤ a.1 → agree N U σ.h h1) : h1 = σ.h ∨ mcls b = 0 ∨ (b.1 = 1 ∧ agree N U σ.h h1) := by
  by_cases ha : mcls a = 2
  · rcases (noclash hab).2.2.1 ha with q | ⟨q1, q2⟩
    · exact .inr (.inl q)
    · exact .inr (.inr ⟨q2, k3 (by omega)⟩)
  · exact .inl (k2 ha)
theorem heap_rel' {a b : Nat × Ins} (hab : clashR a b = false) {h2 : List AObj} (k2 : mcls b ≠ 2 → h2 = σ.h) (k3 : 2 ≤ b.1 → agree N U σ.h h2) : h2 = σ.h ∨ mcls a = 0 ∨ (a.1 = 1 ∧ agree N U σ.h h2) := by
  by_cases hb : mcls b = 2
  · rcases (noclash hab).2.2.2.1 hb with q | ⟨q1, q2⟩
    · exact .inr (.inl q)
    · exact .inr (.inr ⟨q2, k3 (by omega)⟩)
  · exact .inl (k2 hb)
theorem slots_ab {a b : Nat × Ins} (hab : clashR a b = false) {h1 : List AObj} {v : AV} : ∀ s ∈ b.2.looks, (St.put ⟨σ.t, h1⟩ a.2.dst v).t.getD s .any = σ.t.getD s .any := fun s hs => put_t fun q => ((noclash hab).1 s q).1 hs
theorem slots_ba {a b : Nat × Ins} (hab : clashR a b = false) {h1 : List AObj} {v : AV} : ∀ s ∈ a.2.looks, (St.put ⟨σ.t, h1⟩ b.2.dst v).t.getD s .any = σ.t.getD s .any := fun s hs => put_t fun q => (noclash hab).2.1 s q hs

/-- What a later instruction comes to, carried out first. -/
theorem early_D {lm : Bool} {ops : Array Oper} {b : Nat × Ins} (hmb : okM b) (hn : b.2.i.isCall = false) {post : List (Nat × Ins)} {K : St → Prop} : ∀ (pre : List (Nat × Ins)), (∀ a ∈ pre, okM a ∧ clashR a b = false ∧ ∃ (k : Nat) (o : Oper), ops[k]? = some o ∧ cIns P lm ops o = some a.2) → ∀ (σ : St) (F : Addr → Option Value) (own : List Ent) (act : Act) (w : World), Inv Gl F own B w0 σ act w → aOpsR P Gl N U K (pre ++ b :: post) σ → ∃ v h2, D Gl N U b σ v h2 := by
  intro pre
  induction pre with
  | nil => intro _ σ F own act w _ h; obtain ⟨v, h2, hD, _⟩ := (stepR_D hn).1 h; exact ⟨v, h2, hD⟩
  | cons a pre ih =>
    intro hp σ F own act w hI h
    obtain ⟨hma, hab, k, o, ho, hc⟩ := hp a (by simp)
    obtain ⟨F1, own1, act1, w1, v, h1, hI1, hK, k2, k3⟩ := stepR_real hma ho hc hI h
    obtain ⟨vb, hb, hD⟩ := ih (fun x hx => hp x (by simp [hx])) _ F1 own1 act1 w1 hI1 hK
    have hl : ∀ s ∈ b.2.looks, σ.t.getD s .any = (St.put ⟨σ.t, h1⟩ a.2.dst v).t.getD s .any := fun s hs => (slots_ab hab s hs).symm
    have hh : σ.h = (St.put ⟨σ.t, h1⟩ a.2.dst v).h ∨ mcls b = 0 ∨ (b.1 = 1 ∧ agree N U (St.put ⟨σ.t, h1⟩ a.2.dst v).h σ.h) := by
      rw [put_hh]
      rcases heap_rel hab hma k2 k3 with q | q | ⟨q, r⟩
      · exact .inl q.symm
      · exact .inr (.inl q)
      · exact .inr (.inr ⟨q, r.symm⟩)
    exact ⟨_, _, (hD.tr hmb hn hl hh).1⟩
/-- The rest behind an instruction that was carried out early. -/
theorem early_rest {b : Nat × Ins} (hmb : okM b) (hn : b.2.i.isCall = false) {post : List (Nat × Ins)} {K : St → Prop} : ∀ (pre : List (Nat × Ins)), (∀ a ∈ pre, okM a ∧ clashR a b = false) → ∀ (σ : St) (v : AV) (h2 : List AObj), D Gl N U b σ v h2 → aOpsR P Gl N U K (pre ++ b :: post) σ → aOpsR P Gl N U K (pre ++ post) (St.put ⟨σ.t, h2⟩ b.2.dst v) := by
  intro pre
  induction pre with
  | nil =>
    intro _ σ v h2 hD h
    obtain ⟨v', h2', hD', hk⟩ := (stepR_D hn).1 h
    obtain ⟨rfl, rfl⟩ := hD.fn hD'
    exact hk
  | cons a pre ih =>
    intro hp σ v h2 hD h
    obtain ⟨hma, hab⟩ := hp a (by simp)
    have hD2 := (hD.tr (τ := σ) hmb hn (fun _ _ => rfl) (.inl rfl)).2
    refine stepR_tr (σ := σ) (τ := St.put ⟨σ.t, h2⟩ b.2.dst v) (K1 := aOpsR P Gl N U K (pre ++ b :: post)) hma (slots_ba hab) (by rw [put_hh]; exact heap_rel' hab hD2 hD.2.2) ?_ h
    intro va h1 hk k2 k3
    have hD1 := (hD.tr (τ := St.put ⟨σ.t, h1⟩ a.2.dst va) hmb hn (slots_ab hab) (by rw [put_hh]; exact heap_rel hab hma k2 k3)).1
    have := ih (fun x hx => hp x (by simp [hx])) _ v _ hD1 hk
    rw [put_hh] at this ⊢
    rw [put_comm (g := h2) fun s q => ((noclash hab).1 s q).2] at this
    have e : (if mcls b = 2 then h2 else h1) = (if mcls a = 2 then h1 else h2) := by
      by_cases ha : mcls a = 2
      · have hb : mcls b ≠ 2 := by
          rcases (noclash hab).2.2.1 ha with q | ⟨_, q⟩
          · omega
          · rw [mcls_1 q]; simp
        rw [if_pos ha, if_neg hb]
      · rw [if_neg ha]
        split
        · rfl
        · rename_i hb; rw [k2 ha, hD2 hb]
    rw [e] at this
    exact this
/-- A call that is carried out early. -/
theorem early_call {b : Nat × Ins} (hmb : okM b) (hb : b.2.i.isCall = true) {post : List (Nat × Ins)} {K : St → Prop} : ∀ (pre : List (Nat × Ins)), (∀ a ∈ pre, okM a ∧ clashR a b = false) → ∀ (σ : St), aOpsR P Gl N U K (pre ++ b :: post) σ → stepR P Gl N U b σ (aOpsR P Gl N U K (pre ++ post)) := by
  intro pre
  induction pre with
  | nil => intro _ σ h; exact h
  | cons a pre ih =>
    intro hp σ h
    obtain ⟨hma, hab⟩ := hp a (by simp)
    have hna : a.2.i.isCall = false := by
      cases q : a.2.i.isCall with
      | false => rfl
      | true => have := (noclash hab).2.2.2.2 q; rw [hb] at this; cases this
    obtain ⟨va, h1, hD, hk⟩ := (stepR_D hna).1 h
    have hDs := (hD.tr (τ := σ) hma hna (fun _ _ => rfl) (.inl rfl)).2
    have h2 := ih (fun x hx => hp x (by simp [hx])) _ hk
    refine stepR_tr (σ := St.put ⟨σ.t, h1⟩ a.2.dst va) (τ := σ) (K1 := aOpsR P Gl N U K (pre ++ post)) hmb (fun s hs => (slots_ab hab s hs).symm) ?_ ?_ h2
    · rw [put_hh]
      rcases heap_rel hab hma hDs hD.2.2 with q | q | ⟨q, r⟩
      · exact .inl q.symm
      · exact .inr (.inl q)
      · exact .inr (.inr ⟨q, r.symm⟩)
    · intro vb hb1 hk2 k2 k3
      rw [put_hh] at k2 k3
      show stepR P Gl N U a _ _
      rw [stepR_D hna]
      -- the heap behind the call
      have k2' : mcls b ≠ 2 → (if mcls b = 2 then hb1 else σ.h) = σ.h := fun q => if_neg q
      have k3' : 2 ≤ b.1 → agree N U σ.h (if mcls b = 2 then hb1 else σ.h) := fun q => by
        have h2b : mcls b = 2 := by
          rcases hmb with r | r | ⟨r, _⟩
          · omega
          · exact mcls_2 r
          · omega
        rw [if_pos h2b]
        have hσ : h1 = σ.h := by
          apply hDs
          intro ha
          rcases (noclash hab).2.2.1 ha with r | ⟨_, r⟩ <;> omega
        rw [← hσ]; exact k3 q
      have hDa := hD.tr (τ := St.put ⟨σ.t, if mcls b = 2 then hb1 else σ.h⟩ b.2.dst vb) hma hna (slots_ba hab) (by rw [put_hh]; exact heap_rel' hab k2' k3')
      refine ⟨va, _, hDa.1, ?_⟩
      rw [put_hh]
      rw [put_comm (g := (if mcls b = 2 then hb1 else σ.h)) fun s q => ((noclash hab).1 s q).2] at hk2
      have e : hb1 = (if mcls a = 2 then h1 else (if mcls b = 2 then hb1 else σ.h)) := by
        by_cases ha : mcls a = 2
        · have hb2 : mcls b ≠ 2 := by
            rcases (noclash hab).2.2.1 ha with q | ⟨_, q⟩
            · omega
            · rw [mcls_1 q]; simp
          rw [if_pos ha, k2 hb2]
        · rw [if_neg ha]
          split
          · rfl
          · rename_i hb2; rw [k2 hb2, hDs ha]
      rw [← e]
      exact hk2

/-- Any instruction that is ready may be carried out first. -/
theorem goFirst {lm : Bool} {ops : Array Oper} {b : Nat × Ins} {kb : Nat} {ob : Oper} (hmb : okM b) (hob : ops[kb]? = some ob) (hcb : cIns P lm ops ob = some b.2) {post : List (Nat × Ins)} {K : St → Prop} {Q : Exit → Act → World → Prop} (pre : List (Nat × Ins)) (hp : ∀ a ∈ pre, okM a ∧ clashR a b = false ∧ ∃ (k : Nat) (o : Oper), ops[k]? = some o ∧ cIns P lm ops o = some a.2) (hI : Inv Gl F own B w0 σ act w) (h : aOpsR P Gl N U K (pre ++ b :: post) σ) :
    wpOp P ops Q kb (Some' Gl B w0 (aOpsR P Gl N U K (pre ++ post))) act w := by
  have h' : stepR P Gl N U b σ (aOpsR P Gl N U K (pre ++ post)) := by
    cases hn : b.2.i.isCall with
    | true => exact early_call hmb hn pre (fun a ha => ⟨(hp a ha).1, (hp a ha).2.1⟩) σ h
    | false =>
      obtain ⟨v, h2, hD⟩ := early_D hmb hn pre hp σ F own act w hI h
      rw [stepR_D hn]
      exact ⟨v, h2, hD, early_rest hmb hn pre (fun a ha => ⟨(hp a ha).1, (hp a ha).2.1⟩) σ v h2 hD h⟩
  have ex : ∃ d, aStep P Gl d σ b.2 (aOpsR P Gl N U K (pre ++ post)) ∨ aStep P Gl d σ b.2 (fun ρ => agree N U σ.h ρ.h ∧ aOpsR P Gl N U K (pre ++ post) ρ) := by
    obtain ⟨m, ins⟩ := b
    match m, h' with
    | 0, h' => exact ⟨true, .inl h'⟩
    | 1, h' => exact ⟨true, .inl h'.2⟩
    | m + 2, h' => exact ⟨false, .inr h'⟩
  obtain ⟨d, h' | h'⟩ := ex
  · exact step_sound hI hcb h' Q hob
  · refine wpOp_mono ?_ (step_sound hI hcb h' Q hob)
    rintro a1 w1 ⟨F1, own1, ρ, hI1, _, hk⟩
    exact ⟨F1, own1, ρ, hI1, hk⟩

theorem filter_split {p q : Nat → Bool} {i : Nat} : ∀ (l : List Nat), l.Pairwise (· < ·) → i ∈ l → p i = true → (∀ j, q j = if j = i then false else p j) → ∃ pre post, l.filter p = pre ++ i :: post ∧ l.filter q = pre ++ post ∧ ∀ j ∈ pre, j < i := by
  intro l
  induction l with
  | nil => intro _ hi; cases hi
  | cons a l ih =>
    intro hs hi hp hq
    rw [List.pairwise_cons] at hs
    by_cases hai : a = i
    · subst hai
      refine ⟨[], l.filter p, by rw [List.filter_cons_of_pos hp]; rfl, ?_, by simp⟩
      rw [List.filter_cons_of_neg (by rw [hq]; simp)]
      apply List.filter_congr
      intro x hx
      rw [hq, if_neg]
      intro e; have := hs.1 x hx; omega
    · have hil : i ∈ l := by rcases List.mem_cons.1 hi with r | r; exact absurd r.symm hai; exact r
      obtain ⟨pre, post, e1, e2, e3⟩ := ih hs.2 hil hp hq
      have hqa : q a = p a := by rw [hq, if_neg hai]
      cases hpa : p a with
      | true =>
        refine ⟨a :: pre, post, by rw [List.filter_cons_of_pos hpa, e1]; rfl, by rw [List.filter_cons_of_pos (by rw [hqa]; exact hpa), e2]; rfl, fun j hj => ?_⟩
        rcases List.mem_cons.1 hj with r | r
        · subst r; exact hs.1 i hil
        · exact e3 j r
      | false =>
        exact ⟨pre, post, by rw [List.filter_cons_of_neg (by simp [hpa]), e1], by rw [List.filter_cons_of_neg (by simp [hqa, hpa]), e2], e3⟩

theorem drawnR_sound {lm : Bool} {ops : Array Oper} {L : List (Nat × Ins)} (hl : L.length = ops.size) (hc : ∀ (j : Nat) (o : Oper), ops[j]? = some o → ∃ p, L[j]? = some p ∧ cIns P lm ops o = some p.2) (hd : drawOkR ops L = true) {Q : Exit → Act → World → Prop} {K : St → Prop} (hQ : ∀ a w, Some' Gl B w0 K a w → Q .normal a w)
    (ha : aOpsR P Gl N U K L σ) (hI : Inv Gl F own B w0 σ act w) : wpAny P .any ops Q ops.size (Array.replicate ops.size false) act w := by
  obtain ⟨d1, d2, d3, dm⟩ := drawOkR_spec hd
  generalize hn : ops.size = n at *
  have insAt : ∀ i, i < n → ∃ o p, ops[i]? = some o ∧ L[i]? = some p ∧ cIns P lm ops o = some p.2 ∧ L.getD i default = p ∧ okM p := fun i hi => by
    have ho : ops[i]? = some (ops[i]'(by omega)) := Array.getElem?_eq_getElem (by omega)
    obtain ⟨ins, e1, e2⟩ := hc i _ ho
    exact ⟨_, ins, ho, e1, e2, by simp [List.getD, e1], dm ins (List.mem_of_getElem? e1)⟩
  -- what is ahead of a listed or a ready one is listed
  have ahead : ∀ (S : Nat → Bool), (∀ i, i < n → S i = true → ∀ d ∈ direct ops i, S d = true) → ∀ i j, i < n → (∀ d ∈ direct ops i, S d = true) → tb (Region.before ops) i j = true → j < i → S j = true := by
    intro S hcl i
    induction i using Nat.strongRecOn with
    | _ i ih =>
      intro j hi hdir ht hji
      rcases d2 i j hji hi ht with q | ⟨d, hdm, r, q⟩
      · exact hdir j q
      · have hdi := d1 i d hi hdm
        exact ih d hdi j (by omega) (hcl d (by omega) (hdir d hdm)) q r
  have mem_ready : ∀ (listed : Array Bool) (i : Nat), listed.size = n → i ∈ Region.ready .any ops listed → i < n ∧ listed.getD i false = false ∧ ∀ d ∈ direct ops i, listed.getD d false = true := by
    intro listed i hsz hi
    unfold Region.ready at hi
    rw [List.mem_filter, List.mem_range, hn] at hi
    obtain ⟨h1, h2⟩ := hi
    rw [Bool.and_eq_true] at h2
    have e0 : listed.getD i false = listed.getD i true := by
      have : i < listed.size := by omega
      simp [Array.getD, this]
    refine ⟨h1, by rw [e0]; simpa using h2.1, fun d hd => ?_⟩
    obtain ⟨o, ins, ho, _⟩ := insAt i h1
    have h3 := h2.2
    rw [ho] at h3
    simp only [Option.map_some, Option.getD_some] at h3
    unfold direct at hd
    rw [ho] at hd
    simp only at hd
    obtain ⟨e, he, hq⟩ := List.mem_filterMap.1 hd
    have := Array.all_eq_true_iff_forall_mem.1 h3 e (by simpa using he)
    split at hq
    · rename_i hb
      cases hq
      simpa [hb] using this
    · cases hq
  have ready_mem : ∀ (listed : Array Bool) (i : Nat), listed.size = n → i < n → listed.getD i false = false → (∀ j, j < i → listed.getD j false = true) → i ∈ Region.ready .any ops listed := by
    intro listed i hsz hi h1 h2
    unfold Region.ready
    rw [List.mem_filter, List.mem_range, hn]
    refine ⟨hi, ?_⟩
    have e0 : listed.getD i false = listed.getD i true := by
      have : i < listed.size := by omega
      simp [Array.getD, this]
    rw [Bool.and_eq_true]
    refine ⟨by rw [← e0, h1]; rfl, ?_⟩
    obtain ⟨o, ins, ho, _⟩ := insAt i hi
    rw [ho]
    simp only [Option.map_some, Option.getD_some]
    refine Array.all_eq_true_iff_forall_mem.2 fun e he => ?_
    cases hb : Region.binds .any e with
    | false => rfl
    | true =>
      have hd : e.on ∈ direct ops i := by
        unfold direct
        rw [ho]
        exact List.mem_filterMap.2 ⟨e, by simpa using he, by simp [hb]⟩
      have := h2 e.on (d1 i e.on hi hd)
      simpa using this
  have main : ∀ (fuel : Nat) (listed : Array Bool) (τ : St) (F : Addr → Option Value) (own : List Ent) (act : Act) (w : World), listed.size = n → (∀ i, i < n → listed.getD i false = true → ∀ d ∈ direct ops i, listed.getD d false = true) →
      ((List.range n).countP fun i => !listed.getD i false) = fuel → aOpsR P Gl N U K (((List.range n).filter fun i => !listed.getD i false).map fun i => L.getD i default) τ →
      Inv Gl F own B w0 τ act w → wpAny P .any ops Q fuel listed act w := by
    intro fuel
    induction fuel with
    | zero =>
      intro listed τ F own act w hsz hcl hcnt hop hI
      have hall : ∀ i, i < n → listed.getD i false = true := fun i hi => by
        have := List.countP_eq_zero.1 hcnt i (List.mem_range.2 hi)
        simpa using this
      refine ⟨?_, hQ act w ⟨F, own, τ, hI, ?_⟩⟩
      · apply List.eq_nil_iff_forall_not_mem.2
        intro i hi
        obtain ⟨q1, q2, _⟩ := mem_ready listed i hsz hi
        rw [hall i q1] at q2
        cases q2
      · have : (List.range n).filter (fun i => !listed.getD i false) = [] := List.filter_eq_nil_iff.2 fun i hi => by rw [hall i (List.mem_range.1 hi)]; simp
        rw [this] at hop; exact hop
    | succ fuel ih =>
      intro listed τ F own act w hsz hcl hcnt hop hI
      refine ⟨fun hnil => ?_, fun i hi => ?_⟩
      · obtain ⟨i, h1, h2, h3⟩ := count_pos (n := n) (S := fun i => listed.getD i false) (by omega)
        have := ready_mem listed i hsz h1 h2 h3
        rw [hnil] at this
        simp at this
      · obtain ⟨hin, hiS, hdir⟩ := mem_ready listed i hsz hi
        obtain ⟨o, p, ho, hli, hci, hgd, hmp⟩ := insAt i hin
        have hset : ∀ j, (listed.setIfInBounds i true).getD j false = if j = i then true else listed.getD j false := fun j => by
          by_cases hji : j = i
          · subst hji
            have : j < listed.size := by omega
            simp [Array.getD, this]
          · rw [if_neg hji]
            simp only [Array.getD_eq_getD_getElem?]
            rw [Array.getElem?_setIfInBounds_ne (fun e => hji e.symm)]
        obtain ⟨pre, post, e1, e2, e3⟩ := filter_split (p := fun j => !listed.getD j false) (q := fun j => !(listed.setIfInBounds i true).getD j false) (i := i) (List.range n) List.pairwise_lt_range (List.mem_range.2 hin) (by simp [hiS]) (fun j => by rw [hset]; split <;> simp)
        have hpre : ∀ j ∈ pre, j < n ∧ listed.getD j false = false := fun j hj => by
          have : j ∈ (List.range n).filter (fun j => !listed.getD j false) := by rw [e1]; simp [hj]
          rw [List.mem_filter, List.mem_range] at this
          exact ⟨this.1, by simpa using this.2⟩
        rw [e1, List.map_append, List.map_cons, hgd] at hop
        refine wpOp_mono ?_ (goFirst (lm := lm) hmp ho hci (pre.map fun i => L.getD i default) (fun a ha => ?_) hI hop)
        · rintro a1 w1 ⟨F1, own1, ρ, hI1, hk⟩
          refine ih (listed.setIfInBounds i true) ρ F1 own1 a1 w1 (by simp [hsz]) (fun j hj hS d hdj => ?_) ?_ ?_ hI1
          · rw [hset] at hS ⊢
            split
            · rfl
            · split at hS
              · rename_i hji; subst hji; exact hdir d hdj
              · exact hcl j hj hS d hdj
          · have := count_set (n := n) (S := fun j => listed.getD j false) (S' := fun j => (listed.setIfInBounds i true).getD j false) hin hiS (by simp only [hset]; simp) (fun j hj => by simp only [hset, if_neg hj])
            omega
          · rw [e2, List.map_append]; exact hk
        · obtain ⟨j, hj, rfl⟩ := List.mem_map.1 ha
          obtain ⟨hjn, hjS⟩ := hpre j hj
          obtain ⟨oj, pj, hoj, hlj, hcj, hgj, hmj⟩ := insAt j hjn
          simp only [hgj]
          refine ⟨hmj, ?_, j, oj, hoj, hcj⟩
          cases hq : clashR pj p with
          | false => rfl
          | true =>
            have ht := d3 i j (e3 j hj) hin (by rw [hgj, hgd]; exact hq)
            have := ahead (fun k => listed.getD k false) hcl i j hin hdir ht (e3 j hj)
            rw [hjS] at this; cases this
  have hrep : ∀ i, (Array.replicate n false).getD i false = false := fun i => by
    simp only [Array.getD_eq_getD_getElem?, Array.getElem?_replicate]
    split <;> rfl
  refine main n (Array.replicate n false) σ F own act w (by simp) (fun i _ h => by rw [hrep] at h; cases h) ?_ ?_ hI
  · have : ((List.range n).countP fun i => !(Array.replicate n false).getD i false) = (List.range n).length := List.countP_eq_length.2 fun i _ => by rw [hrep]; rfl
    rw [this]; simp
  · have e1 : (List.range n).filter (fun i => !(Array.replicate n false).getD i false) = List.range n := List.filter_eq_self.2 fun i _ => by rw [hrep]; rfl
    have e2 : (List.range n).map (fun i => L.getD i default) = L := by
      apply List.ext_getElem?
      intro j
      rw [List.getElem?_map]
      rcases Nat.lt_or_ge j n with q | q
      · obtain ⟨_, p, _, e, _, e', _⟩ := insAt j q
        rw [List.getElem?_range q, e]; simp only [Option.map_some, e']
      · rw [List.getElem?_eq_none (by simpa using q), List.getElem?_eq_none (by omega)]; rfl
    rw [e1, e2]; exact ha
end
end Abs
end Go.Proofs.YtnhgeocdffhkjaaDoor
