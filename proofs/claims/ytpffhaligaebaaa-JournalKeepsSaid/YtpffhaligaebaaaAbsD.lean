/- The abstract machine: a region that draws its order; readers of the memory that was there ahead of it need no order. -/
import Derived.Test.YtpffhaligaebaaaAbsA
namespace Go.Proofs.Ytpffhaligaebaaa
namespace Abs
open Go.RowKit
set_option linter.unusedVariables false
set_option linter.unusedSimpArgs false

def mcls (p : Nat × Ins) : Nat := p.2.i.cls
def clashR (a b : Nat × Ins) : Bool :=
  (match a.2.dst with | some d => b.2.looks.contains d || b.2.dst == some d | none => false) || (match b.2.dst with | some d => a.2.looks.contains d | none => false) ||
  (mcls a == 2 && mcls b != 0 && !(a.1 == 2 && b.1 == 1)) || (mcls b == 2 && mcls a != 0 && !(b.1 == 2 && a.1 == 1))
/-- The marks: readers that some writer is not ordered with. -/
def marks (ops : Array Oper) (l : List Ins) : List (Nat × Ins) :=
  let bm := Region.before ops
  l.zipIdx.map fun (a, i) => (if a.i.cls != 0 && l.zipIdx.any (fun (b, j) => a.i.cls + b.i.cls == 3 && b.i.cls != 0 && !(tb bm i j || tb bm j i)) then a.i.cls else 0, a)
def drawOkR (ops : Array Oper) (l : List (Nat × Ins)) : Bool :=
  let bm := Region.before ops
  let n := ops.size
  l.all (fun p => p.1 == 0 || p.2.i.cls == p.1) && (List.range n).all fun i => (direct ops i).all (fun d => decide (d < i)) &&
    (List.range i).all fun j => (!tb bm i j || (direct ops i).contains j || (direct ops i).any fun d => decide (j < d) && tb bm d j) && (!clashR (l.getD j default) (l.getD i default) || tb bm i j)

theorem marks_len (ops : Array Oper) (l : List Ins) : (marks ops l).length = l.length := by simp [marks]
theorem marks_at {ops : Array Oper} {l : List Ins} {j : Nat} {i : Ins} (h : l[j]? = some i) : ∃ m, (marks ops l)[j]? = some (m, i) := by
  refine ⟨if i.i.cls != 0 && l.zipIdx.any (fun (b, k) => i.i.cls + b.i.cls == 3 && b.i.cls != 0 && !(tb (Region.before ops) j k || tb (Region.before ops) k j)) then i.i.cls else 0, ?_⟩
  simp only [marks, List.getElem?_map, List.getElem?_zipIdx, h, Option.map_some, Nat.zero_add]
/-- A region with marks: a marked reader reads what was there ahead of the region; a writer leaves that as it is. -/
def aOpsR (P : Program) (Gl : Nat → Option (List AV)) (N : Nat) (K : St → Prop) : List (Nat × Ins) → St → Prop
  | [], σ => K σ
  | (0, i) :: r, σ => aStep P Gl true σ i (aOpsR P Gl N K r)
  | (1, i) :: r, σ => aStep P Gl true ⟨σ.t, σ.h.take N⟩ i fun ρ => aOpsR P Gl N K r ⟨ρ.t, σ.h⟩
  | (_, i) :: r, σ => aStep P Gl true σ i fun ρ => ρ.h.take N = σ.h.take N ∧ aOpsR P Gl N K r ρ

section
variable {P : Program} {Gl : Nat → Option (List AV)} {F : Addr → Option Value} {own : List Ent} {B : Nat} {w0 : W0} {σ : St} {act : Act} {w : World}

theorem drawOkR_spec {ops : Array Oper} {l : List (Nat × Ins)} (h : drawOkR ops l = true) :
    (∀ i d, i < ops.size → d ∈ direct ops i → d < i) ∧ (∀ i j, j < i → i < ops.size → tb (Region.before ops) i j = true → j ∈ direct ops i ∨ ∃ d ∈ direct ops i, j < d ∧ tb (Region.before ops) d j = true) ∧
    (∀ i j, j < i → i < ops.size → clashR (l.getD j default) (l.getD i default) = true → tb (Region.before ops) i j = true) ∧ ∀ p ∈ l, p.1 ≠ 0 → p.2.i.cls = p.1 := by
  unfold drawOkR at h
  rw [Bool.and_eq_true] at h
  obtain ⟨hm, h⟩ := h
  have h1 : ∀ i, i < ops.size → _ := fun i hi => List.all_eq_true.1 h i (List.mem_range.2 hi)
  refine ⟨fun i d hi hd => ?_, fun i j hj hi ht => ?_, fun i j hj hi hc => ?_, fun p hp h1 => ?_⟩
  · have := h1 i hi
    rw [Bool.and_eq_true] at this
    exact of_decide_eq_true (List.all_eq_true.1 this.1 d hd)
  · have := h1 i hi
    rw [Bool.and_eq_true] at this
    have := List.all_eq_true.1 this.2 j (List.mem_range.2 hj)
    rw [Bool.and_eq_true] at this
    have := this.1
    simp only [ht, Bool.not_true, Bool.false_or, Bool.or_eq_true] at this
    rcases this with q | q
    · exact .inl (List.contains_iff_mem.1 q)
    · obtain ⟨d, hd, hq⟩ := List.any_eq_true.1 q
      rw [Bool.and_eq_true] at hq
      exact .inr ⟨d, hd, of_decide_eq_true hq.1, hq.2⟩
  · have := h1 i hi
    rw [Bool.and_eq_true] at this
    have := List.all_eq_true.1 this.2 j (List.mem_range.2 hj)
    rw [Bool.and_eq_true] at this
    have := this.2
    rw [hc] at this
    exact this
  · have := List.all_eq_true.1 hm p hp
    simpa [h1] using this

theorem clashR_1 {a b : Nat × Ins} (h1 : mcls a = 2) (h2 : mcls b ≠ 0) (h3 : a.1 ≠ 2 ∨ b.1 ≠ 1) : clashR a b = true := by
  have : (!(a.1 == 2 && b.1 == 1)) = true := by rcases h3 with h | h <;> simp [h]
  simp [clashR, h1, h2, this]
theorem clashR_2 {a b : Nat × Ins} (h1 : mcls b = 2) (h2 : mcls a ≠ 0) (h3 : b.1 ≠ 2 ∨ a.1 ≠ 1) : clashR a b = true := by
  have : (!(b.1 == 2 && a.1 == 1)) = true := by rcases h3 with h | h <;> simp [h]
  simp [clashR, h1, h2, this]
theorem clashR_d {a b : Nat × Ins} {s : Nat} (h1 : a.2.dst = some s) (h2 : b.2.dst = some s) : clashR a b = true := by simp [clashR, h1, h2]

theorem keep1_app {h x : List AObj} {a b : AV} (k : keep1 h a = some b) : keep1 (h ++ x) a = some b ∧ ∀ id ∈ rows1 a, id < h.length := by
  cases a with
  | row id G sz off len =>
    simp only [keep1] at k ⊢
    cases ho : h[id]? with
    | none => rw [ho] at k; cases k
    | some o =>
      have hlt := (List.getElem?_eq_some_iff.1 ho).1
      rw [ho] at k
      rw [List.getElem?_append_left hlt, ho]
      exact ⟨k, fun j hj => by simp only [rows1, List.mem_singleton] at hj; subst hj; exact hlt⟩
  | any => cases k
  | ptr => cases k
  | agg => cases k
  | tup => cases k
  | _ => exact ⟨k, fun j hj => by simp [rows1] at hj⟩
theorem keepL_app {h x : List AObj} : ∀ (l : List AV) (m : List AV), keepL h l = some m → keepL (h ++ x) l = some m ∧ ∀ id ∈ l.flatMap rows1, id < h.length := by
  intro l
  induction l with
  | nil => intro m k; exact ⟨k, fun id hi => by simp at hi⟩
  | cons a l ih =>
    intro m k
    simp only [keepL] at k ⊢
    split at k
    · rename_i b m' h1 h2
      cases k
      obtain ⟨e1, e2⟩ := keep1_app (x := x) h1
      obtain ⟨e3, e4⟩ := ih _ h2
      refine ⟨by rw [e1, e3], fun id hi => ?_⟩
      rw [List.flatMap_cons, List.mem_append] at hi
      exact hi.elim (e2 id) (e4 id)
    · cases k
theorem keepA_app {h x : List AObj} {a b : AV} (k : keepA h a = some b) : keepA (h ++ x) a = some b ∧ ∀ id ∈ rowsA a, id < h.length := by
  cases a with
  | agg cs =>
    simp only [keepA] at k ⊢
    cases hk : keepL h cs with
    | none => rw [hk] at k; cases k
    | some m => rw [hk] at k; obtain ⟨e1, e2⟩ := keepL_app (x := x) cs m hk; exact ⟨by rw [e1]; exact k, e2⟩
  | _ => simp only [keepA, rowsA] at k ⊢; exact keep1_app k
theorem keepAL_app {h x : List AObj} : ∀ (l : List AV) (m : List AV), keepAL h l = some m → keepAL (h ++ x) l = some m ∧ ∀ id ∈ l.flatMap rowsA, id < h.length := by
  intro l
  induction l with
  | nil => intro m k; exact ⟨k, fun id hi => by simp at hi⟩
  | cons a l ih =>
    intro m k
    simp only [keepAL] at k ⊢
    split at k
    · rename_i b m' h1 h2
      cases k
      obtain ⟨e1, e2⟩ := keepA_app (x := x) h1
      obtain ⟨e3, e4⟩ := ih _ h2
      refine ⟨by rw [e1, e3], fun id hi => ?_⟩
      rw [List.flatMap_cons, List.mem_append] at hi
      exact hi.elim (e2 id) (e4 id)
    · cases k
theorem freeze_app {x : List AObj} : ∀ (ids : List Nat) (h : List AObj), (∀ id ∈ ids, id < h.length) → freeze (h ++ x) ids = freeze h ids ++ x := by
  intro ids
  induction ids with
  | nil => intro h _; rfl
  | cons id ids ih =>
    intro h hl
    have hid := hl id (by simp)
    simp only [freeze, List.foldl_cons]
    rw [List.getElem?_append_left hid, List.getElem?_eq_getElem hid]
    simp only
    have := ih (h.set id { h[id] with fz := h[id].es.length }) fun j hj => by rw [List.length_set]; exact hl j (by simp [hj])
    unfold freeze at this
    rw [List.set_append_left _ _ hid]
    exact this

/-- A reader reads the same, whatever lies behind. -/
theorem eOne_app {t : List AV} {h x : List AObj} {i : I} (hc : i.cls = 1) {a : AV} {h' : List AObj} (he : eOne P Gl true ⟨t, h⟩ a h' i) : eOne P Gl true ⟨t, h ++ x⟩ a (h ++ x) i := by
  cases i with
  | call f args =>
    obtain ⟨as, h1, h2, h3, rfl⟩ := he
    simp only [mapval_h (Gl := Gl) (t := t) (h := h) (g := h ++ x)] at h1 h3
    obtain ⟨e1, e2⟩ := keepAL_app (x := x) _ _ h1
    have h3' := h3 trivial
    have e3 : (if scalar a then h ++ x else freeze (h ++ x) ((args.map (St.val Gl ⟨t, h ++ x⟩)).flatMap rowsA)) = h ++ x := by
      split
      · rfl
      · rename_i hs
        rw [if_neg hs] at h3'
        rw [freeze_app _ _ e2, h3']
    exact ⟨as, e1, h2, fun _ => e3, e3.symm⟩
  | load sz ag y =>
    obtain ⟨p, hs, hp⟩ := he
    refine ⟨p, ?_, hp⟩
    simp only [step, val_h (Gl := Gl) (t := t) (h := h ++ x) (g := h)] at hs ⊢
    split at hs
    · split at hs
      · rename_i hag
        rw [if_pos hag]
        split at hs
        · rename_i hsz; cases hs; rw [if_pos hsz]
        · cases hs
      · rename_i cs _ hag
        rw [if_neg hag]
        cases cs with
        | nil => cases hs
        | cons c cs => cases hs; rfl
    · rename_i id G j o hv
      cases ho : h[id]? with
      | none => rw [ho] at hs; cases hs
      | some ob =>
        have hlt := (List.getElem?_eq_some_iff.1 ho).1
        rw [ho] at hs
        rw [List.getElem?_append_left hlt, ho]
        simp only at hs ⊢
        split at hs
        · rename_i hG
          rw [if_pos hG]
          split at hs
          · rename_i hag; cases hs; rw [if_pos hag]
          · rename_i hag; cases hs; rw [if_neg hag]
        · cases hs
    · cases hs
  | _ => cases hc
theorem aOne_app {t : List AV} {h x : List AObj} {ins : Ins} (hc : ins.i.cls = 1) {a : AV} {h' : List AObj} (he : aOne P Gl true ⟨t, h⟩ ins a h') : aOne P Gl true ⟨t, h ++ x⟩ ins a (h ++ x) := by
  unfold aOne at he ⊢
  cases hg : ins.gd with
  | none => rw [hg] at he; exact eOne_app hc he
  | some q =>
    obtain ⟨s, want⟩ := q
    rw [hg] at he
    simp only at he ⊢
    split at he
    · rename_i b hb
      split at he
      · rename_i hbw; rw [if_pos hbw]; exact eOne_app hc he
      · rename_i hbw; rw [if_neg hbw]; exact ⟨he.1, trivial⟩
    · exact ⟨he.1, trivial⟩
    · exact he.elim

/-- One step of a region with marks. -/
def oneR (P : Program) (Gl : Nat → Option (List AV)) (N : Nat) (τ : St) (p : Nat × Ins) (a : AV) (h' : List AObj) : Prop :=
  if p.1 = 1 then (∃ h'', aOne P Gl true ⟨τ.t, τ.h.take N⟩ p.2 a h'') ∧ h' = τ.h else aOne P Gl true τ p.2 a h' ∧ (p.1 ≠ 0 → h'.take N = τ.h.take N)

theorem traceR {K : St → Prop} {N : Nat} {L : List (Nat × Ins)} {σ : St} (h : aOpsR P Gl N K L σ) : ∃ (as : Nat → AV) (hs : Nat → List AObj), hs 0 = σ.h ∧
    (∀ i p, L[i]? = some p → oneR P Gl N ⟨tS σ.t (L.map (·.2)) as (fun _ => true) i, hs i⟩ p (as i) (hs (i + 1))) ∧ K ⟨tS σ.t (L.map (·.2)) as (fun _ => true) L.length, hs L.length⟩ := by
  have key : ∀ k, k ≤ L.length → ∃ (as : Nat → AV) (hs : Nat → List AObj), hs 0 = σ.h ∧ (∀ i p, i < k → L[i]? = some p → oneR P Gl N ⟨tS σ.t (L.map (·.2)) as (fun _ => true) i, hs i⟩ p (as i) (hs (i + 1))) ∧ aOpsR P Gl N K (L.drop k) ⟨tS σ.t (L.map (·.2)) as (fun _ => true) k, hs k⟩ := by
    intro k
    induction k with
    | zero => intro _; exact ⟨fun _ => .any, fun _ => σ.h, rfl, fun i ins hi => by omega, h⟩
    | succ k ih =>
      intro hk
      obtain ⟨as, hs, h0, h1, h2⟩ := ih (by omega)
      have hlt : k < L.length := by omega
      rw [List.drop_eq_getElem_cons hlt] at h2
      have hLk : L[k]? = some L[k] := List.getElem?_eq_getElem hlt
      have e0 : dstOf (L.map (·.2)) k = L[k].2.dst := by simp [dstOf, hlt]
      obtain ⟨a, h', ha, hr⟩ : ∃ a h', oneR P Gl N ⟨tS σ.t (L.map (·.2)) as (fun _ => true) k, hs k⟩ L[k] a h' ∧ aOpsR P Gl N K (L.drop (k + 1)) ⟨putT (tS σ.t (L.map (·.2)) as (fun _ => true) k) L[k].2.dst a, h'⟩ := by
        revert h2
        generalize L[k] = p
        obtain ⟨m, ins⟩ := p
        intro h2
        match m, h2 with
        | 0, h2 =>
          obtain ⟨a, h', ha, hr⟩ := aOne_iff.1 h2
          rw [put_eq] at hr
          exact ⟨a, h', by unfold oneR; rw [if_neg (by simp)]; exact ⟨ha, fun q => absurd rfl q⟩, hr⟩
        | 1, h2 =>
          obtain ⟨a, h', ha, hr⟩ := aOne_iff.1 h2
          rw [put_eq] at hr
          exact ⟨a, _, by unfold oneR; rw [if_pos rfl]; exact ⟨⟨h', ha⟩, rfl⟩, hr⟩
        | k + 2, h2 =>
          obtain ⟨a, h', ha, hr⟩ := aOne_iff.1 h2
          rw [put_eq] at hr
          exact ⟨a, h', by unfold oneR; rw [if_neg (by simp)]; exact ⟨ha, fun _ => hr.1⟩, hr.2⟩
      refine ⟨fun i => if i = k then a else as i, fun i => if i = k + 1 then h' else hs i, by simp [h0], fun i p hi hl => ?_, ?_⟩
      · have e1 : tS σ.t (L.map (·.2)) (fun i => if i = k then a else as i) (fun _ => true) i = tS σ.t (L.map (·.2)) as (fun _ => true) i := tS_congr fun j hj => ⟨if_neg (by omega), rfl⟩
        simp only [e1]
        by_cases hik : i = k
        · subst hik
          rw [hLk] at hl
          cases hl
          simp only [if_true]
          rw [if_neg (by omega)]
          exact ha
        · rw [if_neg (by omega), if_neg hik, if_neg (by omega)]
          exact h1 i p (by omega) hl
      · have e1 : tS σ.t (L.map (·.2)) (fun i => if i = k then a else as i) (fun _ => true) k = tS σ.t (L.map (·.2)) as (fun _ => true) k := tS_congr fun j hj => ⟨if_neg (by omega), rfl⟩
        simp only [tS, if_true, e1]
        rw [e0]
        exact hr
  obtain ⟨as, hs, h0, h1, h2⟩ := key L.length (Nat.le_refl _)
  refine ⟨as, hs, h0, fun i p hl => h1 i p (List.getElem?_eq_some_iff.1 hl).1 hl, ?_⟩
  rw [List.drop_length] at h2
  exact h2

theorem drawnR_sound {lm : Bool} {ops : Array Oper} {L : List (Nat × Ins)} (hl : L.length = ops.size) (hc : ∀ (j : Nat) (o : Oper), ops[j]? = some o → ∃ p, L[j]? = some p ∧ cIns P lm ops o = some p.2) (hd : drawOkR ops L = true) {Q : Exit → Act → World → Prop} {K : St → Prop} (hQ : ∀ a w, Some' Gl B w0 K a w → Q .normal a w)
    (ha : aOpsR P Gl σ.h.length K L σ) (hI : Inv Gl F own B w0 σ act w) : wpAny P .any ops Q ops.size (Array.replicate ops.size false) act w := by
  obtain ⟨d1, d2, d3, dm⟩ := drawOkR_spec hd
  obtain ⟨as, hs, h0, hone, hK⟩ := traceR ha
  generalize hn : ops.size = n at *
  have insAt : ∀ i, i < n → ∃ o p, ops[i]? = some o ∧ L[i]? = some p ∧ cIns P lm ops o = some p.2 ∧ L.getD i default = p := fun i hi => by
    have ho : ops[i]? = some (ops[i]'(by omega)) := Array.getElem?_eq_getElem (by omega)
    obtain ⟨ins, e1, e2⟩ := hc i _ ho
    exact ⟨_, ins, ho, e1, e2, by simp [List.getD, e1]⟩
  -- the heap turns at writers alone
  have hstep : ∀ i, i < n → mcls (L.getD i default) ≠ 2 → hs (i + 1) = hs i := fun i hi hne => by
    obtain ⟨o, p, _, e1, _, e3⟩ := insAt i hi
    rw [e3] at hne
    have := hone i p e1
    unfold oneR at this
    split at this
    · exact this.2
    · exact (aOne_congr (τ := ⟨tS σ.t (L.map (·.2)) as (fun _ => true) i, hs i⟩) (fun _ _ => rfl) (fun _ => rfl) this.1).1 hne
  have hne1 : ∀ j, j < n → mcls (L.getD j default) = 2 → (L.getD j default).1 ≠ 1 := fun j hj hc hq => by
    obtain ⟨o, p, _, e1, _, e3⟩ := insAt j hj
    rw [e3] at hc hq
    have := dm p (List.mem_of_getElem? e1) (by omega)
    unfold mcls at hc
    omega
  have hstepT : ∀ i, i < n → (mcls (L.getD i default) ≠ 2 ∨ (L.getD i default).1 = 2) → (hs (i + 1)).take σ.h.length = (hs i).take σ.h.length := fun i hi hne => by
    rcases hne with hne | hne
    · rw [hstep i hi hne]
    · obtain ⟨o, p, _, e1, _, e3⟩ := insAt i hi
      rw [e3] at hne
      have := hone i p e1
      unfold oneR at this
      rw [if_neg (by omega)] at this
      exact this.2 (by omega)
  have hconstT : ∀ a b, a ≤ b → b ≤ n → (∀ i, a ≤ i → i < b → mcls (L.getD i default) ≠ 2 ∨ (L.getD i default).1 = 2) → (hs b).take σ.h.length = (hs a).take σ.h.length := by
    intro a b hab hbn
    induction b with
    | zero => intro _; have : a = 0 := by omega
              subst this; rfl
    | succ b ih =>
      intro h
      rcases Nat.lt_or_ge b a with q | q
      · have : a = b + 1 := by omega
        subst this; rfl
      · rw [hstepT b (by omega) (h b q (by omega))]
        exact ih q (by omega) fun i p r => h i p (by omega)
  have hconst : ∀ a b, a ≤ b → b ≤ n → (∀ i, a ≤ i → i < b → mcls (L.getD i default) ≠ 2) → hs b = hs a := by
    intro a b hab hbn
    induction b with
    | zero => intro _; have : a = 0 := by omega
              subst this; rfl
    | succ b ih =>
      intro h
      rcases Nat.lt_or_ge b a with q | q
      · have : a = b + 1 := by omega
        subst this; rfl
      · rw [hstep b (by omega) (h b q (by omega))]
        exact ih q (by omega) fun i p r => h i p (by omega)
  -- what is ahead of a listed or a ready one is listed
  have ahead : ∀ (S : Nat → Bool), (∀ i, i < n → S i = true → ∀ d ∈ direct ops i, S d = true) → ∀ i j, i < n → (∀ d ∈ direct ops i, S d = true) → tb (Region.before ops) i j = true → j < i → S j = true := by
    intro S hcl i
    induction i using Nat.strongRecOn with
    | _ i ih =>
      intro j hi hdir ht hji
      rcases d2 i j hji hi ht with q | ⟨d, hdm, r, q⟩
      · exact hdir j q
      · have hdi := d1 i d hi hdm
        exact ih d hdi j (by omega) (hcl d (by omega) (hdir d hdm)) q r
  have clash_T : ∀ (S : Nat → Bool), (∀ i, i < n → S i = true → ∀ d ∈ direct ops i, S d = true) → ∀ i j, i < n → j < i → S i = true → clashR (L.getD j default) (L.getD i default) = true → S j = true := fun S hcl i j hi hji hS hcl' =>
    ahead S hcl i j hi (hcl i hi hS) (d3 i j hji hi hcl') hji
  have clash_R : ∀ (S : Nat → Bool), (∀ i, i < n → S i = true → ∀ d ∈ direct ops i, S d = true) → ∀ i j, i < n → j < i → (∀ d ∈ direct ops i, S d = true) → clashR (L.getD j default) (L.getD i default) = true → S j = true := fun S hcl i j hi hji hdir hcl' =>
    ahead S hcl i j hi hdir (d3 i j hji hi hcl') hji
  have mem_ready : ∀ (listed : Array Bool) (i : Nat), listed.size = n → i ∈ Region.ready .any ops listed → i < n ∧ listed.getD i false = false ∧ ∀ d ∈ direct ops i, listed.getD d false = true := by
    intro listed i hsz hi
    unfold Region.ready at hi
    rw [List.mem_filter, List.mem_range, hn] at hi
    obtain ⟨h1, h2⟩ := hi
    rw [Bool.and_eq_true] at h2
    have e0 : listed.getD i false = listed.getD i true := by
      have : i < listed.size := by omega
      simp [Array.getD, this]
    refine ⟨h1, by rw [e0]; simpa using h2.1, fun d hd => ?_⟩
    obtain ⟨o, ins, ho, _⟩ := insAt i h1
    have h3 := h2.2
    rw [ho] at h3
    simp only [Option.map_some, Option.getD_some] at h3
    unfold direct at hd
    rw [ho] at hd
    simp only at hd
    obtain ⟨e, he, hq⟩ := List.mem_filterMap.1 hd
    have := Array.all_eq_true_iff_forall_mem.1 h3 e (by simpa using he)
    split at hq
    · rename_i hb
      cases hq
      simpa [hb] using this
    · cases hq
  have ready_mem : ∀ (listed : Array Bool) (i : Nat), listed.size = n → i < n → listed.getD i false = false → (∀ j, j < i → listed.getD j false = true) → i ∈ Region.ready .any ops listed := by
    intro listed i hsz hi h1 h2
    unfold Region.ready
    rw [List.mem_filter, List.mem_range, hn]
    refine ⟨hi, ?_⟩
    have e0 : listed.getD i false = listed.getD i true := by
      have : i < listed.size := by omega
      simp [Array.getD, this]
    rw [Bool.and_eq_true]
    refine ⟨by rw [← e0, h1]; rfl, ?_⟩
    obtain ⟨o, ins, ho, _⟩ := insAt i hi
    rw [ho]
    simp only [Option.map_some, Option.getD_some]
    refine Array.all_eq_true_iff_forall_mem.2 fun e he => ?_
    cases hb : Region.binds .any e with
    | false => rfl
    | true =>
      have hd : e.on ∈ direct ops i := by
        unfold direct
        rw [ho]
        exact List.mem_filterMap.2 ⟨e, by simpa using he, by simp [hb]⟩
      have := h2 e.on (d1 i e.on hi hd)
      simpa using this
  have main : ∀ (fuel : Nat) (listed : Array Bool) (τ : St) (F : Addr → Option Value) (own : List Ent) (act : Act) (w : World), listed.size = n → (∀ i, i < n → listed.getD i false = true → ∀ d ∈ direct ops i, listed.getD d false = true) →
      ((List.range n).countP fun i => !listed.getD i false) = fuel → (∃ k, k ≤ n ∧ (∀ i, i < n → mcls (L.getD i default) = 2 → (listed.getD i false = true ↔ i < k)) ∧ τ.h = hs k) → τ.t = tS σ.t (L.map (·.2)) as (fun i => listed.getD i false) n →
      Inv Gl F own B w0 τ act w → wpAny P .any ops Q fuel listed act w := by
    intro fuel
    induction fuel with
    | zero =>
      intro listed τ F own act w hsz hcl hcnt ⟨k, hk, hkw, hh⟩ ht hI
      have hall : ∀ i, i < n → listed.getD i false = true := fun i hi => by
        have := List.countP_eq_zero.1 hcnt i (List.mem_range.2 hi)
        simpa using this
      refine ⟨?_, hQ act w ⟨F, own, τ, hI, ?_⟩⟩
      · apply List.eq_nil_iff_forall_not_mem.2
        intro i hi
        obtain ⟨q1, q2, _⟩ := mem_ready listed i hsz hi
        rw [hall i q1] at q2
        cases q2
      · have e1 : τ.t = tS σ.t (L.map (·.2)) as (fun _ => true) L.length := by
          rw [ht, hl]; exact tS_congr fun j hj => ⟨rfl, hall j hj⟩
        have e2 : τ.h = hs L.length := by
          rw [hh, hl]
          exact (hconst k n hk (Nat.le_refl _) fun i h1 h2 h3 => by have := (hkw i h2 h3).1 (hall i h2); omega).symm
        have : τ = ⟨tS σ.t (L.map (·.2)) as (fun _ => true) L.length, hs L.length⟩ := by cases τ; simp only at e1 e2; rw [e1, e2]
        rw [this]; exact hK
    | succ fuel ih =>
      intro listed τ F own act w hsz hcl hcnt ⟨k, hk, hkw, hh⟩ ht hI
      refine ⟨fun hnil => ?_, fun i hi => ?_⟩
      · obtain ⟨i, h1, h2, h3⟩ := count_pos (n := n) (S := fun i => listed.getD i false) (by omega)
        have := ready_mem listed i hsz h1 h2 h3
        rw [hnil] at this
        simp at this
      · obtain ⟨hin, hiS, hdir⟩ := mem_ready listed i hsz hi
        obtain ⟨o, ⟨m, ins⟩, ho, hli, hci, hgd⟩ := insAt i hin
        have hci : cIns P lm ops o = some ins := hci
        -- operands
        have hslot : ∀ s, s ∈ ins.looks → τ.t.getD s .any = (tS σ.t (L.map (·.2)) as (fun _ => true) i).getD s .any := fun s hs' => by
          have e1 : tS σ.t (L.map (·.2)) as (fun _ => true) i = tS σ.t (L.map (·.2)) as (fun j => decide (j < i)) n := by
            rw [tS_stop (S := fun j => decide (j < i)) (j := i) (by omega) fun j h1 h2 => by simp; omega]
            exact tS_congr fun j hj => ⟨rfl, by simp [hj]⟩
          rw [e1, ht]
          have : (tS σ.t (L.map (·.2)) as (fun j => listed.getD j false) n)[s]? = (tS σ.t (L.map (·.2)) as (fun j => decide (j < i)) n)[s]? := tS_at fun j hj hdj => by
            obtain ⟨o', ins', _, hl', _, hg'⟩ := insAt j hj
            have hdst : ins'.2.dst = some s := by simpa [dstOf, hl'] using hdj
            rcases Nat.lt_trichotomy j i with r | r | r
            · rw [decide_eq_true r]
              refine clash_R _ hcl i j hin r hdir ?_
              rw [hg', hgd]
              simp only [clashR, hdst, Bool.or_eq_true, List.contains_iff_mem]
              exact .inl (.inl (.inl (.inl hs')))
            · subst r; simp [hiS]
            · rw [decide_eq_false (by omega)]
              cases hq : listed.getD j false with
              | false => rfl
              | true =>
                have := clash_T _ hcl j i hj r hq (by
                  rw [hg', hgd]
                  simp only [clashR, hdst, Bool.or_eq_true, List.contains_iff_mem]
                  exact .inl (.inl (.inr hs')))
                rw [hiS] at this; cases this
          rw [List.getD_eq_getElem?_getD, List.getD_eq_getElem?_getD, this]
        -- the heap
        have hheap : m ≠ 1 → mcls (m, ins) ≠ 0 → τ.h = hs i := fun hm1 hne => by
          rw [hh]
          have lo : ∀ j, j < n → mcls (L.getD j default) = 2 → j < i → j < k := fun j hj hc2 hji => by
            refine (hkw j hj hc2).1 (clash_R _ hcl i j hin hji hdir ?_)
            rw [hgd]; exact clashR_1 hc2 hne (.inr hm1)
          have up : ∀ j, j < n → mcls (L.getD j default) = 2 → i < j → ¬ j < k := fun j hj hc2 hij hjk => by
            have hSj := (hkw j hj hc2).2 hjk
            have := clash_T _ hcl j i hj hij hSj (by rw [hgd]; exact clashR_2 hc2 hne (.inr hm1))
            rw [hiS] at this; cases this
          have self : mcls (L.getD i default) = 2 → ¬ i < k := fun hc2 hik => by
            have := (hkw i hin hc2).2 hik
            rw [hiS] at this; cases this
          rcases Nat.le_total k i with r | r
          · exact (hconst k i r (by omega) fun j h1 h2 h3 => by have := lo j (by omega) h3 h2; omega).symm
          · refine hconst i k r hk fun j h1 h2 h3 => ?_
            rcases Nat.lt_or_ge i j with q | q
            · exact up j (by omega) h3 q h2
            · have : j = i := by omega
              subst this; exact self h3 h2
        have hheapT : m = 1 → mcls (m, ins) = 1 → (hs k).take σ.h.length = (hs i).take σ.h.length := fun hm1 hcl1 => by
          have lo : ∀ j, j < n → mcls (L.getD j default) = 2 → (L.getD j default).1 ≠ 2 → j < i → j < k := fun j hj hc2 hj2 hji => by
            refine (hkw j hj hc2).1 (clash_R _ hcl i j hin hji hdir ?_)
            rw [hgd]; exact clashR_1 hc2 (by omega) (.inl hj2)
          have up : ∀ j, j < n → mcls (L.getD j default) = 2 → (L.getD j default).1 ≠ 2 → i < j → ¬ j < k := fun j hj hc2 hj2 hij hjk => by
            have hSj := (hkw j hj hc2).2 hjk
            have := clash_T _ hcl j i hj hij hSj (by rw [hgd]; exact clashR_2 hc2 (by omega) (.inl hj2))
            rw [hiS] at this; cases this
          have dec : ∀ j, (mcls (L.getD j default) = 2 → (L.getD j default).1 ≠ 2 → False) → mcls (L.getD j default) ≠ 2 ∨ (L.getD j default).1 = 2 := fun j h => by
            by_cases h1 : mcls (L.getD j default) = 2
            · by_cases h2 : (L.getD j default).1 = 2
              · exact .inr h2
              · exact (h h1 h2).elim
            · exact .inl h1
          rcases Nat.le_total k i with r | r
          · exact (hconstT k i r (by omega) fun j h1 h2 => dec j fun h3 h4 => by have := lo j (by omega) h3 h4 h2; omega).symm
          · refine hconstT i k r hk fun j h1 h2 => dec j fun h3 h4 => ?_
            rcases Nat.lt_or_ge i j with q | q
            · exact up j (by omega) h3 h4 q h2
            · have : j = i := by omega
              subst this
              rw [hgd] at h3
              omega
        obtain ⟨h'', q1, q2, q3⟩ : ∃ h'', aOne P Gl true τ ins (as i) h'' ∧ (mcls (m, ins) ≠ 2 → h'' = τ.h) ∧ (mcls (m, ins) = 2 → h'' = hs (i + 1)) := by
          have h1 := hone i (m, ins) hli
          unfold oneR at h1
          by_cases hm1 : m = 1
          · subst hm1
            rw [if_pos rfl] at h1
            obtain ⟨⟨h2, ha⟩, _⟩ := h1
            have hcls : ins.i.cls = 1 := dm _ (List.mem_of_getElem? hli) (by simp)
            simp only at ha
            obtain ⟨_, h3, ha', _⟩ := aOne_congr (σ := ⟨tS σ.t (L.map (·.2)) as (fun _ => true) i, (hs i).take σ.h.length⟩) (τ := ⟨τ.t, (hs i).take σ.h.length⟩) hslot (fun _ => rfl) ha
            have hτ : (hs i).take σ.h.length ++ τ.h.drop σ.h.length = τ.h := by
              rw [← hheapT rfl hcls, hh]
              exact List.take_append_drop σ.h.length (hs k)
            have := aOne_app (x := τ.h.drop σ.h.length) hcls ha'
            rw [hτ] at this
            exact ⟨τ.h, this, fun _ => rfl, fun q => by unfold mcls at q; simp only at q; omega⟩
          · rw [if_neg hm1] at h1
            obtain ⟨q0, h'', q1, q2, q3⟩ := aOne_congr (τ := τ) (σ := ⟨tS σ.t (L.map (·.2)) as (fun _ => true) i, hs i⟩) hslot (fun q => hheap hm1 q) h1.1
            exact ⟨h'', q1, q2, q3⟩
        have hstepA : aStep P Gl true τ ins (fun ρ => ρ = St.put ⟨τ.t, h''⟩ ins.dst (as i)) := aOne_iff.2 ⟨as i, h'', q1, rfl⟩
        refine wpOp_mono ?_ (step_sound hI hci hstepA Q ho)
        rintro a1 w1 ⟨F1, own1, ρ, hI1, rfl⟩
        rw [put_eq] at hI1
        have hset : ∀ j, (listed.setIfInBounds i true).getD j false = if j = i then true else listed.getD j false := fun j => by
          by_cases hji : j = i
          · subst hji
            have : j < listed.size := by omega
            simp [Array.getD, this]
          · rw [if_neg hji]
            simp only [Array.getD_eq_getD_getElem?]
            rw [Array.getElem?_setIfInBounds_ne (fun e => hji e.symm)]
        refine ih (listed.setIfInBounds i true) ⟨putT τ.t ins.dst (as i), h''⟩ F1 own1 a1 w1 (by simp [hsz]) (fun j hj hS d hdj => ?_) ?_ ?_ ?_ hI1
        · rw [hset] at hS ⊢
          split
          · rfl
          · split at hS
            · rename_i hji; subst hji; exact hdir d hdj
            · exact hcl j hj hS d hdj
        · have := count_set (n := n) (S := fun j => listed.getD j false) (S' := fun j => (listed.setIfInBounds i true).getD j false) hin hiS (by simp only [hset]; simp) (fun j hj => by simp only [hset, if_neg hj])
          omega
        · by_cases hc2 : mcls (m, ins) = 2
          · refine ⟨i + 1, by omega, fun j hj hcj => ?_, by rw [q3 hc2]⟩
            rw [hset]
            split
            · rename_i hji; subst hji; simp
            · rename_i hji
              rw [hkw j hj hcj]
              constructor
              · intro hjk
                rcases Nat.lt_or_ge i j with r | r
                · have hSj := (hkw j hj hcj).2 hjk
                  have := clash_T _ hcl j i hj r hSj (by rw [hgd]; exact clashR_1 hc2 (by omega) (.inr (hne1 j hj hcj)))
                  rw [hiS] at this; cases this
                · omega
              · intro hji'
                refine (hkw j hj hcj).1 (clash_R _ hcl i j hin (by omega) hdir ?_)
                have hi1 := hne1 i hin (by rw [hgd]; exact hc2)
                rw [hgd] at hi1 ⊢; exact clashR_1 hcj (by omega) (.inr hi1)
          · refine ⟨k, hk, fun j hj hcj => ?_, by rw [q2 hc2]; exact hh⟩
            rw [hset]
            split
            · rename_i hji; subst hji; rw [hgd] at hcj; exact absurd hcj hc2
            · exact hkw j hj hcj
        · simp only
          apply List.ext_getElem?
          intro s
          have hdi : dstOf (L.map (·.2)) i = ins.dst := by simp [dstOf, hli]
          by_cases hds : ins.dst = some s
          · -- the slot itself: i is the last of those listed that writes it
            have e1 : (tS σ.t (L.map (·.2)) as (fun j => (listed.setIfInBounds i true).getD j false) n)[s]? = (tS σ.t (L.map (·.2)) as (fun j => decide (j ≤ i)) n)[s]? := tS_at fun j hj hdj => by
              obtain ⟨o', ins', _, hl', _, hg'⟩ := insAt j hj
              have hdst : ins'.2.dst = some s := by simpa [dstOf, hl'] using hdj
              rw [hset]
              split
              · rename_i hji; subst hji; simp
              · rename_i hji
                rcases Nat.lt_or_ge j i with r | r
                · rw [decide_eq_true (by omega)]
                  refine clash_R _ hcl i j hin r hdir ?_
                  rw [hg', hgd]; exact clashR_d hdst hds
                · rw [decide_eq_false (by omega)]
                  cases hq : listed.getD j false with
                  | false => rfl
                  | true =>
                    have := clash_T _ hcl j i hj (by omega) hq (by rw [hg', hgd]; exact clashR_d hds hdst)
                    rw [hiS] at this; cases this
            rw [e1, tS_stop (S := fun j => decide (j ≤ i)) (j := i + 1) (by omega) fun j h1 h2 => by simp; omega]
            simp only [tS, decide_eq_true (Nat.le_refl i), if_true, hdi, hds]
            exact putT_self (by rw [ht, tS_len, tS_len])
          · rw [putT_ne hds, ht]
            exact tS_at fun j hj hdj => by
              rw [hset]
              split
              · rename_i hji; subst hji; rw [hdi] at hdj; exact absurd hdj hds
              · rfl
  have hrep : ∀ i, (Array.replicate n false).getD i false = false := fun i => by
    simp only [Array.getD_eq_getD_getElem?, Array.getElem?_replicate]
    split <;> rfl
  refine main n (Array.replicate n false) σ F own act w (by simp) (fun i _ h => by rw [hrep] at h; cases h) ?_ ⟨0, by omega, fun i hi _ => by simp [hrep], h0.symm⟩ ?_ hI
  · have : ((List.range n).countP fun i => !(Array.replicate n false).getD i false) = (List.range n).length := List.countP_eq_length.2 fun i _ => by rw [hrep]; rfl
    rw [this]; simp
  · have : tS σ.t (L.map (·.2)) as (fun i => (Array.replicate n false).getD i false) n = tS σ.t (L.map (·.2)) as (fun i => (Array.replicate n false).getD i false) 0 := tS_stop (by omega) fun i _ _ => hrep i
    rw [this]; rfl
end
end Abs
end Go.Proofs.Ytpffhaligaebaaa
