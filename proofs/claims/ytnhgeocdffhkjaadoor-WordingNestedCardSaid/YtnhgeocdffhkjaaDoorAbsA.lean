/- The abstract machine: a region that draws its order does as the text's order says. -/
import Derived.Test.YtnhgeocdffhkjaaDoorAbs9
namespace Go.Proofs.YtnhgeocdffhkjaaDoor
namespace Abs
open Go.RowKit
set_option linter.unusedVariables false
set_option linter.unusedSimpArgs false

def direct (ops : Array Oper) (i : Nat) : List Nat := match ops[i]? with
  | some o => o.after.toList.filterMap fun e => if Region.binds .any e then some e.on else none
  | none => []
def tb (bm : Array Nat) (i j : Nat) : Bool := (bm.getD i 0).testBit j

/-- Two instructions, the first ahead in the text, whose order counts. -/
def clash (a b : Ins) : Bool :=
  (match a.dst with | some d => b.looks.contains d || b.dst == some d | none => false) || (match b.dst with | some d => a.looks.contains d | none => false) ||
  (a.i.cls == 2 && b.i.cls != 0) || (b.i.cls == 2 && a.i.cls != 0)

/-- The edges of a region order whatever may clash. -/
def drawOk (ops : Array Oper) (l : List Ins) : Bool :=
  let bm := Region.before ops
  let n := ops.size
  (List.range n).all fun i => (direct ops i).all (fun d => decide (d < i)) &&
    (List.range i).all fun j => (!tb bm i j || (direct ops i).contains j || (direct ops i).any fun d => decide (j < d) && tb bm d j) && (!clash (l.getD j default) (l.getD i default) || tb bm i j)

section
variable {P : Program} {Gl : Nat → Option (List AV)} {F : Addr → Option Value} {own : List Ent} {B : Nat} {w0 : W0} {σ : St} {act : Act} {w : World}

theorem drawOk_spec {ops : Array Oper} {l : List Ins} (h : drawOk ops l = true) :
    (∀ i d, i < ops.size → d ∈ direct ops i → d < i) ∧ (∀ i j, j < i → i < ops.size → tb (Region.before ops) i j = true → j ∈ direct ops i ∨ ∃ d ∈ direct ops i, j < d ∧ tb (Region.before ops) d j = true) ∧
    (∀ i j, j < i → i < ops.size → clash (l.getD j default) (l.getD i default) = true → tb (Region.before ops) i j = true) := by
  unfold drawOk at h
  have h1 : ∀ i, i < ops.size → _ := fun i hi => List.all_eq_true.1 h i (List.mem_range.2 hi)
  refine ⟨fun i d hi hd => ?_, fun i j hj hi ht => ?_, fun i j hj hi hc => ?_⟩
  · have := h1 i hi
    rw [Bool.and_eq_true] at this
    exact of_decide_eq_true (List.all_eq_true.1 this.1 d hd)
  · have := h1 i hi
    rw [Bool.and_eq_true] at this
    have := List.all_eq_true.1 this.2 j (List.mem_range.2 hj)
    rw [Bool.and_eq_true] at this
    have := this.1
    simp only [ht, Bool.not_true, Bool.false_or, Bool.or_eq_true] at this
    rcases this with q | q
    · exact .inl (List.contains_iff_mem.1 q)
    · obtain ⟨d, hd, hq⟩ := List.any_eq_true.1 q
      rw [Bool.and_eq_true] at hq
      exact .inr ⟨d, hd, of_decide_eq_true hq.1, hq.2⟩
  · have := h1 i hi
    rw [Bool.and_eq_true] at this
    have := List.all_eq_true.1 this.2 j (List.mem_range.2 hj)
    rw [Bool.and_eq_true] at this
    have := this.2
    rw [hc] at this
    exact this

theorem clash_1 {a b : Ins} (h1 : a.i.cls = 2) (h2 : b.i.cls ≠ 0) : clash a b = true := by simp [clash, h1, h2]
theorem clash_2 {a b : Ins} (h1 : b.i.cls = 2) (h2 : a.i.cls ≠ 0) : clash a b = true := by simp [clash, h1, h2]
theorem clash_d {a b : Ins} {s : Nat} (h1 : a.dst = some s) (h2 : b.dst = some s) : clash a b = true := by simp [clash, h1, h2]
theorem count_pos {n : Nat} {S : Nat → Bool} (h : 0 < (List.range n).countP fun i => !S i) : ∃ i, i < n ∧ S i = false ∧ ∀ j, j < i → S j = true := by
  have ex : ∃ i, i < n ∧ S i = false := by
    obtain ⟨i, hi, hs⟩ := List.countP_pos_iff.1 h
    exact ⟨i, List.mem_range.1 hi, by simpa using hs⟩
  obtain ⟨i, hi⟩ := ex
  induction i using Nat.strongRecOn with
  | _ i ih =>
    by_cases hall : ∀ j, j < i → S j = true
    · exact ⟨i, hi.1, hi.2, hall⟩
    · have : ∃ j, j < i ∧ S j = false := by
        apply Classical.byContradiction
        intro q
        exact hall fun j hj => by
          cases hs : S j with
          | true => rfl
          | false => exact absurd ⟨j, hj, hs⟩ q
      obtain ⟨j, hj, hs⟩ := this
      exact ih j hj ⟨by omega, hs⟩

theorem count_set {n : Nat} {S S' : Nat → Bool} {k : Nat} (hk : k < n) (h0 : S k = false) (h1 : S' k = true) (h : ∀ j, j ≠ k → S' j = S j) : ((List.range n).countP fun i => !S i) = ((List.range n).countP fun i => !S' i) + 1 := by
  induction n with
  | zero => omega
  | succ n ih =>
    rw [List.range_succ, List.countP_append, List.countP_append]
    rcases Nat.lt_or_ge k n with q | q
    · rw [ih q]
      simp only [List.countP_cons, List.countP_nil]
      rw [h n (by omega)]
      omega
    · have : k = n := by omega
      subst this
      have e : ((List.range k).countP fun i => !S i) = ((List.range k).countP fun i => !S' i) := List.countP_congr fun i hi => by
        rw [h i (by have := List.mem_range.1 hi; omega)]
      rw [e]
      simp [h0, h1]

theorem drawn_sound {lm : Bool} {ops : Array Oper} {l : List Ins} (hl : l.length = ops.size) (hc : ∀ (j : Nat) (o : Oper), ops[j]? = some o → ∃ ins, l[j]? = some ins ∧ cIns P lm ops o = some ins) (hd : drawOk ops l = true) {Q : Exit → Act → World → Prop} {K : St → Prop} (hQ : ∀ a w, Some' Gl B w0 K a w → Q .normal a w)
    (ha : aOps P Gl true K l σ) (hI : Inv Gl F own B w0 σ act w) : wpAny P .any ops Q ops.size (Array.replicate ops.size false) act w := by
  obtain ⟨d1, d2, d3⟩ := drawOk_spec hd
  obtain ⟨as, hs, h0, hone, hK⟩ := trace ha
  generalize hn : ops.size = n at *
  have insAt : ∀ i, i < n → ∃ o ins, ops[i]? = some o ∧ l[i]? = some ins ∧ cIns P lm ops o = some ins ∧ l.getD i default = ins := fun i hi => by
    have ho : ops[i]? = some (ops[i]'(by omega)) := Array.getElem?_eq_getElem (by omega)
    obtain ⟨ins, e1, e2⟩ := hc i _ ho
    exact ⟨_, ins, ho, e1, e2, by simp [List.getD, e1]⟩
  -- the heap turns at writers alone
  have hstep : ∀ i, i < n → (l.getD i default).i.cls ≠ 2 → hs (i + 1) = hs i := fun i hi hne => by
    obtain ⟨o, ins, _, e1, _, e3⟩ := insAt i hi
    rw [e3] at hne
    exact (aOne_congr (τ := ⟨tS σ.t l as (fun _ => true) i, hs i⟩) (fun _ _ => rfl) (fun _ => rfl) (hone i ins e1)).1 hne
  have hconst : ∀ a b, a ≤ b → b ≤ n → (∀ i, a ≤ i → i < b → (l.getD i default).i.cls ≠ 2) → hs b = hs a := by
    intro a b hab hbn
    induction b with
    | zero => intro _; have : a = 0 := by omega
              subst this; rfl
    | succ b ih =>
      intro h
      rcases Nat.lt_or_ge b a with q | q
      · have : a = b + 1 := by omega
        subst this; rfl
      · rw [hstep b (by omega) (h b q (by omega))]
        exact ih q (by omega) fun i p r => h i p (by omega)
  -- what is ahead of a listed or a ready one is listed
  have ahead : ∀ (S : Nat → Bool), (∀ i, i < n → S i = true → ∀ d ∈ direct ops i, S d = true) → ∀ i j, i < n → (∀ d ∈ direct ops i, S d = true) → tb (Region.before ops) i j = true → j < i → S j = true := by
    intro S hcl i
    induction i using Nat.strongRecOn with
    | _ i ih =>
      intro j hi hdir ht hji
      rcases d2 i j hji hi ht with q | ⟨d, hdm, r, q⟩
      · exact hdir j q
      · have hdi := d1 i d hi hdm
        exact ih d hdi j (by omega) (hcl d (by omega) (hdir d hdm)) q r
  have clash_T : ∀ (S : Nat → Bool), (∀ i, i < n → S i = true → ∀ d ∈ direct ops i, S d = true) → ∀ i j, i < n → j < i → S i = true → clash (l.getD j default) (l.getD i default) = true → S j = true := fun S hcl i j hi hji hS hcl' =>
    ahead S hcl i j hi (hcl i hi hS) (d3 i j hji hi hcl') hji
  have clash_R : ∀ (S : Nat → Bool), (∀ i, i < n → S i = true → ∀ d ∈ direct ops i, S d = true) → ∀ i j, i < n → j < i → (∀ d ∈ direct ops i, S d = true) → clash (l.getD j default) (l.getD i default) = true → S j = true := fun S hcl i j hi hji hdir hcl' =>
    ahead S hcl i j hi hdir (d3 i j hji hi hcl') hji
  have mem_ready : ∀ (listed : Array Bool) (i : Nat), listed.size = n → i ∈ Region.ready .any ops listed → i < n ∧ listed.getD i false = false ∧ ∀ d ∈ direct ops i, listed.getD d false = true := by
    intro listed i hsz hi
    unfold Region.ready at hi
    rw [List.mem_filter, List.mem_range, hn] at hi
    obtain ⟨h1, h2⟩ := hi
    rw [Bool.and_eq_true] at h2
    have e0 : listed.getD i false = listed.getD i true := by
      have : i < listed.size := by omega
      simp [Array.getD, this]
    refine ⟨h1, by rw [e0]; simpa using h2.1, fun d hd => ?_⟩
    obtain ⟨o, ins, ho, _⟩ := insAt i h1
    have h3 := h2.2
    rw [ho] at h3
    simp only [Option.map_some, Option.getD_some] at h3
    unfold direct at hd
    rw [ho] at hd
    simp only at hd
    obtain ⟨e, he, hq⟩ := List.mem_filterMap.1 hd
    have := Array.all_eq_true_iff_forall_mem.1 h3 e (by simpa using he)
    split at hq
    · rename_i hb
      cases hq
      simpa [hb] using this
    · cases hq
  have ready_mem : ∀ (listed : Array Bool) (i : Nat), listed.size = n → i < n → listed.getD i false = false → (∀ j, j < i → listed.getD j false = true) → i ∈ Region.ready .any ops listed := by
    intro listed i hsz hi h1 h2
    unfold Region.ready
    rw [List.mem_filter, List.mem_range, hn]
    refine ⟨hi, ?_⟩
    have e0 : listed.getD i false = listed.getD i true := by
      have : i < listed.size := by omega
      simp [Array.getD, this]
    rw [Bool.and_eq_true]
    refine ⟨by rw [← e0, h1]; rfl, ?_⟩
    obtain ⟨o, ins, ho, _⟩ := insAt i hi
    rw [ho]
    simp only [Option.map_some, Option.getD_some]
    refine Array.all_eq_true_iff_forall_mem.2 fun e he => ?_
    cases hb : Region.binds .any e with
    | false => rfl
    | true =>
      have hd : e.on ∈ direct ops i := by
        unfold direct
        rw [ho]
        exact List.mem_filterMap.2 ⟨e, by simpa using he, by simp [hb]⟩
      have := h2 e.on (d1 i e.on hi hd)
      simpa using this
  have main : ∀ (fuel : Nat) (listed : Array Bool) (τ : St) (F : Addr → Option Value) (own : List Ent) (act : Act) (w : World), listed.size = n → (∀ i, i < n → listed.getD i false = true → ∀ d ∈ direct ops i, listed.getD d false = true) →
      ((List.range n).countP fun i => !listed.getD i false) = fuel → (∃ k, k ≤ n ∧ (∀ i, i < n → (l.getD i default).i.cls = 2 → (listed.getD i false = true ↔ i < k)) ∧ τ.h = hs k) → τ.t = tS σ.t l as (fun i => listed.getD i false) n →
      Inv Gl F own B w0 τ act w → wpAny P .any ops Q fuel listed act w := by
    intro fuel
    induction fuel with
    | zero =>
      intro listed τ F own act w hsz hcl hcnt ⟨k, hk, hkw, hh⟩ ht hI
      have hall : ∀ i, i < n → listed.getD i false = true := fun i hi => by
        have := List.countP_eq_zero.1 hcnt i (List.mem_range.2 hi)
        simpa using this
      refine ⟨?_, hQ act w ⟨F, own, τ, hI, ?_⟩⟩
      · apply List.eq_nil_iff_forall_not_mem.2
        intro i hi
        obtain ⟨q1, q2, _⟩ := mem_ready listed i hsz hi
        rw [hall i q1] at q2
        cases q2
      · have e1 : τ.t = tS σ.t l as (fun _ => true) l.length := by
          rw [ht, hl]; exact tS_congr fun j hj => ⟨rfl, hall j hj⟩
        have e2 : τ.h = hs l.length := by
          rw [hh, hl]
          exact (hconst k n hk (Nat.le_refl _) fun i h1 h2 h3 => by have := (hkw i h2 h3).1 (hall i h2); omega).symm
        have : τ = ⟨tS σ.t l as (fun _ => true) l.length, hs l.length⟩ := by cases τ; simp only at e1 e2; rw [e1, e2]
        rw [this]; exact hK
    | succ fuel ih =>
      intro listed τ F own act w hsz hcl hcnt ⟨k, hk, hkw, hh⟩ ht hI
      refine ⟨fun hnil => ?_, fun i hi => ?_⟩
      · obtain ⟨i, h1, h2, h3⟩ := count_pos (n := n) (S := fun i => listed.getD i false) (by omega)
        have := ready_mem listed i hsz h1 h2 h3
        rw [hnil] at this
        simp at this
      · obtain ⟨hin, hiS, hdir⟩ := mem_ready listed i hsz hi
        obtain ⟨o, ins, ho, hli, hci, hgd⟩ := insAt i hin
        -- operands
        have hslot : ∀ s, s ∈ ins.looks → τ.t.getD s .any = (tS σ.t l as (fun _ => true) i).getD s .any := fun s hs' => by
          have e1 : tS σ.t l as (fun _ => true) i = tS σ.t l as (fun j => decide (j < i)) n := by
            rw [tS_stop (S := fun j => decide (j < i)) (j := i) (by omega) fun j h1 h2 => by simp; omega]
            exact tS_congr fun j hj => ⟨rfl, by simp [hj]⟩
          rw [e1, ht]
          have : (tS σ.t l as (fun j => listed.getD j false) n)[s]? = (tS σ.t l as (fun j => decide (j < i)) n)[s]? := tS_at fun j hj hdj => by
            obtain ⟨o', ins', _, hl', _, hg'⟩ := insAt j hj
            have hdst : ins'.dst = some s := by simpa [dstOf, hl'] using hdj
            rcases Nat.lt_trichotomy j i with r | r | r
            · rw [decide_eq_true r]
              refine clash_R _ hcl i j hin r hdir ?_
              rw [hg', hgd]
              simp only [clash, hdst, Bool.or_eq_true, List.contains_iff_mem]
              exact .inl (.inl (.inl (.inl hs')))
            · subst r; simp [hiS]
            · rw [decide_eq_false (by omega)]
              cases hq : listed.getD j false with
              | false => rfl
              | true =>
                have := clash_T _ hcl j i hj r hq (by
                  rw [hg', hgd]
                  simp only [clash, hdst, Bool.or_eq_true, List.contains_iff_mem]
                  exact .inl (.inl (.inr hs')))
                rw [hiS] at this; cases this
          rw [List.getD_eq_getElem?_getD, List.getD_eq_getElem?_getD, this]
        -- the heap
        have hheap : ins.i.cls ≠ 0 → τ.h = hs i := fun hne => by
          rw [hh]
          have lo : ∀ j, j < n → (l.getD j default).i.cls = 2 → j < i → j < k := fun j hj hc2 hji => by
            refine (hkw j hj hc2).1 (clash_R _ hcl i j hin hji hdir ?_)
            rw [hgd]; exact clash_1 hc2 hne
          have up : ∀ j, j < n → (l.getD j default).i.cls = 2 → i < j → ¬ j < k := fun j hj hc2 hij hjk => by
            have hSj := (hkw j hj hc2).2 hjk
            have := clash_T _ hcl j i hj hij hSj (by rw [hgd]; exact clash_2 hc2 hne)
            rw [hiS] at this; cases this
          have self : (l.getD i default).i.cls = 2 → ¬ i < k := fun hc2 hik => by
            have := (hkw i hin hc2).2 hik
            rw [hiS] at this; cases this
          rcases Nat.le_total k i with r | r
          · exact (hconst k i r (by omega) fun j h1 h2 h3 => by have := lo j (by omega) h3 h2; omega).symm
          · refine hconst i k r hk fun j h1 h2 h3 => ?_
            rcases Nat.lt_or_ge i j with q | q
            · exact up j (by omega) h3 q h2
            · have : j = i := by omega
              subst this; exact self h3 h2
        obtain ⟨q0, h'', q1, q2, q3⟩ := aOne_congr (τ := τ) (σ := ⟨tS σ.t l as (fun _ => true) i, hs i⟩) hslot hheap (hone i ins hli)
        have hstepA : aStep P Gl true τ ins (fun ρ => ρ = St.put ⟨τ.t, h''⟩ ins.dst (as i)) := aOne_iff.2 ⟨as i, h'', q1, rfl⟩
        refine wpOp_mono ?_ (step_sound hI hci hstepA Q ho)
        rintro a1 w1 ⟨F1, own1, ρ, hI1, rfl⟩
        rw [put_eq] at hI1
        have hset : ∀ j, (listed.setIfInBounds i true).getD j false = if j = i then true else listed.getD j false := fun j => by
          by_cases hji : j = i
          · subst hji
            have : j < listed.size := by omega
            simp [Array.getD, this]
          · rw [if_neg hji]
            simp only [Array.getD_eq_getD_getElem?]
            rw [Array.getElem?_setIfInBounds_ne (fun e => hji e.symm)]
        refine ih (listed.setIfInBounds i true) ⟨putT τ.t ins.dst (as i), h''⟩ F1 own1 a1 w1 (by simp [hsz]) (fun j hj hS d hdj => ?_) ?_ ?_ ?_ hI1
        · rw [hset] at hS ⊢
          split
          · rfl
          · split at hS
            · rename_i hji; subst hji; exact hdir d hdj
            · exact hcl j hj hS d hdj
        · have := count_set (n := n) (S := fun j => listed.getD j false) (S' := fun j => (listed.setIfInBounds i true).getD j false) hin hiS (by simp only [hset]; simp) (fun j hj => by simp only [hset, if_neg hj])
          omega
        · by_cases hc2 : ins.i.cls = 2
          · refine ⟨i + 1, by omega, fun j hj hcj => ?_, by rw [q3 hc2]⟩
            rw [hset]
            split
            · rename_i hji; subst hji; simp
            · rename_i hji
              rw [hkw j hj hcj]
              constructor
              · intro hjk
                rcases Nat.lt_or_ge i j with r | r
                · have hSj := (hkw j hj hcj).2 hjk
                  have := clash_T _ hcl j i hj r hSj (by rw [hgd]; exact clash_1 hc2 (by omega))
                  rw [hiS] at this; cases this
                · omega
              · intro hji'
                refine (hkw j hj hcj).1 (clash_R _ hcl i j hin (by omega) hdir ?_)
                rw [hgd]; exact clash_1 hcj (by omega)
          · refine ⟨k, hk, fun j hj hcj => ?_, by rw [q2 hc2]; exact hh⟩
            rw [hset]
            split
            · rename_i hji; subst hji; rw [hgd] at hcj; exact absurd hcj hc2
            · exact hkw j hj hcj
        · simp only
          apply List.ext_getElem?
          intro s
          have hdi : dstOf l i = ins.dst := by simp [dstOf, hli]
          by_cases hds : ins.dst = some s
          · -- the slot itself: i is the last of those listed that writes it
            have e1 : (tS σ.t l as (fun j => (listed.setIfInBounds i true).getD j false) n)[s]? = (tS σ.t l as (fun j => decide (j ≤ i)) n)[s]? := tS_at fun j hj hdj => by
              obtain ⟨o', ins', _, hl', _, hg'⟩ := insAt j hj
              have hdst : ins'.dst = some s := by simpa [dstOf, hl'] using hdj
              rw [hset]
              split
              · rename_i hji; subst hji; simp
              · rename_i hji
                rcases Nat.lt_or_ge j i with r | r
                · rw [decide_eq_true (by omega)]
                  refine clash_R _ hcl i j hin r hdir ?_
                  rw [hg', hgd]; exact clash_d hdst hds
                · rw [decide_eq_false (by omega)]
                  cases hq : listed.getD j false with
                  | false => rfl
                  | true =>
                    have := clash_T _ hcl j i hj (by omega) hq (by rw [hg', hgd]; exact clash_d hds hdst)
                    rw [hiS] at this; cases this
            rw [e1, tS_stop (S := fun j => decide (j ≤ i)) (j := i + 1) (by omega) fun j h1 h2 => by simp; omega]
            simp only [tS, decide_eq_true (Nat.le_refl i), if_true, hdi, hds]
            exact putT_self (by rw [ht, tS_len, tS_len])
          · rw [putT_ne hds, ht]
            exact tS_at fun j hj hdj => by
              rw [hset]
              split
              · rename_i hji; subst hji; rw [hdi] at hdj; exact absurd hdj hds
              · rfl
  have hrep : ∀ i, (Array.replicate n false).getD i false = false := fun i => by
    simp only [Array.getD_eq_getD_getElem?, Array.getElem?_replicate]
    split <;> rfl
  refine main n (Array.replicate n false) σ F own act w (by simp) (fun i _ h => by rw [hrep] at h; cases h) ?_ ⟨0, by omega, fun i hi _ => by simp [hrep], h0.symm⟩ ?_ hI
  · have : ((List.range n).countP fun i => !(Array.replicate n false).getD i false) = (List.range n).length := List.countP_eq_length.2 fun i _ => by rw [hrep]; rfl
    rw [this]; simp
  · have : tS σ.t l as (fun i => (Array.replicate n false).getD i false) n = tS σ.t l as (fun i => (Array.replicate n false).getD i false) 0 := tS_stop (by omega) fun i _ _ => hrep i
    rw [this]; rfl
end
end Abs
end Go.Proofs.YtnhgeocdffhkjaaDoor
