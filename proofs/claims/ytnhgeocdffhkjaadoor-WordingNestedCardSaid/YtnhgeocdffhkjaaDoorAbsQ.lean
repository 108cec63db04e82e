/- The abstract machine: a region that draws its order, makers going ahead: the proof. -/
import Derived.Test.YtnhgeocdffhkjaaDoorAbsP
namespace Go.Proofs.YtnhgeocdffhkjaaDoor
namespace Abs
open Go.RowKit
set_option linter.unusedVariables false
set_option linter.unusedSimpArgs false
section
variable {P : Program} {Gl : Nat → Option (List AV)} {F : Addr → Option Value} {own : List Ent} {B : Nat} {w0 : W0} {σ τ : St} {act : Act} {w : World} {N : Nat} {U : List Nat}
theorem mayGo_spec {b : Nat × Ins} (h : mayGo b = true) : isMk b.2.i = true ∧ b.2.gd = none ∧ (b.1 = 0 ∨ b.1 = 2) ∧ b.2.i.isCall = false ∧ ∃ d, b.2.dst = some d ∧ d ∉ b.2.looks := by
  unfold mayGo at h
  simp only [Bool.and_eq_true, Bool.or_eq_true, beq_iff_eq, Option.isNone_iff_eq_none] at h
  obtain ⟨⟨⟨h1, h2⟩, h3⟩, h4⟩ := h
  refine ⟨h1, h2, h3, ?_, ?_⟩
  · cases hi : b.2.i <;> first | rfl | (rw [hi] at h1; cases h1)
  · split at h4
    · rename_i d hd
      exact ⟨d, hd, fun q => by rw [List.contains_iff_mem.2 q] at h4; cases h4⟩
    · cases h4
theorem mayGo_cls {b : Nat × Ins} (h : mayGo b = true) : mcls b = 2 := by
  obtain ⟨h1, _, h3, _⟩ := mayGo_spec h
  rcases h3 with q | q
  · rw [mcls_0 q]; cases hi : b.2.i <;> first | rfl | (rw [hi] at h1; cases h1)
  · exact mcls_2 q
theorem apart_spec {a b : Nat × Ins} (h : apart a b = true) : (∀ d, a.2.dst = some d → d ∉ b.2.looks ∧ b.2.dst ≠ some d) ∧ (∀ d, b.2.dst = some d → d ∉ a.2.looks) := by
  unfold apart at h
  simp only [Bool.not_eq_true', Bool.or_eq_false_iff] at h
  obtain ⟨h1, h2⟩ := h
  refine ⟨fun d hd => ?_, fun d hd => ?_⟩
  · rw [hd] at h1
    simp only [Bool.or_eq_false_iff, beq_eq_false_iff_ne] at h1
    exact ⟨(fun q => by rw [List.contains_iff_mem.2 q] at h1; cases h1.1), h1.2⟩
  · rw [hd] at h2
    simp only at h2
    exact fun q => by rw [List.contains_iff_mem.2 q] at h2; cases h2
def Apart (a b : Nat × Ins) : Prop := (∀ d, a.2.dst = some d → d ∉ b.2.looks ∧ b.2.dst ≠ some d) ∧ (∀ d, b.2.dst = some d → d ∉ a.2.looks)
theorem noclash_apart {a b : Nat × Ins} (h : clashR a b = false) : Apart a b := ⟨(noclash h).1, (noclash h).2.1⟩
/-- A step, and what the state behind it looks like. -/
theorem stepR_put {p : Nat × Ins} (hm : okM p) {K : St → Prop} (h : stepR P Gl N U p σ K) : stepR P Gl N U p σ fun ρ => K ρ ∧ ∃ v h1, ρ = St.put ⟨σ.t, h1⟩ p.2.dst v := by
  refine stepR_tr (τ := σ) hm (fun _ _ => rfl) (.inl rfl) (fun v h1 k1 k2 k3 => ?_) h
  by_cases hq : mcls p = 2
  · rw [if_pos hq]; exact ⟨k1, v, h1, rfl⟩
  · rw [if_neg hq]; rw [k2 hq] at k1; exact ⟨k1, v, σ.h, rfl⟩
theorem goFirst2 {lm : Bool} {ops : Array Oper} {b : Nat × Ins} {kb : Nat} {ob : Oper} (hmb : okM b) (hob : ops[kb]? = some ob) (hcb : cIns P lm ops ob = some b.2) {post : List (Nat × Ins)} {K : St → Prop} {Q : Exit → Act → World → Prop} (pre : List (Nat × Ins)) (hp : ∀ a ∈ pre, okM a ∧ clashR a b = false ∧ ∃ (k : Nat) (o : Oper), ops[k]? = some o ∧ cIns P lm ops o = some a.2) (hI : Inv Gl F own B w0 σ act w) (h : aOpsR P Gl N U K (pre ++ b :: post) σ) :
    wpOp P ops Q kb (Some' Gl B w0 fun ρ => aOpsR P Gl N U K (pre ++ post) ρ ∧ ∃ v h1, ρ = St.put ⟨σ.t, h1⟩ b.2.dst v) act w := by
  have h' : stepR P Gl N U b σ (aOpsR P Gl N U K (pre ++ post)) := by
    cases hn : b.2.i.isCall with
    | true => exact early_call hmb hn pre (fun a ha => ⟨(hp a ha).1, (hp a ha).2.1⟩) σ h
    | false =>
      obtain ⟨v, h2, hD⟩ := early_D hmb hn pre hp σ F own act w hI h
      rw [stepR_D hn]
      exact ⟨v, h2, hD, early_rest hmb hn pre (fun a ha => ⟨(hp a ha).1, (hp a ha).2.1⟩) σ v h2 hD h⟩
  replace h' := stepR_put hmb h'
  have ex : ∃ d, aStep P Gl d σ b.2 (fun ρ => aOpsR P Gl N U K (pre ++ post) ρ ∧ ∃ v h1, ρ = St.put ⟨σ.t, h1⟩ b.2.dst v) ∨ aStep P Gl d σ b.2 (fun ρ => agree N U σ.h ρ.h ∧ aOpsR P Gl N U K (pre ++ post) ρ ∧ ∃ v h1, ρ = St.put ⟨σ.t, h1⟩ b.2.dst v) := by
    obtain ⟨m, ins⟩ := b
    match m, h' with
    | 0, h' => exact ⟨true, .inl h'⟩
    | 1, h' => exact ⟨true, .inl h'.2⟩
    | m + 2, h' => exact ⟨false, .inr h'⟩
  obtain ⟨d, h' | h'⟩ := ex
  · exact step_sound hI hcb h' Q hob
  · refine wpOp_mono ?_ (step_sound hI hcb h' Q hob)
    rintro a1 w1 ⟨F1, own1, ρ, hI1, _, hk⟩
    exact ⟨F1, own1, ρ, hI1, hk⟩
/-- What a maker's slot holds ahead of it does not count. -/
theorem slot_any {b : Nat × Ins} (hb : okM b) {d : Nat} (hd : b.2.dst = some d) (hnd : d ∉ b.2.looks) {post : List (Nat × Ins)} {K : St → Prop} (x : AV) : ∀ (pre : List (Nat × Ins)), (∀ a ∈ pre, okM a ∧ Apart a b) → ∀ (σ : St), aOpsR P Gl N U K (pre ++ b :: post) σ → aOpsR P Gl N U K (pre ++ b :: post) (σ.put (some d) x) := by
  have look : ∀ (σ : St) (s : Nat), s ≠ d → (σ.put (some d) x).t.getD s .any = σ.t.getD s .any := fun σ s hs => by
    simp only [St.put, List.getD, List.getElem?_set_ne (Ne.symm hs)]
  intro pre
  induction pre with
  | nil =>
    intro _ σ h
    refine stepR_tr (τ := σ.put (some d) x) hb (fun s hs => look σ s fun q => hnd (q ▸ hs)) (.inl rfl) (fun v h1 k1 k2 k3 => ?_) h
    have e : St.put ⟨(σ.put (some d) x).t, if mcls b = 2 then h1 else (σ.put (some d) x).h⟩ b.2.dst v = St.put ⟨σ.t, h1⟩ b.2.dst v := by
      rw [hd]
      simp only [St.put, List.set_set]
      split
      · rfl
      · rename_i q; rw [k2 q]
    rw [e]; exact k1
  | cons a pre ih =>
    intro hp σ h
    obtain ⟨hma, hab⟩ := hp a (by simp)
    refine stepR_tr (τ := σ.put (some d) x) (K1 := aOpsR P Gl N U K (pre ++ b :: post)) hma (fun s hs => look σ s fun q => hab.2 d hd (q ▸ hs)) (.inl rfl) (fun v h1 k1 k2 k3 => ?_) h
    have := ih (fun z hz => hp z (by simp [hz])) _ k1
    have e : (St.put ⟨σ.t, h1⟩ a.2.dst v).put (some d) x = St.put ⟨(σ.put (some d) x).t, if mcls a = 2 then h1 else (σ.put (some d) x).h⟩ a.2.dst v := by
      have hh : (if mcls a = 2 then h1 else σ.h) = h1 := by
        split
        · rfl
        · rename_i q; rw [k2 q]
      show _ = St.put ⟨(σ.t.set d x), if mcls a = 2 then h1 else σ.h⟩ a.2.dst v
      rw [hh]
      cases hda : a.2.dst with
      | none => rfl
      | some i =>
        have : i ≠ d := fun q => (hab.1 i hda).2 (by rw [hd, q])
        simp only [St.put]
        rw [List.set_comm _ _ this]
    rw [← e]; exact this
/-- A maker that comes to something later does so now. -/
theorem early_mk {lm : Bool} {ops : Array Oper} {b : Nat × Ins} (hb : mayGo b = true) {post : List (Nat × Ins)} {K : St → Prop} : ∀ (pre : List (Nat × Ins)), (∀ a ∈ pre, okM a ∧ Apart a b ∧ ∃ (k : Nat) (o : Oper), ops[k]? = some o ∧ cIns P lm ops o = some a.2) → ∀ (σ : St) (F : Addr → Option Value) (own : List Ent) (act : Act) (w : World), Inv Gl F own B w0 σ act w → aOpsR P Gl N U K (pre ++ b :: post) σ → ∃ pr v ob, mkO Gl σ b.2.i = some (pr, v, ob) ∧ pr := by
  obtain ⟨b1, b2, b3, b4, d, b5, b6⟩ := mayGo_spec hb
  intro pre
  induction pre with
  | nil =>
    intro _ σ F own act w hI h
    have h : stepR P Gl N U b σ (aOpsR P Gl N U K post) := h
    rw [stepR_D b4] at h
    obtain ⟨v, h2, ⟨⟨q, e, hq⟩, _⟩, _⟩ := h
    unfold outc at e
    rw [b2] at e
    obtain ⟨v', ob, hmk⟩ := step_mkO b1 e
    exact ⟨q, v', ob, hmk, hq⟩
  | cons a pre ih =>
    intro hp σ F own act w hI h
    obtain ⟨hma, hab, k, o, ho, hc⟩ := hp a (by simp)
    obtain ⟨F1, own1, act1, w1, v, h1, hI1, hK, _, _⟩ := stepR_real hma ho hc hI h
    obtain ⟨pr, v', ob, hmk, hpr⟩ := ih (fun z hz => hp z (by simp [hz])) _ F1 own1 act1 w1 hI1 hK
    refine ⟨pr, v', ob, ?_, hpr⟩
    rw [← hmk]
    refine (mkO_congr fun s hs => ?_).symm
    exact put_t fun q => (hab.1 s q).1 (by simp [Ins.looks, hs])
/-- A maker whose time has come. -/
theorem claim_step {b : Nat × Ins} (hb : mayGo b = true) {post : List (Nat × Ins)} {K : St → Prop} (pre : List (Nat × Ins)) (hp : ∀ a ∈ pre, okM a ∧ clashR a b = false) (hN : N ≤ σ.h.length) {pr : Prop} {v : MV} {ob : AObj} (hm : mkO Gl σ b.2.i = some (pr, v, ob)) (hpr : pr) (h : aOpsR P Gl N U K (pre ++ b :: post) σ) :
    aOpsR P Gl N U K (pre ++ post) (St.put ⟨σ.t, σ.h ++ [ob]⟩ b.2.dst (v.at σ.h.length)) := by
  obtain ⟨b1, b2, b3, b4, d, b5, b6⟩ := mayGo_spec hb
  have hok : okM b := by rcases b3 with q | q; exact .inl q; exact .inr (.inl q)
  refine early_rest hok b4 pre hp σ _ _ ⟨⟨pr, ?_, hpr⟩, fun q => by omega, fun _ id hid _ => ?_⟩ h
  · unfold outc
    rw [b2]
    exact mkO_step hm
  · rw [List.getElem?_append_left (by omega)]
theorem drawOkP_spec {ops : Array Oper} {l : List (Nat × Ins)} (h : drawOkP ops l = true) :
    (∀ i d, i < ops.size → d ∈ direct ops i → d < i) ∧ (∀ i j, j < i → i < ops.size → tb (Region.before ops) i j = true → j ∈ direct ops i ∨ ∃ d ∈ direct ops i, j < d ∧ tb (Region.before ops) d j = true) ∧
    (∀ i j, j < i → i < ops.size → clashR (l.getD j default) (l.getD i default) = true → mkOk (l.getD j default) (l.getD i default) = true ∨ (tb (Region.before ops) i j = true ∧ (mayGo (l.getD j default) = true → ∀ a, a < j → mcls (l.getD a default) = 2 → tb (Region.before ops) i a = true))) ∧ ∀ p ∈ l, okM p := by
  unfold drawOkP at h
  rw [Bool.and_eq_true] at h
  obtain ⟨hm, h⟩ := h
  have h1 : ∀ i, i < ops.size → _ := fun i hi => List.all_eq_true.1 h i (List.mem_range.2 hi)
  refine ⟨fun i d hi hd => ?_, fun i j hj hi ht => ?_, fun i j hj hi hc => ?_, fun p hp => ?_⟩
  · have := h1 i hi
    rw [Bool.and_eq_true] at this
    exact of_decide_eq_true (List.all_eq_true.1 this.1 d hd)
  · have := h1 i hi
    rw [Bool.and_eq_true] at this
    have := List.all_eq_true.1 this.2 j (List.mem_range.2 hj)
    rw [Bool.and_eq_true] at this
    have := this.1
    simp only [ht, Bool.not_true, Bool.false_or, Bool.or_eq_true] at this
    rcases this with q | q
    · exact .inl (List.contains_iff_mem.1 q)
    · obtain ⟨d, hd, hq⟩ := List.any_eq_true.1 q
      rw [Bool.and_eq_true] at hq
      exact .inr ⟨d, hd, of_decide_eq_true hq.1, hq.2⟩
  · have := h1 i hi
    rw [Bool.and_eq_true] at this
    have := List.all_eq_true.1 this.2 j (List.mem_range.2 hj)
    rw [Bool.and_eq_true] at this
    have := this.2
    rw [hc] at this
    simp only [Bool.not_true, Bool.false_or, Bool.or_eq_true, Bool.and_eq_true] at this
    rcases this with q | ⟨q, r⟩
    · exact .inl q
    · refine .inr ⟨q, fun hg a ha hcl => ?_⟩
      rw [hg] at r
      simp only [Bool.not_true, Bool.false_eq_true, false_or] at r
      have := List.all_eq_true.1 r a (List.mem_range.2 ha)
      rw [hcl] at this
      simpa using this
  · have := List.all_eq_true.1 hm p hp
    simp only [Bool.or_eq_true, Bool.and_eq_true, beq_iff_eq] at this
    rcases this with (q | q) | ⟨q, r⟩
    · exact .inl q
    · exact .inr (.inl q)
    · exact .inr (.inr ⟨q, Nat.le_of_ble_eq_true r⟩)
/-- A maker that went ahead. -/
def Pend (Gl : Nat → Option (List AV)) (L : List (Nat × Ins)) (τ : St) (i : Nat) (q : PdE) : Prop :=
  mayGo (L.getD i default) = true ∧ ∃ d v pr x, (L.getD i default).2.dst = some d ∧ mkO Gl τ (L.getD i default).2.i = some (pr, v, q.ob) ∧ pr ∧ (∀ a, τ.t[d]? = some a → a = .v x) ∧ (d < τ.t.length → ∀ (F' : Addr → Option Value) (own' : List Ent) (n' : Nat), own'[n']? = some q.e → R F' own' x (v.at n'))
theorem Pend.put {L : List (Nat × Ins)} {i : Nat} {q : PdE} (h : Pend Gl L τ i q) {dst : Option Nat} {v' : AV} {h1 : List AObj} (hd : ∀ s, dst = some s → s ∉ (L.getD i default).2.looks ∧ (L.getD i default).2.dst ≠ some s) : Pend Gl L (St.put ⟨τ.t, h1⟩ dst v') i q := by
  obtain ⟨h0, d, v, pr, x, k1, k2, k3, k4, k5⟩ := h
  have hne : ∀ s, dst = some s → s ≠ d := fun s hs e => (hd s hs).2 (by rw [k1, e])
  refine ⟨h0, d, v, pr, x, k1, ?_, k3, fun a ha => ?_, fun hl => ?_⟩
  · rw [← k2]
    exact mkO_congr fun s hs => put_t fun e => (hd s e).1 (List.mem_append.2 (.inl hs))
  · refine k4 a ?_
    cases dst with
    | none => exact ha
    | some s =>
      have ha' : (τ.t.set s v')[d]? = some a := ha
      rw [List.getElem?_set_ne (hne s rfl)] at ha'
      exact ha'
  · exact k5 (by cases dst <;> simpa [St.put] using hl)
def lefts (listed : Array Bool) (zs : List (Nat × PdE)) (i : Nat) : Bool := !listed.getD i false || zs.any fun z => z.1 == i
theorem lefts_iff {listed : Array Bool} {zs : List (Nat × PdE)} {i : Nat} : lefts listed zs i = true ↔ listed.getD i false = false ∨ ∃ z ∈ zs, z.1 = i := by
  unfold lefts
  simp [Bool.or_eq_true, List.any_eq_true]
/-- Makers ahead whose time has come are claimed. -/
theorem greedy {ops : Array Oper} {L : List (Nat × Ins)} {n : Nat} (hd : ∀ i j, j < i → i < n → clashR (L.getD j default) (L.getD i default) = true → mkOk (L.getD j default) (L.getD i default) = true ∨ (tb (Region.before ops) i j = true ∧ (mayGo (L.getD j default) = true → ∀ a, a < j → mcls (L.getD a default) = 2 → tb (Region.before ops) i a = true)))
    (hok : ∀ i, i < n → okM (L.getD i default)) {listed : Array Bool} (hah : ∀ i j, i < n → listed.getD i false = true → tb (Region.before ops) i j = true → j < i → listed.getD j false = true) (hN : N ≤ w0.N) {K : St → Prop} :
    ∀ (m : Nat) (zs : List (Nat × PdE)) (τ : St) (own : List Ent) (hl : (zs.map (·.2) ++ w0.pd).Pairwise fun a b => ∀ g, a.e.g = some g → b.e.g ≠ some g), zs.length = m → (zs.map (·.1)).Nodup → (∀ z ∈ zs, ∀ y ∈ zs, z.1 < y.1 → Apart (L.getD z.1 default) (L.getD y.1 default)) → (∀ z ∈ zs, z.1 < n ∧ listed.getD z.1 false = true ∧ Pend Gl L τ z.1 z.2) →
      aOpsR P Gl N U K (((List.range n).filter (lefts listed zs)).map fun i => L.getD i default) τ → Inv Gl F own B (w0.withPd (zs.map (·.2) ++ w0.pd) hl) τ act w →
      ∃ (zs' : List (Nat × PdE)) (τ' : St) (own' : List Ent) (hl' : (zs'.map (·.2) ++ w0.pd).Pairwise fun a b => ∀ g, a.e.g = some g → b.e.g ≠ some g), (zs'.map (·.1)).Nodup ∧ (∀ z ∈ zs', ∀ y ∈ zs', z.1 < y.1 → Apart (L.getD z.1 default) (L.getD y.1 default)) ∧ (∀ z ∈ zs', z.1 < n ∧ listed.getD z.1 false = true ∧ Pend Gl L τ' z.1 z.2) ∧
        aOpsR P Gl N U K (((List.range n).filter (lefts listed zs')).map fun i => L.getD i default) τ' ∧ Inv Gl F own' B (w0.withPd (zs'.map (·.2) ++ w0.pd) hl') τ' act w ∧ ∀ z ∈ zs', ∃ a, a < z.1 ∧ mcls (L.getD a default) = 2 ∧ listed.getD a false = false := by
  intro m
  induction m with
  | zero =>
    intro zs τ own hl h0 hnd hap hz hop hI
    have : zs = [] := List.length_eq_zero_iff.1 h0
    subst this
    exact ⟨[], τ, own, hl, hnd, hap, hz, hop, hI, fun z q => by cases q⟩
  | succ m ih =>
    intro zs τ own hl hlen hnd hap hz hop hI
    by_cases hall : ∀ z ∈ zs, ∃ a, a < z.1 ∧ mcls (L.getD a default) = 2 ∧ listed.getD a false = false
    · exact ⟨zs, τ, own, hl, hnd, hap, hz, hop, hI, hall⟩
    · -- the first of those whose time has come
      have hex : ∃ i, ∃ z ∈ zs, z.1 = i ∧ ¬ ∃ a, a < i ∧ mcls (L.getD a default) = 2 ∧ listed.getD a false = false := by
        apply Classical.byContradiction
        intro hno
        apply hall
        intro z hzm
        apply Classical.byContradiction
        intro hna
        exact hno ⟨z.1, z, hzm, rfl, hna⟩
      have hleast : ∃ i, (∃ z ∈ zs, z.1 = i ∧ ¬ ∃ a, a < i ∧ mcls (L.getD a default) = 2 ∧ listed.getD a false = false) ∧ ∀ z ∈ zs, i ≤ z.1 := by
        have key : ∀ (k i : Nat), i ≤ k → (∃ z ∈ zs, z.1 = i ∧ ¬ ∃ a, a < i ∧ mcls (L.getD a default) = 2 ∧ listed.getD a false = false) → ∃ i, (∃ z ∈ zs, z.1 = i ∧ ¬ ∃ a, a < i ∧ mcls (L.getD a default) = 2 ∧ listed.getD a false = false) ∧ ∀ z ∈ zs, i ≤ z.1 := by
          intro k
          induction k with
          | zero => intro i hi h; exact ⟨i, h, fun z _ => by omega⟩
          | succ k ihk =>
            intro i hi h
            by_cases hm : ∀ z ∈ zs, i ≤ z.1
            · exact ⟨i, h, hm⟩
            · simp only [Classical.not_forall, Nat.not_le] at hm
              obtain ⟨z, hzm, hlt⟩ := hm
              obtain ⟨_, _, rfl, hna⟩ := h
              exact ihk z.1 (by omega) ⟨z, hzm, rfl, fun ⟨a, h1, h2, h3⟩ => hna ⟨a, by omega, h2, h3⟩⟩
        obtain ⟨i, h⟩ := hex
        exact key i i (Nat.le_refl _) h
      obtain ⟨i, ⟨z, hzm, hzi, hna⟩, hmin⟩ := hleast
      subst hzi
      obtain ⟨z1, z2, rfl⟩ := List.append_of_mem hzm
      obtain ⟨hin, hil, hgo, d, v, pr, x, k1, k2, k3, k4, k5⟩ := hz z hzm
      have hnin : ∀ y ∈ z1 ++ z2, y.1 ≠ z.1 := fun y hy e => by
        simp only [List.map_append, List.map_cons] at hnd
        rw [List.nodup_append] at hnd
        obtain ⟨_, n2, n3⟩ := hnd
        rw [List.nodup_cons] at n2
        rcases List.mem_append.1 hy with q | q
        · exact n3 y.1 (List.mem_map.2 ⟨y, q, rfl⟩) z.1 (by simp) e
        · exact n2.1 (List.mem_map.2 ⟨y, q, e⟩)
      obtain ⟨pre, post, e1, e2, e3⟩ := filter_split (p := lefts listed (z1 ++ z :: z2)) (q := lefts listed (z1 ++ z2)) (i := z.1) (List.range n) List.pairwise_lt_range (List.mem_range.2 hin) (lefts_iff.2 (.inr ⟨z, hzm, rfl⟩)) (fun j => by
        by_cases hj : j = z.1
        · rw [if_pos hj]
          cases hq : lefts listed (z1 ++ z2) j with
          | false => rfl
          | true =>
            exfalso
            rcases lefts_iff.1 hq with r | ⟨y, hy, r⟩
            · rw [hj, hil] at r; cases r
            · exact hnin y hy (r.trans hj)
        · rw [if_neg hj]
          cases hq : lefts listed (z1 ++ z2) j with
          | true =>
            refine (lefts_iff.2 ?_).symm
            rcases lefts_iff.1 hq with r | ⟨y, hy, r⟩
            · exact .inl r
            · refine .inr ⟨y, ?_, r⟩
              rcases List.mem_append.1 hy with s | s
              · exact List.mem_append.2 (.inl s)
              · exact List.mem_append.2 (.inr (List.mem_cons_of_mem _ s))
          | false =>
            cases hq' : lefts listed (z1 ++ z :: z2) j with
            | false => rfl
            | true =>
              exfalso
              have : lefts listed (z1 ++ z2) j = true := lefts_iff.2 (by
                rcases lefts_iff.1 hq' with r | ⟨y, hy, r⟩
                · exact .inl r
                · refine .inr ⟨y, ?_, r⟩
                  rcases List.mem_append.1 hy with s | s
                  · exact List.mem_append.2 (.inl s)
                  · rcases List.mem_cons.1 s with s | s
                    · subst s; exact absurd r.symm hj
                    · exact List.mem_append.2 (.inr s))
              rw [this] at hq; cases hq)
      rw [e1, List.map_append, List.map_cons] at hop
      have hpre : ∀ j ∈ pre, j < n ∧ j < z.1 ∧ listed.getD j false = false := fun j hj => by
        have hm : j ∈ (List.range n).filter (lefts listed (z1 ++ z :: z2)) := by rw [e1]; simp [hj]
        rw [List.mem_filter, List.mem_range] at hm
        refine ⟨hm.1, e3 j hj, ?_⟩
        rcases lefts_iff.1 hm.2 with r | ⟨y, hy, r⟩
        · exact r
        · have := hmin y hy; have := e3 j hj; omega
      have hNτ : N ≤ τ.h.length := Nat.le_trans hN hI.nl
      have hstep := claim_step hgo (pre.map fun i => L.getD i default) (fun a ha => by
        obtain ⟨j, hj, rfl⟩ := List.mem_map.1 ha
        obtain ⟨hjn, hjz, hjl⟩ := hpre j hj
        refine ⟨hok j hjn, ?_⟩
        cases hq : clashR (L.getD j default) (L.getD z.1 default) with
        | false => rfl
        | true =>
          exfalso
          rcases hd z.1 j hjz hin hq with r | ⟨r, _⟩
          · unfold mkOk at r
            simp only [Bool.and_eq_true, beq_iff_eq] at r
            exact hna ⟨j, hjz, r.2, hjl⟩
          · have := hah z.1 j hin hil r hjz
            rw [hjl] at this; cases this) hNτ k2 k3 hop
      rw [← List.map_append, ← e2, k1] at hstep
      have hl2 : (z1.map (·.2) ++ z.2 :: (z2.map (·.2) ++ w0.pd)).Pairwise fun a b => ∀ g, a.e.g = some g → b.e.g ≠ some g := by
        have := hl
        simp only [List.map_append, List.map_cons, List.append_assoc, List.cons_append] at this
        exact this
      have hI' : Inv Gl F own B (w0.withPd (z1.map (·.2) ++ z.2 :: (z2.map (·.2) ++ w0.pd)) hl2) τ act w := by
        have e : (z1 ++ z :: z2).map (·.2) ++ w0.pd = z1.map (·.2) ++ z.2 :: (z2.map (·.2) ++ w0.pd) := by simp
        have e' : w0.withPd ((z1 ++ z :: z2).map (·.2) ++ w0.pd) hl = w0.withPd (z1.map (·.2) ++ z.2 :: (z2.map (·.2) ++ w0.pd)) hl2 := by
          unfold W0.withPd
          congr 1
        rw [← e']; exact hI
      have hl3 : (z1.map (·.2) ++ (z2.map (·.2) ++ w0.pd)).Pairwise fun a b => ∀ g, a.e.g = some g → b.e.g ≠ some g :=
        hl2.sublist ((List.Sublist.refl _).append (List.sublist_cons_self _ _))
      have hcl := claim (hl' := hl3) hI' k4 k5
      have hl4 : ((z1 ++ z2).map (·.2) ++ w0.pd).Pairwise fun a b => ∀ g, a.e.g = some g → b.e.g ≠ some g := by
        simpa only [List.map_append, List.append_assoc] using hl3
      have hcl' : Inv Gl F (own ++ [z.2.e]) B (w0.withPd ((z1 ++ z2).map (·.2) ++ w0.pd) hl4) (St.put ⟨τ.t, τ.h ++ [z.2.ob]⟩ (some d) (v.at τ.h.length)) act w := by
        have e' : w0.withPd ((z1 ++ z2).map (·.2) ++ w0.pd) hl4 = w0.withPd (z1.map (·.2) ++ (z2.map (·.2) ++ w0.pd)) hl3 := by
          unfold W0.withPd
          congr 1
          simp
        rw [e']; exact hcl
      have hin2 : ∀ y ∈ z1 ++ z2, y ∈ z1 ++ z :: z2 := fun y hy => by
        rcases List.mem_append.1 hy with s | s
        · exact List.mem_append.2 (.inl s)
        · exact List.mem_append.2 (.inr (List.mem_cons_of_mem _ s))
      refine ih (z1 ++ z2) _ _ hl4 (by simp at hlen ⊢; omega) ?_ (fun a ha b hb => hap a (hin2 a ha) b (hin2 b hb)) (fun y hy => ?_) hstep hcl'
      · refine List.Nodup.sublist ?_ hnd
        simp only [List.map_append, List.map_cons]
        exact (List.Sublist.refl _).append (List.sublist_cons_self _ _)
      · obtain ⟨y1, y2, y3⟩ := hz y (hin2 y hy)
        refine ⟨y1, y2, y3.put fun s hs => ?_⟩
        cases hs
        have hne := hnin y hy
        have hlt : z.1 < y.1 := by have := hmin y (hin2 y hy); omega
        exact (hap z hzm y (hin2 y hy) hlt).1 d k1
theorem drawnP_sound {lm : Bool} {ops : Array Oper} {L : List (Nat × Ins)} (hl : L.length = ops.size) (hc : ∀ (j : Nat) (o : Oper), ops[j]? = some o → ∃ p, L[j]? = some p ∧ cIns P lm ops o = some p.2) (hd : drawOkP ops L = true) (hN : N ≤ w0.N) {Q : Exit → Act → World → Prop} {K : St → Prop} (hQ : ∀ a w, Some' Gl B w0 K a w → Q .normal a w)
    (ha : aOpsR P Gl N U K L σ) (hI : Inv Gl F own B w0 σ act w) : wpAny P .any ops Q ops.size (Array.replicate ops.size false) act w := by
  obtain ⟨d1, d2, d3, dm⟩ := drawOkP_spec hd
  generalize hn : ops.size = n at *
  have insAt : ∀ i, i < n → ∃ o p, ops[i]? = some o ∧ L[i]? = some p ∧ cIns P lm ops o = some p.2 ∧ L.getD i default = p ∧ okM p := fun i hi => by
    have ho : ops[i]? = some (ops[i]'(by omega)) := Array.getElem?_eq_getElem (by omega)
    obtain ⟨ins, e1, e2⟩ := hc i _ ho
    exact ⟨_, ins, ho, e1, e2, by simp [List.getD, e1], dm ins (List.mem_of_getElem? e1)⟩
  have hok : ∀ i, i < n → okM (L.getD i default) := fun i hi => by
    obtain ⟨_, p, _, _, _, e, h⟩ := insAt i hi
    rw [e]; exact h
  -- what is ahead of a listed or a ready one is listed
  have ahead : ∀ (S : Nat → Bool), (∀ i, i < n → S i = true → ∀ d ∈ direct ops i, S d = true) → ∀ i j, i < n → (∀ d ∈ direct ops i, S d = true) → tb (Region.before ops) i j = true → j < i → S j = true := by
    intro S hcl i
    induction i using Nat.strongRecOn with
    | _ i ih =>
      intro j hi hdir ht hji
      rcases d2 i j hji hi ht with q | ⟨d, hdm, r, q⟩
      · exact hdir j q
      · have hdi := d1 i d hi hdm
        exact ih d hdi j (by omega) (hcl d (by omega) (hdir d hdm)) q r
  have mem_ready : ∀ (listed : Array Bool) (i : Nat), listed.size = n → i ∈ Region.ready .any ops listed → i < n ∧ listed.getD i false = false ∧ ∀ d ∈ direct ops i, listed.getD d false = true := by
    intro listed i hsz hi
    unfold Region.ready at hi
    rw [List.mem_filter, List.mem_range, hn] at hi
    obtain ⟨h1, h2⟩ := hi
    rw [Bool.and_eq_true] at h2
    have e0 : listed.getD i false = listed.getD i true := by
      have : i < listed.size := by omega
      simp [Array.getD, this]
    refine ⟨h1, by rw [e0]; simpa using h2.1, fun d hd => ?_⟩
    obtain ⟨o, ins, ho, _⟩ := insAt i h1
    have h3 := h2.2
    rw [ho] at h3
    simp only [Option.map_some, Option.getD_some] at h3
    unfold direct at hd
    rw [ho] at hd
    simp only at hd
    obtain ⟨e, he, hq⟩ := List.mem_filterMap.1 hd
    have := Array.all_eq_true_iff_forall_mem.1 h3 e (by simpa using he)
    split at hq
    · rename_i hb
      cases hq
      simpa [hb] using this
    · cases hq
  have ready_mem : ∀ (listed : Array Bool) (i : Nat), listed.size = n → i < n → listed.getD i false = false → (∀ j, j < i → listed.getD j false = true) → i ∈ Region.ready .any ops listed := by
    intro listed i hsz hi h1 h2
    unfold Region.ready
    rw [List.mem_filter, List.mem_range, hn]
    refine ⟨hi, ?_⟩
    have e0 : listed.getD i false = listed.getD i true := by
      have : i < listed.size := by omega
      simp [Array.getD, this]
    rw [Bool.and_eq_true]
    refine ⟨by rw [← e0, h1]; rfl, ?_⟩
    obtain ⟨o, ins, ho, _⟩ := insAt i hi
    rw [ho]
    simp only [Option.map_some, Option.getD_some]
    refine Array.all_eq_true_iff_forall_mem.2 fun e he => ?_
    cases hb : Region.binds .any e with
    | false => rfl
    | true =>
      have hd : e.on ∈ direct ops i := by
        unfold direct
        rw [ho]
        exact List.mem_filterMap.2 ⟨e, by simpa using he, by simp [hb]⟩
      have := h2 e.on (d1 i e.on hi hd)
      simpa using this
  have main : ∀ (fuel : Nat) (listed : Array Bool) (zs : List (Nat × PdE)) (τ : St) (F : Addr → Option Value) (own : List Ent) (act : Act) (w : World) (hpl : (zs.map (·.2) ++ w0.pd).Pairwise fun a b => ∀ g, a.e.g = some g → b.e.g ≠ some g), listed.size = n → (∀ i, i < n → listed.getD i false = true → ∀ d ∈ direct ops i, listed.getD d false = true) →
      ((List.range n).countP fun i => !listed.getD i false) = fuel → (zs.map (·.1)).Nodup → (∀ z ∈ zs, ∀ y ∈ zs, z.1 < y.1 → Apart (L.getD z.1 default) (L.getD y.1 default)) → (∀ z ∈ zs, z.1 < n ∧ listed.getD z.1 false = true ∧ Pend Gl L τ z.1 z.2) →
      aOpsR P Gl N U K (((List.range n).filter (lefts listed zs)).map fun i => L.getD i default) τ →
      Inv Gl F own B (w0.withPd (zs.map (·.2) ++ w0.pd) hpl) τ act w → wpAny P .any ops Q fuel listed act w := by
    intro fuel
    induction fuel with
    | zero =>
      intro listed zs τ F own act w hpl hsz hcl hcnt hnd hap hz hop hI
      have hall : ∀ i, i < n → listed.getD i false = true := fun i hi => by
        have := List.countP_eq_zero.1 hcnt i (List.mem_range.2 hi)
        simpa using this
      have hah : ∀ i j, i < n → listed.getD i false = true → tb (Region.before ops) i j = true → j < i → listed.getD j false = true := fun i j hi _ _ hj => hall j (by omega)
      obtain ⟨zs', τ', own', hl', g1, g2, g3, g4, g5, g6⟩ := greedy d3 hok hah hN zs.length zs τ own hpl rfl hnd hap hz hop hI
      have hnil : zs' = [] := by
        cases zs' with
        | nil => rfl
        | cons z zs' =>
          obtain ⟨a, h1, _, h3⟩ := g6 z (by simp)
          have := hall a (by have := (g3 z (by simp)).1; omega)
          rw [h3] at this; cases this
      subst hnil
      refine ⟨?_, hQ act w ⟨F, own', τ', g5, ?_⟩⟩
      · apply List.eq_nil_iff_forall_not_mem.2
        intro i hi
        obtain ⟨q1, q2, _⟩ := mem_ready listed i hsz hi
        rw [hall i q1] at q2
        cases q2
      · have : (List.range n).filter (lefts listed []) = [] := List.filter_eq_nil_iff.2 fun i hi => by simp [lefts, hall i (List.mem_range.1 hi)]
        rw [this] at g4; exact g4
    | succ fuel ih =>
      intro listed zs τ F own act w hpl hsz hcl hcnt hnd hap hz hop hI
      refine ⟨fun hnil => ?_, fun i hi => ?_⟩
      · obtain ⟨i, h1, h2, h3⟩ := count_pos (n := n) (S := fun i => listed.getD i false) (by omega)
        have := ready_mem listed i hsz h1 h2 h3
        rw [hnil] at this
        simp at this
      · obtain ⟨hin, hiS, hdir⟩ := mem_ready listed i hsz hi
        have hah : ∀ i j, i < n → listed.getD i false = true → tb (Region.before ops) i j = true → j < i → listed.getD j false = true := fun i j hi hli ht hj => ahead (fun k => listed.getD k false) hcl i j hi (hcl i hi hli) ht hj
        have hahi : ∀ j, tb (Region.before ops) i j = true → j < i → listed.getD j false = true := fun j ht hj => ahead (fun k => listed.getD k false) hcl i j hin hdir ht hj
        obtain ⟨zs', τ', own', hl', g1, g2, g3, g4, g5, g6⟩ := greedy d3 hok hah hN zs.length zs τ own hpl rfl hnd hap hz hop hI
        clear hop hI hz hap hnd
        obtain ⟨o, p, ho, hli, hci, hgd, hmp⟩ := insAt i hin
        have hset : ∀ j, (listed.setIfInBounds i true).getD j false = if j = i then true else listed.getD j false := fun j => by
          by_cases hji : j = i
          · subst hji
            have : j < listed.size := by omega
            simp [Array.getD, this]
          · rw [if_neg hji]
            simp only [Array.getD_eq_getD_getElem?]
            rw [Array.getElem?_setIfInBounds_ne (fun e => hji e.symm)]
        have hizs : ∀ z ∈ zs', z.1 ≠ i := fun z hz e => by
          have := (g3 z hz).2.1
          rw [e, hiS] at this; cases this
        have hcnt' : ((List.range n).countP fun j => !(listed.setIfInBounds i true).getD j false) = fuel := by
          have := count_set (n := n) (S := fun j => listed.getD j false) (S' := fun j => (listed.setIfInBounds i true).getD j false) hin hiS (by simp only [hset]; simp) (fun j hj => by simp only [hset, if_neg hj])
          omega
        have hcl' : ∀ j, j < n → (listed.setIfInBounds i true).getD j false = true → ∀ d ∈ direct ops j, (listed.setIfInBounds i true).getD d false = true := fun j hj hS d hdj => by
          rw [hset] at hS ⊢
          split
          · rfl
          · split at hS
            · rename_i hji; subst hji; exact hdir d hdj
            · exact hcl j hj hS d hdj
        obtain ⟨pre, post, e1, e2, e3⟩ := filter_split (p := lefts listed zs') (q := lefts (listed.setIfInBounds i true) zs') (i := i) (List.range n) List.pairwise_lt_range (List.mem_range.2 hin) (lefts_iff.2 (.inl hiS)) (fun j => by
          unfold lefts
          rw [hset]
          split
          · rename_i hji
            subst hji
            have : (zs'.any fun z => z.1 == j) = false := by
              rw [List.any_eq_false]
              intro z hz
              simpa using hizs z hz
            simp [this]
          · rfl)
        have hpre : ∀ j ∈ pre, j < n ∧ j < i ∧ (listed.getD j false = false ∨ ∃ z ∈ zs', z.1 = j) := fun j hj => by
          have : j ∈ (List.range n).filter (lefts listed zs') := by rw [e1]; simp [hj]
          rw [List.mem_filter, List.mem_range] at this
          exact ⟨this.1, e3 j hj, lefts_iff.1 this.2⟩
        have hcomp : ∀ j, j < n → ∃ (k : Nat) (o : Oper), ops[k]? = some o ∧ cIns P lm ops o = some (L.getD j default).2 := fun j hj => by
          obtain ⟨oj, pj, hoj, hlj, hcj, hgj, hmj⟩ := insAt j hj
          exact ⟨j, oj, hoj, by rw [hgj]; exact hcj⟩
        -- no clash, or a maker that may go ahead
        have hcase : ∀ j ∈ pre, clashR (L.getD j default) (L.getD i default) = false ∨ mkOk (L.getD j default) (L.getD i default) = true := fun j hj => by
          obtain ⟨hjn, hji, hjl⟩ := hpre j hj
          cases hq : clashR (L.getD j default) (L.getD i default) with
          | false => exact .inl rfl
          | true =>
            rcases d3 i j hji hin hq with r | ⟨r, r2⟩
            · exact .inr r
            · exfalso
              rcases hjl with s | ⟨z, hz, s⟩
              · have := hahi j r hji
                rw [s] at this; cases this
              · subst s
                obtain ⟨a, h1, h2, h3⟩ := g6 z hz
                have := hahi a (r2 (g3 z hz).2.2.1 a h1 h2) (by omega)
                rw [h3] at this; cases this
        -- those that went ahead lie apart from this one
        have hzap : ∀ z ∈ zs', Apart (L.getD i default) (L.getD z.1 default) ∧ Apart (L.getD z.1 default) (L.getD i default) := fun z hz => by
          have sym : ∀ a b : Nat × Ins, Apart a b → (∀ d, a.2.dst = some d → d ∉ a.2.looks) → Apart b a ∨ True := fun _ _ _ _ => .inr trivial
          obtain ⟨hzn, hzl, hzp⟩ := g3 z hz
          rcases Nat.lt_trichotomy z.1 i with hlt | heq | hgt
          · have hm : z.1 ∈ pre := by
              have : z.1 ∈ (List.range n).filter (lefts listed zs') := List.mem_filter.2 ⟨List.mem_range.2 hzn, lefts_iff.2 (.inr ⟨z, hz, rfl⟩)⟩
              rw [e1] at this
              rcases List.mem_append.1 this with s | s
              · exact s
              · exfalso
                have hs := List.pairwise_lt_range.sublist (List.filter_sublist (p := lefts listed zs') (l := List.range n))
                rw [e1, List.pairwise_append] at hs
                rcases List.mem_cons.1 s with s | s
                · omega
                · have := (List.pairwise_cons.1 hs.2.1).1 z.1 s; omega
            have hap1 : Apart (L.getD z.1 default) (L.getD i default) := by
              rcases hcase z.1 hm with s | s
              · exact noclash_apart s
              · unfold mkOk at s; simp only [Bool.and_eq_true] at s; exact apart_spec s.1.2
            refine ⟨⟨fun d hd => ⟨fun q => ?_, fun q => ?_⟩, fun d hd => (hap1.1 d hd).1⟩, hap1⟩
            · exact hap1.2 d hd q
            · exact (hap1.1 d q).2 hd
          · exact absurd heq (hizs z hz)
          · have hap1 : Apart (L.getD i default) (L.getD z.1 default) := by
              cases hq : clashR (L.getD i default) (L.getD z.1 default) with
              | false => exact noclash_apart hq
              | true =>
                rcases d3 z.1 i hgt hzn hq with s | ⟨s, _⟩
                · unfold mkOk at s; simp only [Bool.and_eq_true] at s; exact apart_spec s.1.2
                · have := hah z.1 i hzn hzl s hgt
                  rw [hiS] at this; cases this
            exact ⟨hap1, ⟨fun d hd => ⟨fun q => hap1.2 d hd q, fun q => (hap1.1 d q).2 hd⟩, fun d hd => (hap1.1 d hd).1⟩⟩
        by_cases hgo : ∀ j ∈ pre, clashR (L.getD j default) (L.getD i default) = false
        · rw [e1, List.map_append, List.map_cons, hgd] at g4
          refine wpOp_mono ?_ (goFirst2 (lm := lm) hmp ho hci (pre.map fun i => L.getD i default) (fun a ha => ?_) g5 g4)
          · rintro a1 w1 ⟨F1, own1, ρ, hI1, hk, v1, h1, rfl⟩
            refine ih (listed.setIfInBounds i true) zs' _ F1 own1 a1 w1 hl' (by simp [hsz]) hcl' hcnt' g1 g2 (fun z hz => ?_) (by rw [e2, List.map_append]; exact hk) hI1
            obtain ⟨q1, q2, q3⟩ := g3 z hz
            refine ⟨q1, by rw [hset]; split <;> first | rfl | exact q2, q3.put fun s hs => ?_⟩
            have := (hzap z hz).1
            rw [hgd] at this
            exact this.1 s hs
          · obtain ⟨j, hj, rfl⟩ := List.mem_map.1 ha
            obtain ⟨hjn, hji, _⟩ := hpre j hj
            refine ⟨hok j hjn, ?_, hcomp j hjn⟩
            rw [← hgd]; exact hgo j hj
        · -- a maker that goes ahead
          obtain ⟨j0, hj0, hc0⟩ : ∃ j ∈ pre, clashR (L.getD j default) (L.getD i default) ≠ false := by
            apply Classical.byContradiction
            intro hno
            exact hgo fun j hj => Classical.byContradiction fun q => hno ⟨j, hj, q⟩
          have hmk0 : mkOk (L.getD j0 default) (L.getD i default) = true := (hcase j0 hj0).resolve_left hc0
          have hmay : mayGo p = true := by
            unfold mkOk at hmk0
            simp only [Bool.and_eq_true] at hmk0
            rw [← hgd]; exact hmk0.1.1
          obtain ⟨b1, b2, b3, b4, d, b5, b6⟩ := mayGo_spec hmay
          have hpreA : ∀ a ∈ pre.map fun i => L.getD i default, okM a ∧ Apart a p ∧ ∃ (k : Nat) (o : Oper), ops[k]? = some o ∧ cIns P lm ops o = some a.2 := fun a ha => by
            obtain ⟨j, hj, rfl⟩ := List.mem_map.1 ha
            obtain ⟨hjn, hji, _⟩ := hpre j hj
            refine ⟨hok j hjn, ?_, hcomp j hjn⟩
            rw [← hgd]
            rcases hcase j hj with s | s
            · exact noclash_apart s
            · unfold mkOk at s; simp only [Bool.and_eq_true] at s; exact apart_spec s.1.2
          have g4' := g4
          rw [e1, List.map_append, List.map_cons, hgd] at g4'
          obtain ⟨pr, v, ob, hmk, hpr⟩ := early_mk hmay _ hpreA τ' F own' act w g5 g4'
          have hst : aStep P Gl true τ' p.2 fun ρ => ρ = St.put ⟨τ'.t, τ'.h ++ [ob]⟩ (some d) (v.at τ'.h.length) := by
            rw [aStep_nc b4]
            have e : outc Gl τ' p.2 = some (pr, v.at τ'.h.length, τ'.h ++ [ob]) := by
              unfold outc
              rw [b2]
              exact mkO_step hmk
            exact ⟨pr, v.at τ'.h.length, τ'.h ++ [ob], e, hpr, by rw [b5]⟩
          refine wpOp_mono ?_ (step_sound g5 hci hst Q ho)
          rintro a1 w1 ⟨F1, own1, ρ, hI1, rfl⟩
          obtain ⟨hpl1, hpl2⟩ := mkO_plain hmk
          obtain ⟨x, q, hpl', hqo, hI2, hR2⟩ := demote g5 hpl1 hpl2 hI1
          have hop2 := slot_any hmp b5 b6 (.v x) _ (fun a ha => ⟨(hpreA a ha).1, (hpreA a ha).2.1⟩) τ' g4'
          have hl3 : (((i, q) :: zs').map (·.2) ++ w0.pd).Pairwise fun a b => ∀ g, a.e.g = some g → b.e.g ≠ some g := hpl'
          refine ih (listed.setIfInBounds i true) ((i, q) :: zs') (τ'.put (some d) (.v x)) F1 (own1.take τ'.h.length) a1 w1 hl3 (by simp [hsz]) hcl' hcnt' ?_ ?_ ?_ ?_ hI2
          · simp only [List.map_cons, List.nodup_cons]
            refine ⟨fun q => ?_, g1⟩
            obtain ⟨z, hz, e⟩ := List.mem_map.1 q
            exact hizs z hz e
          · intro a ha b hb hab
            rcases List.mem_cons.1 ha with rfl | ha <;> rcases List.mem_cons.1 hb with rfl | hb
            · omega
            · exact (hzap b hb).1
            · exact (hzap a ha).2
            · exact g2 a ha b hb hab
          · intro z hz
            rcases List.mem_cons.1 hz with rfl | hz
            · refine ⟨hin, by rw [hset, if_pos rfl], by rw [hgd]; exact hmay, d, v, pr, x, by rw [hgd]; exact b5, ?_, hpr, fun a ha => ?_, fun hd => hR2 (by simpa [St.put] using hd)⟩
              · rw [hgd, hqo, ← hmk]
                refine mkO_congr fun s hs => ?_
                have : d ≠ s := fun q => b6 (by rw [q]; exact List.mem_append.2 (.inl hs))
                simp only [St.put, List.getD, List.getElem?_set_ne this]
              · have ha' : (τ'.t.set d (.v x))[d]? = some a := ha
                rw [List.getElem?_set] at ha'
                simp only [if_true] at ha'
                split at ha'
                · cases ha'; rfl
                · cases ha'
            · obtain ⟨q1, q2, q3⟩ := g3 z hz
              refine ⟨q1, by rw [hset]; split <;> first | rfl | exact q2, ?_⟩
              have := q3.put (dst := some d) (v' := .v x) (h1 := τ'.h) fun s hs => by
                cases hs
                have := (hzap z hz).1
                rw [hgd] at this
                exact this.1 d b5
              exact this
          · have e4 : (List.range n).filter (lefts (listed.setIfInBounds i true) ((i, q) :: zs')) = (List.range n).filter (lefts listed zs') := by
              apply List.filter_congr
              intro j _
              unfold lefts
              rw [hset]
              split
              · rename_i hji; subst hji; simp [hiS]
              · rename_i hji
                have : (i == j) = false := by simpa using fun q => hji q.symm
                simp [this]
            rw [e4, e1, List.map_append, List.map_cons, hgd]
            exact hop2
  have hrep : ∀ i, (Array.replicate n false).getD i false = false := fun i => by
    simp only [Array.getD_eq_getD_getElem?, Array.getElem?_replicate]
    split <;> rfl
  refine main n (Array.replicate n false) [] σ F own act w w0.pdn (by simp) (fun i _ h => by rw [hrep] at h; cases h) ?_ List.nodup_nil (fun z hz => by cases hz) (fun z hz => by cases hz) ?_ hI
  · have : ((List.range n).countP fun i => !(Array.replicate n false).getD i false) = (List.range n).length := List.countP_eq_length.2 fun i _ => by rw [hrep]; rfl
    rw [this]; simp
  · have e1 : (List.range n).filter (lefts (Array.replicate n false) []) = List.range n := List.filter_eq_self.2 fun i _ => by simp [lefts, hrep]
    have e2 : (List.range n).map (fun i => L.getD i default) = L := by
      apply List.ext_getElem?
      intro j
      rw [List.getElem?_map]
      rcases Nat.lt_or_ge j n with q | q
      · obtain ⟨_, p, _, e, _, e', _⟩ := insAt j q
        rw [List.getElem?_range q, e]; simp only [Option.map_some, e']
      · rw [List.getElem?_eq_none (by simpa using q), List.getElem?_eq_none (by omega)]; rfl
    rw [e1, e2]; exact ha
/-- The number of blocks from which on a region may turn. -/
theorem Inv.reN (h : Inv Gl F own B w0 σ act w) {n : Nat} (hn : n ≤ σ.h.length) (hf : ∀ q ∈ w0.fr, q.1 ≤ n) : Inv Gl F own B ⟨w0.w, w0.F, n, w0.fr, hf, w0.pd, w0.pdn, w0.df⟩ σ act w :=
  { tl := h.tl, tr := h.tr, defers := h.defers, sub := h.sub, hl := h.hl, objs := h.objs, inj := h.inj, below := h.below, base := h.base, gl := h.gl, gw := h.gw, room := h.room, ext := h.ext, ext0 := h.ext0, nl := hn, fr := h.fr, pd := h.pd }
theorem Inv.ofN {n : Nat} {hf : ∀ q ∈ w0.fr, q.1 ≤ n} (h : Inv Gl F own B ⟨w0.w, w0.F, n, w0.fr, hf, w0.pd, w0.pdn, w0.df⟩ σ act w) (hn : w0.N ≤ n) : Inv Gl F own B w0 σ act w :=
  { tl := h.tl, tr := h.tr, defers := h.defers, sub := h.sub, hl := h.hl, objs := h.objs, inj := h.inj, below := h.below, base := h.base, gl := h.gl, gw := h.gw, room := h.room, ext := h.ext, ext0 := h.ext0, nl := Nat.le_trans hn h.nl, fr := h.fr, pd := h.pd }
end
end Abs
end Go.Proofs.YtnhgeocdffhkjaaDoor
