/- The abstract machine, run: a region that draws its order and dies; functions. -/
import Derived.Test.YtnhgeocdffhkjaaDoorEX2
namespace Go.Proofs.YtnhgeocdffhkjaaDoor
namespace Abs
open Go.RowKit
set_option linter.unusedVariables false
set_option linter.unusedSimpArgs false

section
variable {P : Program} {Gl : Nat → Option (List AV)}
theorem calm_spec {a : Nat × Ins} (h : calm a = true) : a.2.i.isCall = false ∧ a.2.i.cls ≤ 1 ∧ a.1 ≤ 1 ∧ mayGo a = false := by
  unfold calm at h
  simp only [Bool.and_eq_true, Bool.not_eq_true'] at h
  exact ⟨h.1.1.1, Nat.le_of_ble_eq_true h.1.1.2, Nat.le_of_ble_eq_true h.1.2, h.2⟩
/-- What does not hang on others dies at once. -/
theorem dies_early {N : Nat} {U : List Nat} {p : Nat × Ins} {v : Value} : ∀ (pre : List (Nat × Ins)), (∀ a ∈ pre, calm a = true ∧ clashR a p = false) → ∀ (σ : St), aOpsR P Gl N U (fun ρ => DiesAt P Gl ρ p.2 v) pre σ → DiesAt P Gl σ p.2 v := by
  intro pre
  induction pre with
  | nil => intro _ σ h; exact h
  | cons a pre ih =>
    intro hp σ h
    obtain ⟨hc, hq⟩ := hp a (by simp)
    obtain ⟨c1, c2, c3, c4⟩ := calm_spec hc
    have h' : stepR P Gl N U a σ (aOpsR P Gl N U (fun ρ => DiesAt P Gl ρ p.2 v) pre) := h
    rw [stepR_D c1] at h'
    obtain ⟨x, h2, hD, hr⟩ := h'
    obtain ⟨⟨q, e, _⟩, _, _⟩ := hD
    have eh : h2 = σ.h := outc_cls c2 c1 e
    subst eh
    obtain ⟨g1, fo, args, f, as, g2, g3, g4, g5⟩ := ih (fun b hb => hp b (by simp [hb])) _ hr
    rw [put_hh] at g5
    have hs : ∀ s ∈ p.2.i.reads, (St.put ⟨σ.t, σ.h⟩ a.2.dst x).t.getD s .any = σ.t.getD s .any := fun s hs => put_t fun r => ((noclash hq).1 s r).1 (by simp [Ins.looks, hs])
    rw [g2] at hs
    have e1 : St.val Gl (St.put ⟨σ.t, σ.h⟩ a.2.dst x) fo = σ.val Gl fo := val_congr fun s q => hs s (by simp [I.reads, q])
    have e2 : args.map (St.val Gl (St.put ⟨σ.t, σ.h⟩ a.2.dst x)) = args.map (σ.val Gl) := map_congr fun s q => hs s (by simp only [I.reads, List.mem_append]; exact .inr q)
    unfold CallAt at g3
    rw [e1, e2] at g3
    exact ⟨g1, fo, args, f, as, g2, g3, g4, g5⟩

/-- A region that draws its order, and a call in it that dies. -/
theorem drawnPan {F : Addr → Option Value} {own : List Ent} {B : Nat} {w0 : W0} {σ : St} {act : Act} {w : World} {N : Nat} {U : List Nat} {lm : Bool} {ops : Array Oper} {L : List (Nat × Ins)} (hl : L.length = ops.size) (hc : ∀ (j : Nat) (o : Oper), ops[j]? = some o → ∃ p, L[j]? = some p ∧ cIns P lm ops o = some p.2) (hd : drawOkR ops L = true ∨ drawOkP ops L = true)
    {pre post : List (Nat × Ins)} {p : Nat × Ins} (hL : L = pre ++ p :: post) (hpre : ∀ a ∈ pre, calm a = true) (hw : waits p post = true) (hcp : p.2.i.isCall = true) {v : Value} {Q : Exit → Act → World → Prop} (hQ : ∀ a w, a.defers = w0.df → Died B w0 v w → Q (.panic [{ v, recovered := false }]) a w)
    (ha : aOpsR P Gl N U (fun ρ => DiesAt P Gl ρ p.2 v) pre σ) (hI : Inv Gl F own B w0 σ act w) : wpAny P .any ops Q ops.size (Array.replicate ops.size false) act w := by
  have hgo : ∀ i, i < L.length → mayGo (L.getD i default) = false := fun i hi => by
    have hm : L.getD i default ∈ L := by
      rw [List.getD_eq_getElem?_getD, List.getElem?_eq_getElem hi]; exact List.getElem_mem hi
    generalize L.getD i default = a at hm
    rw [hL] at hm
    rcases List.mem_append.1 hm with h | h
    · exact (calm_spec (hpre _ h)).2.2.2
    · rcases List.mem_cons.1 h with rfl | h
      · cases hq : mayGo a with
        | false => rfl
        | true => have := (mayGo_spec hq).2.2.2.1; rw [hcp] at this; cases this
      · have := List.all_eq_true.1 hw _ h
        simp only [Bool.and_eq_true, Bool.not_eq_true'] at this
        exact this.2
  obtain ⟨d1, d2, d3, dm⟩ : (∀ i d, i < ops.size → d ∈ direct ops i → d < i) ∧ (∀ i j, j < i → i < ops.size → tb (Region.before ops) i j = true → j ∈ direct ops i ∨ ∃ d ∈ direct ops i, j < d ∧ tb (Region.before ops) d j = true) ∧
      (∀ i j, j < i → i < ops.size → clashR (L.getD j default) (L.getD i default) = true → tb (Region.before ops) i j = true) ∧ ∀ p ∈ L, okM p := by
    rcases hd with hd | hd
    · exact drawOkR_spec hd
    · obtain ⟨a, b, c, d⟩ := drawOkP_spec hd
      refine ⟨a, b, fun i j hj hi hq => ?_, d⟩
      rcases c i j hj hi hq with r | r
      · have : mayGo (L.getD i default) = true := by unfold mkOk at r; simp only [Bool.and_eq_true] at r; exact r.1.1
        rw [hgo i (by omega)] at this; cases this
      · exact r.1
  generalize hn : ops.size = n at *
  generalize hk : pre.length = k
  have hkn : k < n := by rw [← hl, hL, ← hk]; simp
  have insAt : ∀ i, i < n → ∃ o p, ops[i]? = some o ∧ L[i]? = some p ∧ cIns P lm ops o = some p.2 ∧ L.getD i default = p ∧ okM p := fun i hi => by
    have ho : ops[i]? = some (ops[i]'(by omega)) := Array.getElem?_eq_getElem (by omega)
    obtain ⟨ins, e1, e2⟩ := hc i _ ho
    exact ⟨_, ins, ho, e1, e2, by simp [List.getD, e1], dm ins (List.mem_of_getElem? e1)⟩
  have atK : L[k]? = some p := by rw [hL, ← hk]; simp
  have ahead : ∀ (S : Nat → Bool), (∀ i, i < n → S i = true → ∀ d ∈ direct ops i, S d = true) → ∀ i j, i < n → (∀ d ∈ direct ops i, S d = true) → tb (Region.before ops) i j = true → j < i → S j = true := by
    intro S hcl i
    induction i using Nat.strongRecOn with
    | _ i ih =>
      intro j hi hdir ht hji
      rcases d2 i j hji hi ht with q | ⟨d, hdm, r, q⟩
      · exact hdir j q
      · have hdi := d1 i d hi hdm
        exact ih d hdi j (by omega) (hcl d (by omega) (hdir d hdm)) q r
  have mem_ready : ∀ (listed : Array Bool) (i : Nat), listed.size = n → i ∈ Region.ready .any ops listed → i < n ∧ listed.getD i false = false ∧ ∀ d ∈ direct ops i, listed.getD d false = true := by
    intro listed i hsz hi
    unfold Region.ready at hi
    rw [List.mem_filter, List.mem_range, hn] at hi
    obtain ⟨h1, h2⟩ := hi
    rw [Bool.and_eq_true] at h2
    have e0 : listed.getD i false = listed.getD i true := by
      have : i < listed.size := by omega
      simp [Array.getD, this]
    refine ⟨h1, by rw [e0]; simpa using h2.1, fun d hd => ?_⟩
    obtain ⟨o, ins, ho, _⟩ := insAt i h1
    have h3 := h2.2
    rw [ho] at h3
    simp only [Option.map_some, Option.getD_some] at h3
    unfold direct at hd
    rw [ho] at hd
    simp only at hd
    obtain ⟨e, he, hq⟩ := List.mem_filterMap.1 hd
    have := Array.all_eq_true_iff_forall_mem.1 h3 e (by simpa using he)
    split at hq
    · rename_i hb
      cases hq
      simpa [hb] using this
    · cases hq
  have ready_mem : ∀ (listed : Array Bool) (i : Nat), listed.size = n → i < n → listed.getD i false = false → (∀ j, j < i → listed.getD j false = true) → i ∈ Region.ready .any ops listed := by
    intro listed i hsz hi h1 h2
    unfold Region.ready
    rw [List.mem_filter, List.mem_range, hn]
    refine ⟨hi, ?_⟩
    have e0 : listed.getD i false = listed.getD i true := by
      have : i < listed.size := by omega
      simp [Array.getD, this]
    rw [Bool.and_eq_true]
    refine ⟨by rw [← e0, h1]; rfl, ?_⟩
    obtain ⟨o, ins, ho, _⟩ := insAt i hi
    rw [ho]
    simp only [Option.map_some, Option.getD_some]
    refine Array.all_eq_true_iff_forall_mem.2 fun e he => ?_
    cases hb : Region.binds .any e with
    | false => rfl
    | true =>
      have hd : e.on ∈ direct ops i := by
        unfold direct
        rw [ho]
        exact List.mem_filterMap.2 ⟨e, by simpa using he, by simp [hb]⟩
      have := h2 e.on (d1 i e.on hi hd)
      simpa using this
  have main : ∀ (fuel : Nat) (listed : Array Bool) (τ : St) (F : Addr → Option Value) (own : List Ent) (act : Act) (w : World), listed.size = n → (∀ i, i < n → listed.getD i false = true → ∀ d ∈ direct ops i, listed.getD d false = true) →
      ((List.range n).countP fun i => !listed.getD i false) = fuel → (∀ i, k ≤ i → listed.getD i false = false) → aOpsR P Gl N U (fun ρ => DiesAt P Gl ρ p.2 v) (((List.range k).filter fun i => !listed.getD i false).map fun i => L.getD i default) τ →
      Inv Gl F own B w0 τ act w → wpAny P .any ops Q fuel listed act w := by
    intro fuel
    induction fuel with
    | zero =>
      intro listed τ F own act w hsz hcl hcnt hhi hop hI
      have := List.countP_eq_zero.1 hcnt k (List.mem_range.2 hkn)
      rw [hhi k (Nat.le_refl k)] at this
      simp at this
    | succ fuel ih =>
      intro listed τ F own act w hsz hcl hcnt hhi hop hI
      refine ⟨fun hnil => ?_, fun i hi => ?_⟩
      · obtain ⟨i, h1, h2, h3⟩ := count_pos (n := n) (S := fun i => listed.getD i false) (by omega)
        have := ready_mem listed i hsz h1 h2 h3
        rw [hnil] at this
        simp at this
      · obtain ⟨hin, hiS, hdir⟩ := mem_ready listed i hsz hi
        obtain ⟨o, p', ho, hli, hci, hgd, hmp⟩ := insAt i hin
        have hmem : ∀ j, j < k → L.getD j default ∈ pre := fun j hj => by
          rw [List.getD_eq_getElem?_getD, hL, List.getElem?_append_left (by omega), List.getElem?_eq_getElem (by omega)]
          exact List.getElem_mem _
        rcases Nat.lt_trichotomy i k with hik | hik | hik
        · have hset : ∀ j, (listed.setIfInBounds i true).getD j false = if j = i then true else listed.getD j false := fun j => by
            by_cases hji : j = i
            · subst hji
              have : j < listed.size := by omega
              simp [Array.getD, this]
            · rw [if_neg hji]
              simp only [Array.getD_eq_getD_getElem?]
              rw [Array.getElem?_setIfInBounds_ne (fun e => hji e.symm)]
          obtain ⟨pre', post', e1, e2, e3⟩ := filter_split (p := fun j => !listed.getD j false) (q := fun j => !(listed.setIfInBounds i true).getD j false) (i := i) (List.range k) List.pairwise_lt_range (List.mem_range.2 hik) (by simp [hiS]) (fun j => by rw [hset]; split <;> simp)
          have hpre' : ∀ j ∈ pre', j < n ∧ listed.getD j false = false := fun j hj => by
            have : j ∈ (List.range k).filter (fun j => !listed.getD j false) := by rw [e1]; simp [hj]
            rw [List.mem_filter, List.mem_range] at this
            exact ⟨by omega, by simpa using this.2⟩
          rw [e1, List.map_append, List.map_cons, hgd] at hop
          refine wpOp_mono ?_ (goFirst (lm := lm) hmp ho hci (pre'.map fun i => L.getD i default) (fun a ha => ?_) hI hop)
          · rintro a1 w1 ⟨F1, own1, ρ, hI1, hk1⟩
            refine ih (listed.setIfInBounds i true) ρ F1 own1 a1 w1 (by simp [hsz]) (fun j hj hS d hdj => ?_) ?_ (fun j hj => ?_) ?_ hI1
            · rw [hset] at hS ⊢
              split
              · rfl
              · split at hS
                · rename_i hji; subst hji; exact hdir d hdj
                · exact hcl j hj hS d hdj
            · have := count_set (n := n) (S := fun j => listed.getD j false) (S' := fun j => (listed.setIfInBounds i true).getD j false) hin hiS (by simp only [hset]; simp) (fun j hj => by simp only [hset, if_neg hj])
              omega
            · rw [hset, if_neg (by omega)]; exact hhi j hj
            · rw [e2, List.map_append]; exact hk1
          · obtain ⟨j, hj, rfl⟩ := List.mem_map.1 ha
            obtain ⟨hjn, hjS⟩ := hpre' j hj
            obtain ⟨oj, pj, hoj, hlj, hcj, hgj, hmj⟩ := insAt j hjn
            simp only [hgj]
            refine ⟨hmj, ?_, j, oj, hoj, hcj⟩
            cases hq : clashR pj p' with
            | false => rfl
            | true =>
              have ht := d3 i j (e3 j hj) hin (by rw [hgj, hgd]; exact hq)
              have := ahead (fun k => listed.getD k false) hcl i j hin hdir ht (e3 j hj)
              rw [hjS] at this; cases this
        · subst hik
          rw [atK] at hli
          cases hli
          have hdie : DiesAt P Gl τ p.2 v := dies_early _ (fun a ha => by
            obtain ⟨j, hj, rfl⟩ := List.mem_map.1 ha
            rw [List.mem_filter, List.mem_range] at hj
            refine ⟨hpre _ (hmem j hj.1), ?_⟩
            cases hq : clashR (L.getD j default) p with
            | false => rfl
            | true =>
              have ht := d3 i j hj.1 hin (by rw [hgd]; exact hq)
              have := ahead (fun k => listed.getD k false) hcl i j hin hdir ht hj.1
              rw [this] at hj; simp at hj) τ hop
          exact dies_wp hI hci ho hdie (fun w' hD => hQ act w' hI.defers hD) _
        · exfalso
          have hq : clashR p p' = true := by
            have hm : p' ∈ post := by
              have : L[i]? = some p' := hli
              rw [hL, List.getElem?_append_right (by omega), hk] at this
              obtain ⟨m, hm⟩ : ∃ m, i - k = m + 1 := ⟨i - k - 1, by omega⟩
              rw [hm, List.getElem?_cons_succ] at this
              exact List.mem_of_getElem? this
            have := List.all_eq_true.1 hw _ hm
            simp only [Bool.and_eq_true] at this
            exact this.1
          have hgk : L.getD k default = p := by rw [List.getD_eq_getElem?_getD, atK]; rfl
          have ht := d3 i k hik hin (by rw [hgk, hgd]; exact hq)
          have := ahead (fun k => listed.getD k false) hcl i k hin hdir ht hik
          rw [hhi k (Nat.le_refl k)] at this; cases this
  have hrep : ∀ i, (Array.replicate n false).getD i false = false := fun i => by
    simp only [Array.getD_eq_getD_getElem?, Array.getElem?_replicate]
    split <;> rfl
  refine main n (Array.replicate n false) σ F own act w (by simp) (fun i _ h => by rw [hrep] at h; cases h) ?_ (fun i _ => hrep i) ?_ hI
  · have : ((List.range n).countP fun i => !(Array.replicate n false).getD i false) = (List.range n).length := List.countP_eq_length.2 fun i _ => by rw [hrep]; rfl
    rw [this]; simp
  · have e1 : (List.range k).filter (fun i => !(Array.replicate n false).getD i false) = List.range k := List.filter_eq_self.2 fun i _ => by rw [hrep]; rfl
    have e2 : (List.range k).map (fun i => L.getD i default) = pre := by
      apply List.ext_getElem?
      intro j
      rw [List.getElem?_map]
      rcases Nat.lt_or_ge j k with q | q
      · rw [List.getElem?_range q]
        simp only [Option.map_some]
        rw [List.getD_eq_getElem?_getD, hL, List.getElem?_append_left (by omega), List.getElem?_eq_getElem (by omega)]
        rfl
      · rw [List.getElem?_eq_none (by simpa using q), List.getElem?_eq_none (by omega)]; rfl
    rw [e1, e2]; exact ha

/-- How code ends. -/
def PostX (Gl : Nat → Option (List AV)) (B : Nat) (w0 : W0) (o : Out) (e : Exit) (a : Act) (w : World) : Prop := match o with
  | .nrm x τ _ => e = x ∧ NG x ∧ Some' Gl B w0 (· = τ) a w
  | .pan v => e = .panic [{ v, recovered := false }] ∧ a.defers = w0.df ∧ Died B w0 v w
/-- What a run of code tells. -/
def OutT (N : Nat) (U : List Nat) (h : List AObj) : Out → Prop
  | .nrm _ τ V => TU N V h τ.h ∧ ∀ id ∈ U, id ∈ V
  | .pan _ => True
def ExOk (P : Program) (Gl : Nat → Option (List AV)) (hl : List Nat) (ex : Nat → C → St → List Nat → Option Out) : Prop := ∀ N c σ U o, ex N c σ U = some o → OutT N U σ.h o ∧
  ∀ code, cC P hl code = some c → ∀ F own B w0 act w, Inv Gl F own B w0 σ act w → code.wp P (PostX Gl B w0 o) act w

theorem fnE_spec {hl : List Nat} {f : Nat} {e : FnE} (h : fnE P hl f = some e) : callable P f = true ∧ ∃ fn code, P.funcs[f]? = some fn ∧ fn.body = some code ∧ cC P hl code = some e.c ∧ cRes P fn.results.toList = some e.rs ∧ fn.ntmps = e.n := by
  unfold fnE at h
  split at h
  · rename_i fn hfn
    split at h
    · rename_i b hb
      split at h
      · rename_i c rs hc hr
        split at h
        · rename_i hcb
          cases h
          exact ⟨hcb, fn, b, hfn, hb, hc, hr, rfl⟩
        · cases h
      · cases h
    · cases h
  · cases h
theorem resB_ok {τ : St} : ∀ (rs : List RV) (l : List AV), resB Gl τ rs = some l → ∃ p, resL Gl τ rs = some (p, l) ∧ p := by
  intro rs
  induction rs with
  | nil => intro l h; cases h; exact ⟨True, rfl, trivial⟩
  | cons r rs ih =>
    intro l h
    cases r with
    | t i =>
      simp only [resB] at h
      split at h
      · rename_i l' hl
        cases h
        obtain ⟨p, e, hp⟩ := ih l' hl
        exact ⟨p, by simp only [resL, e, Option.map_some], hp⟩
      · cases h
    | c i sz ag =>
      simp only [resB] at h
      split at h
      · rename_i a h' l' ha hl
        cases h
        obtain ⟨p, e, hp⟩ := ih l' hl
        obtain ⟨q, e', hq⟩ := exS_ok ha
        exact ⟨q ∧ p, by simp only [resL, e, e'], hq, hp⟩
      · cases h
theorem resA_ok {τ : St} {rs : List RV} {l : List AV} (h : resB Gl τ rs = some l) : ∃ p, resA Gl τ rs = some (p, oneB l) ∧ p := by
  obtain ⟨p, e, hp⟩ := resB_ok rs l h
  refine ⟨p, ?_, hp⟩
  unfold resA
  rw [e]
  match l with
  | [] => rfl
  | [a] => rfl
  | a :: b :: l => rfl
theorem isEnd_ok : ∀ e : Exit, isEnd e = true → match e with | .normal => True | .ret => True | _ => False := by
  intro e h
  cases e <;> first | trivial | cases h

/-- A function that dies. -/
theorem PanH.ofW {f : FuncId} {fn : Func} {code : Code} (hf : P.funcs[f]? = some fn) (hb : fn.body = some code) {h0 : List AObj} {as : List AV} {v : Value}
    (h : ∀ (F : Addr → Option Value) (own : List Ent) (B : Nat) (w0 : W0) (act : Act) (w : World), Inv Gl F own B w0 ⟨as ++ List.replicate (fn.ntmps - as.length) .any, h0⟩ act w → code.wp P (PostX Gl B w0 (.pan v)) act w) : PanH P Gl f h0 as v := by
  intro F own B w0 t act w xs hI hxs
  refine calls_of_wp hf hb ?_
  have hfr' : ∀ q ∈ w0.fr, q.1 ≤ h0.length := fun q hq => Nat.le_trans (w0.hfr q hq) hI.nl
  have hI1 : Inv Gl F own B ⟨w0.w, w0.F, h0.length, w0.fr, hfr', w0.pd, w0.pdn, []⟩ ⟨as ++ List.replicate (fn.ntmps - as.length) .any, h0⟩ { tmps := xs ++ Array.replicate (fn.ntmps - xs.size) undef, defers := [] } w := by
    refine { tl := by simp [hxs.1], tr := fun i x a p q => ?_, defers := rfl, sub := hI.sub, hl := hI.hl, objs := hI.objs, inj := hI.inj, below := hI.below, base := hI.base, gl := hI.gl, gw := hI.gw, room := hI.room, ext := hI.ext, ext0 := hI.ext0, nl := Nat.le_refl _, fr := hI.fr, pd := hI.pd }
    simp only at p q
    rcases Nat.lt_or_ge i as.length with hi | hi
    · rw [List.getElem?_append_left hi] at q
      rw [Array.getElem?_append_left (by rw [hxs.1]; exact hi)] at p
      exact hxs.2 i x a p q
    · rw [List.getElem?_append_right hi, List.getElem?_replicate] at q
      split at q
      · cases q; exact .pure (.any _)
      · cases q
  refine wp_mono (h F own _ _ _ w hI1) ?_
  rintro e a1 w1 ⟨rfl, hd, hD⟩
  exact ⟨hd, rfl, hD⟩
/-- A function of frozen values, over its caller's heap. -/
theorem Pure.toH {f : Nat} {bs : List AV} {res : AV} (hP : Pure P Gl f bs res) {h : List AObj} {as : List AV} (hk : keepAL h as = some bs) : PureH P Gl f h as fun r k => r = res ∧ k = if scalar res = true then h else freeze h (as.flatMap rowsA) := by
  intro F own B w0 t act w xs hI hxs
  obtain ⟨F1, hF1, hI1, hkp⟩ := hI.freezeL (as.flatMap rowsA)
  obtain ⟨l1, l2⟩ := keepAL_sound hI hF1 _ bs hk hkp
  have hrpl : RPL F1 xs bs := by
    refine ⟨by rw [hxs.1, l1], fun j x a hx ha => ?_⟩
    have hj : j < as.length := by rw [l1]; exact (List.getElem?_eq_some_iff.1 ha).1
    exact (l2 j x as[j] a (List.getElem?_eq_getElem hj) ha (hxs.2 j x as[j] hx (List.getElem?_eq_getElem hj))).1
  have hgw : GlW Gl w.heap.size w := fun g cs q => by
    obtain ⟨q1, vs, ty, fr, q2, q3⟩ := hI1.gw g cs q
    exact ⟨Nat.lt_of_lt_of_le q1 (Nat.le_trans hI1.room hI1.below.size), vs, ty, fr, by rw [hI1.below.block _ q1]; exact q2, q3⟩
  refine (hP w F1 xs hI1.sub hI1.gl hgw hrpl).mono ?_
  rintro e w' ⟨v, F', rfl, g1, g2, g3, g4, g5⟩
  cases hsc : scalar res with
  | true =>
    have hI2 := hI.call (F' := F) (w' := w') (fun _ _ q => q) (fun ad y q => by rw [World.cell?_of_block (w := w) (g5.block _ (hI.F_lt q))]; exact hI.sub _ _ q) (fun _ _ q => .inl q) g5
    exact ⟨v, res, h, F, own, rfl, hI2, .pure (scalar_RP g4 hsc), rfl, rfl⟩
  | false =>
    have hI2 := hI1.call g1 g2 g3 g5
    exact ⟨v, res, _, F', own, rfl, hI2, .pure g4, rfl, by simp⟩

theorem cfB_ok {hl : List Nat} {ex : Nat → C → St → List Nat → Option Out} (hx : ExOk P Gl hl ex) : CfOk P Gl (cfB Gl (fnE P hl) ex) := by
  intro f as h r hr
  unfold cfB at hr
  split at hr
  · rename_i e he
    obtain ⟨hcb, fn, code, h1, h2, h3, h4, h5⟩ := fnE_spec he
    refine ⟨hcb, ?_⟩
    split at hr
    · rename_i x τ V hex
      obtain ⟨o1, o2⟩ := hx _ _ _ _ _ hex
      split at hr
      · rename_i hend
        split at hr
        · rename_i l hrl
          cases hr
          refine ⟨PureH.ofW h1 h2 h4 fun F own B w0 act w _ hI => ?_, o1.1.1, fun id hid hn => o1.1.2 id hid hid hn⟩
          rw [h5] at hI
          refine wp_mono (o2 code h3 F own B w0 act w hI) ?_
          rintro e' a w' ⟨rfl, _, F1, own1, τ', hI1, rfl⟩
          obtain ⟨p, e1, hp⟩ := resA_ok hrl
          exact ⟨F1, own1, τ', hI1, isEnd_ok _ hend, p, _, e1, hp, rfl, rfl⟩
        · cases hr
      · cases hr
    · rename_i v hex
      cases hr
      obtain ⟨o1, o2⟩ := hx _ _ _ _ _ hex
      refine PanH.ofW h1 h2 fun F own B w0 act w hI => ?_
      rw [h5] at hI
      exact o2 code h3 F own B w0 act w hI
    · cases hr
  · cases hr
theorem pfB_ok {hl : List Nat} {ex : Nat → C → St → List Nat → Option Out} (hx : ExOk P Gl hl ex) : PfOk P Gl (pfB Gl (fnE P hl) ex) := by
  intro f as res hr
  unfold pfB at hr
  split at hr
  · rename_i e he
    obtain ⟨hcb, fn, code, h1, h2, h3, h4, h5⟩ := fnE_spec he
    refine ⟨hcb, ?_⟩
    split at hr
    · rename_i x τ V hex
      obtain ⟨o1, o2⟩ := hx _ _ _ _ _ hex
      split at hr
      · rename_i hend
        split at hr
        · rename_i l hrl
          refine Pure.ofW h1 h2 h4 fun F own B w0 act w _ hI => ?_
          rw [h5] at hI
          refine wp_mono (o2 code h3 F own B w0 act w hI) ?_
          rintro e' a w' ⟨rfl, _, F1, own1, τ', hI1, rfl⟩
          obtain ⟨p, e1, hp⟩ := resA_ok hrl
          exact ⟨F1, own1, τ', hI1, isEnd_ok _ hend, p, _, res, e1, hp, hr, Wk.refl _⟩
        · cases hr
      · cases hr
    · cases hr
  · cases hr
/-- Functions made by hand do as they say. -/
def HandOk (P : Program) (Gl : Nat → Option (List AV)) (hd : Hand) : Prop := ∀ cf pf, CfOk P Gl cf → PfOk P Gl pf → (∀ f g, hd.h cf pf f = some g → ∀ as h r, g as h = some r → callable P f = true ∧ IrOk P Gl f as h r) ∧ ∀ f g, hd.p cf pf f = some g → ∀ as res, g as = some res → callable P f = true ∧ Pure P Gl f as res
theorem pfA_ok {hl : List Nat} {hd : Hand} (hh : HandOk P Gl hd) {ex : Nat → C → St → List Nat → Option Out} (hx : ExOk P Gl hl ex) : PfOk P Gl (pfA Gl (fnE P hl) hd ex) := by
  intro f as res hr
  unfold pfA at hr
  split at hr
  · rename_i g hg
    exact (hh _ _ (cfB_ok hx) (pfB_ok hx)).2 f g hg as res hr
  · exact pfB_ok hx f as res hr
theorem cfA_ok {hl : List Nat} {hd : Hand} (hh : HandOk P Gl hd) {ex : Nat → C → St → List Nat → Option Out} (hx : ExOk P Gl hl ex) : CfOk P Gl (cfA Gl (fnE P hl) hd ex) := by
  intro f as h r hr
  unfold cfA at hr
  split at hr
  · rename_i g hg
    exact (hh _ _ (cfB_ok hx) (pfB_ok hx)).1 f g hg as h r hr
  · split at hr
    · rename_i g hg
      split at hr
      · rename_i bs hk
        split at hr
        · rename_i res hres
          cases hr
          obtain ⟨hcb, hP⟩ := (hh _ _ (cfB_ok hx) (pfB_ok hx)).2 f g hg bs res hres
          refine ⟨hcb, ?_⟩
          have := hP.toH hk
          split
          · rename_i hs
            rw [if_pos hs] at this
            exact ⟨this, .refl _ _⟩
          · rename_i hs
            rw [if_neg hs] at this
            exact ⟨this, .frz _ fun _ q => q⟩
        · cases hr
      · cases hr
    · exact cfB_ok hx f as h r hr
end
end Abs
end Go.Proofs.YtnhgeocdffhkjaaDoor
