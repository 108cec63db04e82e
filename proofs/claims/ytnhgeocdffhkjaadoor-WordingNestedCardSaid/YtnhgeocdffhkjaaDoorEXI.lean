/- Parse: it dies, and its deferred call recovers. -/
import Derived.Test.YtnhgeocdffhkjaaDoorEXH
namespace Go.Proofs.YtnhgeocdffhkjaaDoor
namespace Abs
open Go.RowKit
set_option linter.unusedVariables false
set_option linter.unusedSimpArgs false
section
variable {P : Program} {Gl : Nat → Option (List AV)}
/-- What it has when it goes on behind the deferral: the cells' places, and the tokens. -/
def st5 (p2 p3 p4 : Value) (b : AV) : St := ⟨((((List.replicate 23 .any).set 2 (.v p2)).set 3 (.v p3)).set 4 (.v p4)).set 5 (.lptr [b]), []⟩
theorem parse_dies {f f9 f10 : Nat} {fn fn9 : Func} {x1 x2 x3 x5 yC y9 : Code} {ops ops6 ops9 : Array Oper} {o0 o1 o6 o0' o1' : Oper} {l9 : List Ins} {tt : TypeId} (h4 : Rec4 P f f9 fn x1 x2 x3 ops (x5.seq ((Code.region 6 ops6 false).seq yC)) o0 o1) (h9 : Rec9 P f9 fn9 ops9 y9 l9 o0' o1' tt)
    (hinv : ∀ act (w : World), (invoke (.fn (.func f9) (capsA act)) #[]).run P w = .ok (.enter f9 (capsA act)) w)
    {hl : List Nat} {ex : Nat → C → St → List Nat → Option Out} (hx : ExOk P Gl hl ex) {cf : Nat → List AV → List AObj → Option IR} {pf : Nat → List AV → Option AV} (hcf : CfOk P Gl cf) (hpf : PfOk P Gl pf)
    {az : List AV} {c1 c2 c3 c5 c9 : C} (k1 : cC P hl x1 = some c1) (k2 : cC P hl x2 = some c2) (k3 : cC P hl x3 = some c3) (k5 : cC P hl x5 = some c5) (k9 : cC P hl y9 = some c9) {rs : List RV} (kr : cRes P fn.results.toList = some rs)
    {τ1 τ2 τ3 τ9 τ9' : St} {τ5 : Value → Value → Value → St} {V5 : Value → Value → Value → List Nat} {V1 V2 V3 V9 V9' : List Nat} {N : Nat} {e9 : Exit}
    (e1 : ex N c1 ⟨az ++ List.replicate (23 - az.length) .any, []⟩ [] = some (.nrm .normal τ1 V1)) (e2 : ex N c2 τ1 V1 = some (.nrm .normal τ2 V2)) (e3 : ex N c3 τ2 V2 = some (.nrm .normal τ3 V3)) (ht3 : τ3.t.length = 23)
    {id : Nat} {ob : AObj} {a b : AV} (hi : τ3.t.getD 5 .any = .ptr id 1 0 0) (hob : τ3.h[id]? = some ob) (hes : ob.es = [a]) (hsz : ob.sz = 1) (hc : a.cells = [a]) (hk : keepA τ3.h a = some b) (hc' : b.cells = [b])
    (e5 : ∀ p2 p3 p4, ex N c5 (st5 p2 p3 p4 b) [] = some (.nrm .normal (τ5 p2 p3 p4) (V5 p2 p3 p4))) (t5 : ∀ p2 p3 p4, (τ5 p2 p3 p4).t.getD 2 .any = .v p2 ∧ (τ5 p2 p3 p4).t.getD 3 .any = .v p3 ∧ (τ5 p2 p3 p4).t.getD 4 .any = .v p4)
    (hp6 : ops6[0]? = some o6) (hz6 : 0 < ops6.size) {d6 : Option Nat} (hc6 : cIns P false ops6 o6 = some ⟨d6, none, .call (.k (.func (.func f10) #[] #[])) [.t 6]⟩) {v : Value} (e6 : ∀ p2 p3 p4, cf f10 [(τ5 p2 p3 p4).t.getD 6 .any] (τ5 p2 p3 p4).h = some (.pan v))
    {v9 : Value} {a9 : AV} (hta : ∀ w, (Instr.typeAssert v 20 tt true).run P w = .ok v9 w) (hR9 : ∀ F, RP F v9 a9)
    (e91 : exOps Gl cf pf false N l9 (st9 (capsS τ3) τ3.h (.v v) a9) [] = some (.nrm .normal τ9 V9)) (e92 : ex N c9 τ9 V9 = some (.nrm e9 τ9' V9')) (e93 : isEnd e9 = true)
    {l : List AV} (er : resB Gl ⟨τ3.t.set 18 .any, τ9'.h⟩ rs = some l) {res : AV} (ek : keepT τ9'.h (oneB l) = some res) : Pure P Gl f az res := by
  intro w F xs hF hgl hgw hxs
  refine calls_of_wp_defers h4.fn4 h4.body ?_
  rw [h4.nt]
  have hI := enter_inv (n := 23) hF hgl hgw hxs
  refine seq_run hx e1 k1 hI fun F1 own1 a1 w1 hI1 => seq_run hx e2 k2 hI1 fun F2 own2 a2 w2 hI2 => seq_run hx e3 k3 hI2 fun F3 own3 a3 w3 hI3 => wp_seq ?_
  obtain ⟨W1, hW1, hW2, hW3, hI4, hcap⟩ := r4_inv hI3 ht3 f9
  refine r4_run h4 (by rw [hI3.tl, ht3]) ?_
  show (x5.seq ((Code.region 6 ops6 false).seq yC)).wp P _ _ _
  generalize ea4 : ({ tmps := (a3.put (some 18) (.func (.func f9) #[] (capsA a3))).tmps, defers := defd f9 a3 :: a3.defers } : Act) = a4 at hI4 ⊢
  have hd4 : a4.defers = [defd f9 a3] := by rw [← ea4, hI3.defers]
  have hs4 : a4.tmps.size = 23 := by rw [hI4.tl]; simp [St.put, ht3]
  -- the frame anew
  have hi4 : (τ3.put (some 18) .any).val Gl (.t 5) = .ptr id 1 0 0 := by
    show (τ3.t.set 18 .any).getD 5 .any = _
    rw [List.getD_eq_getElem?_getD, List.getElem?_set_ne (by omega), ← List.getD_eq_getElem?_getD]; exact hi
  obtain ⟨G, hG1, hG2, hG3⟩ := rebase hI4 hi4 hob hes hsz hc hk hc'
  have hgw4 : GlW Gl w3.heap.size w3 := fun g cs q => by
    obtain ⟨q1, vs, ty, fr, q2, q3⟩ := hI4.gw g cs q
    have hb := hI4.below.block g q1
    exact ⟨Nat.lt_of_lt_of_le q1 (Nat.le_trans hI4.room hI4.below.size), vs, ty, fr, by rw [hb]; exact q2, q3⟩
  let W5 : W0 := ⟨w3, G, 0, [], (fun q hq => by simp at hq), [], List.Pairwise.nil, a4.defers⟩
  have hI5 : Inv Gl G [] w3.heap.size W5 (st5 (a4.tmps.getD 2 undef) (a4.tmps.getD 3 undef) (a4.tmps.getD 4 undef) b) a4 w3 := by
    refine { tl := by simp [st5, hs4], tr := fun i x c p q => ?_, defers := rfl, sub := hG2, hl := rfl, objs := fun id e o p => by simp at p, inj := fun i j e e' g p => by simp at p, below := Below.refl _ _, base := fun id e g p => by simp at p, gl := fun g cs q => (hI4.gl g cs q).mono hG1, gw := hgw4, room := Nat.le_refl _, ext := fun _ _ q => .inl q, ext0 := fun _ _ q => q, nl := Nat.zero_le _, fr := (fun q hq => by simp [W5] at hq), pd := fun q hq => by simp [W5] at hq }
    have hlt : i < 23 := by rw [← hs4]; exact (Array.getElem?_eq_some_iff.1 p).1
    have ex : a4.tmps.getD i undef = x := by
      have : i < a4.tmps.size := by omega
      simp [Array.getD, this]; rw [Array.getElem?_eq_getElem this] at p; exact Option.some.inj p
    have eq : (st5 (a4.tmps.getD 2 undef) (a4.tmps.getD 3 undef) (a4.tmps.getD 4 undef) b).t.getD i .any = c := by
      have q' : (st5 (a4.tmps.getD 2 undef) (a4.tmps.getD 3 undef) (a4.tmps.getD 4 undef) b).t[i]? = some c := q
      rw [List.getD_eq_getElem?_getD, q']; rfl
    by_cases h2 : i = 2
    · subst h2; have : c = .v x := by rw [← eq, ← ex]; rfl
      rw [this]; exact .pure (.v x)
    by_cases h3 : i = 3
    · subst h3; have : c = .v x := by rw [← eq, ← ex]; rfl
      rw [this]; exact .pure (.v x)
    by_cases h4' : i = 4
    · subst h4'; have : c = .v x := by rw [← eq, ← ex]; rfl
      rw [this]; exact .pure (.v x)
    by_cases h5 : i = 5
    · subst h5; have : c = .lptr [b] := by rw [← eq]; rfl
      rw [this, ← ex]; exact .pure hG3
    · have : c = .any := by
        rw [← eq]
        show (((((List.replicate 23 AV.any).set 2 _).set 3 _).set 4 _).set 5 _).getD i .any = .any
        rw [List.getD_eq_getElem?_getD, List.getElem?_set_ne (by omega), List.getElem?_set_ne (by omega), List.getElem?_set_ne (by omega), List.getElem?_set_ne (by omega), List.getElem?_replicate, if_pos hlt]
        rfl
      rw [this]; exact .pure (.any _)
  have e5' := e5 (a4.tmps.getD 2 undef) (a4.tmps.getD 3 undef) (a4.tmps.getD 4 undef)
  have t5' := t5 (a4.tmps.getD 2 undef) (a4.tmps.getD 3 undef) (a4.tmps.getD 4 undef)
  have e6' := e6 (a4.tmps.getD 2 undef) (a4.tmps.getD 3 undef) (a4.tmps.getD 4 undef)
  generalize τ5 (a4.tmps.getD 2 undef) (a4.tmps.getD 3 undef) (a4.tmps.getD 4 undef) = σ6 at e5' t5' e6'
  refine seq_run hx e5' k5 hI5 fun F6 own6 a6 w6 hI6 => wp_seq (wp_region ?_)
  obtain ⟨m, hm⟩ : ∃ m, ops6.size = m + 1 := ⟨ops6.size - 1, by omega⟩
  rw [hm, List.range_eq_range', List.range'_succ, wpOps_cons]
  obtain ⟨hcb, hpan⟩ := hcf _ _ _ _ e6'
  refine dies_wp hI6 hc6 hp6 (v := v) ⟨rfl, _, _, f10, _, rfl, .inl ⟨rfl, rfl⟩, hcb, hpan⟩ (fun w7 hD => ?_) _
  show Leaves P fn a6.tmps (PureR F w res) a6.defers (.panicking [{ v, recovered := false }]) w7
  have hd6 : a6.defers = [defd f9 a3] := by rw [hI6.defers]; exact hd4
  rw [hd6]
  have hI7 := hI4.more hD.2
  refine leaves_cons (by simp) (hinv a3 w7) ?_
  refine (d9 h9 hx hcf hpf (u := .panicking [{ v, recovered := false }]) (u' := .panicking [{ v, recovered := true }]) (v8 := v) (by rfl) (fun c₀ cs hu => .inl (by simp [recoverD, hu])) hta hR9 e91 k9 e92 e93 hI7 (hcap _ _ _ _ _ hI7)).mono ?_
  rintro e' u' w8 ⟨rfl, rfl, F8, own8, hI8⟩
  obtain ⟨z, hz1, hz2⟩ := pure_end kr hW1 hW2 hI8 er ek
  have same : Go.results fn a6.tmps = Go.results fn a4.tmps := by
    have g : ∀ i p, σ6.t.getD i .any = .v p → a6.tmps.getD i undef = p := fun i p hq => by
      have := hI6.ev (.tmp i)
      rw [show σ6.val Gl (cOpd (.tmp i)) = .v p from hq] at this
      exact this.v_inv
    rw [results_eq, results_eq, h4.res]
    have m2 := g 2 _ t5'.1
    have m3 := g 3 _ t5'.2.1
    have m4 := g 4 _ t5'.2.2
    simp only [List.mapM_toArray, List.mapM_cons, List.mapM_nil, Abs.resF, m2, m3, m4]
  show Leaves P fn a6.tmps (PureR F w res) [] (settle (.panicking [{ v, recovered := true }])) w8
  have hset : settle (.panicking [{ v, recovered := true }]) = .returning := rfl
  rw [hset]
  exact ⟨z, by rw [same]; exact hz1, hz2⟩
end
end Abs
end Go.Proofs.YtnhgeocdffhkjaaDoor
