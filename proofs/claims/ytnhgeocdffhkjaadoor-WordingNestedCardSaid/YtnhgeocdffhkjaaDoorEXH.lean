/- Parse: both ways to end. -/
import Derived.Test.YtnhgeocdffhkjaaDoorEXG
namespace Go.Proofs.YtnhgeocdffhkjaaDoor
namespace Abs
open Go.RowKit
set_option linter.unusedVariables false
set_option linter.unusedSimpArgs false
section
variable {P : Program} {Gl : Nat → Option (List AV)}
/-- The frame of a function of frozen values, at its start. -/
theorem enter_inv {F : Addr → Option Value} {w : World} {xs : Array Value} {az : List AV} {n : Nat} (hF : ∀ a x, F a = some x → w.cell? a = some x) (hgl : GlOk Gl F) (hgw : GlW Gl w.heap.size w) (hxs : RPL F xs az) :
    Inv Gl F [] w.heap.size ⟨w, F, 0, [], (fun q hq => by simp at hq), [], List.Pairwise.nil, []⟩ ⟨az ++ List.replicate (n - az.length) .any, []⟩ { tmps := xs ++ Array.replicate (n - xs.size) undef, defers := [] } w := by
  refine { tl := by simp [hxs.1], tr := fun i x a p q => ?_, defers := rfl, sub := hF, hl := rfl, objs := fun id e o p => by simp at p, inj := fun i j e e' g p => by simp at p, below := Below.refl _ _, base := fun id e g p => by simp at p, gl := hgl, gw := hgw, room := Nat.le_refl _, ext := fun _ _ q => .inl q, ext0 := fun _ _ q => q, nl := Nat.zero_le _, fr := (fun q hq => by simp at hq), pd := fun q hq => by simp at hq }
  simp only at p q
  rcases Nat.lt_or_ge i az.length with hi | hi
  · rw [List.getElem?_append_left hi] at q
    rw [Array.getElem?_append_left (by rw [hxs.1]; exact hi)] at p
    exact .pure (hxs.2 i x a p q)
  · rw [List.getElem?_append_right hi, List.getElem?_replicate] at q
    split at q
    · cases q; exact .pure (.any _)
    · cases q
/-- It ends well, and its deferred call finds nothing to recover. -/
theorem parse_ok {f f9 : Nat} {fn fn9 : Func} {x1 x2 x3 y y9 : Code} {ops ops9 : Array Oper} {o0 o1 o0' o1' : Oper} {l9 : List Ins} {tt : TypeId} (h4 : Rec4 P f f9 fn x1 x2 x3 ops y o0 o1) (h9 : Rec9 P f9 fn9 ops9 y9 l9 o0' o1' tt)
    (hinv : ∀ act (w : World), (invoke (.fn (.func f9) (capsA act)) #[]).run P w = .ok (.enter f9 (capsA act)) w)
    {hl : List Nat} {ex : Nat → C → St → List Nat → Option Out} (hx : ExOk P Gl hl ex) {cf : Nat → List AV → List AObj → Option IR} {pf : Nat → List AV → Option AV} (hcf : CfOk P Gl cf) (hpf : PfOk P Gl pf)
    {az : List AV} {c1 c2 c3 cB c9 : C} (k1 : cC P hl x1 = some c1) (k2 : cC P hl x2 = some c2) (k3 : cC P hl x3 = some c3) (kB : cC P hl y = some cB) (k9 : cC P hl y9 = some c9) {rs : List RV} (kr : cRes P fn.results.toList = some rs)
    {τ1 τ2 τ3 τB τ9 τ9' : St} {V1 V2 V3 VB V9 V9' : List Nat} {N : Nat} {eB e9 : Exit}
    (e1 : ex N c1 ⟨az ++ List.replicate (23 - az.length) .any, []⟩ [] = some (.nrm .normal τ1 V1)) (e2 : ex N c2 τ1 V1 = some (.nrm .normal τ2 V2)) (e3 : ex N c3 τ2 V2 = some (.nrm .normal τ3 V3)) (ht3 : τ3.t.length = 23)
    (eB1 : ex N cB (τ3.put (some 18) .any) V3 = some (.nrm eB τB VB)) (eB2 : isEnd eB = true)
    {v9 : Value} {a9 : AV} (hta : ∀ w, (Instr.typeAssert .nilIface 20 tt true).run P w = .ok v9 w) (hR9 : ∀ F, RP F v9 a9)
    (e91 : exOps Gl cf pf false N l9 (st9 (capsS τ3) τB.h (.v .nilIface) a9) [] = some (.nrm .normal τ9 V9)) (e92 : ex N c9 τ9 V9 = some (.nrm e9 τ9' V9')) (e93 : isEnd e9 = true)
    {l : List AV} (er : resB Gl ⟨τB.t, τ9'.h⟩ rs = some l) {res : AV} (ek : keepT τ9'.h (oneB l) = some res) : Pure P Gl f az res := by
  intro w F xs hF hgl hgw hxs
  refine calls_of_wp_defers h4.fn4 h4.body ?_
  rw [h4.nt]
  have hI := enter_inv (n := 23) hF hgl hgw hxs
  refine seq_run hx e1 k1 hI fun F1 own1 a1 w1 hI1 => seq_run hx e2 k2 hI1 fun F2 own2 a2 w2 hI2 => seq_run hx e3 k3 hI2 fun F3 own3 a3 w3 hI3 => wp_seq ?_
  obtain ⟨W1, hW1, hW2, hW3, hI4, hcap⟩ := r4_inv hI3 ht3 f9
  refine r4_run h4 (by rw [hI3.tl, ht3]) ?_
  show y.wp P _ _ _
  refine wp_mono ((hx _ _ _ _ _ eB1).2 y kB F3 own3 _ W1 _ w3 hI4) ?_
  rintro e a5 w5 ⟨rfl, _, F5, own5, τ5, hI5, rfl⟩
  have hd5 : a5.defers = [defd f9 a3] := by
    rw [hI5.defers, hW3, hI3.defers]
  have hleave : Leaves P fn a5.tmps (PureR F w res) a5.defers .returning w5 := by
    rw [hd5]
    refine leaves_cons (by simp) (hinv a3 w5) ?_
    refine (d9 h9 hx hcf hpf (u := .returning) (u' := .returning) (v8 := .nilIface) (by rfl) (fun c₀ cs hu => .inr ⟨by simp [recoverD, hu], rfl, by cases c₀; simp_all⟩) hta hR9 e91 k9 e92 e93 hI5 (hcap _ _ _ _ _ hI5)).mono ?_
    rintro e' u' w6 ⟨rfl, rfl, F6, own6, hI6⟩
    obtain ⟨v, hv1, hv2⟩ := pure_end kr hW1 hW2 hI6 er ek
    exact ⟨v, hv1, hv2⟩
  cases e with
  | normal => exact hleave
  | ret => exact hleave
  | _ => cases eB2
/-- A pointer to a cell of the call's own that holds a value for good. -/
theorem rebase {F : Addr → Option Value} {own : List Ent} {B : Nat} {w0 : W0} {σ : St} {act : Act} {w : World} (hI : Inv Gl F own B w0 σ act w) {i id : Nat} (hi : σ.val Gl (.t i) = .ptr id 1 0 0) {ob : AObj} (hob : σ.h[id]? = some ob) {a b : AV} (hes : ob.es = [a]) (hsz : ob.sz = 1) (hc : a.cells = [a]) (hk : keepA σ.h a = some b) (hc' : b.cells = [b]) :
    ∃ F3, (∀ ad y, F ad = some y → F3 ad = some y) ∧ (∀ ad y, F3 ad = some y → w.cell? ad = some y) ∧ RP F3 (act.tmps.getD i undef) (.lptr [b]) := by
  obtain ⟨F1, hF1, hI1, hkp⟩ := hI.freezeL (rowsA a)
  have hp := hI.ev (.tmp i)
  rw [show cOpd (.tmp i) = .t i from rfl, hi] at hp
  obtain ⟨e, he, hO⟩ := hI.obj_own hob
  rcases hO with ⟨hpos, hO⟩ | ⟨h0, _⟩
  · obtain ⟨c1, c2, c3, c4, c5, c6, c7, c8⟩ := hO
    have hG : e.G = 1 := by rw [c1, hes]; rfl
    have hx : ∃ g, e.g = some g ∧ act.eval (.tmp i) = .pointer (some ⟨g, 0, none⟩) := by
      generalize act.eval (.tmp i) = x at hp
      cases hp with
      | pure h => cases h
      | ptr x id G i off e' he' hG' hs hx hz =>
        rw [he] at he'; cases he'
        obtain ⟨g, q1, q2⟩ := hx hG.symm
        exact ⟨g, q1, by rw [q2]; simp⟩
    obtain ⟨g, hg, hpx⟩ := hx
    rw [hg] at c8
    obtain ⟨cs, ⟨fr, hcell, _⟩, hcs, hel, _⟩ := c8
    obtain ⟨y, hy1, hy2, hy3⟩ := hel 0 0 a a (by rw [hes]; rfl) (by rw [hc]; rfl)
    have hyR : R F own y a := by
      unfold RC at hy3
      split at hy3
      · exact .pure hy3
      · exact hy3
    obtain ⟨hRP, _, _⟩ := keepA_sound hI hF1 hyR hk hkp
    have hcl : w.cell? ⟨g, 0, none⟩ = some y := by
      have hy1' : cs[0]? = some y := by simpa using hy1
      simp [World.cell?, hcell, hy1']
    classical
    refine ⟨fun q => if q = ⟨g, 0, none⟩ then some y else F1 q, fun ad z hz => ?_, fun ad z hz => ?_, ?_⟩
    · show (if ad = (⟨g, 0, none⟩ : Addr) then some y else F1 ad) = some z
      by_cases hq : ad = ⟨g, 0, none⟩
      · rw [if_pos hq]
        have := hI.sub _ _ hz
        rw [hq, hcl] at this
        exact this
      · rw [if_neg hq]; exact hF1 _ _ hz
    · have hz : (if ad = (⟨g, 0, none⟩ : Addr) then some y else F1 ad) = some z := hz
      by_cases hq : ad = ⟨g, 0, none⟩
      · rw [if_pos hq] at hz; cases hz; rw [hq]; exact hcl
      · rw [if_neg hq] at hz; exact hI1.sub _ _ hz
    · have : act.tmps.getD i undef = .pointer (some ⟨g, 0, none⟩) := hpx
      rw [this]
      have hmono : ∀ {x : Value} {c : AV}, RP F1 x c → RP (fun q => if q = (⟨g, 0, none⟩ : Addr) then some y else F1 q) x c := fun h => h.mono fun ad z hz => by
        by_cases hq : ad = ⟨g, 0, none⟩
        · simp only [if_pos hq]
          have := hI1.sub _ _ hz
          rw [hq, hcl] at this
          exact this
        · simp only [if_neg hq]; exact hz
      refine .lptr _ [b] (fun _ => y) (fun j c hj => ?_) (fun j c hj => ?_)
      · cases j with
        | zero => exact ⟨by simp [Addr.add], hy2⟩
        | succ j => simp at hj
      · cases j with
        | zero => cases hj; exact hmono hRP
        | succ j => simp at hj
  · omega
end
end Abs
end Go.Proofs.YtnhgeocdffhkjaaDoor
