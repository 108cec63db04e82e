/- The typed machine: regions. -/
import Derived.Test.YtamgbanmnededaaDoorXE
namespace Go.Proofs.YtamgbanmnededaaDoor
namespace Abs
open Go.RowKit
set_option linter.unusedVariables false
set_option linter.unusedSimpArgs false

def SpR (ρ : List Nat) (h : List XO) (σ : St) (sp : Sp) : Prop := ∀ q ∈ sp, (σ.t.getD q.2.1 .any = .v (.bool q.2.2.1) ∧ VT ρ h q.2.2.2 (σ.t.getD q.1 .any)) ∨ (σ.t.getD q.2.1 .any ≠ .v (.bool q.2.2.1) ∧ σ.t.getD q.1 .any = und)
section
variable {P : Program} {c : Cfg} {ρ : List Nat} {X : XS} {H : List AObj} {σ : St} {β : Type} {r : β} {sp : Sp}
theorem vt_get {h : List XO} {t : List XV} {ts : List AV} (ht : All2 (VT ρ h) t ts) (i : Nat) : VT ρ h (t.getD i .any) (ts.getD i .any) := by
  rcases Nat.lt_or_ge i ts.length with q | q
  · exact ht.getD q _ _
  · have : t[i]? = none := List.getElem?_eq_none (by rw [ht.1]; exact q)
    simp only [List.getD, this, Option.getD_none]; trivial
theorem rdG_ok (hS : Sim ρ X σ) (o : Opd) : VT ρ X.h (rdG c.GX X.t o) (σ.val (gx c.GX) o) := by
  cases o with
  | t i => exact vt_get hS.t i
  | k v => exact VT.of1 (vx1_v v)
  | g i =>
    simp only [rdG, St.val, gx]
    by_cases hb : Nat.blt i 1000000 = true
    case neg => rw [if_neg hb]; trivial
    rw [if_pos hb, if_pos hb]
    cases c.GX i with
    | none => trivial
    | some p =>
      obtain ⟨T, x⟩ := p
      exact ⟨_, rfl, by rw [List.drop_zero]; exact All2.rfl' .refl _⟩
theorem rdC_ok (hS : Sim ρ X σ) (hsp : SpR ρ X.h σ sp) {ctx : List (Nat × Bool)} (hg : ∀ g ∈ ctx, σ.t.getD g.1 .any = .v (.bool g.2)) (o : Opd) : VT ρ X.h (rdC c.GX sp ctx X.t o) (σ.val (gx c.GX) o) := by
  cases o with
  | t i =>
    simp only [rdC]
    split
    · rename_i q hq
      have hm := List.mem_of_find?_eq_some hq
      have hp := List.find?_some hq
      simp only [Bool.and_eq_true, List.any_eq_true] at hp
      obtain ⟨e1, g, hgm, hg2⟩ := hp
      have e1 := beq_eq e1
      simp only [Bool.and_eq_true, beq_iff_eq] at hg2
      have e2 := beq_eq hg2.1
      have hgg := hg g hgm
      rw [e2, hg2.2] at hgg
      rcases hsp q hm with ⟨_, h2⟩ | ⟨h1, _⟩
      · rw [e1] at h2; exact h2
      · exact absurd hgg h1
    · exact vt_get hS.t i
  | k v => exact rdG_ok (c := c) hS (.k v)
  | g i => exact rdG_ok (c := c) hS (.g i)
theorem all2_at {h : List XO} {t : List XV} {ts : List AV} (ht : All2 (VT ρ h) t ts) {u : Nat} {x : XV} (hx : VT ρ h x (ts.getD u .any)) : All2 (VT ρ h) (t.set u x) ts := by
  refine ⟨by simp [ht.1], fun i y a p q => ?_⟩
  rw [List.getElem?_set] at p
  split at p
  · rename_i hi
    subst hi
    split at p
    · cases p
      have : ts.getD u .any = a := by simp only [List.getD, q, Option.getD_some]
      rw [this] at hx; exact hx
    · cases p
  · exact ht.2 i y a p q
theorem mat_ok {h : List XO} {s : Nat} {v : Bool} (hg : σ.t.getD s .any = .v (.bool v)) : ∀ (l : Sp) (t : List XV), All2 (VT ρ h) t σ.t → (∀ q ∈ l, (σ.t.getD q.2.1 .any = .v (.bool q.2.2.1) ∧ VT ρ h q.2.2.2 (σ.t.getD q.1 .any)) ∨ (σ.t.getD q.2.1 .any ≠ .v (.bool q.2.2.1) ∧ σ.t.getD q.1 .any = und)) → All2 (VT ρ h) (l.foldl (fun t q => if Nat.beq q.2.1 s = true then t.set q.1 (if (q.2.2.1 == v) = true then q.2.2.2 else kU) else t) t) σ.t := by
  intro l
  induction l with
  | nil => intro t ht _; exact ht
  | cons q l ih =>
    intro t ht hl
    refine ih _ ?_ (fun q' hq' => hl q' (by simp [hq']))
    dsimp only
    split
    · rename_i hb
      have hb := beq_eq hb
      rcases hl q (by simp) with ⟨h1, h2⟩ | ⟨h1, h2⟩
      · rw [hb, hg] at h1
        cases h1
        rw [if_pos (by simp)]
        exact all2_at ht h2
      · have hne : ¬ (q.2.2.1 == v) = true := fun e => h1 (by rw [hb, hg]; simp only [beq_iff_eq] at e; rw [e])
        rw [if_neg hne]
        refine all2_at ht ?_
        rw [h2]; exact rfl
    · exact ht
theorem same_set {t : List XV} {ts : List AV} {h : List XO} (ht : All2 (VT ρ h) t ts) {s : Nat} {b : Bool} (hb : ts.getD s .any = .v (.bool b)) : All2 (VT ρ h) (t.set s (.d .bool b)) ts := all2_at ht (by rw [hb]; exact Wp.refl _)
theorem matL_ok {s : Nat} {v : Bool} (hS : Sim ρ X σ) (hsp : SpR ρ X.h σ sp) (hg : σ.t.getD s .any = .v (.bool v)) : Sim ρ ⟨matL s v sp X.t, X.h⟩ σ ∧ SpR ρ X.h σ (matS s sp) :=
  ⟨⟨mat_ok hg sp _ (same_set hS.t hg) hsp, hS.h⟩, fun q hq => hsp q (List.mem_filter.1 hq).1⟩
theorem killS_map (kl : List Nat) : ∀ sp, killS kl sp = sp.map fun q => (q.1, q.2.1, q.2.2.1, killTL kl q.2.2.2) := by
  induction kl with
  | nil => intro sp; show sp = _; simp [killTL]
  | cons k kl ih =>
    intro sp
    show killS kl (sp.map _) = _
    rw [ih, List.map_map]; rfl
theorem vt_any {h : List XO} (a : AV) : VT ρ h .any a := trivial
theorem put_ok {ρ' : List Nat} {h' : List XO} {H' : List AObj} {kl tch : List Nat} {t : List XV} (ht : All2 (VT ρ X.h) t σ.t) (hu : Upd ρ X.h H ρ' h' H' kl tch) {v : XV} {a : AV} (hv : VT ρ' h' v a) (dst : Option Nat) : Sim ρ' ⟨putX (killL kl t) dst v, h'⟩ (St.put ⟨σ.t, H'⟩ dst a) := by
  have h1 : All2 (VT ρ' h') (killL kl t) σ.t := by
    rw [killL_map]
    exact ⟨by simp [ht.1], fun i y b p q => by
      rw [List.getElem?_map] at p
      cases hy : t[i]? with
      | none => rw [hy] at p; cases p
      | some z => rw [hy] at p; cases p; exact hu.tr.T (ht.2 i z b hy q)⟩
  cases dst with
  | none => exact ⟨h1, hu.hs⟩
  | some i => exact ⟨h1.set hv i, hu.hs⟩
theorem getD_put {σ : St} {H' : List AObj} {dst : Option Nat} {a : AV} {j : Nat} (hj : dst ≠ some j) : (St.put ⟨σ.t, H'⟩ dst a).t.getD j .any = σ.t.getD j .any := by
  cases dst with
  | none => rfl
  | some i =>
    have : i ≠ j := fun q => hj (by rw [q])
    simp only [St.put, List.getD, List.getElem?_set_ne this]
theorem drop_ok {ρ' : List Nat} {h' : List XO} {H H' : List AObj} {kl tch : List Nat} (hsp : SpR ρ X.h σ sp) (hu : Upd ρ X.h H ρ' h' H' kl tch) (dst : Option Nat) (a : AV) : SpR ρ' h' (St.put ⟨σ.t, H'⟩ dst a) (spDrop dst (killS kl sp)) := by
  intro q hq
  have hne : dst ≠ some q.1 ∧ dst ≠ some q.2.1 ∧ q ∈ killS kl sp := by
    cases dst with
    | none => exact ⟨by simp, by simp, hq⟩
    | some i =>
      simp only [spDrop, List.mem_filter, Bool.and_eq_true, Bool.not_eq_true'] at hq
      refine ⟨fun e => ?_, fun e => ?_, hq.1⟩
      · cases e; simp at hq
      · cases e; simp at hq
  rw [getD_put hne.1, getD_put hne.2.1]
  have hm := hne.2.2
  rw [killS_map] at hm
  obtain ⟨q0, hq0, rfl⟩ := List.mem_map.1 hm
  rcases hsp q0 hq0 with ⟨h1, h2⟩ | ⟨h1, h2⟩
  · exact .inl ⟨h1, hu.tr.T h2⟩
  · exact .inr ⟨h1, h2⟩
/-- Behind an instruction with its guard. -/
def AftI (c : Cfg) (ρ : List Nat) (X : XS) (σ : St) (d : Bool) (ok : Nat → Bool) (ins : Ins) (K : XS → Sp → Option β) (r : β) (τ : St) : Prop :=
  ∃ ρ' X' sp', Sim ρ' X' τ ∧ SpR ρ' X'.h τ sp' ∧ (∃ kl tch, Upd ρ X.h σ.h ρ' X'.h τ.h kl tch ∧ (ins.gd = none → leaves ok (rdG c.GX X.t) ins.i = true → ∀ id ∈ tch, ok id = true)) ∧ K X' sp' = some r
theorem put_h {σ : St} {H' : List AObj} {dst : Option Nat} {a : AV} : (St.put ⟨σ.t, H'⟩ dst a).h = H' := by cases dst <;> rfl
theorem specI_cls {i : I} (h : specI i = true) : i.cls ≤ 1 ∧ ∀ f as, i ≠ .call f as := by
  cases i <;> simp [specI] at h <;> exact ⟨by simp [I.cls], fun f as q => by cases q⟩
theorem mrg_ok {t : Bool} {x y v : XV} {a b : AV} {h : List XO} (hm : mrg t x y = some v) (ha : t = true → VT ρ h x a) (hb : t = false → VT ρ h y b) : VT ρ h v (if t = true then a else b) := by
  unfold mrg at hm
  split at hm
  · rename_i T x T' y
    split at hm
    · rename_i y' hy
      cases hm
      obtain ⟨rfl, rfl⟩ := castT_eq hy
      cases t with
      | true => exact ha rfl
      | false => exact hb rfl
    · cases hm
  · cases hm
theorem pick_step {Gl : Nat → Option (List AV)} {σ : St} {s : Nat} {a b : Opd} {t : Bool} (ht : σ.t.getD s .any = .v (.bool t)) : step Gl σ (.pick (.t s) a b) = some (True, if t = true then σ.val Gl a else σ.val Gl b, σ.h) := by
  have hts : σ.val Gl (.t s) = .v (.bool t) := ht
  simp only [step, hts]
/-- Behind an instruction. -/
def AftU (c : Cfg) (ρ : List Nat) (X : XS) (σ : St) (d : Bool) (ok : Nat → Bool) (i : I) (K : XS → Sp → Option β) (r : β) (τ : St) : Prop :=
  ∃ ρ' X' sp', Sim ρ' X' τ ∧ SpR ρ' X'.h τ sp' ∧ (∃ kl tch, Upd ρ X.h σ.h ρ' X'.h τ.h kl tch ∧ (leaves ok (rdG c.GX X.t) i = true → ∀ id ∈ tch, ok id = true) ∧ (i.cls ≤ 1 → d = true → ρ' = ρ ∧ X'.h = X.h ∧ τ.h = σ.h)) ∧ K X' sp' = some r
theorem xun_ok (hc : CfgOk P c) (hS : Sim ρ X σ) (hsp : SpR ρ X.h σ sp) {d : Bool} {ok : Nat → Bool} {K : XS → Sp → Option β} {Q : St → Prop} {dst : Option Nat} {i : I} (hx : xun c d ok X sp dst K i = some r) (hQ : ∀ τ, AftU c ρ X σ d ok i K r τ → Q τ) : aExec P (gx c.GX) d σ dst Q i := by
  by_cases hp : ∃ s a b, i = .pick (.t s) a b
  · obtain ⟨s, a, b, rfl⟩ := hp
    simp only [xun, xpick] at hx
    have hvs := vt_get hS.t s
    have go : ∀ t : Bool, σ.t.getD s .any = .v (.bool t) → (match (generalizing := false) mrg t (rdC c.GX sp [(s, true)] X.t a) (rdC c.GX sp [(s, false)] X.t b) with
      | some v => K ⟨putX X.t dst v, X.h⟩ (spDrop dst sp)
      | none => cond t (K ⟨putX (matL s true sp X.t) dst (rdC c.GX sp [(s, true)] X.t a), X.h⟩ (spDrop dst (matS s sp))) (K ⟨putX (matL s false sp X.t) dst (rdC c.GX sp [(s, false)] X.t b), X.h⟩ (spDrop dst (matS s sp)))) = some r → aExec P (gx c.GX) d σ dst Q (.pick (.t s) a b) := by
      intro t ht hy
      rw [aExec_step (by intro f as q; cases q), pick_step ht]
      refine ⟨trivial, hQ _ ?_⟩
      have hva : t = true → VT ρ X.h (rdC c.GX sp [(s, true)] X.t a) (σ.val (gx c.GX) a) := fun q => rdC_ok hS hsp (by simp only [List.mem_singleton, forall_eq]; rw [ht, q]) a
      have hvb : t = false → VT ρ X.h (rdC c.GX sp [(s, false)] X.t b) (σ.val (gx c.GX) b) := fun q => rdC_ok hS hsp (by simp only [List.mem_singleton, forall_eq]; rw [ht, q]) b
      have hu := Upd.same hS.h
      have fin : ∀ (t' : List XV) (sp1 : Sp) (v : XV), All2 (VT ρ X.h) t' σ.t → SpR ρ X.h σ sp1 → VT ρ X.h v (if t = true then σ.val (gx c.GX) a else σ.val (gx c.GX) b) → K ⟨putX t' dst v, X.h⟩ (spDrop dst sp1) = some r → AftU c ρ X σ d ok (.pick (.t s) a b) K r (St.put ⟨σ.t, σ.h⟩ dst (if t = true then σ.val (gx c.GX) a else σ.val (gx c.GX) b)) := by
        intro t' sp1 v ht' hsp1 hv hK
        refine ⟨ρ, ⟨putX t' dst v, X.h⟩, spDrop dst sp1, put_ok (X := X) (kl := []) ht' hu hv dst, drop_ok (kl := []) hsp1 hu dst _, ⟨[], [], by rw [put_h]; exact hu, (fun _ _ q => by simp at q), fun _ _ => ⟨rfl, rfl, put_h⟩⟩, hK⟩
      split at hy
      · rename_i v hm
        exact fin X.t sp v hS.t hsp (mrg_ok hm hva hvb) hy
      · cases t with
        | true => obtain ⟨m1, m2⟩ := matL_ok hS hsp ht; exact fin _ _ _ m1.t m2 (hva rfl) hy
        | false => obtain ⟨m1, m2⟩ := matL_ok hS hsp ht; exact fin _ _ _ m1.t m2 (hvb rfl) hy
    split at hx
    · rename_i t hcb
      have hcb : X.t.getD s .any = .d .bool t := hcb
      rw [hcb] at hvs
      exact go t (vt_bool hvs) hx
    · cases hx
  · have hx' : xexec c d ok X.h (rdG c.GX X.t) (fun x kl h' => K ⟨putX (killL kl X.t) dst x, h'⟩ (spDrop dst (killS kl sp))) i = some r := by
      rw [← hx]
      unfold xun
      split
      · exact absurd ⟨_, _, _, rfl⟩ hp
      · rfl
    refine xexec_ok hc hS.h (rdG_ok hS) hx' ?_
    rintro a H' ⟨ρ', v, kl, h', tch, u1, u2, u3, u4, u5⟩
    exact hQ _ ⟨ρ', _, _, put_ok hS.t u1 u2 dst, drop_ok hsp u1 dst a, ⟨kl, tch, by rw [put_h]; exact u1, u3, fun p q => ⟨(u4 p q).1, (u4 p q).2.2.2, by rw [put_h]; exact (u4 p q).2.1⟩⟩, u5⟩
/-- An instruction ahead of its guard: the guard holds. -/
theorem xspec_ok {tt : Nat → Option Ty} (hS : Sim ρ X σ) (hsp : SpR ρ X.h σ sp) {s : Nat} {want : Bool} (hg : σ.t.getD s .any = .v (.bool want)) {i : I} (hcl : i.cls ≤ 1) {p : Bool} {v : XV} (hx : xspec c.GX tt X.h X.t sp s want i = some (p, v)) (hp : p = true) : ∃ q a, step (gx c.GX) σ i = some (q, a, σ.h) ∧ q ∧ VT ρ X.h v a := by
  by_cases hpk : ∃ s' a b, i = .pick (.t s') a b
  · obtain ⟨s', a, b, rfl⟩ := hpk
    simp only [xspec] at hx
    have hv1 := rdC_ok (c := c) hS hsp (ctx := [(s, want)]) (by simp only [List.mem_singleton, forall_eq]; exact hg) (.t s')
    have go : ∀ t : Bool, σ.t.getD s' .any = .v (.bool t) → (match (generalizing := false) mrg t (rdC c.GX sp [(s', true), (s, want)] X.t a) (rdC c.GX sp [(s', false), (s, want)] X.t b) with
      | some v => some (true, v)
      | none => none) = some (p, v) → ∃ q a', step (gx c.GX) σ (.pick (.t s') a b) = some (q, a', σ.h) ∧ q ∧ VT ρ X.h v a' := by
      intro t ht hy
      split at hy
      · rename_i w hm
        cases hy
        refine ⟨_, _, pick_step ht, trivial, ?_⟩
        refine mrg_ok hm (fun q => ?_) (fun q => ?_)
        · exact rdC_ok hS hsp (by simp only [List.mem_cons, List.not_mem_nil, or_false, forall_eq_or_imp, forall_eq]; exact ⟨by rw [ht, q], hg⟩) a
        · exact rdC_ok hS hsp (by simp only [List.mem_cons, List.not_mem_nil, or_false, forall_eq_or_imp, forall_eq]; exact ⟨by rw [ht, q], hg⟩) b
      · cases hy
    split at hx
    · rename_i t hcb
      rw [hcb] at hv1
      exact go t (vt_bool hv1) hx
    · cases hx
  · have hx' : (match xstep tt X.h (rdC c.GX sp [(s, want)] X.t) i with
        | some (p, v, _, _) => some (p, v)
        | none => none) = some (p, v) := by
      rw [← hx]
      cases i with
      | pick c' a b => cases c' with
        | t s' => exact absurd ⟨_, _, _, rfl⟩ hpk
        | _ => rfl
      | _ => rfl
    split at hx'
    · rename_i p1 v1 q1 q2 hst
      cases hx'
      obtain ⟨q, a, H', ρ2, tch, e1, e2, e3, e4, e5⟩ := xstep_sim i hS.h (fun o => rdC_ok hS hsp (by simp only [List.mem_singleton, forall_eq]; exact hg) o) _ _ _ _ hst hp
      obtain ⟨c1, c2⟩ := xstep_cls hcl hst
      subst c1 c2
      have hρ := ap_same e3 hS.h.rl rfl
      have hH := step_cls hcl e1
      subst hρ
      rw [hH] at e1
      exact ⟨q, a, e1, e2, e4⟩
    · cases hx'
/-- The value written down ahead of its guard. -/
theorem spec_new {u s : Nat} {want b : Bool} {v : XV} {a : AV} (hsp : SpR ρ X.h σ sp) (hs : HS ρ X.h σ.h) (hul : u < σ.t.length) (hus : u ≠ s) (hg : σ.t.getD s .any = .v (.bool b)) (hv : (b = want ∧ VT ρ X.h v a) ∨ (b ≠ want ∧ a = und)) : SpR ρ X.h (St.put ⟨σ.t, σ.h⟩ (some u) a) ((u, s, want, v) :: spDrop (some u) sp) := by
  intro q hq
  rcases List.mem_cons.1 hq with rfl | hq
  · have h1 : (St.put ⟨σ.t, σ.h⟩ (some u) a).t.getD u .any = a := by simp [St.put, List.getD, hul]
    have h2 : (St.put ⟨σ.t, σ.h⟩ (some u) a).t.getD s .any = .v (.bool b) := by rw [getD_put (by simpa using hus)]; exact hg
    show ((St.put ⟨σ.t, σ.h⟩ (some u) a).t.getD s .any = .v (.bool want) ∧ VT ρ X.h v ((St.put ⟨σ.t, σ.h⟩ (some u) a).t.getD u .any)) ∨ ((St.put ⟨σ.t, σ.h⟩ (some u) a).t.getD s .any ≠ .v (.bool want) ∧ (St.put ⟨σ.t, σ.h⟩ (some u) a).t.getD u .any = und)
    rw [h1, h2]
    rcases hv with ⟨rfl, hv⟩ | ⟨hb, rfl⟩
    · exact .inl ⟨rfl, hv⟩
    · exact .inr ⟨fun q => by cases q; exact hb rfl, rfl⟩
  · exact drop_ok (kl := []) hsp (Upd.same hs) (some u) a q hq
theorem xIns_ok (hc : CfgOk P c) {d : Bool} {ok : Nat → Bool} {K : XS → Sp → Option β} {ins : Ins} : ∀ (n : Nat) (X : XS) (sp : Sp) (Q : St → Prop), Sim ρ X σ → SpR ρ X.h σ sp → xIns c d ok n X sp K ins = some r → (∀ τ, AftI c ρ X σ d ok ins K r τ → Q τ) → aStep P (gx c.GX) d σ ins Q := by
  intro n
  induction n with
  | zero => intro X sp Q _ _ hx; cases hx
  | succ n ih =>
    intro X sp Q hS hsp hx hQ
    obtain ⟨dst, gd, i⟩ := ins
    cases gd with
    | none =>
      show aExec P (gx c.GX) d σ dst Q i
      simp only [xIns] at hx
      refine xun_ok hc hS hsp hx fun τ hτ => hQ τ ?_
      obtain ⟨ρ', X', sp', a1, a2, ⟨kl, tch, a3, a4, _⟩, a5⟩ := hτ
      exact ⟨ρ', X', sp', a1, a2, ⟨kl, tch, a3, fun _ => a4⟩, a5⟩
    | some g =>
      obtain ⟨s, want⟩ := g
      simp only [xIns] at hx
      have hvs := vt_get hS.t s
      have hu := Upd.same hS.h
      have skip : ∀ (X1 : XS) (sp1 : Sp), X1.h = X.h → Sim ρ X1 σ → SpR ρ X1.h σ sp1 → K ⟨putX X1.t dst kU, X1.h⟩ (spDrop dst sp1) = some r → Q (σ.put dst und) := by
        intro X1 sp1 he hS1 hsp1 hK
        have hu1 := Upd.same hS1.h
        refine hQ _ ⟨ρ, ⟨putX X1.t dst kU, X1.h⟩, spDrop dst sp1, put_ok (X := X1) (kl := []) hS1.t hu1 (show VT ρ X1.h kU und from rfl) dst, drop_ok (kl := []) hsp1 hu1 dst und, ⟨[], [], ?_, fun q => by cases q⟩, hK⟩
        have : (σ.put dst und).h = σ.h := put_h (H' := σ.h)
        rw [this]
        show Upd ρ X.h σ.h ρ X1.h σ.h [] []
        rw [he]; exact hu
      have gcase : ∀ b : Bool, σ.t.getD s .any = .v (.bool b) → (match (generalizing := false) specI i, dst, xspec c.GX c.tt X.h X.t sp s want i with
          | true, some u, some (p, v) => if (Nat.blt u X.t.length && !(Nat.beq u s)) = true then cond (p || not (bEq b want)) (K ⟨X.t.set u .any, X.h⟩ ((u, s, want, v) :: spDrop (some u) sp)) none else none
          | _, _, _ => cond b (xsplit c d ok X sp dst s want i K true) (xsplit c d ok X sp dst s want i K false)) = some r → aStep P (gx c.GX) d σ ⟨dst, some (s, want), i⟩ Q := by
        clear hx
        intro b hg hx
        have hstep : aStep P (gx c.GX) d σ ⟨dst, some (s, want), i⟩ Q = if b = want then aExec P (gx c.GX) d σ dst Q i else Q (σ.put dst und) := by
          simp only [aStep, hg]
        rw [hstep]
        have split_ok : xsplit c d ok X sp dst s want i K b = some r → if b = want then aExec P (gx c.GX) d σ dst Q i else Q (σ.put dst und) := by
          intro hy
          obtain ⟨m1, m2⟩ := matL_ok hS hsp hg
          unfold xsplit at hy
          by_cases hw : b = want
          · rw [if_pos hw]
            rw [if_pos (by rw [hw]; simp)] at hy
            refine xun_ok hc m1 m2 hy fun τ hτ => hQ τ ?_
            obtain ⟨ρ', X', sp', a1, a2, ⟨kl, tch, a3, a4, _⟩, a5⟩ := hτ
            exact ⟨ρ', X', sp', a1, a2, ⟨kl, tch, a3, fun q => by cases q⟩, a5⟩
          · rw [if_neg hw]
            rw [if_neg (by simpa using hw)] at hy
            exact skip ⟨matL s b sp X.t, X.h⟩ _ rfl m1 m2 hy
        split at hx
        · rename_i u p v hsi hxs
          split at hx
          case isFalse => cases hx
          rename_i hub
          simp only [Bool.and_eq_true, Bool.not_eq_true'] at hub
          have hul := blt_t hub.1
          have hus : u ≠ s := fun q => by subst q; simp at hub
          have hul' : u < σ.t.length := by rw [← hS.t.1]; exact hul
          obtain ⟨hcl, hncall⟩ := specI_cls hsi
          cases hpb : (p || not (bEq b want)) with
          | false => rw [hpb] at hx; cases hx
          | true =>
            rw [hpb] at hx
            have hx : K ⟨X.t.set u .any, X.h⟩ ((u, s, want, v) :: spDrop (some u) sp) = some r := hx
            by_cases hw : b = want
            · rw [if_pos hw]
              have hp : p = true := by
                subst hw
                simpa [bEq] using hpb
              obtain ⟨q, a, e1, e2, e4⟩ := xspec_ok hS hsp (by rw [hg, hw]) hcl hxs hp
              rw [aExec_step hncall, e1]
              exact ⟨e2, hQ _ ⟨ρ, _, _, put_ok (X := X) (kl := []) hS.t hu (vt_any _) (some u), spec_new hsp hS.h hul' hus hg (.inl ⟨hw, e4⟩), ⟨[], [], hu, fun q => by cases q⟩, hx⟩⟩
            · rw [if_neg hw]
              exact hQ _ ⟨ρ, _, _, put_ok (X := X) (kl := []) hS.t hu (vt_any _) (some u), spec_new hsp hS.h hul' hus hg (.inr ⟨hw, rfl⟩), ⟨[], [], hu, fun q => by cases q⟩, hx⟩
        · cases b with
          | true => exact split_ok hx
          | false => exact split_ok hx
      split at hx
      · rename_i b hb
        rw [hb] at hvs
        exact gcase b (vt_bool hvs) hx
      · rename_i xs hb
        rw [hb] at hvs
        have hg := vt_k hvs
        have hstep : aStep P (gx c.GX) d σ ⟨dst, some (s, want), i⟩ Q = Q (σ.put dst und) := by simp only [aStep, hg]
        rw [hstep]
        exact skip X sp rfl hS hsp hx
      · split at hx
        · rename_i q hq
          have hvq := vt_get hS.t q.2.1
          have go : ∀ b : Bool, σ.t.getD q.2.1 .any = .v (.bool b) → cond b (xIns c d ok n ⟨matL q.2.1 true sp X.t, X.h⟩ (matS q.2.1 sp) K ⟨dst, some (s, want), i⟩) (xIns c d ok n ⟨matL q.2.1 false sp X.t, X.h⟩ (matS q.2.1 sp) K ⟨dst, some (s, want), i⟩) = some r → aStep P (gx c.GX) d σ ⟨dst, some (s, want), i⟩ Q := by
            intro b hb hy
            obtain ⟨m1, m2⟩ := matL_ok hS hsp hb
            have hy' : xIns c d ok n ⟨matL q.2.1 b sp X.t, X.h⟩ (matS q.2.1 sp) K ⟨dst, some (s, want), i⟩ = some r := by cases b <;> exact hy
            refine ih _ _ Q m1 m2 hy' fun τ hτ => hQ τ ?_
            obtain ⟨ρ', X', sp', a1, a2, ⟨kl, tch, a3, a4⟩, a5⟩ := hτ
            exact ⟨ρ', X', sp', a1, a2, ⟨kl, tch, a3, fun q => by cases q⟩, a5⟩
          split at hx
          · rename_i b hb
            rw [hb] at hvq
            exact go b (vt_bool hvq) hx
          · cases hx
        · cases hx
      · cases hx
theorem xops_ok (hc : CfgOk P c) {d : Bool} {K : XS → Option β} {H0 : List AObj} {ρ0 : List Nat} : ∀ (l : List Ins) (X : XS) (sp : Sp) (ρ : List Nat) (σ : St), Sim ρ X σ → SpR ρ X.h σ sp → Frm H0 ρ0 ρ σ.h → xops c d K l X sp = some r → aOps P (gx c.GX) d (fun τ => ∃ ρ' X', Sim ρ' X' τ ∧ Frm H0 ρ0 ρ' τ.h ∧ K X' = some r) l σ := by
  intro l
  induction l with
  | nil => intro X sp ρ σ hS _ hF hx; exact ⟨ρ, X, hS, hF, hx⟩
  | cons i l ih =>
    intro X sp ρ σ hS hsp hF hx
    refine xIns_ok hc 8 X sp _ hS hsp hx ?_
    rintro τ ⟨ρ', X', sp', s1, s2, ⟨kl, tch, u, _⟩, hK⟩
    exact ih X' sp' ρ' τ s1 s2 (hF.upd hS.h.rl u) hK
end
end Abs
end Go.Proofs.YtamgbanmnededaaDoor
