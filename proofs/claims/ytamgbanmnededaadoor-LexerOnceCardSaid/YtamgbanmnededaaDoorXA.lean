/- The typed machine: a state by its shape. -/
import Derived.Test.YtamgbanmnededaaDoorX9
namespace Go.Proofs.YtamgbanmnededaaDoor
namespace Abs
open Go.RowKit
set_option linter.unusedVariables false
set_option linter.unusedSimpArgs false

abbrev Foc := List (Option Nat)
def FLe (a b : Foc) : Prop := a.length = b.length ∧ ∀ (j id : Nat), a[j]? = some (some id) → b[j]? = some (some id)
theorem FLe.refl (a : Foc) : FLe a a := ⟨rfl, fun _ _ h => h⟩
theorem FLe.trans {a b c : Foc} (h : FLe a b) (k : FLe b c) : FLe a c := ⟨h.1.trans k.1, fun j id q => k.2 j id (h.2 j id q)⟩
theorem asg_ok {foc foc' : Foc} {j id : Nat} (h : asg foc j id = some foc') : FLe foc foc' ∧ foc'[j]? = some (some id) := by
  unfold asg at h
  split at h
  · rename_i hj
    cases h
    have hlt : j < foc.length := (List.getElem?_eq_some_iff.1 hj).1
    refine ⟨⟨by simp, fun k id' q => ?_⟩, by rw [List.getElem?_set_self hlt]⟩
    by_cases hk : j = k
    · subst hk; rw [hj] at q; cases q
    · rw [List.getElem?_set_ne hk]; exact q
  · rename_i id' hj
    split at h
    · rename_i hb
      cases h
      have := beq_eq hb
      subst this
      exact ⟨FLe.refl _, hj⟩
    · cases h
  · cases h
/-- A value and what the shape has of it. -/
inductive CR (foc : Foc) : XV → XV → Prop
  | any (v : XV) : CR foc v .any
  | d (v : XV) (T : Ty) (x : T.den) (h : toD [] T v = some x) : CR foc v (.d T x)
  | row (id j : Nat) (h : foc[j]? = some (some id)) : CR foc (.row id) (.row j)
  | ptr (id j i o : Nat) (h : foc[j]? = some (some id)) : CR foc (.ptr id i o) (.ptr j i o)
  | nil : CR foc (.k (.slice none 0 0)) (.k (.slice none 0 0))
  | me (id j : Nat) (h : foc[j]? = some (some id)) : CR foc (.me id) (.me j)
  | mep (id j : Nat) (h : foc[j]? = some (some id)) : CR foc (.ptr id 0 0) (.me j)
  | men (j : Nat) : CR foc (.k (.pointer none)) (.me j)
theorem CR.mono {foc foc' : Foc} {v c : XV} (h : CR foc v c) (hl : FLe foc foc') : CR foc' v c := by
  cases h with
  | any => exact .any _
  | d _ T x h => exact .d _ T x h
  | row id j h => exact .row id j (hl.2 _ _ h)
  | ptr id j i o h => exact .ptr id j i o (hl.2 _ _ h)
  | nil => exact .nil
  | me id j h => exact .me id j (hl.2 _ _ h)
  | mep id j h => exact .mep id j (hl.2 _ _ h)
  | men j => exact .men j
theorem isNilX_eq {v : XV} (h : isNilX v = true) : v = .k (.slice none 0 0) := by
  unfold isNilX at h
  split at h
  · rfl
  · cases h
theorem nilP_eq {v : Value} (h : nilP v = true) : v = .pointer none := by
  unfold nilP at h
  split at h
  · rfl
  · cases h
theorem meId_none {v : XV} (h : meId v = some none) : v = .k (.pointer none) := by
  cases v with
  | k v =>
    simp only [meId] at h
    split at h
    · rename_i q; rw [nilP_eq q]
    · cases h
  | ptr id i o => simp only [meId] at h; split at h <;> cases h
  | _ => simp [meId] at h
theorem meId_some {foc : Foc} {v : XV} {id j : Nat} (h : meId v = some (some id)) (hj : foc[j]? = some (some id)) : CR foc v (.me j) := by
  cases v with
  | k v => simp only [meId] at h; split at h <;> cases h
  | ptr id' i o =>
    simp only [meId] at h
    split at h
    · rename_i hb
      simp only [Bool.and_eq_true] at hb
      have e1 := beq_eq hb.1
      have e2 := beq_eq hb.2
      subst e1 e2
      cases h
      exact .mep _ _ hj
    · cases h
  | me id' => simp only [meId] at h; cases h; exact .me _ _ hj
  | _ => simp [meId] at h
theorem extC_ok : ∀ (cs : List SC) (r : List Ty) (vs : List XV) (foc foc' : Foc) (g : Ty.denL r → Ty.denL (SC.tys cs r)), extC cs r vs foc = some (foc', g) → FLe foc foc' ∧ ∀ y, (embC cs r (g y)).2 = y ∧ All2 (CR foc') vs (embC cs r (g y)).1 := by
  intro cs
  induction cs with
  | nil =>
    intro r vs foc foc' g h
    cases vs with
    | nil => simp only [extC] at h; cases h; exact ⟨FLe.refl _, fun y => ⟨rfl, .nil⟩⟩
    | cons => simp [extC] at h
  | cons c cs ih =>
    intro r vs foc foc' g h
    cases c with
    | d T =>
      simp only [extC] at h
      cases vs with
      | nil => cases h
      | cons v vs =>
        simp only at h
        split at h
        · rename_i x foc1 g1 hx h1
          cases h
          obtain ⟨a, b⟩ := ih r vs foc foc' g1 h1
          exact ⟨a, fun y => ⟨(b y).1, .cons (.d v T x hx) (b y).2⟩⟩
        · cases h
    | row j =>
      simp only [extC] at h
      split at h
      · rename_i id vs
        split at h
        · rename_i foc1 h1
          obtain ⟨a1, a2⟩ := asg_ok h1
          obtain ⟨a, b⟩ := ih r vs foc1 foc' g h
          exact ⟨a1.trans a, fun y => ⟨(b y).1, .cons (.row id j (a.2 _ _ a2)) (b y).2⟩⟩
        · cases h
      · cases h
    | ptr j i o =>
      simp only [extC] at h
      split at h
      · rename_i id i' o' vs
        split at h
        · rename_i hb
          simp only [Bool.and_eq_true] at hb
          have e1 := beq_eq hb.1
          have e2 := beq_eq hb.2
          subst e1 e2
          split at h
          · rename_i foc1 h1
            obtain ⟨a1, a2⟩ := asg_ok h1
            obtain ⟨a, b⟩ := ih r vs foc1 foc' g h
            exact ⟨a1.trans a, fun y => ⟨(b y).1, .cons (.ptr id j i o (a.2 _ _ a2)) (b y).2⟩⟩
          · cases h
        · cases h
      · cases h
    | me j =>
      simp only [extC] at h
      cases vs with
      | nil => cases h
      | cons v vs =>
        simp only at h
        split at h
        · rename_i id hm
          split at h
          · rename_i foc1 h1
            obtain ⟨a1, a2⟩ := asg_ok h1
            obtain ⟨a, b⟩ := ih r vs foc1 foc' g h
            exact ⟨a1.trans a, fun y => ⟨(b y).1, .cons (meId_some hm (a.2 _ _ a2)) (b y).2⟩⟩
          · cases h
        · rename_i hm
          obtain ⟨a, b⟩ := ih r vs foc foc' g h
          have := meId_none hm
          subst this
          exact ⟨a, fun y => ⟨(b y).1, .cons (.men j) (b y).2⟩⟩
        · cases h
    | nil =>
      simp only [extC] at h
      cases vs with
      | nil => cases h
      | cons v vs =>
        simp only at h
        by_cases hv : isNilX v = true
        · have h' : extC cs r vs foc = some (foc', g) := by simp only [hv, if_true] at h; exact h
          have := isNilX_eq hv
          subst this
          obtain ⟨a, b⟩ := ih r vs foc foc' g h'
          exact ⟨a, fun y => ⟨(b y).1, .cons .nil (b y).2⟩⟩
        · simp only [hv, if_false] at h
          cases h
    | any =>
      simp only [extC] at h
      cases vs with
      | nil => cases h
      | cons v vs =>
        simp only at h
        obtain ⟨a, b⟩ := ih r vs foc foc' g h
        exact ⟨a, fun y => ⟨(b y).1, .cons (.any v) (b y).2⟩⟩
/-- An object and what the shape has of it. -/
def OR' (foc : Foc) : XO → XO → Prop
  | .row ty T fz es, o2 => o2 = .row ty T fz es
  | .box ty vs, o2 => ∃ cs, o2 = .box ty cs ∧ All2 (CR foc) vs cs
  | .vec _ _, _ => False
theorem OR'.mono {foc foc' : Foc} {o o2 : XO} (h : OR' foc o o2) (hl : FLe foc foc') : OR' foc' o o2 := by
  cases o with
  | row => exact h
  | vec => exact h.elim
  | box ty vs => obtain ⟨cs, e, hc⟩ := h; exact ⟨cs, e, hc.mono fun x y q => q.mono hl⟩
theorem extO_ok (h : List XO) : ∀ (os : List SO) (j : Nat) (foc foc' : Foc) (y : Ty.denL (SO.tys os)), extO h os j foc = some (foc', y) → FLe foc foc' ∧ (embO os y).length = os.length ∧ ∀ (i : Nat) (o2 : XO), (embO os y)[i]? = some o2 → ∃ id o, foc'[j + i]? = some (some id) ∧ h[id]? = some o ∧ OR' foc' o o2 := by
  intro os
  induction os with
  | nil => intro j foc foc' y hx; simp only [extO] at hx; cases hx; exact ⟨FLe.refl _, rfl, fun i o2 q => by simp [embO] at q⟩
  | cons so os ih =>
    intro j foc foc' y hx
    cases so with
    | row ty T fz =>
      simp only [extO] at hx
      split at hx
      case h_2 => cases hx
      rename_i id hid
      split at hx
      case h_2 => cases hx
      rename_i ty' T' fz' es ho
      split at hx
      case isFalse => cases hx
      rename_i hb
      simp only [Bool.and_eq_true, beq_iff_eq] at hb
      have e1 := beq_eq hb.1
      have e2 := hb.2
      subst e1 e2
      split at hx
      case h_2 => cases hx
      rename_i es' foc1 y1 hc h1
      cases hx
      obtain ⟨q, rfl⟩ := castT_eq hc
      cases q
      obtain ⟨a, b, c⟩ := ih (j + 1) foc foc' y1 h1
      refine ⟨a, by simp only [embO, List.length_cons]; rw [b], fun i o2 q => ?_⟩
      cases i with
      | zero =>
        have q : some (XO.row ty T fz es) = some o2 := q
        cases q
        exact ⟨id, _, a.2 _ _ hid, ho, rfl⟩
      | succ i =>
        have q : (embO os y1)[i]? = some o2 := q
        have := c i o2 q
        rw [show j + 1 + i = j + (i + 1) by omega] at this
        exact this
    | box ty cs =>
      simp only [extO] at hx
      split at hx
      case h_2 => cases hx
      rename_i id hid
      split at hx
      case h_2 => cases hx
      rename_i ty' vs ho
      split at hx
      case isFalse => cases hx
      rename_i hb
      have e1 := beq_eq hb
      subst e1
      split at hx
      case h_2 => cases hx
      rename_i foc1 g hc
      split at hx
      case h_2 => cases hx
      rename_i foc2 y1 h1
      cases hx
      obtain ⟨a1, a2⟩ := extC_ok cs _ vs foc foc1 g hc
      obtain ⟨a, b, c⟩ := ih (j + 1) foc1 foc' y1 h1
      obtain ⟨g1, g2⟩ := a2 y1
      refine ⟨a1.trans a, ?_, fun i o2 q => ?_⟩
      · show (XO.box ty _ :: embO os (embC cs (SO.tys os) (g y1)).2).length = _
        rw [g1, List.length_cons, List.length_cons, b]
      · cases i with
        | zero =>
          have q : some (XO.box ty (embC cs (SO.tys os) (g y1)).1) = some o2 := q
          cases q
          exact ⟨id, _, (a1.trans a).2 _ _ hid, ho, _, rfl, g2.mono fun x y q => q.mono a⟩
        | succ i =>
          have q : (embO os (embC cs (SO.tys os) (g y1)).2)[i]? = some o2 := q
          rw [g1] at q
          have := c i o2 q
          rw [show j + 1 + i = j + (i + 1) by omega] at this
          exact this
theorem allSome_ok : ∀ {foc : Foc} {l : List Nat}, allSome foc = some l → foc.length = l.length ∧ ∀ (j id : Nat), foc[j]? = some (some id) ↔ l[j]? = some id := by
  intro foc
  induction foc with
  | nil => intro l h; cases h; exact ⟨rfl, by simp⟩
  | cons a foc ih =>
    intro l h
    cases a with
    | none => simp [allSome] at h
    | some a =>
      simp only [allSome] at h
      split at h
      · rename_i m hm
        cases h
        obtain ⟨h1, h2⟩ := ih hm
        refine ⟨by simp [h1], fun j id => ?_⟩
        cases j with
        | zero => simp
        | succ j => simpa using h2 j id
      · cases h
theorem nodupB_ok : ∀ {l : List Nat}, nodupB l = true → l.Nodup := by
  intro l
  induction l with
  | nil => intro _; exact List.nodup_nil
  | cons a l ih =>
    intro h
    simp only [nodupB, Bool.and_eq_true, Bool.not_eq_true', List.any_eq_false] at h
    rw [List.nodup_cons]
    refine ⟨fun hm => h.1 a hm (by simp), ih h.2⟩
/-- A slot and what the shape has of it. -/
def CRS (foc : Foc) (v c : XV) : Prop := CR foc v c ∨ ∃ vs cs, v = .agg vs ∧ c = .agg cs ∧ All2 (CR foc) vs cs
theorem CRS.mono {foc foc' : Foc} {v c : XV} (h : CRS foc v c) (hl : FLe foc foc') : CRS foc' v c := by
  rcases h with h | ⟨vs, cs, e1, e2, h⟩
  · exact .inl (h.mono hl)
  · exact .inr ⟨vs, cs, e1, e2, h.mono fun x y q => q.mono hl⟩
theorem set_crs {t b : List XV} {foc : Foc} {s : Nat} {c : XV} (hb : ∀ (i : Nat) (c : XV), b[i]? = some c → CRS foc (t.getD i .any) c) (hc : CRS foc (t.getD s .any) c) : ∀ (i : Nat) (c' : XV), (b.set s c)[i]? = some c' → CRS foc (t.getD i .any) c' := by
  intro i c' q
  rw [List.getElem?_set] at q
  split at q
  · rename_i hi
    split at q
    · cases q; subst hi; exact hc
    · cases q
  · exact hb i c' q
theorem extV_ok (t : List XV) (foc : Foc) : ∀ (vs : List (Nat × Ty)) (r : List Ty) (y : Ty.denL r) (x : Ty.denL (varTys vs r)) (b : List XV), extV t vs r y = some x → (∀ (i : Nat) (c : XV), b[i]? = some c → CRS foc (t.getD i .any) c) → (embV vs r x b).2 = y ∧ (embV vs r x b).1.length = b.length ∧ ∀ (i : Nat) (c : XV), (embV vs r x b).1[i]? = some c → CRS foc (t.getD i .any) c := by
  intro vs
  induction vs with
  | nil => intro r y x b h hb; simp only [extV] at h; cases h; exact ⟨rfl, rfl, hb⟩
  | cons p vs ih =>
    intro r y x b h hb
    obtain ⟨s, T⟩ := p
    simp only [extV] at h
    split at h
    · rename_i x1 z h1 h2
      cases h
      obtain ⟨a, c, e⟩ := ih r y z (b.set s (.d T x1)) h2 (fun i c q => by
        rw [List.getElem?_set] at q
        split at q
        · rename_i hi
          split at q
          · cases q; subst hi; exact .inl (.d _ T x1 h1)
          · cases q
        · exact hb i c q)
      exact ⟨a, by rw [List.length_set] at c; exact c, e⟩
    · cases h
theorem extR_ok (t : List XV) : ∀ (refs : List (Nat × SR)) (r : List Ty) (foc foc' : Foc) (g : Ty.denL r → Ty.denL (refTys refs r)), extR t refs r foc = some (foc', g) → FLe foc foc' ∧ ∀ (y : Ty.denL r) (foc2 : Foc) (b : List XV), FLe foc' foc2 → (∀ (i : Nat) (c : XV), b[i]? = some c → CRS foc2 (t.getD i .any) c) →
    (embRf refs r (g y) b).2 = y ∧ (embRf refs r (g y) b).1.length = b.length ∧ ∀ (i : Nat) (c : XV), (embRf refs r (g y) b).1[i]? = some c → CRS foc2 (t.getD i .any) c := by
  intro refs
  induction refs with
  | nil => intro r foc foc' g h; simp only [extR] at h; cases h; exact ⟨FLe.refl _, fun y foc2 b _ hb => ⟨rfl, rfl, hb⟩⟩
  | cons p refs ih =>
    intro r foc foc' g h
    obtain ⟨s, sr⟩ := p
    have set1 : ∀ (c : XV) (foc1 : Foc), FLe foc foc1 → (∀ foc2, FLe foc1 foc2 → CRS foc2 (t.getD s .any) c) → (∀ (g1 : Ty.denL r → Ty.denL (refTys refs r)), extR t refs r foc1 = some (foc', g1) → FLe foc foc' ∧ ∀ (y : Ty.denL r) (foc2 : Foc) (b : List XV), FLe foc' foc2 → (∀ (i : Nat) (c : XV), b[i]? = some c → CRS foc2 (t.getD i .any) c) → (embRf refs r (g1 y) (b.set s c)).2 = y ∧ (embRf refs r (g1 y) (b.set s c)).1.length = b.length ∧ ∀ (i : Nat) (c' : XV), (embRf refs r (g1 y) (b.set s c)).1[i]? = some c' → CRS foc2 (t.getD i .any) c') := by
      intro c foc1 hl hc g1 h1
      obtain ⟨a1, a2⟩ := ih r foc1 foc' g1 h1
      refine ⟨hl.trans a1, fun y foc2 b hf hb => ?_⟩
      obtain ⟨b1, b2, b3⟩ := a2 y foc2 (b.set s c) hf (set_crs hb (hc foc2 (a1.trans hf)))
      exact ⟨b1, by rw [b2]; simp, b3⟩
    cases sr with
    | row j =>
      simp only [extR] at h
      split at h
      · rename_i id hid
        split at h
        · rename_i foc1 h1
          obtain ⟨a1, a2⟩ := asg_ok h1
          exact set1 (.row j) foc1 a1 (fun foc2 hf => by rw [hid]; exact .inl (.row id j (hf.2 _ _ a2))) g h
        · cases h
      · cases h
    | ptr j i o =>
      simp only [extR] at h
      split at h
      · rename_i id i' o' hid
        split at h
        · rename_i hb
          simp only [Bool.and_eq_true] at hb
          have e1 := beq_eq hb.1
          have e2 := beq_eq hb.2
          subst e1 e2
          split at h
          · rename_i foc1 h1
            obtain ⟨a1, a2⟩ := asg_ok h1
            exact set1 (.ptr j i o) foc1 a1 (fun foc2 hf => by rw [hid]; exact .inl (.ptr id j i o (hf.2 _ _ a2))) g h
          · cases h
        · cases h
      · cases h
    | nil =>
      by_cases hn : isNilX (t.getD s .any) = true
      · have h' : extR t refs r foc = some (foc', g) := by simp only [extR, hn, if_true] at h; exact h
        exact set1 (.k (.slice none 0 0)) foc (FLe.refl _) (fun foc2 hf => by rw [isNilX_eq hn]; exact .inl .nil) g h'
      · simp only [extR, hn, if_false] at h
        cases h
    | agg cs =>
      simp only [extR] at h
      split at h
      · rename_i vs hid
        split at h
        · rename_i foc1 g1 h1
          split at h
          · rename_i foc3 g2 h2
            cases h
            obtain ⟨c1, c2⟩ := extC_ok cs _ vs foc foc1 g1 h1
            obtain ⟨a1, a2⟩ := ih r foc1 foc' g2 h2
            refine ⟨c1.trans a1, fun y foc2 b hf hb => ?_⟩
            obtain ⟨d1, d2⟩ := c2 (g2 y)
            obtain ⟨b1, b2, b3⟩ := a2 y foc2 (b.set s (.agg (embC cs (refTys refs r) (g1 (g2 y))).1)) hf (set_crs hb (by rw [hid]; exact .inr ⟨_, _, rfl, rfl, d2.mono fun x y q => q.mono (a1.trans hf)⟩))
            show (embRf refs r (embC cs (refTys refs r) (g1 (g2 y))).2 (b.set s (.agg (embC cs (refTys refs r) (g1 (g2 y))).1))).2 = y ∧ (embRf refs r (embC cs (refTys refs r) (g1 (g2 y))).2 (b.set s (.agg (embC cs (refTys refs r) (g1 (g2 y))).1))).1.length = b.length ∧ ∀ (i : Nat) (c : XV), (embRf refs r (embC cs (refTys refs r) (g1 (g2 y))).2 (b.set s (.agg (embC cs (refTys refs r) (g1 (g2 y))).1))).1[i]? = some c → CRS foc2 (t.getD i .any) c
            rw [d1]
            exact ⟨b1, by rw [b2]; simp, b3⟩
          · cases h
        · cases h
      · cases h
/-- A state is the one of its shape. -/
theorem initF_len (nf : Nat) : ∀ (n j : Nat), (initF nf j n).length = n := by
  intro n
  induction n with
  | zero => intro j; rfl
  | succ n ih => intro j; simp only [initF, List.length_cons, ih]
theorem ext_sim {nf : Nat} {ρ : List Nat} {X : XS} {ts : List AV} {H : List AObj} {sh : Sh} {foc : List Nat} {x : Ty.denL sh.tys} (ht : All2 (VT ρ X.h) X.t ts) (hs : HS ρ X.h H) (hn : X.t.length = sh.n) (hx : ext nf sh X = some (foc, x)) :
    Sim (foc.map fun id => ρ.getD id 0) (emb sh x) ⟨ts, H⟩ ∧ (∀ id ∈ foc, id < X.h.length) ∧ foc.length = sh.objs.length ∧ foc.Nodup := by
  unfold ext at hx
  split at hx
  case h_2 => cases hx
  rename_i foc1 g h1
  split at hx
  case h_2 => cases hx
  rename_i foc2 y h2
  split at hx
  case h_2 => cases hx
  rename_i foc3 x3 h3 h4
  split at hx
  case isFalse => cases hx
  rename_i hnd
  cases hx
  obtain ⟨r1, r2⟩ := extR_ok X.t _ _ _ _ _ h1
  obtain ⟨o1, o2, o3⟩ := extO_ok X.h _ _ _ _ _ h2
  obtain ⟨s1, s2⟩ := allSome_ok h3
  obtain ⟨v1, v2, v3⟩ := extV_ok X.t foc2 sh.vars _ (g y) x (List.replicate sh.n .any) h4 (fun i c q => by
    have := List.eq_of_mem_replicate (List.mem_of_getElem? q); subst this; exact .inl (.any _))
  obtain ⟨w1, w2, w3⟩ := r2 y foc2 (embV sh.vars (refTys sh.refs (SO.tys sh.objs)) x (List.replicate sh.n .any)).1 o1 v3
  have hes : embS sh x = embRf sh.refs (SO.tys sh.objs) (g y) (embV sh.vars (refTys sh.refs (SO.tys sh.objs)) x (List.replicate sh.n .any)).1 := by
    unfold embS; rw [v1]
  have hfl : foc.length = sh.objs.length := by rw [← s1, ← o1.1, ← r1.1, initF_len]
  have hh2 : (emb sh x).h = embO sh.objs y := by show embO sh.objs (embS sh x).2 = _; rw [hes, w1]
  have cor : ∀ (j : Nat) (ob : XO), (emb sh x).h[j]? = some ob → ∃ id o, foc[j]? = some id ∧ X.h[id]? = some o ∧ OR' foc2 o ob := fun j ob q => by
    rw [hh2] at q
    obtain ⟨id, o, e1, e2, e3⟩ := o3 j ob q
    rw [Nat.zero_add] at e1
    exact ⟨id, o, (s2 j id).1 e1, e2, e3⟩
  have hlen : (emb sh x).h.length = foc.length := by rw [hh2, o2, hfl]
  have rget : ∀ (j id : Nat), foc[j]? = some id → (foc.map fun id => ρ.getD id 0).getD j 0 = ρ.getD id 0 := fun j id q => by
    simp [List.getD, List.getElem?_map, q]
  -- values
  have ptr1 : ∀ (id j i o : Nat) (a : AV), foc2[j]? = some (some id) → (∃ ob, X.h[id]? = some ob ∧ a = .ptr (ρ.getD id 0) ob.len i o) → ∃ ob, (emb sh x).h[j]? = some ob ∧ a = .ptr ((foc.map fun id => ρ.getD id 0).getD j 0) ob.len i o := by
      intro id j i o a hj hv
      obtain ⟨ob, he, rfl⟩ := hv
      have hj' := (s2 j id).1 hj
      have hjl : j < (emb sh x).h.length := by rw [hlen]; exact (List.getElem?_eq_some_iff.1 hj').1
      obtain ⟨id', o', e1, e2, e3⟩ := cor j _ (List.getElem?_eq_getElem hjl)
      rw [hj'] at e1
      cases e1
      rw [he] at e2
      cases e2
      refine ⟨_, List.getElem?_eq_getElem hjl, ?_⟩
      rw [rget j id hj']
      cases ob with
      | row ty T fz es => have e3 : (emb sh x).h[j] = .row ty T fz es := e3; rw [e3]
      | vec ty vs => exact e3.elim
      | box ty vs => obtain ⟨cs, e3, _⟩ := e3; rw [e3]; rfl
  have val1 : ∀ (v c : XV) (a : AV), CR foc2 v c → V1 ρ X.h v a → V1 (foc.map fun id => ρ.getD id 0) (emb sh x).h c a := by
    intro v c a hc hv
    cases hc with
    | any => trivial
    | d _ T z hz => exact toD_pure hz (VA.of1 hv)
    | nil => exact hv
    | row id j hj =>
      obtain ⟨ty, T, fz, es, he, rfl⟩ := hv
      have hj' := (s2 j id).1 hj
      have hjl : j < (emb sh x).h.length := by rw [hlen]; exact (List.getElem?_eq_some_iff.1 hj').1
      obtain ⟨id', o, e1, e2, e3⟩ := cor j _ (List.getElem?_eq_getElem hjl)
      rw [hj'] at e1
      cases e1
      rw [he] at e2
      cases e2
      have e3 : (emb sh x).h[j] = .row ty T fz es := e3
      exact ⟨ty, T, fz, es, by rw [List.getElem?_eq_getElem hjl, e3], by rw [rget j id hj']⟩
    | ptr id j i o hj => exact ptr1 id j i o a hj hv
    | me id j hj =>
      rcases hv with hv | hv
      · exact .inl hv
      · exact .inr (ptr1 id j 0 0 a hj hv)
    | mep id j hj => exact .inr (ptr1 id j 0 0 a hj hv)
    | men j => exact .inl hv
  refine ⟨⟨?_, ?_⟩, ?_, hfl, nodupB_ok hnd⟩
  · refine ⟨?_, fun i c a p q => ?_⟩
    · show (embS sh x).1.length = _
      rw [hes, w2, v2, List.length_replicate, ← hn]
      exact ht.1
    · have hc := w3 i c (by rw [← hes]; exact p)
      have hil : i < X.t.length := by rw [ht.1]; exact (List.getElem?_eq_some_iff.1 q).1
      have hv := ht.2 i X.t[i] a (List.getElem?_eq_getElem hil) q
      have hg : X.t.getD i .any = X.t[i] := by simp [List.getD, List.getElem?_eq_getElem hil]
      rw [hg] at hc
      generalize X.t[i] = v at hc hv
      rcases hc with hc | ⟨vs, cs, rfl, rfl, hcs⟩
      case inr =>
        obtain ⟨as, rfl, hva⟩ := hv
        refine ⟨as, rfl, by rw [← hcs.1, hva.1], fun j c' a' p' q' => ?_⟩
        obtain ⟨v', hv', hcr⟩ := hcs.get_right p'
        exact val1 v' c' a' hcr (hva.2 j v' a' hv' q')
      cases hc with
      | any => trivial
      | d _ T z hz =>
        refine vt_d (toD_pure hz (VT.notup hv fun vs q => ?_))
        rw [q] at hz
        cases T <;> simp [toD, lst] at hz
      | row id j hj => exact VT.of1 (val1 _ _ a (.row id j hj) hv)
      | ptr id j i' o hj => exact VT.of1 (val1 _ _ a (.ptr id j i' o hj) hv)
      | nil => exact hv
      | me id j hj => exact VT.of1 (val1 _ _ a (.me id j hj) hv)
      | mep id j hj => exact VT.of1 (val1 _ _ a (.mep id j hj) hv)
      | men j => exact VT.of1 (val1 _ _ a (.men j) hv)
  · refine ⟨by rw [List.length_map, hlen], ?_, fun j ob q => ?_⟩
    · have : foc.Nodup := nodupB_ok hnd
      rw [List.nodup_iff_pairwise_ne, List.pairwise_map]
      refine List.Pairwise.imp_of_mem (fun {a b} ha hb hab e => ?_) (List.nodup_iff_pairwise_ne.1 this)
      have lt : ∀ a ∈ foc, a < X.h.length := fun a ha => by
        obtain ⟨j, hj⟩ := List.mem_iff_getElem?.1 ha
        have hjl : j < (emb sh x).h.length := by rw [hlen]; exact (List.getElem?_eq_some_iff.1 hj).1
        obtain ⟨id', o', e1, e2, e3⟩ := cor j _ (List.getElem?_eq_getElem hjl)
        rw [hj] at e1; cases e1
        exact (List.getElem?_eq_some_iff.1 e2).1
      exact hab (hs.inj (lt a ha) (lt b hb) e)
    · obtain ⟨id, o, e1, e2, e3⟩ := cor j ob q
      obtain ⟨O, hO, hR⟩ := hs.hr id o e2
      refine ⟨O, by rw [rget j id e1]; exact hO, ?_⟩
      cases o with
      | row ty T fz es => have e3 : ob = .row ty T fz es := e3; subst e3; exact hR
      | vec ty vs => exact e3.elim
      | box ty vs =>
        obtain ⟨cs, rfl, hc⟩ := e3
        obtain ⟨q1, q2, q3, q4, e, q5, q6⟩ := hR
        refine ⟨q1, by rw [q2, hc.1], q3, q4, e, q5, by rw [← hc.1]; exact q6.1, fun i c a p q => ?_⟩
        obtain ⟨v, hv, hcr⟩ := hc.get_right p
        exact val1 v c a hcr (q6.2 i v a hv q)
  · intro id hid
    obtain ⟨j, hj⟩ := List.mem_iff_getElem?.1 hid
    have hjl : j < (emb sh x).h.length := by rw [hlen]; exact (List.getElem?_eq_some_iff.1 hj).1
    obtain ⟨id', o', e1, e2, e3⟩ := cor j _ (List.getElem?_eq_getElem hjl)
    rw [hj] at e1; cases e1
    exact (List.getElem?_eq_some_iff.1 e2).1
/-- No object found is a row of pointers. -/
theorem ext_novec {nf : Nat} {X : XS} {sh : Sh} {foc : List Nat} {x : Ty.denL sh.tys} (hx : ext nf sh X = some (foc, x)) : ∀ id ∈ foc, ∀ ty cs, X.h[id]? ≠ some (.vec ty cs) := by
  unfold ext at hx
  split at hx
  case h_2 => cases hx
  rename_i foc1 g h1
  split at hx
  case h_2 => cases hx
  rename_i foc2 y h2
  split at hx
  case h_2 => cases hx
  rename_i foc3 x3 h3 h4
  split at hx
  case isFalse => cases hx
  rename_i hnd
  cases hx
  obtain ⟨r1, r2⟩ := extR_ok X.t _ _ _ _ _ h1
  obtain ⟨o1, o2, o3⟩ := extO_ok X.h _ _ _ _ _ h2
  obtain ⟨s1, s2⟩ := allSome_ok h3
  intro id hid ty cs q
  obtain ⟨j, hj⟩ := List.mem_iff_getElem?.1 hid
  have hfl : foc.length = sh.objs.length := by rw [← s1, ← o1.1, ← r1.1, initF_len]
  have hjl : j < (embO sh.objs y).length := by rw [o2, ← hfl]; exact (List.getElem?_eq_some_iff.1 hj).1
  obtain ⟨id', o, e1, e2, e3⟩ := o3 j _ (List.getElem?_eq_getElem hjl)
  rw [Nat.zero_add] at e1
  have := (s2 j id').1 e1
  rw [hj] at this
  cases this
  rw [q] at e2
  cases e2
  exact e3
end Abs
end Go.Proofs.YtamgbanmnededaaDoor
