/- The abstract machine: what a value reads as is kept. -/
import Derived.Test.YtnhgeocdffhkjaaDoorAbs0
namespace Go.Proofs.YtnhgeocdffhkjaaDoor
namespace Abs
open Go.RowKit

theorem RP.mono {F F' : Addr → Option Value} {x : Value} {a : AV} (h : RP F x a) (hF : ∀ ad y, F ad = some y → F' ad = some y) : RP F' x a := by
  induction h with
  | any x => exact .any x
  | v x => exact .v x
  | nil sz => exact .nil sz
  | list ad n cap sz xs cv hn hc hz hf _ ih => exact .list ad n cap sz xs cv hn hc hz (fun i j e a h1 h2 => ⟨hF _ _ (hf i j e a h1 h2).1, (hf i j e a h1 h2).2⟩) ih
  | lptr ad cs cv hf _ ih => exact .lptr ad cs cv (fun j a h => ⟨hF _ _ (hf j a h).1, (hf j a h).2⟩) ih
  | agg xs cs hl h1 _ ih => exact .agg xs cs hl h1 ih
  | tup xs cs hl _ ih => exact .tup xs cs hl ih

/-- Blocks of the call's own stay, or have grown. -/
def Le (own own' : List Ent) : Prop := ∀ (id : Nat) (e : Ent), own[id]? = some e → ∃ e', own'[id]? = some e' ∧ (e' = e ∨ (e.G < e'.G ∧ 0 < e.sz ∧ 0 < e'.sz))
theorem Le.refl (own : List Ent) : Le own own := fun _ e h => ⟨e, h, .inl rfl⟩
theorem Le.snoc (own l : List Ent) : Le own (own ++ l) := fun id e h => ⟨e, by
  have := (List.getElem?_eq_some_iff.1 h).1
  rw [List.getElem?_append_left this]; exact h, .inl rfl⟩
theorem Le.len {a b : List Ent} (h : Le a b) : a.length ≤ b.length := by
  rcases Nat.lt_or_ge b.length a.length with q | q
  · obtain ⟨e, he, _⟩ := h b.length a[b.length] (List.getElem?_eq_getElem q)
    rw [List.getElem?_eq_none (Nat.le_refl _)] at he
    cases he
  · exact q
theorem Le.take {a b : List Ent} (h : Le a b) (n : Nat) : Le (a.take n) (b.take n) := fun id e he => by
  rw [List.getElem?_take] at he
  split at he
  · rename_i hid
    obtain ⟨e', h1, h2⟩ := h id e he
    exact ⟨e', by rw [List.getElem?_take, if_pos hid]; exact h1, h2⟩
  · cases he
theorem Le.of_take (a : List Ent) (n : Nat) : Le (a.take n) a := fun id e he => by
  rw [List.getElem?_take] at he
  split at he
  · exact ⟨e, he, .inl rfl⟩
  · cases he
theorem Le.trans {a b c : List Ent} (h : Le a b) (k : Le b c) : Le a c := fun id e he => by
  obtain ⟨e', h1, h2⟩ := h id e he
  obtain ⟨e'', h3, h4⟩ := k id e' h1
  refine ⟨e'', h3, ?_⟩
  rcases h2 with rfl | h2 <;> rcases h4 with rfl | h4
  · exact .inl rfl
  · exact .inr h4
  · exact .inr h2
  · exact .inr ⟨by omega, h2.2.1, h4.2.2⟩

theorem R.mono {F F' : Addr → Option Value} {own own' : List Ent} {x : Value} {a : AV} (h : R F own x a) (hF : ∀ ad y, F ad = some y → F' ad = some y) (ho : Le own own') : R F' own' x a := by
  induction h with
  | pure h => exact .pure (h.mono hF)
  | row x id G sz off len e he hG hs hx hz =>
    obtain ⟨e', h1, h2⟩ := ho id e he
    rcases h2 with rfl | h2
    · exact .row x id G sz off len _ h1 hG hs hx hz
    · exact .row x id G sz off len _ h1 (by omega) hs (fun q => by omega) h2.2.2
  | crow x id G sz len e he hG hs hx hz =>
    obtain ⟨e', h1, h2⟩ := ho id e he
    rcases h2 with rfl | h2
    · exact .crow x id G sz len _ h1 hG hs hx hz
    · exact .crow x id G sz len _ h1 (by omega) hs (fun q => by omega) h2.2.2
  | ptr x id G i off e he hG hs hx hz =>
    obtain ⟨e', h1, h2⟩ := ho id e he
    rcases h2 with rfl | h2
    · exact .ptr x id G i off _ h1 hG hs hx hz
    · exact .ptr x id G i off _ h1 (by omega) hs (fun q => by omega) h2.2.2
  | mp x id e he h0 hx =>
    obtain ⟨e', h1, h2⟩ := ho id e he
    rcases h2 with rfl | h2
    · exact .mp x id _ h1 h0 hx
    · omega
  | clo f xs cs hl _ ih => exact .clo f xs cs hl ih
  | agg xs cs hl h1 _ ih => exact .agg xs cs hl h1 ih
  | tup xs cs hl _ ih => exact .tup xs cs hl ih

section
variable {F : Addr → Option Value} {own : List Ent} {x : Value}
theorem R.v_inv {y : Value} (h : R F own x (.v y)) : x = y := by
  cases h with | pure h => cases h; rfl
theorem R.list_inv {sz : Nat} {xs : List AV} (h : R F own x (.list sz xs)) : RP F x (.list sz xs) := by
  cases h with | pure h => exact h
theorem R.lptr_inv {cs : List AV} (h : R F own x (.lptr cs)) : RP F x (.lptr cs) := by
  cases h with | pure h => exact h
theorem R.row_inv {id G sz off len : Nat} (h : R F own x (.row id G sz off len)) : ∃ e, own[id]? = some e ∧ G ≤ e.G ∧ (∃ a cap, x = .slice a len cap ∧ len ≤ cap ∧ (0 < len ∨ off ≠ 0 → a.isSome = true)) ∧ (G = e.G → sz = e.sz ∧ off + len ≤ G ∧ (0 < len ∨ off = 0 → ∃ cp, off + cp ≤ e.cap ∧ x = .slice (e.g.map fun g => ⟨g, off * sz, none⟩) len cp)) := by
  cases h with
  | pure h => cases h
  | row _ _ _ _ _ _ e he hG hs hx => exact ⟨e, he, hG, hs, hx⟩
theorem R.crow_inv {id G sz len : Nat} (h : R F own x (.crow id G sz len)) : ∃ e, own[id]? = some e ∧ G ≤ e.G ∧ (∃ a, x = .slice a len len ∧ (0 < len → a.isSome = true)) ∧ (G = e.G → sz = e.sz ∧ len ≤ G ∧ x = .slice (e.g.map fun g => ⟨g, 0, none⟩) len len) := by
  cases h with
  | pure h => cases h
  | crow _ _ _ _ _ e he hG hs hx => exact ⟨e, he, hG, hs, hx⟩
theorem R.ptr_inv {id G i off : Nat} (h : R F own x (.ptr id G i off)) : ∃ e, own[id]? = some e ∧ G ≤ e.G ∧ (∃ a, x = .pointer (some a)) ∧ (G = e.G → ∃ g, e.g = some g ∧ x = .pointer (some ⟨g, i * e.sz + off, none⟩)) := by
  cases h with
  | pure h => cases h
  | ptr _ _ _ _ _ e he hG hs hx => exact ⟨e, he, hG, hs, hx⟩
theorem R.row_sz {id G sz off len : Nat} (h : R F own x (.row id G sz off len)) {e : Ent} (he : own[id]? = some e) : 0 < e.sz := by
  cases h with
  | pure h => cases h
  | row _ _ _ _ _ _ e' he' hG hs hx hz => rw [he] at he'; cases he'; exact hz
theorem R.crow_sz {id G sz len : Nat} (h : R F own x (.crow id G sz len)) {e : Ent} (he : own[id]? = some e) : 0 < e.sz := by
  cases h with
  | pure h => cases h
  | crow _ _ _ _ _ e' he' hG hs hx hz => rw [he] at he'; cases he'; exact hz
theorem R.ptr_sz {id G i off : Nat} (h : R F own x (.ptr id G i off)) {e : Ent} (he : own[id]? = some e) : 0 < e.sz := by
  cases h with
  | pure h => cases h
  | ptr _ _ _ _ _ e' he' hG hs hx hz => rw [he] at he'; cases he'; exact hz
theorem R.mp_inv {id : Nat} (h : R F own x (.mp id)) : ∃ e, own[id]? = some e ∧ e.sz = 0 ∧ ∃ g, e.g = some g ∧ x = .map (some g) := by
  cases h with
  | pure h => cases h
  | mp _ _ e he h0 hx => exact ⟨e, he, h0, hx⟩
theorem R.agg_inv {cs : List AV} (h : R F own x (.agg cs)) : ∃ xs, x = .agg xs ∧ xs.size = cs.length ∧ (∀ (j : Nat) (x : Value), xs[j]? = some x → x.oneCell' = true) ∧ (∀ (j : Nat) (x : Value) (a : AV), xs[j]? = some x → cs[j]? = some a → R F own x a) := by
  cases h with
  | pure h => cases h with | agg xs cs hl h1 hR => exact ⟨xs, rfl, hl, h1, fun j x a p q => .pure (hR j x a p q)⟩
  | agg xs cs hl h1 hR => exact ⟨xs, rfl, hl, h1, hR⟩
theorem R.tup_inv {cs : List AV} (h : R F own x (.tup cs)) : ∃ xs, x = .tuple xs ∧ xs.size = cs.length ∧ (∀ (j : Nat) (x : Value) (a : AV), xs[j]? = some x → cs[j]? = some a → R F own x a) := by
  cases h with
  | pure h => cases h with | tup xs cs hl hR => exact ⟨xs, rfl, hl, fun j x a p q => .pure (hR j x a p q)⟩
  | tup xs cs hl hR => exact ⟨xs, rfl, hl, hR⟩
theorem R.clo_inv {f : Nat} {cs : List AV} (h : R F own x (.clo f cs)) : ∃ xs, x = .func (.func f) #[] xs ∧ xs.size = cs.length ∧ (∀ (j : Nat) (x : Value) (a : AV), xs[j]? = some x → cs[j]? = some a → R F own x a) := by
  cases h with
  | pure h => cases h
  | clo f xs cs hl hR => exact ⟨xs, rfl, hl, hR⟩
/-- Values that lie in one cell. -/
def AV.one : AV → Bool
  | .v x => x.oneCell'
  | .list _ _ | .lptr _ => true
  | _ => false
end

/-- The cells of a value. -/
theorem R.cells_of {F : Addr → Option Value} {own : List Ent} {x : Value} {a : AV} (h : R F own x a) (hx : x.oneCell' = true ∨ ∃ cs, a = .agg cs) :
    x.cells.size = a.cells.length ∧ ∀ (j : Nat) (y : Value) (b : AV), x.cells[j]? = some y → a.cells[j]? = some b → y.oneCell' = true ∧ R F own y b := by
  by_cases hc : ∃ cs, a = .agg cs
  · obtain ⟨cs, rfl⟩ := hc
    obtain ⟨xs, rfl, hl, h1, hR⟩ := h.agg_inv
    exact ⟨hl, fun j y b p q => ⟨h1 j y p, hR j y b p q⟩⟩
  · rcases hx with hx | hx
    · have e1 : x.cells = #[x] := by cases x <;> simp_all [Value.cells, Value.oneCell']
      have e2 : a.cells = [a] := by cases a <;> simp_all [AV.cells]
      rw [e1, e2]
      refine ⟨rfl, fun j y b p q => ?_⟩
      have : j = 0 := by
        rcases Nat.eq_zero_or_pos j with h0 | h0
        · exact h0
        · simp [List.getElem?_eq_none (show [a].length ≤ j by simp; omega)] at q
      subst this
      simp at p q
      subst p q
      exact ⟨hx, h⟩
    · exact absurd hx hc

theorem RC.mono {F F' : Addr → Option Value} {own own' : List Ent} {pr : Bool} {x : Value} {a : AV} (h : RC F own pr x a) (hF : ∀ ad y, F ad = some y → F' ad = some y) (ho : Le own own') : RC F' own' pr x a := by
  unfold RC at *
  split
  · rename_i q; rw [if_pos q] at h; exact h.mono hF
  · rename_i q; rw [if_neg q] at h; exact h.mono hF ho
theorem RC.r {F : Addr → Option Value} {own : List Ent} {pr : Bool} {x : Value} {a : AV} (h : RC F own pr x a) : R F own x a := by
  unfold RC at h
  split at h
  · exact .pure h
  · exact h
theorem ObjC.mono {F F' : Addr → Option Value} {own own' : List Ent} {w w' : World} {e : Ent} {o : AObj} (h : ObjC F own w e o) (hF : ∀ ad y, F ad = some y → F' ad = some y) (ho : Le own own')
    (hb : ∀ g, e.g = some g → w'.heap[g]? = w.heap[g]?) (hf : ∀ g j, e.g = some g → o.fz * o.sz ≤ j → F' ⟨g, j, none⟩ = none) : ObjC F' own' w' e o := by
  obtain ⟨h1, h2, h3, h4, h5, h5', h6, h7⟩ := h
  refine ⟨h1, h2, h3, h4, h5, h5', h6, ?_⟩
  cases hg : e.g with
  | none => rw [hg] at h7; exact h7
  | some g =>
    rw [hg] at h7
    obtain ⟨cs, k1, k2, k3, k4⟩ := h7
    obtain ⟨fr, k1, kf⟩ := k1
    refine ⟨cs, ⟨fr, (hb g hg).trans k1, kf⟩, k2, fun i j x a p q => ?_, fun j hj => hf g j hg hj⟩
    obtain ⟨y, a1, a2, a3⟩ := k3 i j x a p q
    exact ⟨y, a1, a2, a3.mono hF ho⟩
theorem EntR.mono {F F' : Addr → Option Value} {en : MapEntry} {x : AV} (h : EntR F en x) (hF : ∀ ad y, F ad = some y → F' ad = some y) : EntR F' en x := by
  obtain ⟨a, h1, h2, h3, h4⟩ := h
  exact ⟨a, h1, h2, h3, h4.mono hF⟩
theorem ObjR.mono {F F' : Addr → Option Value} {own own' : List Ent} {w w' : World} {e : Ent} {o : AObj} (h : ObjR F own w e o) (hF : ∀ ad y, F ad = some y → F' ad = some y) (ho : Le own own')
    (hb : ∀ g, e.g = some g → w'.heap[g]? = w.heap[g]?) (hf : ∀ g j, e.g = some g → o.fz * o.sz ≤ j → F' ⟨g, j, none⟩ = none) : ObjR F' own' w' e o := by
  rcases h with ⟨h0, h⟩ | ⟨h0, h1, h2, g, hg, es, clock, k1, k2, k3, k4⟩
  · exact .inl ⟨h0, h.mono hF ho hb hf⟩
  · exact .inr ⟨h0, h1, h2, g, hg, es, clock, (hb g hg).trans k1, k2, fun i en x p q => (k3 i en x p q).mono hF, fun j => hf g j hg (by rw [h0]; omega)⟩
theorem ObjR.fz {F : Addr → Option Value} {own : List Ent} {w : World} {o : AObj} {e : Ent} (h : ObjR F own w e o) {g : Nat} (hg : e.g = some g) {j : Nat} (hj : o.fz * o.sz ≤ j) : F ⟨g, j, none⟩ = none := by
  rcases h with ⟨_, h⟩ | ⟨_, _, _, g', hg', es, clock, _, _, _, k4⟩
  · have := h.2.2.2.2.2.2.2
    rw [hg] at this
    obtain ⟨_, _, _, _, k⟩ := this
    exact k j hj
  · rw [hg] at hg'
    cases hg'
    exact k4 j
/-- An object whose elements have a size is a block of cells. -/
theorem ObjR.c {F : Addr → Option Value} {own : List Ent} {w : World} {e : Ent} {o : AObj} (h : ObjR F own w e o) (h0 : 0 < o.sz) : ObjC F own w e o := by
  rcases h with ⟨_, h⟩ | ⟨h1, _⟩
  · exact h
  · omega
theorem ObjC.r {F : Addr → Option Value} {own : List Ent} {w : World} {e : Ent} {o : AObj} (h : ObjC F own w e o) : ObjR F own w e o := .inl ⟨h.2.2.1, h⟩
theorem ObjR.esz {F : Addr → Option Value} {own : List Ent} {w : World} {e : Ent} {o : AObj} (h : ObjR F own w e o) : e.sz = o.sz := by
  rcases h with ⟨_, h⟩ | ⟨h1, h2, _⟩
  · exact h.2.1
  · rw [h1, h2]
theorem ObjC.fz {F : Addr → Option Value} {own : List Ent} {w : World} {o : AObj} {e : Ent} (h : ObjC F own w e o) {g : Nat} (hg : e.g = some g) {j : Nat} (hj : o.fz * o.sz ≤ j) : F ⟨g, j, none⟩ = none := h.r.fz hg hj
theorem ObjR.of_e {F : Addr → Option Value} {own : List Ent} {w : World} {e : Ent} {o : AObj} (h : ObjR F own w e o) (h0 : 0 < e.sz) : ObjC F own w e o := h.c (by rw [← h.esz]; exact h0)

section
variable {Gl : Nat → Option (List AV)} {F F' : Addr → Option Value} {own own' : List Ent} {B : Nat} {w0 : W0} {σ : St} {act : Act} {w w' : World}

theorem Inv.eval (h : Inv Gl F own B w0 σ act w) (x : Operand) (y : Opd) (hxy : (match x with | .tmp t => some (Opd.t t) | .const v => some (.k v) | .global g => some (.g g) | .func f => some (.k (.func (.func f) #[] #[]))) = some y) : R F own (act.eval x) (σ.val Gl y) := by
  cases x with
  | tmp t =>
    obtain rfl := Option.some.inj hxy
    show R F own (act.tmps.getD t undef) (σ.t.getD t .any)
    by_cases ht : t < act.tmps.size
    · have ht' : t < σ.t.length := by rw [← h.tl]; exact ht
      have e1 : act.tmps[t]? = some (act.tmps.getD t undef) := by simp [Array.getD, ht]
      have e2 : σ.t[t]? = some (σ.t.getD t .any) := by simp [List.getD, List.getElem?_eq_getElem ht']
      exact h.tr t _ _ e1 e2
    · have ht' : ¬ t < σ.t.length := by rw [← h.tl]; exact ht
      have e2 : σ.t.getD t .any = .any := by simp [List.getD, List.getElem?_eq_none (Nat.le_of_not_lt ht')]
      rw [e2]
      exact .pure (.any _)
  | const v =>
    obtain rfl := Option.some.inj hxy
    exact .pure (.v v)
  | global g =>
    obtain rfl := Option.some.inj hxy
    show R F own (.pointer (some ⟨g, 0, none⟩)) (match Gl g with | some cs => .lptr cs | none => .any)
    cases hg : Gl g with
    | none => exact .pure (.any _)
    | some cs => exact .pure (h.gl g cs hg)
  | func f =>
    obtain rfl := Option.some.inj hxy
    exact .pure (.v _)

theorem Inv.put (h : Inv Gl F own B w0 σ act w) {x : Value} {a : AV} (hx : R F own x a) (d : Option Nat) : Inv Gl F own B w0 (σ.put d a) (act.put d x) w := by
  cases d with
  | none => exact h
  | some i =>
    have e : (act.put (some i) x).tmps = act.tmps.setIfInBounds i x := rfl
    refine { h with tl := ?_, tr := ?_ }
    · show (act.tmps.setIfInBounds i x).size = (σ.t.set i a).length
      simp [h.tl]
    · intro j y b hy hb
      rw [e, Array.getElem?_setIfInBounds] at hy
      have hb' : (σ.t.set i a)[j]? = some b := hb
      rw [List.getElem?_set] at hb'
      by_cases hij : i = j
      · subst hij
        rw [if_pos rfl] at hb' hy
        split at hy
        · split at hb'
          · obtain rfl := Option.some.inj hy
            obtain rfl := Option.some.inj hb'
            exact hx
          · cases hb'
        · cases hy
      · rw [if_neg hij] at hb' hy
        exact h.tr j y b hy hb'

theorem PdIn.turn {l : List PdE} (h : PdIn B l F own w) (hw : ∀ g, g < w.heap.size → NoOwn own g → w'.heap[g]? = w.heap[g]?) (hF : ∀ g j y, F' ⟨g, j, none⟩ = some y → F ⟨g, j, none⟩ = some y ∨ ¬ NoOwn own g ∨ w.heap.size ≤ g)
    (ho : ∀ (id : Nat) (e : Ent) (g : Nat), own'[id]? = some e → e.g = some g → ¬ NoOwn own g ∨ w.heap.size ≤ g) : PdIn B l F' own' w' := by
  intro q hq g hg
  obtain ⟨h1, h2, h3, h4⟩ := h q hq g hg
  have hlt : g < w.heap.size := (Array.getElem?_eq_some_iff.1 h1).1
  refine ⟨(hw g hlt h3).trans h1, fun j => ?_, fun id e he hg' => ?_, h4⟩
  · cases hf : F' ⟨g, j, none⟩ with
    | none => rfl
    | some y =>
      rcases hF g j y hf with r | r | r
      · rw [h2 j] at r; cases r
      · exact absurd h3 r
      · omega
  · rcases ho id e g he hg' with r | r
    · exact absurd h3 r
    · omega
/-- The heap has changed: what else is to be shown. -/
theorem Inv.turn (h : Inv Gl F own B w0 σ act w) {h' : List AObj} (hF : ∀ ad y, F ad = some y → F' ad = some y) (ho : Le own own') (hs : ∀ a x, F' a = some x → w'.cell? a = some x) (hl : own'.length = h'.length)
    (hob : ∀ (id : Nat) (e : Ent) (o : AObj), own'[id]? = some e → h'[id]? = some o → ObjR F' own' w' e o)
    (hij : ∀ (i j : Nat) (e e' : Ent) (g : Nat), own'[i]? = some e → own'[j]? = some e' → e.g = some g → e'.g = some g → i = j) (hb : Below B w0.w w')
    (hbs : ∀ (id : Nat) (e : Ent) (g : Nat), own'[id]? = some e → e.g = some g → B ≤ g) (hex : ∀ (ad : Addr) (y : Value), F' ad = some y → F ad = some y ∨ B ≤ ad.block := by exact fun _ _ q => .inl q)
    (hpw : ∀ g, g < w.heap.size → NoOwn own g → w'.heap[g]? = w.heap[g]? := by exact fun _ _ _ => rfl) (hpF : ∀ g j y, F' ⟨g, j, none⟩ = some y → F ⟨g, j, none⟩ = some y ∨ ¬ NoOwn own g ∨ w.heap.size ≤ g := by exact fun _ _ _ q => .inl q)
    (hpo : ∀ (id : Nat) (e : Ent) (g : Nat), own'[id]? = some e → e.g = some g → ¬ NoOwn own g ∨ w.heap.size ≤ g := by exact fun id e g p q => .inl fun r => r id e p q) : Inv Gl F' own' B w0 ⟨σ.t, h'⟩ act w' :=
  { tl := h.tl, tr := fun i x a p q => (h.tr i x a p q).mono hF ho, defers := h.defers, sub := hs, hl := hl, objs := hob, inj := hij, below := hb, base := hbs, gl := fun g cs q => (h.gl g cs q).mono hF, gw := h.gw, room := h.room, ext := fun ad y q => (hex ad y q).elim (h.ext ad y) .inr, ext0 := fun ad y q => hF ad y (h.ext0 ad y q), nl := by have := h.nl; have := ho.len; have := h.hl; simp only; omega, fr := fun q hq => (h.fr q hq).mono hF (ho.take _), pd := PdIn.turn h.pd hpw hpF hpo }

theorem Inv.same (h : Inv Gl F own B w0 σ act w) (hw : w'.heap = w.heap) (h1 : w'.os = w.os) (h2 : w'.tape = w.tape) (h3 : w'.output = w.output) : Inv Gl F own B w0 σ act w' := by
  have hc : ∀ a, w'.cell? a = w.cell? a := fun a => by unfold World.cell?; rw [hw]
  refine h.turn (h' := σ.h) (fun _ _ q => q) (Le.refl _) (fun a x q => (hc a).trans (h.sub a x q)) h.hl (fun id e o p q => (h.objs id e o p q).mono (fun _ _ r => r) (Le.refl _) (fun g _ => by rw [hw]) (fun g j hg hj => ?_)) h.inj ?_ h.base (hpw := fun _ _ _ => by rw [hw])
  · exact (h.objs id e o p q).fz hg hj
  · exact ⟨h1.trans h.below.os, h2.trans h.below.tape, h3.trans h.below.output, by rw [hw]; exact h.below.size, fun k hk => by rw [hw]; exact h.below.block k hk⟩

theorem noFz0 (n : Nat) : NoFz (0, 0) n := fun j _ q => by have := q.2; simp at this
theorem ObjC.blkF {o : AObj} {e : Ent} (h : ObjC F own w e o) {g : Nat} (hg : e.g = some g) : ∃ (cs : Array Value) (fr : Nat × Nat), w.heap[g]? = some (.cells cs o.ty fr) ∧ FrOk fr cs.size o.pr o.fz o.es.length ∧ cs.size = e.cap * o.sz ∧
      (∀ (i j : Nat) (x a : AV), o.es[i]? = some x → x.cells[j]? = some a → ∃ y, cs[i * o.sz + j]? = some y ∧ y.oneCell' = true ∧ RC F own o.pr y a) := by
  have := h.2.2.2.2.2.2.2
  rw [hg] at this
  obtain ⟨cs, ⟨fr, a, q⟩, b, c, _⟩ := this
  exact ⟨cs, fr, a, q, b, c⟩
theorem ObjC.blk {o : AObj} {e : Ent} (h : ObjC F own w e o) {g : Nat} (hg : e.g = some g) (hop : o.fz = 0 ∨ o.fz ≠ o.es.length) : ∃ (cs : Array Value) (fr : Nat × Nat), w.heap[g]? = some (.cells cs o.ty fr) ∧ NoFz fr cs.size ∧ cs.size = e.cap * o.sz ∧
      (∀ (i j : Nat) (x a : AV), o.es[i]? = some x → x.cells[j]? = some a → ∃ y, cs[i * o.sz + j]? = some y ∧ y.oneCell' = true ∧ RC F own o.pr y a) := by
  obtain ⟨cs, fr, a, q, b, c⟩ := h.blkF hg
  refine ⟨cs, fr, a, ?_, b, c⟩
  rcases q with q | ⟨q1, q2⟩
  · exact q
  · rcases hop with r | r
    · omega
    · exact absurd q1 r

/-- A block's number is one of the heap's. -/
theorem ObjR.lt {o : AObj} {e : Ent} (h : ObjR F own w e o) {g : Nat} (hg : e.g = some g) : g < w.heap.size := by
  rcases h with ⟨_, h⟩ | ⟨_, _, _, g', hg', es, clock, a, _⟩
  · obtain ⟨cs, fr, a, _⟩ := h.blkF hg
    exact (Array.getElem?_eq_some_iff.1 a).1
  · rw [hg] at hg'
    cases hg'
    exact (Array.getElem?_eq_some_iff.1 a).1

theorem ObjC.lt {o : AObj} {e : Ent} (h : ObjC F own w e o) {g : Nat} (hg : e.g = some g) : g < w.heap.size := h.r.lt hg
theorem Inv.own_obj (h : Inv Gl F own B w0 σ act w) {id : Nat} {e : Ent} (he : own[id]? = some e) : ∃ o, σ.h[id]? = some o ∧ ObjR F own w e o := by
  have hlt := (List.getElem?_eq_some_iff.1 he).1
  have hlt' : id < σ.h.length := by rw [← h.hl]; exact hlt
  exact ⟨σ.h[id], List.getElem?_eq_getElem hlt', h.objs id e _ he (List.getElem?_eq_getElem hlt')⟩
theorem Inv.obj_own (h : Inv Gl F own B w0 σ act w) {id : Nat} {o : AObj} (ho : σ.h[id]? = some o) : ∃ e, own[id]? = some e ∧ ObjR F own w e o := by
  have hlt := (List.getElem?_eq_some_iff.1 ho).1
  have hlt' : id < own.length := by rw [h.hl]; exact hlt
  exact ⟨own[id], List.getElem?_eq_getElem hlt', h.objs id _ o (List.getElem?_eq_getElem hlt') ho⟩
theorem Inv.own_lt (h : Inv Gl F own B w0 σ act w) {id : Nat} {e : Ent} {g : Nat} (he : own[id]? = some e) (hg : e.g = some g) : g < w.heap.size := by
  obtain ⟨o, _, k⟩ := h.own_obj he
  exact k.lt hg
theorem Inv.F_lt (h : Inv Gl F own B w0 σ act w) {a : Addr} {x : Value} (hx : F a = some x) : a.block < w.heap.size := World.block_lt_of_cell? w a (h.sub a x hx)

theorem snoc_own {e0 : Ent} {n : Nat} (hn : ∀ g, e0.g = some g → n ≤ g) : ∀ (id : Nat) (e : Ent) (g : Nat), (own ++ [e0])[id]? = some e → e.g = some g → ¬ NoOwn own g ∨ n ≤ g := fun id e g p q => by
  rcases Nat.lt_or_ge id own.length with hid | hid
  · rw [List.getElem?_append_left hid] at p
    exact .inl fun r => r id e p q
  · rw [List.getElem?_append_right hid] at p
    have h0 : id - own.length = 0 := by
      rcases Nat.eq_zero_or_pos (id - own.length) with h0 | h0
      · exact h0
      · rw [List.getElem?_eq_none (by simp; omega)] at p; cases p
    rw [h0] at p
    simp at p
    subst p
    exact .inr (hn g q)
/-- A new block of the call's own. -/
theorem Inv.new (h : Inv Gl F own B w0 σ act w) (cs : Array Value) (o : AObj) (cap : Nat) (hsz : 0 < o.sz) (hfz : o.fz = 0) (hcap : o.es.length ≤ cap) (hm : cap ≤ maxLen) (hes : ∀ (i : Nat) (x : AV), o.es[i]? = some x → x.cells.length = o.sz)
    (hcs : cs.size = cap * o.sz) (hR : ∀ (i j : Nat) (x a : AV), o.es[i]? = some x → x.cells[j]? = some a → ∃ y, cs[i * o.sz + j]? = some y ∧ y.oneCell' = true ∧ RC F own o.pr y a) (hbx : o.pr = false → cap = o.es.length := by intro q; first | rfl | (cases q; done) | (simp; done)) :
    Inv Gl F (own ++ [⟨some w.heap.size, o.es.length, o.sz, cap⟩]) B w0 ⟨σ.t, σ.h ++ [o]⟩ act (w.alloc (.cells cs o.ty)) := by
  have hnew := heap_alloc_new w (.cells cs o.ty)
  refine h.turn (fun _ _ q => q) (Le.snoc _ _) (fun a x q => ?_) (by simp [h.hl]) (fun id e o' p q => ?_) (fun i j e e' g p q r s => ?_) (h.below.alloc (Nat.le_trans h.room h.below.size) _) (fun id e g p q => ?_) (hpw := fun g hg _ => Below.heap_alloc _ _ _ hg) (hpo := snoc_own fun g q => by cases q; exact Nat.le_refl _)
  · rw [World.cell?_alloc_lt _ _ _ (h.F_lt q)]; exact h.sub a x q
  · rcases Nat.lt_or_ge id own.length with hid | hid
    · rw [List.getElem?_append_left hid] at p
      rw [List.getElem?_append_left (by rw [← h.hl]; exact hid)] at q
      have k := h.objs id e o' p q
      exact k.mono (fun _ _ r => r) (Le.snoc _ _) (fun g hg => Below.heap_alloc _ _ _ (k.lt hg)) (fun g j hg hj => k.fz hg hj)
    · rw [List.getElem?_append_right hid] at p
      rw [List.getElem?_append_right (by rw [← h.hl]; exact hid), ← h.hl] at q
      have h0 : id - own.length = 0 := by
        rcases Nat.eq_zero_or_pos (id - own.length) with h0 | h0
        · exact h0
        · rw [List.getElem?_eq_none (by simp; omega)] at p; cases p
      rw [h0] at p q
      simp at p q
      subst p q
      refine ObjC.r ⟨rfl, rfl, hsz, hcap, ⟨hm, hbx⟩, by omega, hes, ⟨cs, ⟨_, hnew, .inl (noFz0 _)⟩, hcs, fun i j x a p q => ?_, fun j _ => ?_⟩⟩
      · obtain ⟨y, a1, a2, a3⟩ := hR i j x a p q
        exact ⟨y, a1, a2, a3.mono (fun _ _ r => r) (Le.snoc _ _)⟩
      · rcases hF : F ⟨w.heap.size, j, none⟩ with _ | y
        · rfl
        · have := h.F_lt hF; simp at this
  · have key : ∀ (i : Nat) (e : Ent), (own ++ [(⟨some w.heap.size, o.es.length, o.sz, cap⟩ : Ent)])[i]? = some e → e.g = some g → (i < own.length ∧ own[i]? = some e ∧ g < w.heap.size) ∨ (i = own.length ∧ g = w.heap.size) := by
      intro i e p r
      rcases Nat.lt_or_ge i own.length with hid | hid
      · rw [List.getElem?_append_left hid] at p
        exact .inl ⟨hid, p, h.own_lt p r⟩
      · rw [List.getElem?_append_right hid] at p
        have h0 : i - own.length = 0 := by
          rcases Nat.eq_zero_or_pos (i - own.length) with h0 | h0
          · exact h0
          · rw [List.getElem?_eq_none (by simp; omega)] at p; cases p
        rw [h0] at p
        simp at p
        subst p
        simp at r
        exact .inr ⟨by omega, r.symm⟩
    rcases key i e p r with ⟨a1, a2, a3⟩ | ⟨a1, a2⟩ <;> rcases key j e' q s with ⟨b1, b2, b3⟩ | ⟨b1, b2⟩
    · exact h.inj i j e e' g a2 b2 r s
    · omega
    · omega
    · omega
  · rcases Nat.lt_or_ge id own.length with hid | hid
    · rw [List.getElem?_append_left hid] at p
      exact h.base id e g p q
    · rw [List.getElem?_append_right hid] at p
      have h0 : id - own.length = 0 := by
        rcases Nat.eq_zero_or_pos (id - own.length) with h0 | h0
        · exact h0
        · rw [List.getElem?_eq_none (by simp; omega)] at p; cases p
      rw [h0] at p
      simp at p
      subst p
      simp at q
      subst q
      exact Nat.le_trans h.room h.below.size
/-- Other cells of a block are marked; no cell of it is shared. -/
theorem Inv.mark (h : Inv Gl F own B w0 σ act w) {w' : World} {g : Nat} (h1 : w'.os = w.os) (h2 : w'.tape = w.tape) (h3 : w'.output = w.output) (hoth : ∀ k, k ≠ g → w'.heap[k]? = w.heap[k]?)
    (hg : ∃ cs ty fr fr', w.heap[g]? = some (.cells cs ty fr) ∧ w'.heap[g]? = some (.cells cs ty fr') ∧ NoFz fr' cs.size ∧ w.heap.size = w'.heap.size) (hB : B ≤ g) (hgo : ¬ NoOwn own g) : Inv Gl F own B w0 σ act w' := by
  obtain ⟨cs, ty, fr, fr', e1, e2, e3, e4⟩ := hg
  have hc : ∀ a, w'.cell? a = w.cell? a := fun a => by
    unfold World.cell?
    by_cases q : a.block = g
    · rw [q, e1, e2]
    · rw [hoth _ q]
  refine h.turn (h' := σ.h) (fun _ _ q => q) (Le.refl _) (fun a x q => (hc a).trans (h.sub a x q)) h.hl (fun id e o p q => ?_) h.inj ?_ h.base (hpw := fun k _ hk => hoth k fun q => hgo (q ▸ hk))
  · rcases h.objs id e o p q with ⟨k0, k⟩ | ⟨k0, m1, m2, g', m3, es, clock, m4, m5⟩
    case inr =>
      refine .inr ⟨k0, m1, m2, g', m3, es, clock, ?_, m5⟩
      by_cases hgg : g' = g
      · subst hgg; rw [e1] at m4; cases m4
      · rw [hoth _ hgg]; exact m4
    obtain ⟨k1, k2, k3, k4, k5, k6, k7, k8⟩ := k
    refine .inl ⟨k0, k1, k2, k3, k4, k5, k6, k7, ?_⟩
    cases hge : e.g with
    | none => rw [hge] at k8; exact k8
    | some g' =>
      rw [hge] at k8
      obtain ⟨cs', ⟨fr1, a1, af⟩, a2, a3, a4⟩ := k8
      by_cases hgg : g' = g
      · subst hgg
        rw [e1] at a1; cases a1
        exact ⟨cs, ⟨fr', e2, .inl e3⟩, a2, a3, a4⟩
      · exact ⟨cs', ⟨fr1, by rw [hoth _ hgg]; exact a1, af⟩, a2, a3, a4⟩
  · exact ⟨h1.trans h.below.os, h2.trans h.below.tape, h3.trans h.below.output, by rw [← e4]; exact h.below.size, fun k hk => by rw [hoth k (by omega)]; exact h.below.block k hk⟩
end
end Abs
end Go.Proofs.YtnhgeocdffhkjaaDoor
