/- The typed machine: what its values stand for; native values and their cells. -/
import Derived.Test.YtamgbanmnededaaDoorX2
namespace Go.Proofs.YtamgbanmnededaaDoor
namespace Abs
open Go.RowKit
set_option linter.unusedVariables false
set_option linter.unusedSimpArgs false

theorem blt_t {a b : Nat} (h : Nat.blt a b = true) : a < b := Nat.le_of_ble_eq_true h
theorem blt_f {a b : Nat} (h : ¬ Nat.blt a b = true) : b ≤ a := Nat.le_of_lt_succ (Nat.lt_of_not_le (Nat.not_le_of_not_ble_eq_true h))
def gx (GX : GXT) : Nat → Option (List AV) := fun g => if Nat.blt g 1000000 = true then match GX g with
    | some ⟨T, x⟩ => some (Ty.enc T x).cells
    | none => match GX (g + 1000000) with
      | some ⟨.list (.int .i64), [te, b, o]⟩ => some [.v (.iface te.toNat (.pointer (some ⟨b.toNat, o.toNat, none⟩)))]
      | _ => none
  else none
/-- A cell's value. -/
def V1 (ρ : List Nat) (h : List XO) : XV → AV → Prop
  | .any, _ => True
  | .d T x, a => Wp a (Ty.enc T x)
  | .k v, a => a = .v v
  | .row id, a => ∃ ty T fz es, h[id]? = some (.row ty T fz es) ∧ a = .row (ρ.getD id 0) es.length T.size 0 es.length
  | .sub id off len, a => ∃ ty T fz es, h[id]? = some (.row ty T fz es) ∧ a = .row (ρ.getD id 0) es.length T.size off len
  | .csub id len, a => ∃ ty T fz es, h[id]? = some (.row ty T fz es) ∧ a = .crow (ρ.getD id 0) es.length T.size len ∧ len ≤ es.length
  | .vrow id, a => ∃ ty cs, h[id]? = some (.vec ty cs) ∧ a = .row (ρ.getD id 0) cs.length 1 0 cs.length
  | .me id, a => a = .v (.pointer none) ∨ ∃ o, h[id]? = some o ∧ a = .ptr (ρ.getD id 0) o.len 0 0
  | .ptr id i off, a => ∃ o, h[id]? = some o ∧ a = .ptr (ρ.getD id 0) o.len i off
  | .lp T x off, a => ∃ cs, a = .lptr cs ∧ All2 Wp cs ((Ty.enc T x).cells.drop off)
  | .agg _, _ => False
  | .tup _, _ => False
def VA (ρ : List Nat) (h : List XO) : XV → AV → Prop
  | .agg cs, a => ∃ as, a = .agg as ∧ All2 (V1 ρ h) cs as
  | x, a => V1 ρ h x a
def VT (ρ : List Nat) (h : List XO) : XV → AV → Prop
  | .tup vs, a => ∃ as, a = .tup as ∧ All2 (VA ρ h) vs as
  | x, a => VA ρ h x a
def ObjS (ρ : List Nat) (h : List XO) : XO → AObj → Prop
  | .row ty T fz es, O => O.ty = ty ∧ O.sz = T.size ∧ O.pr = true ∧ O.fz = (if fz = true then es.length else 0) ∧ All2 Wp O.es (es.map (Ty.enc T))
  | .box ty cs, O => O.ty = ty ∧ O.sz = cs.length ∧ O.pr = false ∧ O.fz = 0 ∧ ∃ e, O.es = [e] ∧ All2 (V1 ρ h) cs e.cells
  | .vec ty cs, O => O.ty = ty ∧ O.sz = 1 ∧ O.pr = false ∧ O.fz = 0 ∧ All2 (fun c e => e.cells = [e] ∧ V1 ρ h c e) cs O.es
/-- Heaps. -/
structure HS (ρ : List Nat) (h : List XO) (H : List AObj) : Prop where
  rl : ρ.length = h.length
  nd : ρ.Nodup
  hr : ∀ (i : Nat) (o : XO), h[i]? = some o → ∃ O, H[ρ.getD i 0]? = some O ∧ ObjS ρ h o O
structure Sim (ρ : List Nat) (X : XS) (σ : St) : Prop where
  t : All2 (VT ρ X.h) X.t σ.t
  h : HS ρ X.h σ.h

/-- A plain cell. -/
def Pl1 (a : AV) : Prop := (∃ y, a = .v y ∧ y.oneCell' = true) ∨ ∃ sz xs, a = .list sz xs
theorem Pl1.keep {a : AV} (h : Pl1 a) (H : List AObj) : keep1 H a = some a := by
  rcases h with ⟨y, rfl, hy⟩ | ⟨sz, xs, rfl⟩
  · simp [keep1, hy]
  · rfl
theorem Pl1.rows {a : AV} (h : Pl1 a) : rows1 a = [] := by
  rcases h with ⟨y, rfl, hy⟩ | ⟨sz, xs, rfl⟩ <;> rfl
theorem Pl1.st {a : AV} (h : Pl1 a) (pr : Bool) : st1 pr a = true := by
  rcases h with ⟨y, rfl, hy⟩ | ⟨sz, xs, rfl⟩
  · simpa [st1] using hy
  · rfl
theorem Pl1.of_wp {a b : AV} (h : Pl1 b) (hw : Wp a b) : Pl1 a := by
  rcases h with ⟨y, rfl, hy⟩ | ⟨sz, xs, rfl⟩
  · rw [hw.v_inv]; exact .inl ⟨y, rfl, hy⟩
  · rcases hw.list_inv with ⟨rfl, _⟩ | ⟨ys, rfl, _⟩
    · exact .inl ⟨_, rfl, rfl⟩
    · exact .inr ⟨_, _, rfl⟩
theorem Pl1.cells {a : AV} (h : Pl1 a) : a.cells = [a] := by
  rcases h with ⟨y, rfl, hy⟩ | ⟨sz, xs, rfl⟩ <;> rfl

/-- The cells of a native value, on both sides. -/
theorem flat_enc (T : Ty) : ∀ x : T.den, All2 (fun f c => ∃ (T' : Ty) (x' : T'.den), f = XV.d T' x' ∧ c = Ty.enc T' x' ∧ T'.isTup = false ∧ Pl1 c) (flat T x) (Ty.enc T x).cells := by
  refine Ty.rec (motive_1 := fun T => ∀ x : T.den, All2 (fun f c => ∃ (T' : Ty) (x' : T'.den), f = XV.d T' x' ∧ c = Ty.enc T' x' ∧ T'.isTup = false ∧ Pl1 c) (flat T x) (Ty.enc T x).cells)
    (motive_2 := fun fs => ∀ x : Ty.denL fs, All2 (fun f c => ∃ (T' : Ty) (x' : T'.den), f = XV.d T' x' ∧ c = Ty.enc T' x' ∧ T'.isTup = false ∧ Pl1 c) (flatL fs x) (Ty.encL fs x)) ?_ ?_ ?_ ?_ ?_ ?_ ?_ ?_ ?_ T
  · intro k x; exact .cons ⟨.int k, x, rfl, rfl, rfl, .inl ⟨_, rfl, rfl⟩⟩ .nil
  · intro x; exact .cons ⟨.bool, x, rfl, rfl, rfl, .inl ⟨_, rfl, rfl⟩⟩ .nil
  · intro x; exact .cons ⟨.str, x, rfl, rfl, rfl, .inl ⟨_, rfl, rfl⟩⟩ .nil
  · intro e _ x; exact .cons ⟨.list e, x, rfl, rfl, rfl, .inr ⟨_, _, rfl⟩⟩ .nil
  · intro fs ih x; exact ih x
  · intro f x; exact .cons ⟨.fnc f, x, rfl, rfl, rfl, .inl ⟨_, rfl, rfl⟩⟩ .nil
  · intro e _ x
    cases x with
    | none => exact .cons ⟨.listF e, none, rfl, rfl, rfl, .inl ⟨_, rfl, rfl⟩⟩ .nil
    | some xs => exact .cons ⟨.listF e, some xs, rfl, rfl, rfl, .inr ⟨_, _, rfl⟩⟩ .nil
  · intro x; exact .nil
  · intro t ts h1 h2 x; exact (h1 x.1).append (h2 x.2)

theorem pl_cells {T : Ty} {x : T.den} {c : AV} (h : c ∈ (Ty.enc T x).cells) : Pl1 c := by
  obtain ⟨i, hi⟩ := List.mem_iff_getElem?.1 h
  obtain ⟨f, _, _, _, _, _, _, hp⟩ := (flat_enc T x).get_right hi
  exact hp
theorem wp_pl {T : Ty} {x : T.den} {a : AV} (hw : Wp a (Ty.enc T x)) {c : AV} (h : c ∈ a.cells) : Pl1 c := by
  obtain ⟨i, hi⟩ := List.mem_iff_getElem?.1 h
  obtain ⟨b, hb, hwb⟩ := hw.cells.get_left hi
  exact (pl_cells (List.mem_of_getElem? hb)).of_wp hwb
theorem flat_v {ρ : List Nat} {h : List XO} {T : Ty} {x : T.den} {a : AV} (hw : Wp a (Ty.enc T x)) : All2 (V1 ρ h) (flat T x) a.cells := by
  have hf := flat_enc T x
  have hc := hw.cells
  refine ⟨by rw [hf.1, hc.1], fun i f c p q => ?_⟩
  obtain ⟨b, hb, T', x', rfl, rfl, _, _⟩ := hf.get_left p
  exact hc.2 i c _ q hb

/-- Whether a value is a struct. -/
theorem enc_agg {T : Ty} {x : T.den} : (T.isTup = true ∧ ∃ cs, Ty.enc T x = .agg cs) ∨ (T.isTup = false ∧ Pl1 (Ty.enc T x)) := by
  cases T with
  | tup fs => exact .inl ⟨rfl, _, rfl⟩
  | int k => exact .inr ⟨rfl, .inl ⟨_, rfl, rfl⟩⟩
  | bool => exact .inr ⟨rfl, .inl ⟨_, rfl, rfl⟩⟩
  | str => exact .inr ⟨rfl, .inl ⟨_, rfl, rfl⟩⟩
  | list e => exact .inr ⟨rfl, .inr ⟨_, _, rfl⟩⟩
  | fnc f => exact .inr ⟨rfl, .inl ⟨_, rfl, rfl⟩⟩
  | listF e =>
    cases x with
    | none => exact .inr ⟨rfl, .inl ⟨_, rfl, rfl⟩⟩
    | some xs => exact .inr ⟨rfl, .inr ⟨_, _, rfl⟩⟩
theorem wp_keep {T : Ty} {x : T.den} {a : AV} (hw : Wp a (Ty.enc T x)) (H : List AObj) : keepA H a = some a ∧ rowsA a = [] := by
  have kl : ∀ l : List AV, (∀ c ∈ l, Pl1 c) → keepL H l = some l ∧ l.flatMap rows1 = [] := by
    intro l
    induction l with
    | nil => intro _; exact ⟨rfl, rfl⟩
    | cons c l ih =>
      intro h
      obtain ⟨i1, i2⟩ := ih fun c hc => h c (by simp [hc])
      have hp := h c (by simp)
      exact ⟨by simp only [keepL, hp.keep H, i1], by simp [hp.rows, i2]⟩
  rcases enc_agg (x := x) with ⟨_, cs, he⟩ | ⟨_, hp⟩
  · rw [he] at hw
    obtain ⟨as, rfl, _⟩ := hw.agg_inv
    rw [← he] at hw
    obtain ⟨k1, k2⟩ := kl as fun c hc => wp_pl hw hc
    exact ⟨by simp [keepA, k1], k2⟩
  · have hp' := hp.of_wp hw
    rcases hp' with ⟨y, rfl, hy⟩ | ⟨sz, xs, rfl⟩
    · exact ⟨by simp [keepA, keep1, hy], rfl⟩
    · exact ⟨rfl, rfl⟩
theorem wp_st {T : Ty} {x : T.den} {a : AV} (hw : Wp a (Ty.enc T x)) (pr : Bool) : stCells pr a = some a.cells := by
  rcases enc_agg (x := x) with ⟨_, cs, he⟩ | ⟨_, hp⟩
  · rw [he] at hw
    obtain ⟨as, rfl, _⟩ := hw.agg_inv
    rw [← he] at hw
    have : as.all (st1 pr) = true := List.all_eq_true.2 fun c hc => (wp_pl hw hc).st pr
    simp [stCells, this, AV.cells]
  · have hp' := hp.of_wp hw
    have := hp'.st pr
    rcases hp' with ⟨y, rfl, hy⟩ | ⟨sz, xs, rfl⟩ <;> simp [stCells, AV.cells] <;> exact this

theorem encL_len (fs : List Ty) (x : Ty.denL fs) : (Ty.encL fs x).length = Ty.sizeL fs := enc_cells (.tup fs) x

/-- A place in a native value. -/
theorem at_spec (T : Ty) : ∀ (x : T.den) (o sz : Nat) (ag : Bool) (v : XV), atT T x o sz ag = some v → ∃ (T' : Ty) (x' : T'.den), v = .d T' x' ∧ (if ag = true then o + sz ≤ (Ty.enc T x).cells.length ∧ Ty.enc T' x' = .agg (((Ty.enc T x).cells.drop o).take sz) else (Ty.enc T x).cells[o]? = some (Ty.enc T' x')) := by
  have one : ∀ (T : Ty) (x : T.den) (o : Nat) (ag : Bool) (v : XV), (Ty.enc T x).cells = [Ty.enc T x] → (if (Nat.beq o 0 && !ag) = true then some (XV.d T x) else none) = some v → ∃ (T' : Ty) (x' : T'.den), v = .d T' x' ∧ ∀ sz, (if ag = true then o + sz ≤ (Ty.enc T x).cells.length ∧ Ty.enc T' x' = .agg (((Ty.enc T x).cells.drop o).take sz) else (Ty.enc T x).cells[o]? = some (Ty.enc T' x')) := by
    intro T x o ag v hc h
    split at h
    · rename_i hb
      simp only [Bool.and_eq_true, Bool.not_eq_true'] at hb
      cases h
      have ho := Nat.eq_of_beq_eq_true hb.1
      subst ho
      refine ⟨T, x, rfl, fun sz => ?_⟩
      rw [hb.2, hc]; rfl
    · cases h
  refine Ty.rec (motive_1 := fun T => ∀ (x : T.den) (o sz : Nat) (ag : Bool) (v : XV), atT T x o sz ag = some v → ∃ (T' : Ty) (x' : T'.den), v = .d T' x' ∧ (if ag = true then o + sz ≤ (Ty.enc T x).cells.length ∧ Ty.enc T' x' = .agg (((Ty.enc T x).cells.drop o).take sz) else (Ty.enc T x).cells[o]? = some (Ty.enc T' x')))
    (motive_2 := fun fs => ∀ (x : Ty.denL fs) (o sz : Nat) (ag : Bool) (v : XV), atL fs x o sz ag = some v → ∃ (T' : Ty) (x' : T'.den), v = .d T' x' ∧ (if ag = true then o + sz ≤ (Ty.encL fs x).length ∧ Ty.enc T' x' = .agg (((Ty.encL fs x).drop o).take sz) else (Ty.encL fs x)[o]? = some (Ty.enc T' x'))) ?_ ?_ ?_ ?_ ?_ ?_ ?_ ?_ ?_ T
  · intro k x o sz ag v h; obtain ⟨T', x', a, b⟩ := one (.int k) x o ag v rfl h; exact ⟨T', x', a, b sz⟩
  · intro x o sz ag v h; obtain ⟨T', x', a, b⟩ := one .bool x o ag v rfl h; exact ⟨T', x', a, b sz⟩
  · intro x o sz ag v h; obtain ⟨T', x', a, b⟩ := one .str x o ag v rfl h; exact ⟨T', x', a, b sz⟩
  · intro e _ x o sz ag v h; obtain ⟨T', x', a, b⟩ := one (.list e) x o ag v rfl h; exact ⟨T', x', a, b sz⟩
  · intro fs ih x o sz ag v h
    simp only [atT] at h
    split at h
    · rename_i hb
      simp only [Bool.and_eq_true] at hb
      cases h
      have ho := Nat.eq_of_beq_eq_true hb.1.1
      have hs := Nat.eq_of_beq_eq_true hb.2
      subst ho hs
      refine ⟨.tup fs, x, rfl, ?_⟩
      rw [hb.1.2]
      have hlen : (Ty.encL fs x).length = Ty.sizeL fs := encL_len fs x
      show (if true = true then 0 + Ty.sizeL fs ≤ (Ty.encL fs x).length ∧ AV.agg (Ty.encL fs x) = .agg (((Ty.encL fs x).drop 0).take (Ty.sizeL fs)) else _)
      rw [if_pos rfl]
      exact ⟨by omega, by rw [List.drop_zero, List.take_of_length_le (by omega)]⟩
    · exact ih x o sz ag v h
  · intro f x o sz ag v h; obtain ⟨T', x', a, b⟩ := one (.fnc f) x o ag v rfl h; exact ⟨T', x', a, b sz⟩
  · intro e _ x o sz ag v h; obtain ⟨T', x', a, b⟩ := one (.listF e) x o ag v (by cases x <;> rfl) h; exact ⟨T', x', a, b sz⟩
  · intro x o sz ag v h; simp [atL] at h
  · intro t ts h1 h2 x o sz ag v h
    simp only [atL] at h
    have hl : (Ty.enc t x.1).cells.length = t.size := enc_cells t x.1
    split at h
    · rename_i ho
      have ho : o < t.size := blt_t ho
      obtain ⟨T', x', rfl, hq⟩ := h1 x.1 o sz ag v h
      refine ⟨T', x', rfl, ?_⟩
      simp only [Ty.encL]
      cases ag with
      | true =>
        simp only [if_true] at hq ⊢
        refine ⟨by rw [List.length_append]; omega, ?_⟩
        rw [hq.2, List.drop_append_of_le_length (by omega), List.take_append_of_le_length (by rw [List.length_drop]; omega)]
      | false =>
        simp only [Bool.false_eq_true, if_false] at hq ⊢
        rw [List.getElem?_append_left (by rw [hl]; exact ho)]; exact hq
    · rename_i ho
      have ho : t.size ≤ o := blt_f ho
      obtain ⟨T', x', rfl, hq⟩ := h2 x.2 (o - t.size) sz ag v h
      refine ⟨T', x', rfl, ?_⟩
      simp only [Ty.encL]
      cases ag with
      | true =>
        simp only [if_true] at hq ⊢
        refine ⟨by rw [List.length_append]; omega, ?_⟩
        have e1 : (Ty.enc t x.1).cells.drop o = [] := List.drop_eq_nil_of_le (by omega)
        rw [hq.2, List.drop_append, e1, List.nil_append, hl]
      | false =>
        simp only [Bool.false_eq_true, if_false] at hq ⊢
        rw [List.getElem?_append_right (by omega), hl]; exact hq

theorem cast_cells {A B : Ty} {x : A.den} {y : B.den} (h : castT x = some y) : Ty.enc B y = Ty.enc A x ∧ A = B := by
  obtain ⟨rfl, rfl⟩ := castT_eq h; exact ⟨rfl, rfl⟩
/-- A native value with another one in a place of it. -/
theorem set_spec {U : Ty} (y : U.den) (T : Ty) : ∀ (x : T.den) (o : Nat) (z : T.den), setT y T x o = some z → o + U.size ≤ T.size ∧ (Ty.enc T z).cells = (Ty.enc T x).cells.take o ++ (Ty.enc U y).cells ++ (Ty.enc T x).cells.drop (o + U.size) ∧ (T.isTup = false → o = 0 ∧ U.size = 1) := by
  have whole : ∀ (T : Ty) (x z : T.den), castT y = some z → 0 + U.size ≤ T.size ∧ (Ty.enc T z).cells = (Ty.enc T x).cells.take 0 ++ (Ty.enc U y).cells ++ (Ty.enc T x).cells.drop (0 + U.size) := by
    intro T x z h
    obtain ⟨e1, e2⟩ := cast_cells h
    subst e2
    refine ⟨by omega, ?_⟩
    rw [e1, List.take_zero, List.nil_append, List.drop_eq_nil_of_le (by rw [enc_cells]; omega), List.append_nil]
  have one : ∀ (T : Ty) (x z : T.den) (o : Nat), T.size = 1 → (if Nat.beq o 0 = true then castT y else none) = some z → o + U.size ≤ T.size ∧ (Ty.enc T z).cells = (Ty.enc T x).cells.take o ++ (Ty.enc U y).cells ++ (Ty.enc T x).cells.drop (o + U.size) ∧ (T.isTup = false → o = 0 ∧ U.size = 1) := by
    intro T x z o hs h
    split at h
    · rename_i ho
      have ho := Nat.eq_of_beq_eq_true ho
      subst ho
      obtain ⟨a, b⟩ := whole T x z h
      refine ⟨a, b, fun _ => ⟨rfl, ?_⟩⟩
      rw [(cast_cells h).2]; exact hs
    · cases h
  refine Ty.rec (motive_1 := fun T => ∀ (x : T.den) (o : Nat) (z : T.den), setT y T x o = some z → o + U.size ≤ T.size ∧ (Ty.enc T z).cells = (Ty.enc T x).cells.take o ++ (Ty.enc U y).cells ++ (Ty.enc T x).cells.drop (o + U.size) ∧ (T.isTup = false → o = 0 ∧ U.size = 1))
    (motive_2 := fun fs => ∀ (x : Ty.denL fs) (o : Nat) (z : Ty.denL fs), setL y fs x o = some z → o + U.size ≤ Ty.sizeL fs ∧ Ty.encL fs z = (Ty.encL fs x).take o ++ (Ty.enc U y).cells ++ (Ty.encL fs x).drop (o + U.size)) ?_ ?_ ?_ ?_ ?_ ?_ ?_ ?_ ?_ T
  · intro k x o z h; exact one (.int k) x z o rfl h
  · intro x o z h; exact one .bool x z o rfl h
  · intro x o z h; exact one .str x z o rfl h
  · intro e _ x o z h; exact one (.list e) x z o rfl h
  · intro fs ih x o z h
    have h' : (if (Nat.beq o 0 && Ty.same U (.tup fs)) = true then castT (b := .tup fs) y else (show Option (Ty.den (.tup fs)) from setL y fs x o)) = some z := h
    by_cases hb : (Nat.beq o 0 && Ty.same U (.tup fs)) = true
    · rw [if_pos hb] at h'
      simp only [Bool.and_eq_true] at hb
      have ho := Nat.eq_of_beq_eq_true hb.1
      subst ho
      obtain ⟨a, b⟩ := whole (.tup fs) x z h'
      exact ⟨a, b, fun q => by cases q⟩
    · rw [if_neg hb] at h'
      obtain ⟨a, b⟩ := ih x o z h'
      exact ⟨a, b, fun q => by cases q⟩
  · intro f x o z h; exact one (.fnc f) x z o rfl h
  · intro e _ x o z h; exact one (.listF e) x z o rfl h
  · intro x o z h; simp [setL] at h
  · intro t ts h1 h2 x o z h
    have hl : (Ty.enc t x.1).cells.length = t.size := enc_cells t x.1
    simp only [setL] at h
    split at h
    · rename_i ho
      have ho : o < t.size := blt_t ho
      obtain ⟨u, hu, rfl⟩ : ∃ u, setT y t x.1 o = some u ∧ z = (u, x.2) := by
        cases hu : setT y t x.1 o with
        | none => rw [hu] at h; cases h
        | some u => rw [hu] at h; cases h; exact ⟨u, rfl, rfl⟩
      obtain ⟨a, b, _⟩ := h1 x.1 o u hu
      refine ⟨by simp only [Ty.sizeL]; omega, ?_⟩
      simp only [Ty.encL]
      rw [b, List.take_append_of_le_length (by omega), List.drop_append_of_le_length (by omega)]
      simp only [List.append_assoc]
    · rename_i ho
      have ho : t.size ≤ o := blt_f ho
      obtain ⟨u, hu, rfl⟩ : ∃ u, setL y ts x.2 (o - t.size) = some u ∧ z = (x.1, u) := by
        cases hu : setL y ts x.2 (o - t.size) with
        | none => rw [hu] at h; cases h
        | some u => rw [hu] at h; cases h; exact ⟨u, rfl, rfl⟩
      obtain ⟨a, b⟩ := h2 x.2 (o - t.size) u hu
      refine ⟨by simp only [Ty.sizeL]; omega, ?_⟩
      simp only [Ty.encL]
      have e1 : (Ty.enc t x.1).cells.take o = (Ty.enc t x.1).cells := List.take_of_length_le (by omega)
      have e2 : (Ty.enc t x.1).cells.drop (o + U.size) = [] := List.drop_eq_nil_of_le (by omega)
      rw [b, List.take_append, e1, hl, List.drop_append, e2, List.nil_append, hl]
      simp only [List.append_assoc]
      rw [show o + U.size - t.size = o - t.size + U.size by omega]
end Abs
end Go.Proofs.YtamgbanmnededaaDoor
