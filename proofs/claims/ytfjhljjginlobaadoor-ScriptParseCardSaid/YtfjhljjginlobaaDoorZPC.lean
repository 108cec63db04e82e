/- Merged and trimmed by a program: X3 X4 X5 X6 X7 X8 X9 XA XB XD XE XF XG. -/
import Derived.Test.YtfjhljjginlobaaDoorZPB
set_option linter.unusedVariables false
set_option linter.unusedSimpArgs false
section
namespace Go.Proofs.YtfjhljjginlobaaDoor
namespace Abs
open Go.RowKit
theorem blt_t {a b : Nat} (h : Nat.blt a b = true) : a < b := Nat.le_of_ble_eq_true h
theorem blt_f {a b : Nat} (h : ¬ Nat.blt a b = true) : b ≤ a := Nat.le_of_lt_succ (Nat.lt_of_not_le (Nat.not_le_of_not_ble_eq_true h))
def gx (GX : GXT) : Nat → Option (List AV) := fun g => if Nat.blt g 1000000 = true then match GX g with
  | some ⟨T, x⟩ => some (Ty.enc T x).cells
  | none => match GX (g + 1000000) with
   | some ⟨.list (.int .i64), [te, b, o]⟩ => some [.v (.iface te.toNat (.pointer (some ⟨b.toNat, o.toNat, none⟩)))]
   | _ => none
 else none
def V1 (ρ : List Nat) (h : List XO) : XV → AV → Prop
 | .any, _ => True
 | .d T x, a => Wp a (Ty.enc T x)
 | .k v, a => a = .v v
 | .row id, a => ∃ ty T fz es, h[id]? = some (.row ty T fz es) ∧ a = .row (ρ.getD id 0) es.length T.size 0 es.length
 | .sub id off len, a => ∃ ty T fz es, h[id]? = some (.row ty T fz es) ∧ a = .row (ρ.getD id 0) es.length T.size off len
 | .csub id len, a => ∃ ty T fz es, h[id]? = some (.row ty T fz es) ∧ a = .crow (ρ.getD id 0) es.length T.size len ∧ len ≤ es.length
 | .vrow id, a => ∃ ty cs, h[id]? = some (.vec ty cs) ∧ a = .row (ρ.getD id 0) cs.length 1 0 cs.length
 | .me id, a => a = .v (.pointer none) ∨ ∃ o, h[id]? = some o ∧ a = .ptr (ρ.getD id 0) o.len 0 0
 | .ptr id i off, a => ∃ o, h[id]? = some o ∧ a = .ptr (ρ.getD id 0) o.len i off
 | .lp T x off, a => ∃ cs, a = .lptr cs ∧ All2 Wp cs ((Ty.enc T x).cells.drop off)
 | .agg _, _ => False
 | .tup _, _ => False
def VA (ρ : List Nat) (h : List XO) : XV → AV → Prop
 | .agg cs, a => ∃ as, a = .agg as ∧ All2 (V1 ρ h) cs as
 | x, a => V1 ρ h x a
def VT (ρ : List Nat) (h : List XO) : XV → AV → Prop
 | .tup vs, a => ∃ as, a = .tup as ∧ All2 (VA ρ h) vs as
 | x, a => VA ρ h x a
def ObjS (ρ : List Nat) (h : List XO) : XO → AObj → Prop
 | .row ty T fz es, O => O.ty = ty ∧ O.sz = T.size ∧ O.pr = true ∧ O.fz = (if fz = true then es.length else 0) ∧ All2 Wp O.es (es.map (Ty.enc T))
 | .box ty cs, O => O.ty = ty ∧ O.sz = cs.length ∧ O.pr = false ∧ O.fz = 0 ∧ ∃ e, O.es = [e] ∧ All2 (V1 ρ h) cs e.cells
 | .vec ty cs, O => O.ty = ty ∧ O.sz = 1 ∧ O.pr = false ∧ O.fz = 0 ∧ All2 (fun c e => e.cells = [e] ∧ V1 ρ h c e) cs O.es
structure HS (ρ : List Nat) (h : List XO) (H : List AObj) : Prop where
 rl : ρ.length = h.length
 nd : ρ.Nodup
 hr : ∀ (i : Nat) (o : XO), h[i]? = some o → ∃ O, H[ρ.getD i 0]? = some O ∧ ObjS ρ h o O
structure Sim (ρ : List Nat) (X : XS) (σ : St) : Prop where
 t : All2 (VT ρ X.h) X.t σ.t
 h : HS ρ X.h σ.h
def Pl1 (a : AV) : Prop := (∃ y, a = .v y ∧ y.oneCell' = true) ∨ ∃ sz xs, a = .list sz xs
theorem Pl1.keep {a : AV} (h : Pl1 a) (H : List AObj) : keep1 H a = some a := by
 rcases h with ⟨y, rfl, hy⟩ | ⟨sz, xs, rfl⟩
 ·simp [keep1, hy]
 ·rfl
theorem Pl1.rows {a : AV} (h : Pl1 a) : rows1 a = [] := by
 rcases h with ⟨y, rfl, hy⟩ | ⟨sz, xs, rfl⟩ <;> rfl
theorem Pl1.st {a : AV} (h : Pl1 a) (pr : Bool) : st1 pr a = true := by
 rcases h with ⟨y, rfl, hy⟩ | ⟨sz, xs, rfl⟩
 ·simpa [st1] using hy
 ·rfl
theorem Pl1.of_wp {a b : AV} (h : Pl1 b) (hw : Wp a b) : Pl1 a := by
 rcases h with ⟨y, rfl, hy⟩ | ⟨sz, xs, rfl⟩
 ·rw [hw.v_inv]; exact .inl ⟨y, rfl, hy⟩
 ·rcases hw.list_inv with ⟨rfl, _⟩ | ⟨ys, rfl, _⟩
  ·exact .inl ⟨_, rfl, rfl⟩
  ·exact .inr ⟨_, _, rfl⟩
theorem Pl1.cells {a : AV} (h : Pl1 a) : a.cells = [a] := by
 rcases h with ⟨y, rfl, hy⟩ | ⟨sz, xs, rfl⟩ <;> rfl
theorem flat_enc (T : Ty) : ∀ x : T.den, All2 (fun f c => ∃ (T' : Ty) (x' : T'.den), f = XV.d T' x' ∧ c = Ty.enc T' x' ∧ T'.isTup = false ∧ Pl1 c) (flat T x) (Ty.enc T x).cells := by
 refine Ty.rec (motive_1 := fun T => ∀ x : T.den, All2 (fun f c => ∃ (T' : Ty) (x' : T'.den), f = XV.d T' x' ∧ c = Ty.enc T' x' ∧ T'.isTup = false ∧ Pl1 c) (flat T x) (Ty.enc T x).cells)
  (motive_2 := fun fs => ∀ x : Ty.denL fs, All2 (fun f c => ∃ (T' : Ty) (x' : T'.den), f = XV.d T' x' ∧ c = Ty.enc T' x' ∧ T'.isTup = false ∧ Pl1 c) (flatL fs x) (Ty.encL fs x)) ?_ ?_ ?_ ?_ ?_ ?_ ?_ ?_ ?_ T
 ·intro k x; exact .cons ⟨.int k, x, rfl, rfl, rfl, .inl ⟨_, rfl, rfl⟩⟩ .nil
 ·intro x; exact .cons ⟨.bool, x, rfl, rfl, rfl, .inl ⟨_, rfl, rfl⟩⟩ .nil
 ·intro x; exact .cons ⟨.str, x, rfl, rfl, rfl, .inl ⟨_, rfl, rfl⟩⟩ .nil
 ·intro e _ x; exact .cons ⟨.list e, x, rfl, rfl, rfl, .inr ⟨_, _, rfl⟩⟩ .nil
 ·intro fs ih x; exact ih x
 ·intro f x; exact .cons ⟨.fnc f, x, rfl, rfl, rfl, .inl ⟨_, rfl, rfl⟩⟩ .nil
 ·intro e _ x
  cases x with
  | none => exact .cons ⟨.listF e, none, rfl, rfl, rfl, .inl ⟨_, rfl, rfl⟩⟩ .nil
  | some xs => exact .cons ⟨.listF e, some xs, rfl, rfl, rfl, .inr ⟨_, _, rfl⟩⟩ .nil
 ·intro x; exact .nil
 ·intro t ts h1 h2 x; exact (h1 x.1).append (h2 x.2)
theorem pl_cells {T : Ty} {x : T.den} {c : AV} (h : c ∈ (Ty.enc T x).cells) : Pl1 c := by
 obtain ⟨i, hi⟩ := List.mem_iff_getElem?.1 h
 obtain ⟨f, _, _, _, _, _, _, hp⟩ := (flat_enc T x).get_right hi
 exact hp
theorem wp_pl {T : Ty} {x : T.den} {a : AV} (hw : Wp a (Ty.enc T x)) {c : AV} (h : c ∈ a.cells) : Pl1 c := by
 obtain ⟨i, hi⟩ := List.mem_iff_getElem?.1 h
 obtain ⟨b, hb, hwb⟩ := hw.cells.get_left hi
 exact (pl_cells (List.mem_of_getElem? hb)).of_wp hwb
theorem flat_v {ρ : List Nat} {h : List XO} {T : Ty} {x : T.den} {a : AV} (hw : Wp a (Ty.enc T x)) : All2 (V1 ρ h) (flat T x) a.cells := by
 have hf := flat_enc T x
 have hc := hw.cells
 refine ⟨by rw [hf.1, hc.1], fun i f c p q => ?_⟩
 obtain ⟨b, hb, T', x', rfl, rfl, _, _⟩ := hf.get_left p
 exact hc.2 i c _ q hb
theorem enc_agg {T : Ty} {x : T.den} : (T.isTup = true ∧ ∃ cs, Ty.enc T x = .agg cs) ∨ (T.isTup = false ∧ Pl1 (Ty.enc T x)) := by
 cases T with
 | tup fs => exact .inl ⟨rfl, _, rfl⟩
 | int k => exact .inr ⟨rfl, .inl ⟨_, rfl, rfl⟩⟩
 | bool => exact .inr ⟨rfl, .inl ⟨_, rfl, rfl⟩⟩
 | str => exact .inr ⟨rfl, .inl ⟨_, rfl, rfl⟩⟩
 | list e => exact .inr ⟨rfl, .inr ⟨_, _, rfl⟩⟩
 | fnc f => exact .inr ⟨rfl, .inl ⟨_, rfl, rfl⟩⟩
 | listF e =>
  cases x with
  | none => exact .inr ⟨rfl, .inl ⟨_, rfl, rfl⟩⟩
  | some xs => exact .inr ⟨rfl, .inr ⟨_, _, rfl⟩⟩
theorem wp_keep {T : Ty} {x : T.den} {a : AV} (hw : Wp a (Ty.enc T x)) (H : List AObj) : keepA H a = some a ∧ rowsA a = [] := by
 have kl : ∀ l : List AV, (∀ c ∈ l, Pl1 c) → keepL H l = some l ∧ l.flatMap rows1 = [] := by
  intro l
  induction l with
  | nil => intro _; exact ⟨rfl, rfl⟩
  | cons c l ih =>
   intro h
   obtain ⟨i1, i2⟩ := ih fun c hc => h c (by simp [hc])
   have hp := h c (by simp)
   exact ⟨by simp only [keepL, hp.keep H, i1], by simp [hp.rows, i2]⟩
 rcases enc_agg (x := x) with ⟨_, cs, he⟩ | ⟨_, hp⟩
 ·rw [he] at hw
  obtain ⟨as, rfl, _⟩ := hw.agg_inv
  rw [← he] at hw
  obtain ⟨k1, k2⟩ := kl as fun c hc => wp_pl hw hc
  exact ⟨by simp [keepA, k1], k2⟩
 ·have hp' := hp.of_wp hw
  rcases hp' with ⟨y, rfl, hy⟩ | ⟨sz, xs, rfl⟩
  ·exact ⟨by simp [keepA, keep1, hy], rfl⟩
  ·exact ⟨rfl, rfl⟩
theorem wp_st {T : Ty} {x : T.den} {a : AV} (hw : Wp a (Ty.enc T x)) (pr : Bool) : stCells pr a = some a.cells := by
 rcases enc_agg (x := x) with ⟨_, cs, he⟩ | ⟨_, hp⟩
 ·rw [he] at hw
  obtain ⟨as, rfl, _⟩ := hw.agg_inv
  rw [← he] at hw
  have : as.all (st1 pr) = true := List.all_eq_true.2 fun c hc => (wp_pl hw hc).st pr
  simp [stCells, this, AV.cells]
 ·have hp' := hp.of_wp hw
  have := hp'.st pr
  rcases hp' with ⟨y, rfl, hy⟩ | ⟨sz, xs, rfl⟩ <;> simp [stCells, AV.cells] <;> exact this
theorem encL_len (fs : List Ty) (x : Ty.denL fs) : (Ty.encL fs x).length = Ty.sizeL fs := enc_cells (.tup fs) x
theorem at_spec (T : Ty) : ∀ (x : T.den) (o sz : Nat) (ag : Bool) (v : XV), atT T x o sz ag = some v → ∃ (T' : Ty) (x' : T'.den), v = .d T' x' ∧ (if ag = true then o + sz ≤ (Ty.enc T x).cells.length ∧ Ty.enc T' x' = .agg (((Ty.enc T x).cells.drop o).take sz) else (Ty.enc T x).cells[o]? = some (Ty.enc T' x')) := by
 have one : ∀ (T : Ty) (x : T.den) (o : Nat) (ag : Bool) (v : XV), (Ty.enc T x).cells = [Ty.enc T x] → (if (Nat.beq o 0 && !ag) = true then some (XV.d T x) else none) = some v → ∃ (T' : Ty) (x' : T'.den), v = .d T' x' ∧ ∀ sz, (if ag = true then o + sz ≤ (Ty.enc T x).cells.length ∧ Ty.enc T' x' = .agg (((Ty.enc T x).cells.drop o).take sz) else (Ty.enc T x).cells[o]? = some (Ty.enc T' x')) := by
  intro T x o ag v hc h
  split at h
  ·rename_i hb
   simp only [Bool.and_eq_true, Bool.not_eq_true'] at hb
   cases h
   have ho := Nat.eq_of_beq_eq_true hb.1
   subst ho
   refine ⟨T, x, rfl, fun sz => ?_⟩
   rw [hb.2, hc]; rfl
  ·cases h
 refine Ty.rec (motive_1 := fun T => ∀ (x : T.den) (o sz : Nat) (ag : Bool) (v : XV), atT T x o sz ag = some v → ∃ (T' : Ty) (x' : T'.den), v = .d T' x' ∧ (if ag = true then o + sz ≤ (Ty.enc T x).cells.length ∧ Ty.enc T' x' = .agg (((Ty.enc T x).cells.drop o).take sz) else (Ty.enc T x).cells[o]? = some (Ty.enc T' x')))
  (motive_2 := fun fs => ∀ (x : Ty.denL fs) (o sz : Nat) (ag : Bool) (v : XV), atL fs x o sz ag = some v → ∃ (T' : Ty) (x' : T'.den), v = .d T' x' ∧ (if ag = true then o + sz ≤ (Ty.encL fs x).length ∧ Ty.enc T' x' = .agg (((Ty.encL fs x).drop o).take sz) else (Ty.encL fs x)[o]? = some (Ty.enc T' x'))) ?_ ?_ ?_ ?_ ?_ ?_ ?_ ?_ ?_ T
 ·intro k x o sz ag v h; obtain ⟨T', x', a, b⟩ := one (.int k) x o ag v rfl h; exact ⟨T', x', a, b sz⟩
 ·intro x o sz ag v h; obtain ⟨T', x', a, b⟩ := one .bool x o ag v rfl h; exact ⟨T', x', a, b sz⟩
 ·intro x o sz ag v h; obtain ⟨T', x', a, b⟩ := one .str x o ag v rfl h; exact ⟨T', x', a, b sz⟩
 ·intro e _ x o sz ag v h; obtain ⟨T', x', a, b⟩ := one (.list e) x o ag v rfl h; exact ⟨T', x', a, b sz⟩
 ·intro fs ih x o sz ag v h
  simp only [atT] at h
  split at h
  ·rename_i hb
   simp only [Bool.and_eq_true] at hb
   cases h
   have ho := Nat.eq_of_beq_eq_true hb.1.1
   have hs := Nat.eq_of_beq_eq_true hb.2
   subst ho hs
   refine ⟨.tup fs, x, rfl, ?_⟩
   rw [hb.1.2]
   have hlen : (Ty.encL fs x).length = Ty.sizeL fs := encL_len fs x
   show (if true = true then 0 + Ty.sizeL fs ≤ (Ty.encL fs x).length ∧ AV.agg (Ty.encL fs x) = .agg (((Ty.encL fs x).drop 0).take (Ty.sizeL fs)) else _)
   rw [if_pos rfl]
   exact ⟨by omega, by rw [List.drop_zero, List.take_of_length_le (by omega)]⟩
  ·exact ih x o sz ag v h
 ·intro f x o sz ag v h; obtain ⟨T', x', a, b⟩ := one (.fnc f) x o ag v rfl h; exact ⟨T', x', a, b sz⟩
 ·intro e _ x o sz ag v h; obtain ⟨T', x', a, b⟩ := one (.listF e) x o ag v (by cases x <;> rfl) h; exact ⟨T', x', a, b sz⟩
 ·intro x o sz ag v h; simp [atL] at h
 ·intro t ts h1 h2 x o sz ag v h
  simp only [atL] at h
  have hl : (Ty.enc t x.1).cells.length = t.size := enc_cells t x.1
  split at h
  ·rename_i ho
   have ho : o < t.size := blt_t ho
   obtain ⟨T', x', rfl, hq⟩ := h1 x.1 o sz ag v h
   refine ⟨T', x', rfl, ?_⟩
   simp only [Ty.encL]
   cases ag with
   | true =>
    simp only [if_true] at hq ⊢
    refine ⟨by rw [List.length_append]; omega, ?_⟩
    rw [hq.2, List.drop_append_of_le_length (by omega), List.take_append_of_le_length (by rw [List.length_drop]; omega)]
   | false =>
    simp only [Bool.false_eq_true, if_false] at hq ⊢
    rw [List.getElem?_append_left (by rw [hl]; exact ho)]; exact hq
  ·rename_i ho
   have ho : t.size ≤ o := blt_f ho
   obtain ⟨T', x', rfl, hq⟩ := h2 x.2 (o - t.size) sz ag v h
   refine ⟨T', x', rfl, ?_⟩
   simp only [Ty.encL]
   cases ag with
   | true =>
    simp only [if_true] at hq ⊢
    refine ⟨by rw [List.length_append]; omega, ?_⟩
    have e1 : (Ty.enc t x.1).cells.drop o = [] := List.drop_eq_nil_of_le (by omega)
    rw [hq.2, List.drop_append, e1, List.nil_append, hl]
   | false =>
    simp only [Bool.false_eq_true, if_false] at hq ⊢
    rw [List.getElem?_append_right (by omega), hl]; exact hq
theorem cast_cells {A B : Ty} {x : A.den} {y : B.den} (h : castT x = some y) : Ty.enc B y = Ty.enc A x ∧ A = B := by
 obtain ⟨rfl, rfl⟩ := castT_eq h; exact ⟨rfl, rfl⟩
theorem set_spec {U : Ty} (y : U.den) (T : Ty) : ∀ (x : T.den) (o : Nat) (z : T.den), setT y T x o = some z → o + U.size ≤ T.size ∧ (Ty.enc T z).cells = (Ty.enc T x).cells.take o ++ (Ty.enc U y).cells ++ (Ty.enc T x).cells.drop (o + U.size) ∧ (T.isTup = false → o = 0 ∧ U.size = 1) := by
 have whole : ∀ (T : Ty) (x z : T.den), castT y = some z → 0 + U.size ≤ T.size ∧ (Ty.enc T z).cells = (Ty.enc T x).cells.take 0 ++ (Ty.enc U y).cells ++ (Ty.enc T x).cells.drop (0 + U.size) := by
  intro T x z h
  obtain ⟨e1, e2⟩ := cast_cells h
  subst e2
  refine ⟨by omega, ?_⟩
  rw [e1, List.take_zero, List.nil_append, List.drop_eq_nil_of_le (by rw [enc_cells]; omega), List.append_nil]
 have one : ∀ (T : Ty) (x z : T.den) (o : Nat), T.size = 1 → (if Nat.beq o 0 = true then castT y else none) = some z → o + U.size ≤ T.size ∧ (Ty.enc T z).cells = (Ty.enc T x).cells.take o ++ (Ty.enc U y).cells ++ (Ty.enc T x).cells.drop (o + U.size) ∧ (T.isTup = false → o = 0 ∧ U.size = 1) := by
  intro T x z o hs h
  split at h
  ·rename_i ho
   have ho := Nat.eq_of_beq_eq_true ho
   subst ho
   obtain ⟨a, b⟩ := whole T x z h
   refine ⟨a, b, fun _ => ⟨rfl, ?_⟩⟩
   rw [(cast_cells h).2]; exact hs
  ·cases h
 refine Ty.rec (motive_1 := fun T => ∀ (x : T.den) (o : Nat) (z : T.den), setT y T x o = some z → o + U.size ≤ T.size ∧ (Ty.enc T z).cells = (Ty.enc T x).cells.take o ++ (Ty.enc U y).cells ++ (Ty.enc T x).cells.drop (o + U.size) ∧ (T.isTup = false → o = 0 ∧ U.size = 1))
  (motive_2 := fun fs => ∀ (x : Ty.denL fs) (o : Nat) (z : Ty.denL fs), setL y fs x o = some z → o + U.size ≤ Ty.sizeL fs ∧ Ty.encL fs z = (Ty.encL fs x).take o ++ (Ty.enc U y).cells ++ (Ty.encL fs x).drop (o + U.size)) ?_ ?_ ?_ ?_ ?_ ?_ ?_ ?_ ?_ T
 ·intro k x o z h; exact one (.int k) x z o rfl h
 ·intro x o z h; exact one .bool x z o rfl h
 ·intro x o z h; exact one .str x z o rfl h
 ·intro e _ x o z h; exact one (.list e) x z o rfl h
 ·intro fs ih x o z h
  have h' : (if (Nat.beq o 0 && Ty.same U (.tup fs)) = true then castT (b := .tup fs) y else (show Option (Ty.den (.tup fs)) from setL y fs x o)) = some z := h
  by_cases hb : (Nat.beq o 0 && Ty.same U (.tup fs)) = true
  ·rw [if_pos hb] at h'
   simp only [Bool.and_eq_true] at hb
   have ho := Nat.eq_of_beq_eq_true hb.1
   subst ho
   obtain ⟨a, b⟩ := whole (.tup fs) x z h'
   exact ⟨a, b, fun q => by cases q⟩
  ·rw [if_neg hb] at h'
   obtain ⟨a, b⟩ := ih x o z h'
   exact ⟨a, b, fun q => by cases q⟩
 ·intro f x o z h; exact one (.fnc f) x z o rfl h
 ·intro e _ x o z h; exact one (.listF e) x z o rfl h
 ·intro x o z h; simp [setL] at h
 ·intro t ts h1 h2 x o z h
  have hl : (Ty.enc t x.1).cells.length = t.size := enc_cells t x.1
  simp only [setL] at h
  split at h
  ·rename_i ho
   have ho : o < t.size := blt_t ho
   obtain ⟨u, hu, rfl⟩ : ∃ u, setT y t x.1 o = some u ∧ z = (u, x.2) := by
    cases hu : setT y t x.1 o with
    | none => rw [hu] at h; cases h
    | some u => rw [hu] at h; cases h; exact ⟨u, rfl, rfl⟩
   obtain ⟨a, b, _⟩ := h1 x.1 o u hu
   refine ⟨by simp only [Ty.sizeL]; omega, ?_⟩
   simp only [Ty.encL]
   rw [b, List.take_append_of_le_length (by omega), List.drop_append_of_le_length (by omega)]
   simp only [List.append_assoc]
  ·rename_i ho
   have ho : t.size ≤ o := blt_f ho
   obtain ⟨u, hu, rfl⟩ : ∃ u, setL y ts x.2 (o - t.size) = some u ∧ z = (x.1, u) := by
    cases hu : setL y ts x.2 (o - t.size) with
    | none => rw [hu] at h; cases h
    | some u => rw [hu] at h; cases h; exact ⟨u, rfl, rfl⟩
   obtain ⟨a, b⟩ := h2 x.2 (o - t.size) u hu
   refine ⟨by simp only [Ty.sizeL]; omega, ?_⟩
   simp only [Ty.encL]
   have e1 : (Ty.enc t x.1).cells.take o = (Ty.enc t x.1).cells := List.take_of_length_le (by omega)
   have e2 : (Ty.enc t x.1).cells.drop (o + U.size) = [] := List.drop_eq_nil_of_le (by omega)
   rw [b, List.take_append, e1, hl, List.drop_append, e2, List.nil_append, hl]
   simp only [List.append_assoc]
   rw [show o + U.size - t.size = o - t.size + U.size by omega]
end Abs
end Go.Proofs.YtfjhljjginlobaaDoor
end
section
namespace Go.Proofs.YtfjhljjginlobaaDoor
namespace Abs
open Go.RowKit
def same2 : XO → XO → Prop
 | .row ty T _ es, .row ty' T' _ es' => ty = ty' ∧ T = T' ∧ es.length = es'.length
 | .box _ _, .box _ _ => True
 | .box _ _, .row _ _ _ es => es.length = 1
 | .vec _ cs, .vec _ cs' => cs.length = cs'.length
 | _, _ => False
theorem same2.refl (o : XO) : same2 o o := by cases o <;> simp [same2]
theorem same2.len {o o' : XO} (h : same2 o o') : o'.len = o.len := by
 cases o <;> cases o' <;> simp [same2] at h
 ·simp only [XO.len]; exact h.2.2.symm
 ·simp only [XO.len]; exact h
 ·rfl
 ·simp only [XO.len]; exact h.symm
def hit (kl : List Nat) : XV → Bool
 | .row j => kl.contains j
 | .sub j _ _ => kl.contains j
 | .csub j _ => kl.contains j
 | .vrow j => kl.contains j
 | .me j => kl.contains j
 | .ptr j _ _ => kl.contains j
 | _ => false
def kill1L (kl : List Nat) (x : XV) : XV := kl.foldl (fun x id => kill1 id x) x
def killAL (kl : List Nat) (x : XV) : XV := kl.foldl (fun x id => killA id x) x
def killTL (kl : List Nat) (x : XV) : XV := kl.foldl (fun x id => killT id x) x
theorem kill1L_any (kl : List Nat) : kill1L kl .any = .any := by
 induction kl with
 | nil => rfl
 | cons k kl ih => exact ih
theorem kill1_eq (id : Nat) (x : XV) : kill1 id x = if hit [id] x = true then .any else x := by
 have key : ∀ j, (Nat.beq j id = true) ↔ ([id].contains j = true) := fun j => by simp
 cases x <;> simp only [kill1, hit, key] <;> rfl
theorem kill1L_eq (kl : List Nat) : ∀ x, kill1L kl x = if hit kl x = true then .any else x := by
 induction kl with
 | nil => intro x; cases x <;> rfl
 | cons k kl ih =>
  intro x
  show kill1L kl (kill1 k x) = _
  rw [kill1_eq]
  have hc : hit (k :: kl) x = (hit [k] x || hit kl x) := by
   cases x <;> simp [hit, List.contains_cons]
  rw [hc]
  by_cases h1 : hit [k] x = true
  ·rw [if_pos h1, kill1L_any, h1]; rfl
  ·rw [if_neg h1, ih]
   simp only [Bool.not_eq_true] at h1
   rw [h1]; rfl
theorem killAL_agg (kl : List Nat) : ∀ cs, killAL kl (.agg cs) = .agg (cs.map (kill1L kl)) := by
 induction kl with
 | nil => intro cs; show XV.agg cs = .agg (cs.map fun x => x); simp
 | cons k kl ih =>
  intro cs
  show killAL kl (.agg (cs.map (kill1 k))) = _
  rw [ih, List.map_map]; rfl
theorem killAL_else (kl : List Nat) : ∀ x, (∀ cs, x ≠ .agg cs) → killAL kl x = kill1L kl x := by
 induction kl with
 | nil => intro x _; rfl
 | cons k kl ih =>
  intro x hx
  have e : killA k x = kill1 k x := by cases x <;> first | rfl | exact absurd rfl (hx _)
  show killAL kl (killA k x) = kill1L kl (kill1 k x)
  rw [e]
  refine ih _ fun cs q => ?_
  rw [kill1_eq] at q
  split at q
  ·cases q
  ·exact hx cs q
theorem killTL_tup (kl : List Nat) : ∀ vs, killTL kl (.tup vs) = .tup (vs.map (killAL kl)) := by
 induction kl with
 | nil => intro cs; show XV.tup cs = .tup (cs.map fun x => x); simp
 | cons k kl ih =>
  intro cs
  show killTL kl (.tup (cs.map (killA k))) = _
  rw [ih, List.map_map]; rfl
theorem killTL_else (kl : List Nat) : ∀ x, (∀ vs, x ≠ .tup vs) → killTL kl x = killAL kl x := by
 induction kl with
 | nil => intro x _; rfl
 | cons k kl ih =>
  intro x hx
  have e : killT k x = killA k x := by cases x <;> first | rfl | exact absurd rfl (hx _)
  show killTL kl (killT k x) = killAL kl (killA k x)
  rw [e]
  refine ih _ fun vs q => ?_
  by_cases ha : ∃ cs, x = .agg cs
  ·obtain ⟨cs, rfl⟩ := ha; cases q
  ·have e2 : killA k x = kill1 k x := by cases x <;> first | rfl | exact absurd ⟨_, rfl⟩ ha
   rw [e2, kill1_eq] at q
   split at q
   ·cases q
   ·exact hx vs q
theorem killL_map (kl : List Nat) : ∀ t, killL kl t = t.map (killTL kl) := by
 induction kl with
 | nil => intro t; show t = t.map fun x => x; simp
 | cons k kl ih =>
  intro t
  show killL kl (t.map (killT k)) = _
  rw [ih, List.map_map]; rfl
section
variable {ρ ρ' ρ'' : List Nat} {h h' h'' : List XO} {H H' H'' : List AObj}
theorem VA.of1 {x : XV} {a : AV} (hv : V1 ρ h x a) : VA ρ h x a := by
 cases x <;> first | exact hv | exact hv.elim
theorem VT.ofA {x : XV} {a : AV} (hv : VA ρ h x a) : VT ρ h x a := by
 cases x <;> first | exact hv | exact hv.elim
theorem VT.of1 {x : XV} {a : AV} (hv : V1 ρ h x a) : VT ρ h x a := VT.ofA (VA.of1 hv)
def Trn (ρ : List Nat) (h : List XO) (ρ' : List Nat) (h' : List XO) (kl : List Nat) : Prop := ∀ x a, V1 ρ h x a → V1 ρ' h' (kill1L kl x) a
theorem Trn.A {kl : List Nat} (ht : Trn ρ h ρ' h' kl) {x : XV} {a : AV} (hv : VA ρ h x a) : VA ρ' h' (killAL kl x) a := by
 by_cases ha : ∃ cs, x = .agg cs
 ·obtain ⟨cs, rfl⟩ := ha
  obtain ⟨as, rfl, hc⟩ := hv
  rw [killAL_agg]
  refine ⟨as, rfl, by simp [hc.1], fun i y b p q => ?_⟩
  rw [List.getElem?_map] at p
  cases hy : cs[i]? with
  | none => rw [hy] at p; cases p
  | some z => rw [hy] at p; cases p; exact ht z b (hc.2 i z b hy q)
 ·rw [killAL_else kl x fun cs q => ha ⟨cs, q⟩]
  exact VA.of1 (ht x a (by cases x <;> first | exact hv | exact absurd ⟨_, rfl⟩ ha))
theorem Trn.T {kl : List Nat} (ht : Trn ρ h ρ' h' kl) {x : XV} {a : AV} (hv : VT ρ h x a) : VT ρ' h' (killTL kl x) a := by
 by_cases ha : ∃ cs, x = .tup cs
 ·obtain ⟨cs, rfl⟩ := ha
  obtain ⟨as, rfl, hc⟩ := hv
  rw [killTL_tup]
  refine ⟨as, rfl, by simp [hc.1], fun i y b p q => ?_⟩
  rw [List.getElem?_map] at p
  cases hy : cs[i]? with
  | none => rw [hy] at p; cases p
  | some z => rw [hy] at p; cases p; exact ht.A (hc.2 i z b hy q)
 ·rw [killTL_else kl x fun cs q => ha ⟨cs, q⟩]
  exact VT.ofA (ht.A (by cases x <;> first | exact hv | exact absurd ⟨_, rfl⟩ ha))
theorem Trn.trans {kl kl' : List Nat} (h1 : Trn ρ h ρ' h' kl) (h2 : Trn ρ' h' ρ'' h'' kl') : Trn ρ h ρ'' h'' (kl ++ kl') := fun x a hv => by
 have : kill1L (kl ++ kl') x = kill1L kl' (kill1L kl x) := by simp [kill1L, List.foldl_append]
 rw [this]; exact h2 _ _ (h1 x a hv)
theorem Trn.mk {kl : List Nat} (hh : ∀ id o, h[id]? = some o → id ∉ kl → ∃ o', h'[id]? = some o' ∧ same2 o o') (hr : ∀ id, id < h.length → ρ'.getD id 0 = ρ.getD id 0) : Trn ρ h ρ' h' kl := fun x a hv => by
 rw [kill1L_eq]
 split
 ·trivial
 ·rename_i hh1
  have lt : ∀ {id : Nat} {o : XO}, h[id]? = some o → id < h.length := fun q => (List.getElem?_eq_some_iff.1 q).1
  cases x with
  | row id =>
   obtain ⟨ty, T, fz, es, e1, rfl⟩ := hv
   obtain ⟨o', e2, hs⟩ := hh id _ e1 (by simpa [hit] using hh1)
   cases o' with
   | box ty' cs => exact hs.elim
   | vec ty' cs => exact hs.elim
   | row ty' T' fz' es' =>
    obtain ⟨rfl, rfl, hl⟩ := hs
    exact ⟨_, _, _, es', e2, by rw [hr id (lt e1), hl]⟩
  | csub id len =>
   obtain ⟨ty, T, fz, es, e1, rfl, hle⟩ := hv
   obtain ⟨o', e2, hs⟩ := hh id _ e1 (by simpa [hit] using hh1)
   cases o' with
   | box ty' cs => exact hs.elim
   | vec ty' cs => exact hs.elim
   | row ty' T' fz' es' =>
    obtain ⟨rfl, rfl, hl⟩ := hs
    exact ⟨_, _, _, es', e2, by rw [hr id (lt e1), hl], by rw [← hl]; exact hle⟩
  | vrow id =>
   obtain ⟨ty, cs, e1, rfl⟩ := hv
   obtain ⟨o', e2, hs⟩ := hh id _ e1 (by simpa [hit] using hh1)
   cases o' with
   | box ty' cs => exact hs.elim
   | row => exact hs.elim
   | vec ty' cs' =>
    have hl : cs.length = cs'.length := hs
    exact ⟨_, cs', e2, by rw [hr id (lt e1), hl]⟩
  | sub id off len =>
   obtain ⟨ty, T, fz, es, e1, rfl⟩ := hv
   obtain ⟨o', e2, hs⟩ := hh id _ e1 (by simpa [hit] using hh1)
   cases o' with
   | box ty' cs => exact hs.elim
   | vec ty' cs => exact hs.elim
   | row ty' T' fz' es' =>
    obtain ⟨rfl, rfl, hl⟩ := hs
    exact ⟨_, _, _, es', e2, by rw [hr id (lt e1), hl]⟩
  | me id =>
   rcases hv with hv | ⟨o, e1, rfl⟩
   ·exact .inl hv
   ·obtain ⟨o', e2, hs⟩ := hh id _ e1 (by simpa [hit] using hh1)
    exact .inr ⟨o', e2, by rw [hr id (lt e1), hs.len]⟩
  | ptr id i off =>
   obtain ⟨o, e1, rfl⟩ := hv
   obtain ⟨o', e2, hs⟩ := hh id _ e1 (by simpa [hit] using hh1)
   exact ⟨o', e2, by rw [hr id (lt e1), hs.len]⟩
  | _ => exact hv
theorem map_kill_nil (cs : List XV) : cs.map (kill1L []) = cs := by show cs.map (fun x => x) = cs; simp
theorem Trn.cells {kl : List Nat} (ht : Trn ρ h ρ' h' kl) {cs : List XV} {as : List AV} (hc : All2 (V1 ρ h) cs as) : All2 (V1 ρ' h') (cs.map (kill1L kl)) as :=
 ⟨by simp [hc.1], fun i y b p q => by
  rw [List.getElem?_map] at p
  cases hy : cs[i]? with
  | none => rw [hy] at p; cases p
  | some z => rw [hy] at p; cases p; exact ht z b (hc.2 i z b hy q)⟩
def killO1 (kl : List Nat) : XO → XO
 | .box ty cs => .box ty (cs.map (kill1L kl))
 | .vec ty cs => .vec ty (cs.map (kill1L kl))
 | o => o
theorem Trn.obj {kl : List Nat} (ht : Trn ρ h ρ' h' kl) {o : XO} {O : AObj} (ho : ObjS ρ h o O) : ObjS ρ' h' (killO1 kl o) O := by
 cases o with
 | row ty T fz es => exact ho
 | box ty cs =>
  obtain ⟨a, b, c, d, e, he, hc⟩ := ho
  exact ⟨a, by simpa using b, c, d, e, he, ht.cells hc⟩
 | vec ty cs =>
  obtain ⟨a, b, c, d, hc⟩ := ho
  refine ⟨a, b, c, d, by simp [hc.1], fun i y b p q => ?_⟩
  rw [List.getElem?_map] at p
  cases hy : cs[i]? with
  | none => rw [hy] at p; cases p
  | some z => rw [hy] at p; cases p; exact ⟨(hc.2 i z b hy q).1, ht z b (hc.2 i z b hy q).2⟩
theorem killO1_nil (o : XO) : killO1 [] o = o := by
 cases o with
 | row => rfl
 | box ty cs => simp only [killO1, map_kill_nil]
 | vec ty cs => simp only [killO1, map_kill_nil]
theorem killH_map (kl : List Nat) : ∀ h, killH kl h = h.map (killO1 kl) := by
 induction kl with
 | nil => intro h; show h = h.map (killO1 []); rw [show killO1 [] = fun o => o from funext killO1_nil]; simp
 | cons k kl ih =>
  intro h
  show killH kl (h.map (killO k)) = _
  rw [ih, List.map_map]
  congr 1
  funext o
  cases o with
  | row => rfl
  | box ty cs => simp only [Function.comp, killO, killO1, List.map_map]; rfl
  | vec ty cs => simp only [Function.comp, killO, killO1, List.map_map]; rfl
theorem HS.lt (hs : HS ρ h H) {i : Nat} (hi : i < h.length) : ρ.getD i 0 < H.length := by
 obtain ⟨O, hO, _⟩ := hs.hr i h[i] (List.getElem?_eq_getElem hi)
 exact (List.getElem?_eq_some_iff.1 hO).1
theorem HS.mem_lt (hs : HS ρ h H) {x : Nat} (hx : x ∈ ρ) : x < H.length := by
 obtain ⟨i, hi⟩ := List.mem_iff_getElem?.1 hx
 have hl : i < ρ.length := (List.getElem?_eq_some_iff.1 hi).1
 have := hs.lt (i := i) (by rw [← hs.rl]; exact hl)
 simpa [List.getD, hi] using this
theorem HS.inj (hs : HS ρ h H) {i j : Nat} (hi : i < h.length) (hj : j < h.length) (he : ρ.getD i 0 = ρ.getD j 0) : i = j := by
 have hi' : i < ρ.length := by rw [hs.rl]; exact hi
 have hj' : j < ρ.length := by rw [hs.rl]; exact hj
 simp only [List.getD, List.getElem?_eq_getElem hi', List.getElem?_eq_getElem hj', Option.getD_some] at he
 have hp := List.pairwise_iff_getElem.1 hs.nd
 rcases Nat.lt_trichotomy i j with q | q | q
 ·exact absurd he (hp i j hi' hj' q)
 ·exact q
 ·exact absurd he.symm (hp j i hj' hi' q)
structure Upd (ρ : List Nat) (h : List XO) (H : List AObj) (ρ' : List Nat) (h' : List XO) (H' : List AObj) (kl tch : List Nat) : Prop where
 hs : HS ρ' h' H'
 tr : Trn ρ h ρ' h' kl
 ge : H.length ≤ H'.length
 fr : ∀ j, j < H.length → (∀ id ∈ tch, id < h.length → ρ.getD id 0 ≠ j) → H'[j]? = H[j]?
 ap : ∃ news, ρ' = ρ ++ news ∧ ∀ x ∈ news, H.length ≤ x
 hl : h.length ≤ h'.length
theorem Upd.same (hs : HS ρ h H) : Upd ρ h H ρ h H [] [] := ⟨hs, fun x a hv => hv, Nat.le_refl _, fun _ _ _ => rfl, ⟨[], by simp, by simp⟩, Nat.le_refl _⟩
theorem getD_left {l l' : List Nat} {i : Nat} (hi : i < l.length) : (l ++ l').getD i 0 = l.getD i 0 := by simp [List.getD, List.getElem?_append_left hi]
theorem Upd.new (hs : HS ρ h H) {o : XO} {O : AObj} (ho : ObjS ρ h o O) : Upd ρ h H (ρ ++ [H.length]) (h ++ [o]) (H ++ [O]) [] [] := by
 have ht : Trn ρ h (ρ ++ [H.length]) (h ++ [o]) [] := Trn.mk (fun id o' e _ => ⟨o', by rw [List.getElem?_append_left (List.getElem?_eq_some_iff.1 e).1]; exact e, same2.refl _⟩) (fun id hid => getD_left (by rw [hs.rl]; exact hid))
 refine ⟨⟨by simp [hs.rl], ?_, fun i o' e => ?_⟩, ht, by simp, fun j hj _ => List.getElem?_append_left hj, ⟨[H.length], rfl, by simp⟩, by simp⟩
 ·rw [List.nodup_append]
  refine ⟨hs.nd, by simp, fun a ha b hb => ?_⟩
  simp at hb
  have := hs.mem_lt ha
  omega
 ·rcases Nat.lt_or_ge i h.length with hi | hi
  ·rw [List.getElem?_append_left hi] at e
   obtain ⟨O', hO', hR⟩ := hs.hr i o' e
   refine ⟨O', by rw [getD_left (by rw [hs.rl]; exact hi), List.getElem?_append_left (hs.lt hi)]; exact hO', ?_⟩
   have := ht.obj hR
   rw [killO1_nil] at this; exact this
  ·have hi' : i = h.length := by have := (List.getElem?_eq_some_iff.1 e).1; simp at this; omega
   subst hi'
   rw [List.getElem?_append_right (Nat.le_refl _)] at e
   simp at e
   subst e
   refine ⟨O, by rw [← hs.rl]; simp [List.getD], ?_⟩
   have := ht.obj ho
   rw [killO1_nil] at this; exact this
theorem Upd.set (hs : HS ρ h H) {id : Nat} {o o' : XO} {O' : AObj} (he : h[id]? = some o) (hs2 : same2 o o') (ho : ObjS ρ h o' O') : Upd ρ h H ρ (h.set id o') (H.set (ρ.getD id 0) O') [] [id] := by
 have hid : id < h.length := (List.getElem?_eq_some_iff.1 he).1
 have ht : Trn ρ h ρ (h.set id o') [] := Trn.mk (fun j oj e _ => by
  by_cases hj : id = j
  ·subst hj; rw [he] at e; cases e; exact ⟨o', by rw [List.getElem?_set_self hid], hs2⟩
  ·exact ⟨oj, by rw [List.getElem?_set_ne hj]; exact e, same2.refl _⟩) (fun _ _ => rfl)
 refine ⟨⟨by simp [hs.rl], hs.nd, fun i oi e => ?_⟩, ht, by simp, fun j hj hn => ?_, ⟨[], by simp, by simp⟩, by simp⟩
 ·by_cases hi : id = i
  ·subst hi
   rw [List.getElem?_set_self hid] at e
   cases e
   refine ⟨O', by rw [List.getElem?_set_self (hs.lt hid)], ?_⟩
   have := ht.obj ho
   rw [killO1_nil] at this; exact this
  ·rw [List.getElem?_set_ne hi] at e
   have hil := (List.getElem?_eq_some_iff.1 e).1
   obtain ⟨O1, hO1, hR⟩ := hs.hr i oi e
   refine ⟨O1, by rw [List.getElem?_set_ne (fun q => hi (hs.inj hid hil q))]; exact hO1, ?_⟩
   have := ht.obj hR
   rw [killO1_nil] at this; exact this
 ·rw [List.getElem?_set_ne (hn id (by simp) hid)]
theorem Upd.app (hs : HS ρ h H) {id ty : Nat} {T : Ty} {fz fz' : Bool} {es es' : List T.den} {O' : AObj} (he : h[id]? = some (.row ty T fz es)) (ho : ObjS ρ h (.row ty T fz' es') O') : Upd ρ h H ρ (killH [id] (h.set id (.row ty T fz' es'))) (H.set (ρ.getD id 0) O') [id] [id] := by
 have hid : id < h.length := (List.getElem?_eq_some_iff.1 he).1
 rw [killH_map]
 have ht : Trn ρ h ρ ((h.set id (.row ty T fz' es')).map (killO1 [id])) [id] := Trn.mk (fun j oj e hj => by
  refine ⟨killO1 [id] oj, by rw [List.getElem?_map, List.getElem?_set_ne (by simpa using fun q => hj (by simp [q])), e]; rfl, ?_⟩
  cases oj <;> simp [same2, killO1]) (fun _ _ => rfl)
 refine ⟨⟨by simp [hs.rl], hs.nd, fun i oi e => ?_⟩, ht, by simp, fun j hj hn => ?_, ⟨[], by simp, by simp⟩, by simp⟩
 ·rw [List.getElem?_map] at e
  by_cases hi : id = i
  ·subst hi
   rw [List.getElem?_set_self hid] at e
   cases e
   exact ⟨O', by rw [List.getElem?_set_self (hs.lt hid)], ho⟩
  ·rw [List.getElem?_set_ne hi] at e
   cases hx : h[i]? with
   | none => rw [hx] at e; cases e
   | some ox =>
    rw [hx] at e; cases e
    have hil := (List.getElem?_eq_some_iff.1 hx).1
    obtain ⟨O1, hO1, hR⟩ := hs.hr i ox hx
    exact ⟨O1, by rw [List.getElem?_set_ne (fun q => hi (hs.inj hid hil q))]; exact hO1, ht.obj hR⟩
 ·rw [List.getElem?_set_ne (hn id (by simp) hid)]
theorem Upd.trans {kl kl' tch tch' : List Nat} (h1 : Upd ρ h H ρ' h' H' kl tch) (h2 : Upd ρ' h' H' ρ'' h'' H'' kl' tch') (hρ : ρ.length = h.length) : Upd ρ h H ρ'' h'' H'' (kl ++ kl') (tch ++ tch') := by
 obtain ⟨n1, e1, q1⟩ := h1.ap
 obtain ⟨n2, e2, q2⟩ := h2.ap
 refine ⟨h2.hs, h1.tr.trans h2.tr, Nat.le_trans h1.ge h2.ge, fun j hj hn => ?_, ⟨n1 ++ n2, by rw [e2, e1, List.append_assoc], fun x hx => ?_⟩, Nat.le_trans h1.hl h2.hl⟩
 ·rw [h2.fr j (Nat.lt_of_lt_of_le hj h1.ge) (fun id hid hlt => ?_), h1.fr j hj (fun id hid => hn id (by simp [hid]))]
  rcases Nat.lt_or_ge id h.length with hl | hl
  ·rw [e1, getD_left (by rw [hρ]; exact hl)]; exact hn id (by simp [hid]) hl
  ·intro hq
   have hl' : id < ρ'.length := by rw [h1.hs.rl]; exact hlt
   have : ρ'.getD id 0 ∈ n1 := by
    rw [e1] at hl' ⊢
    simp only [List.length_append] at hl'
    have : (ρ ++ n1).getD id 0 = n1[id - ρ.length]'(by omega) := by
     simp only [List.getD]
     rw [List.getElem?_append_right (by omega), List.getElem?_eq_getElem (by omega)]; rfl
    rw [this]; exact List.getElem_mem _
   have := q1 _ this
   omega
 ·rcases List.mem_append.1 hx with hx | hx
  ·exact q1 x hx
  ·exact Nat.le_trans h1.ge (q2 x hx)
def isRow (h : List XO) (id : Nat) : Prop := ∃ ty T fz es, h[id]? = some (.row ty T fz es)
theorem Upd.frz : ∀ (ids : List Nat) {h : List XO} {H : List AObj}, HS ρ h H → (∀ id ∈ ids, isRow h id) → Upd ρ h H ρ (frzX h ids) (freeze H (ids.map fun id => ρ.getD id 0)) [] ids := by
 intro ids
 induction ids with
 | nil => intro h H hs _; exact Upd.same hs
 | cons id ids ih =>
  intro h H hs hr
  obtain ⟨ty, T, fz, es, e⟩ := hr id (by simp)
  obtain ⟨O, hO, o1, o2, o3, o4, o5⟩ := hs.hr id _ e
  have hlen : O.es.length = es.length := by have := o5.1; simpa using this
  have u1 : Upd ρ h H ρ (h.set id (.row ty T true es)) (H.set (ρ.getD id 0) { O with fz := O.es.length }) [] [id] :=
   Upd.set hs e ⟨rfl, rfl, rfl⟩ ⟨o1, o2, o3, by simp [hlen], o5⟩
  have u2 := ih u1.hs (fun j hj => by
   obtain ⟨ty', T', fz', es', e'⟩ := hr j (by simp [hj])
   by_cases hij : id = j
   ·subst hij; exact ⟨ty, T, true, es, by rw [List.getElem?_set_self (List.getElem?_eq_some_iff.1 e).1]⟩
   ·exact ⟨ty', T', fz', es', by rw [List.getElem?_set_ne hij]; exact e'⟩)
  have e1 : frzX h (id :: ids) = frzX (h.set id (.row ty T true es)) ids := by simp only [frzX, List.foldl_cons, e]; rfl
  have e2 : freeze H ((id :: ids).map fun id => ρ.getD id 0) = freeze (H.set (ρ.getD id 0) { O with fz := O.es.length }) (ids.map fun id => ρ.getD id 0) := by simp only [freeze, List.map_cons, List.foldl_cons, hO]
  rw [e1, e2]
  exact u1.trans u2 hs.rl
end
end Abs
end Go.Proofs.YtfjhljjginlobaaDoor
end
section
namespace Go.Proofs.YtfjhljjginlobaaDoor
namespace Abs
open Go.RowKit
section
variable {ρ : List Nat} {h : List XO} {H : List AObj}
def KeepsA (ρ : List Nat) (h : List XO) (H : List AObj) (x : XV) (a e : AV) : Prop :=
 ∃ b, keepA H a = some b ∧ Wp b e ∧ rowsA a = (rowsX x).map (fun id => ρ.getD id 0) ∧ ∀ id ∈ rowsX x, isRow h id
theorem lst_v1 {x : XV} {a : AV} (hv : V1 ρ h x a) : V1 ρ h (lst x) a := by
 unfold lst
 split
 ·rename_i e o
  cases o with
  | none => have := Wp.v_inv hv; subst this; exact Wp.nil _
  | some xs => exact hv
 ·exact hv
theorem lst_va {x : XV} {a : AV} (hv : VA ρ h x a) : VA ρ h (lst x) a := by
 by_cases ha : ∃ cs, x = .agg cs
 ·obtain ⟨cs, rfl⟩ := ha; exact hv
 ·exact VA.of1 (lst_v1 (by cases x <;> first | exact hv | exact absurd ⟨_, rfl⟩ ha))
theorem lst_vt {x : XV} {a : AV} (hv : VT ρ h x a) : VT ρ h (lst x) a := by
 by_cases ha : ∃ cs, x = .tup cs
 ·obtain ⟨cs, rfl⟩ := ha; exact hv
 ·exact VT.ofA (lst_va (by cases x <;> first | exact hv | exact absurd ⟨_, rfl⟩ ha))
theorem lst_rows (x : XV) : rowsX (lst x) = rowsX x := by
 unfold lst
 split <;> rfl
def DLs (ρ : List Nat) (h : List XO) (H : List AObj) (fs : List Ty) : Prop :=
 ∀ (cs : List XV) (as : List AV) (z : Ty.denL fs) (r : List XV), All2 (V1 ρ h) cs as → toDL h fs cs = some (z, r) →
  ∃ cs1 as1 as2 bs, cs = cs1 ++ r ∧ as = as1 ++ as2 ∧ All2 (V1 ρ h) r as2 ∧ keepL H as1 = some bs ∧ All2 Wp bs (Ty.encL fs z) ∧ as1.flatMap rows1 = (cs1.flatMap rowsX1).map (fun id => ρ.getD id 0) ∧ ∀ id ∈ cs1.flatMap rowsX1, isRow h id
theorem keepL_app2 : ∀ {l m l' m' : List AV}, keepL H l = some l' → keepL H m = some m' → keepL H (l ++ m) = some (l' ++ m') := by
 intro l
 induction l with
 | nil => intro m l' m' h1 h2; cases h1; exact h2
 | cons a l ih =>
  intro m l' m' h1 h2
  simp only [keepL] at h1
  split at h1
  ·rename_i b n hb hn
   cases h1
   simp only [List.cons_append, keepL, hb, ih hn h2]
  ·cases h1
theorem keep_d {T T' : Ty} {y : T'.den} {z : T.den} {a : AV} (hc : castT y = some z) (hv : VA ρ h (.d T' y) a) : KeepsA ρ h H (.d T' y) a (Ty.enc T z) := by
 obtain ⟨rfl, rfl⟩ := castT_eq hc
 obtain ⟨k1, k2⟩ := wp_keep (x := z) hv H
 exact ⟨a, k1, hv, k2, by simp [rowsX, rowsX1]⟩
theorem toDL_cons {t : Ty} (ht : ¬ ∃ gs, t = .tup gs) (ts : List Ty) (cs : List XV) : toDL h (t :: ts) cs = match cs with
  | [] => none
  | c :: r => match toD h t c with
   | some x => match toDL h ts r with
    | some (y, r') => some ((x, y), r')
    | none => none
   | none => none := by
 cases t <;> first | exact absurd ⟨_, rfl⟩ ht | (cases cs <;> rfl)
theorem keep_row (hs : HS ρ h H) {id off len ty : Nat} {T : Ty} {fz : Bool} {es : List T.den} (he : h[id]? = some (.row ty T fz es)) : keep1 H (.row (ρ.getD id 0) es.length T.size off len) = some (.list T.size ((((H[ρ.getD id 0]?).map (·.es)).getD []).drop off |>.take len)) ∧ Wp (.list T.size ((((H[ρ.getD id 0]?).map (·.es)).getD []).drop off |>.take len)) (Ty.enc (.list T) ((es.drop off).take len)) := by
 obtain ⟨O, hO, o1, o2, o3, o4, o5⟩ := hs.hr id _ he
 have hlen : O.es.length = es.length := by have := o5.1; simpa using this
 refine ⟨by simp only [keep1, hO, hlen, o2, o3, true_and, and_self, if_true, Option.map_some, Option.getD_some], ?_⟩
 simp only [hO, Option.map_some, Option.getD_some]
 have := (o5.drop off).take len
 show Wp _ (.list T.size (((es.drop off).take len).map (Ty.enc T)))
 rw [List.map_take, List.map_drop]
 exact .list _ _ _ this.1 this.2
theorem toD_kF {e : Ty} {v : Value} {z : Ty.den (.listF e)} (hx : toD h (.listF e) (.k v) = some z) : v = .slice none 0 0 ∧ z = none := by
 cases v with
 | slice ad n c =>
  cases ad with
  | some _ => cases hx
  | none =>
   cases n with
   | succ n => cases hx
   | zero =>
    cases c with
    | succ c => cases hx
    | zero => exact ⟨rfl, (Option.some.inj hx).symm⟩
 | _ => cases hx
theorem toD_keep2 (hs : HS ρ h H) (T : Ty) : (∀ (x : XV) (z : T.den) (a : AV), toD h T x = some z → VA ρ h x a → KeepsA ρ h H x a (Ty.enc T z)) ∧ ∀ gs, T = .tup gs → DLs ρ h H gs := by
 have scal : ∀ (T : Ty), (∀ x, toD h T x = match (generalizing := false) x with | .d T' x => castT x | _ => none) → ∀ (x : XV) (z : T.den) (a : AV), toD h T x = some z → VA ρ h x a → KeepsA ρ h H x a (Ty.enc T z) := by
  intro T hT x z a hz hv
  rw [hT] at hz
  cases x with
  | d T' y => exact keep_d hz hv
  | _ => cases hz
 refine Ty.rec (motive_1 := fun T => (∀ (x : XV) (z : T.den) (a : AV), toD h T x = some z → VA ρ h x a → KeepsA ρ h H x a (Ty.enc T z)) ∧ ∀ gs, T = .tup gs → DLs ρ h H gs)
  (motive_2 := fun fs => DLs ρ h H fs) ?_ ?_ ?_ ?_ ?_ ?_ ?_ ?_ ?_ T
 ·intro k; exact ⟨scal (.int k) (fun x => by cases x <;> simp only [toD]), fun gs q => by cases q⟩
 ·exact ⟨scal .bool (fun x => by cases x <;> simp only [toD]), fun gs q => by cases q⟩
 ·exact ⟨scal .str (fun x => by cases x <;> simp only [toD]), fun gs q => by cases q⟩
 ·intro e _
  refine ⟨fun x z a hz hv => ?_, fun gs q => by cases q⟩
  simp only [toD] at hz
  have hv := lst_va hv
  unfold KeepsA
  rw [← lst_rows x]
  show KeepsA ρ h H (lst x) a _
  generalize lst x = x at hz hv
  cases x with
  | d T' y => exact keep_d hz hv
  | k v =>
   split at hz
   all_goals first | (cases ‹_ = _›; done) | skip
   all_goals try (rename_i q; cases q)
   all_goals first
    | (cases hz; done)
    | (cases hz; have hv : a = .v (.slice none 0 0) := hv; subst hv; exact ⟨_, rfl, Wp.nil _, rfl, by simp [rowsX, rowsX1]⟩)
  | row id =>
   obtain ⟨ty, T, fz, es, he, rfl⟩ := hv
   simp only [he] at hz
   obtain ⟨q, rfl⟩ := castT_eq hz
   cases q
   obtain ⟨k1, k2⟩ := keep_row hs (off := 0) (len := es.length) he
   refine ⟨_, k1, ?_, rfl, ?_⟩
   ·simpa using k2
   ·simp [rowsX, rowsX1]; exact ⟨_, _, _, _, he⟩
  | sub id off len =>
   obtain ⟨ty, T, fz, es, he, rfl⟩ := hv
   simp only [he] at hz
   obtain ⟨q, rfl⟩ := castT_eq hz
   cases q
   obtain ⟨k1, k2⟩ := keep_row hs (off := off) (len := len) he
   refine ⟨_, k1, k2, rfl, ?_⟩
   simp [rowsX, rowsX1]; exact ⟨_, _, _, _, he⟩
  | _ => simp at hz
 ·intro fs ih
  refine ⟨fun x z a hz hv => ?_, fun gs q => by cases q; exact ih⟩
  cases x with
  | d T' y => simp only [toD] at hz; exact keep_d hz hv
  | agg cs =>
   simp only [toD] at hz
   split at hz
   ·rename_i z' hz'
    have hzz : z' = z := Option.some.inj hz
    subst hzz
    obtain ⟨as, rfl, hc⟩ := hv
    obtain ⟨cs1, as1, as2, bs, rfl, rfl, h2, hk, hw, hrows, hval⟩ := ih cs as z' [] hc hz'
    have := h2.nil_left
    subst this
    simp only [List.append_nil]
    refine ⟨.agg bs, by simp [keepA, hk], .agg _ _ hw.1 hw.2, hrows, hval⟩
   ·cases hz
  | _ => simp [toD] at hz
 ·intro f; exact ⟨scal (.fnc f) (fun x => by cases x <;> simp only [toD]), fun gs q => by cases q⟩
 ·intro e _
  refine ⟨fun x z a hz hv => ?_, fun gs q => by cases q⟩
  cases x with
  | d T' y =>
   simp only [toD] at hz
   split at hz
   ·rename_i o ho; cases hz; exact keep_d ho hv
   ·split at hz
    ·rename_i xs hxs
     cases hz
     exact (show KeepsA ρ h H (.d T' y) a (Ty.enc (.list e) xs) from keep_d hxs hv)
    ·cases hz
  | k v =>
   obtain ⟨rfl, rfl⟩ := toD_kF hz
   have hv : a = .v (.slice none 0 0) := hv
   subst hv
   exact ⟨_, rfl, Wp.refl _, rfl, by simp [rowsX, rowsX1]⟩
  | row id =>
   obtain ⟨ty, T, fz, es, he, rfl⟩ := hv
   simp only [toD, he] at hz
   split at hz
   ·rename_i xs hxs
    cases hz
    obtain ⟨q, rfl⟩ := castT_eq hxs
    cases q
    obtain ⟨k1, k2⟩ := keep_row hs (off := 0) (len := es.length) he
    refine ⟨_, k1, ?_, rfl, ?_⟩
    ·show Wp _ (Ty.enc (.list e) es)
     simpa using k2
    ·simp [rowsX, rowsX1]; exact ⟨_, _, _, _, he⟩
   ·cases hz
  | sub id off len =>
   obtain ⟨ty, T, fz, es, he, rfl⟩ := hv
   simp only [toD, he] at hz
   split at hz
   ·rename_i xs hxs
    cases hz
    obtain ⟨q, rfl⟩ := castT_eq hxs
    cases q
    obtain ⟨k1, k2⟩ := keep_row hs (off := off) (len := len) he
    refine ⟨_, k1, k2, rfl, ?_⟩
    simp [rowsX, rowsX1]; exact ⟨_, _, _, _, he⟩
   ·cases hz
  | _ => simp [toD] at hz
 ·intro cs as z r hc hz
  simp only [toDL] at hz
  cases hz
  exact ⟨[], [], as, [], rfl, rfl, hc, rfl, .nil, rfl, by simp⟩
 ·intro t ts h1 h2 cs as z r hc hz
  by_cases ht : ∃ gs, t = .tup gs
  ·obtain ⟨gs, rfl⟩ := ht
   simp only [toDL] at hz
   split at hz
   ·rename_i x r1 hx
    split at hz
    ·rename_i y r2 hy
     cases hz
     obtain ⟨cs1, as1, as2, bs, rfl, rfl, q2, hk, hw, hrows, hval⟩ := h1.2 gs rfl cs as x r1 hc hx
     obtain ⟨cs3, as3, as4, bs', rfl, rfl, q2', hk', hw', hrows', hval'⟩ := h2 _ _ y r q2 hy
     refine ⟨cs1 ++ cs3, as1 ++ as3, as4, bs ++ bs', by simp, by simp, q2', keepL_app2 hk hk', ?_, by simp [hrows, hrows'], fun id hid => ?_⟩
     ·simp only [Ty.encL]; exact hw.append hw'
     ·simp only [List.flatMap_append, List.mem_append] at hid
      rcases hid with q | q
      ·exact hval id q
      ·exact hval' id q
    ·cases hz
   ·cases hz
  ·rw [toDL_cons ht] at hz
   cases cs with
   | nil => cases hz
   | cons c cr =>
    simp only at hz
    split at hz
    ·rename_i x hx
     split at hz
     ·rename_i y r2 hy
      cases hz
      obtain ⟨a, as', rfl, hv, hc'⟩ := hc.cons_left
      obtain ⟨b, kb, wb, rb, vb⟩ := h1.1 c x a hx (VA.of1 hv)
      obtain ⟨cs3, as3, as4, bs', rfl, rfl, q2', hk', hw', hrows', hval'⟩ := h2 _ _ y r hc' hy
      have htup : t.isTup = false := by cases t <;> first | rfl | exact absurd ⟨_, rfl⟩ ht
      have hpb : Pl1 b := by
       rcases enc_agg (T := t) (x := x) with ⟨q, _⟩ | ⟨_, q⟩
       ·rw [htup] at q; cases q
       ·exact q.of_wp wb
      have hna : ∀ us, a ≠ .agg us := fun us q => by
       subst q
       simp only [keepA, Option.map_eq_some_iff] at kb
       obtain ⟨_, _, q⟩ := kb
       subst q
       rcases hpb with ⟨_, q, _⟩ | ⟨_, _, q⟩ <;> cases q
      have kb1 : keep1 H a = some b := by cases a <;> first | exact kb | exact absurd rfl (hna _)
      have rb1 : rows1 a = rowsA a := by cases a <;> first | rfl | exact absurd rfl (hna _)
      have rx1 : rowsX1 c = rowsX c := by cases c <;> first | rfl | exact hv.elim
      refine ⟨c :: cs3, a :: as3, as4, b :: bs', by simp, by simp, q2', by simp only [keepL, kb1, hk'], ?_, by simp [hrows', rb1, rb, rx1], fun id hid => ?_⟩
      ·have hcel : (Ty.enc t x).cells = [Ty.enc t x] := by
        rcases enc_agg (T := t) (x := x) with ⟨q, _⟩ | ⟨_, q⟩
        ·rw [htup] at q; cases q
        ·exact q.cells
       show All2 Wp (b :: bs') ((Ty.enc t x).cells ++ Ty.encL ts y)
       rw [hcel]
       exact .cons wb hw'
      ·simp only [List.flatMap_cons, List.mem_append] at hid
       rcases hid with q | q
       ·exact vb id (rx1 ▸ q)
       ·exact hval' id q
     ·cases hz
    ·cases hz
theorem toD_keep (hs : HS ρ h H) {T : Ty} {x : XV} {z : T.den} {a : AV} (hz : toD h T x = some z) (hv : VA ρ h x a) : KeepsA ρ h H x a (Ty.enc T z) := (toD_keep2 hs T).1 x z a hz hv
theorem toD_pure2 (T : Ty) : (∀ (x : XV) (z : T.den) (a : AV), toD [] T x = some z → VA ρ h x a → Wp a (Ty.enc T z)) ∧ ∀ gs, T = .tup gs → ∀ (cs : List XV) (as : List AV) (z : Ty.denL gs) (r : List XV), All2 (V1 ρ h) cs as → toDL [] gs cs = some (z, r) → ∃ as1 as2, as = as1 ++ as2 ∧ All2 (V1 ρ h) r as2 ∧ All2 Wp as1 (Ty.encL gs z) := by
 have dd : ∀ (T T' : Ty) (y : T'.den) (z : T.den) (a : AV), castT y = some z → VA ρ h (.d T' y) a → Wp a (Ty.enc T z) := by
  intro T T' y z a hc hv
  obtain ⟨rfl, rfl⟩ := castT_eq hc
  exact hv
 have scal : ∀ (T : Ty), (∀ x, toD [] T x = match (generalizing := false) x with | .d T' x => castT x | _ => none) → ∀ (x : XV) (z : T.den) (a : AV), toD [] T x = some z → VA ρ h x a → Wp a (Ty.enc T z) := by
  intro T hT x z a hz hv
  rw [hT] at hz
  cases x with
  | d T' y => exact dd _ _ _ _ _ hz hv
  | _ => cases hz
 refine Ty.rec (motive_1 := fun T => (∀ (x : XV) (z : T.den) (a : AV), toD [] T x = some z → VA ρ h x a → Wp a (Ty.enc T z)) ∧ ∀ gs, T = .tup gs → ∀ (cs : List XV) (as : List AV) (z : Ty.denL gs) (r : List XV), All2 (V1 ρ h) cs as → toDL [] gs cs = some (z, r) → ∃ as1 as2, as = as1 ++ as2 ∧ All2 (V1 ρ h) r as2 ∧ All2 Wp as1 (Ty.encL gs z))
  (motive_2 := fun gs => ∀ (cs : List XV) (as : List AV) (z : Ty.denL gs) (r : List XV), All2 (V1 ρ h) cs as → toDL [] gs cs = some (z, r) → ∃ as1 as2, as = as1 ++ as2 ∧ All2 (V1 ρ h) r as2 ∧ All2 Wp as1 (Ty.encL gs z)) ?_ ?_ ?_ ?_ ?_ ?_ ?_ ?_ ?_ T
 ·intro k; exact ⟨scal (.int k) (fun x => by cases x <;> simp only [toD]), fun gs q => by cases q⟩
 ·exact ⟨scal .bool (fun x => by cases x <;> simp only [toD]), fun gs q => by cases q⟩
 ·exact ⟨scal .str (fun x => by cases x <;> simp only [toD]), fun gs q => by cases q⟩
 ·intro e _
  refine ⟨fun x z a hz hv => ?_, fun gs q => by cases q⟩
  simp only [toD] at hz
  have hv := lst_va hv
  generalize lst x = x at hz hv
  cases x with
  | d T' y => exact dd _ _ _ _ _ hz hv
  | k v =>
   split at hz
   all_goals first | (cases ‹_ = _›; done) | skip
   all_goals try (rename_i q; cases q)
   all_goals first
    | (cases hz; done)
    | (cases hz; have hv : a = .v (.slice none 0 0) := hv; subst hv; exact Wp.nil _)
  | _ => simp at hz
 ·intro fs ih
  refine ⟨fun x z a hz hv => ?_, fun gs q => by cases q; exact ih⟩
  cases x with
  | d T' y => simp only [toD] at hz; exact dd _ _ _ _ _ hz hv
  | agg cs =>
   simp only [toD] at hz
   split at hz
   ·rename_i z' hz'
    have hzz : z' = z := Option.some.inj hz
    subst hzz
    obtain ⟨as, rfl, hc⟩ := hv
    obtain ⟨as1, as2, rfl, h2, hw⟩ := ih cs as z' [] hc hz'
    have := h2.nil_left
    subst this
    rw [List.append_nil]
    exact .agg _ _ hw.1 hw.2
   ·cases hz
  | _ => simp [toD] at hz
 ·intro f; exact ⟨scal (.fnc f) (fun x => by cases x <;> simp only [toD]), fun gs q => by cases q⟩
 ·intro e _
  refine ⟨fun x z a hz hv => ?_, fun gs q => by cases q⟩
  cases x with
  | d T' y =>
   simp only [toD] at hz
   split at hz
   ·rename_i o ho; cases hz; exact dd _ _ _ _ _ ho hv
   ·split at hz
    ·rename_i xs hxs
     cases hz
     exact (show Wp a (Ty.enc (.list e) xs) from dd _ _ _ _ _ hxs hv)
    ·cases hz
  | k v =>
   obtain ⟨rfl, rfl⟩ := toD_kF hz
   have hv : a = .v (.slice none 0 0) := hv
   subst hv
   exact Wp.refl _
  | _ => simp [toD] at hz
 ·intro cs as z r hc hz
  simp only [toDL] at hz
  cases hz
  exact ⟨[], as, rfl, hc, .nil⟩
 ·intro t ts h1 h2 cs as z r hc hz
  by_cases ht : ∃ gs, t = .tup gs
  ·obtain ⟨gs, rfl⟩ := ht
   simp only [toDL] at hz
   split at hz
   ·rename_i x r1 hx
    split at hz
    ·rename_i y r2 hy
     cases hz
     obtain ⟨as1, as2, rfl, q2, hw⟩ := h1.2 gs rfl cs as x r1 hc hx
     obtain ⟨as3, as4, rfl, q2', hw'⟩ := h2 _ _ y r q2 hy
     refine ⟨as1 ++ as3, as4, by simp, q2', ?_⟩
     simp only [Ty.encL]; exact hw.append hw'
    ·cases hz
   ·cases hz
  ·rw [toDL_cons ht] at hz
   cases cs with
   | nil => cases hz
   | cons c cr =>
    simp only at hz
    split at hz
    ·rename_i x hx
     split at hz
     ·rename_i y r2 hy
      cases hz
      obtain ⟨a, as', rfl, hv, hc'⟩ := hc.cons_left
      have wb := h1.1 c x a hx (VA.of1 hv)
      obtain ⟨as3, as4, rfl, q2', hw'⟩ := h2 _ _ y r hc' hy
      have htup : t.isTup = false := by cases t <;> first | rfl | exact absurd ⟨_, rfl⟩ ht
      refine ⟨a :: as3, as4, by simp, q2', ?_⟩
      have hcel : (Ty.enc t x).cells = [Ty.enc t x] := by
       rcases enc_agg (T := t) (x := x) with ⟨q, _⟩ | ⟨_, q⟩
       ·rw [htup] at q; cases q
       ·exact q.cells
      show All2 Wp (a :: as3) ((Ty.enc t x).cells ++ Ty.encL ts y)
      rw [hcel]
      exact .cons wb hw'
     ·cases hz
    ·cases hz
theorem toD_pure {T : Ty} {x : XV} {z : T.den} {a : AV} (hz : toD [] T x = some z) (hv : VA ρ h x a) : Wp a (Ty.enc T z) := (toD_pure2 T).1 x z a hz hv
end
end Abs
end Go.Proofs.YtfjhljjginlobaaDoor
end
section
namespace Go.Proofs.YtfjhljjginlobaaDoor
namespace Abs
open Go.RowKit
section
variable {ρ : List Nat} {h : List XO} {H : List AObj} {σ : St} {Gl : Nat → Option (List AV)} {rd : Opd → XV} {tt : Nat → Option Ty}
theorem vt_int {k : IntKind} {n : Int} {a : AV} (hv : VT ρ h (.d (.int k) n) a) : a = .v (.int k n) := Wp.v_inv hv
theorem vt_bool {b : Bool} {a : AV} (hv : VT ρ h (.d .bool b) a) : a = .v (.bool b) := Wp.v_inv hv
theorem vt_str {s : ByteArray} {a : AV} (hv : VT ρ h (.d .str s) a) : a = .v (.string s) := Wp.v_inv hv
theorem vt_fnc {f : FuncId} {u : Unit} {a : AV} (hv : VT ρ h (.d (.fnc f) u) a) : a = .v (.func (.func f) #[] #[]) := Wp.v_inv hv
theorem vt_k {v : Value} {a : AV} (hv : VT ρ h (.k v) a) : a = .v v := hv
theorem VT.notup {x : XV} {a : AV} (hv : VT ρ h x a) (hx : ∀ vs, x ≠ .tup vs) : VA ρ h x a := by
 cases x <;> first | exact hv | exact absurd rfl (hx _)
theorem vt_d {T : Ty} {x : T.den} {a : AV} (hw : Wp a (Ty.enc T x)) : VT ρ h (.d T x) a := hw
theorem iLe_le {a b : Int} (h : iLe a b = true) : a ≤ b := of_decide_eq_true h
theorem xbinI_ok {k : IntKind} {a b : Int} {op : BinOp} {p : Bool} {v : XV} (hx : xbinI k a b op = some (p, v)) (hp : p = true) : ∃ q r, binV op (.int k a) (.int k b) = some (q, r) ∧ q ∧ VT ρ h v (.v r) := by
  subst hp
  cases op <;> simp only [xbinI, Option.some.injEq, Prod.mk.injEq, reduceCtorEq] at hx
  all_goals first
    | (exact hx.elim; done)
    | (obtain ⟨hp, rfl⟩ := hx
       refine ⟨_, _, by simp only [binV, if_true]; rfl, ?_, Wp.refl _⟩
       first | trivial | (simp [iNe] at hp; exact hp))
theorem xbinS_ok {a b : ByteArray} {op : BinOp} {p : Bool} {v : XV} (hx : xbinS a b op = some (p, v)) (hp : p = true) : ∃ q r, binV op (.string a) (.string b) = some (q, r) ∧ q ∧ VT ρ h v (.v r) := by
  subst hp
  cases op <;> simp only [xbinS, Option.some.injEq, Prod.mk.injEq, reduceCtorEq] at hx
  all_goals first
    | (exact hx.elim; done)
    | (obtain ⟨hp, rfl⟩ := hx
       refine ⟨_, _, by simp only [binV]; rfl, ?_, Wp.refl _⟩
       first | trivial | (exact of_decide_eq_true hp))
theorem xbin_ok {op : BinOp} {x y v : XV} {p : Bool} {a b : AV} (hx : xbin op x y = some (p, v)) (hp : p = true) (ha : VT ρ h x a) (hb : VT ρ h y b) : ∃ va vb q r, a = .v va ∧ b = .v vb ∧ binV op va vb = some (q, r) ∧ q ∧ VT ρ h v (.v r) := by
 unfold xbin at hx
 split at hx
 ·rename_i k m k' n
  have ea := vt_int ha
  have eb := vt_int hb
  split at hx
  ·cases hx; exact ⟨_, _, _, _, ea, eb, rfl, iLe_le hp, Wp.refl _⟩
  ·cases hx; exact ⟨_, _, _, _, ea, eb, rfl, iLe_le hp, Wp.refl _⟩
  ·split at hx
   ·rename_i hk
    subst hk
    obtain ⟨q, r, h1, h2, h3⟩ := xbinI_ok (ρ := ρ) (h := h) hx hp
    exact ⟨_, _, q, r, ea, eb, h1, h2, h3⟩
   ·cases hx
 ·have ea := vt_str ha
  have eb := vt_str hb
  obtain ⟨q, r, h1, h2, h3⟩ := xbinS_ok (ρ := ρ) (h := h) hx hp
  exact ⟨_, _, q, r, ea, eb, h1, h2, h3⟩
 ·cases hx
theorem xasN_ok {x : XV} {n : Int} {a : AV} (hx : xasN x = some n) (ha : VT ρ h x a) : asN a = some n := by
 unfold xasN at hx
 split at hx
 ·cases hx; rw [vt_int ha]; rfl
 ·cases hx
theorem cutOk_iff {l u : Int} {n : Nat} (h : cutOk l u n = true) : 0 ≤ l ∧ l ≤ u ∧ u ≤ n := by
 simp only [cutOk, Bool.and_eq_true, decide_eq_true_eq] at h
 exact ⟨h.1.1, h.1.2, h.2⟩
theorem xcut_ok {n : Nat} {lo hi : Option Opd} {p : Bool} {l u : Int} (hrd : ∀ o, VT ρ h (rd o) (σ.val Gl o)) (hx : xcut n (lo.map rd) (hi.map rd) = some (p, l, u)) (hp : p = true) : cutB n (lo.map (σ.val Gl)) (hi.map (σ.val Gl)) = some (0 ≤ l ∧ l ≤ u ∧ u ≤ n, l, u) ∧ (0 ≤ l ∧ l ≤ u ∧ u ≤ n) := by
 cases lo with
 | none =>
  cases hi with
  | none => cases hx; exact ⟨rfl, by omega⟩
  | some b =>
   simp only [xcut, Option.map_none, Option.map_some] at hx
   split at hx
   ·rename_i m hm
    cases hx
    exact ⟨by simp only [cutB, Option.map_none, Option.map_some, xasN_ok hm (hrd b)], cutOk_iff hp⟩
   ·cases hx
 | some a =>
  cases hi with
  | none =>
   simp only [xcut, Option.map_none, Option.map_some] at hx
   split at hx
   ·rename_i m hm
    cases hx
    exact ⟨by simp only [cutB, Option.map_none, Option.map_some, xasN_ok hm (hrd a)], cutOk_iff hp⟩
   ·cases hx
  | some b =>
   simp only [xcut, Option.map_some] at hx
   split at hx
   ·rename_i m m' hm hm'
    cases hx
    exact ⟨by simp only [cutB, Option.map_some, xasN_ok hm (hrd a), xasN_ok hm' (hrd b)], cutOk_iff hp⟩
   ·cases hx
theorem vx1_v (v : Value) : V1 ρ h (vx1 v) (.v v) := by
 cases v with
 | int k n => exact Wp.refl _
 | bool b => exact Wp.refl _
 | string s => exact Wp.refl _
 | func fn a b =>
  cases fn with
  | func f =>
   simp only [vx1]
   split
   ·rename_i h1 h2
    have e1 : a = #[] := by simpa using h1
    have e2 : b = #[] := by simpa using h2
    subst e1 e2
    exact Wp.refl _
   ·rfl
  | _ => rfl
 | _ => rfl
theorem st_ok {x : XV} {a : AV} (hv : V1 ρ h x a) (hx : okX x = true) : st1 false a = true ∧ a.cells = [a] := by
 cases x with
 | d T y =>
  rcases enc_agg (x := y) with ⟨q, _⟩ | ⟨_, q⟩
  ·simp [okX, q] at hx
  ·exact ⟨(q.of_wp hv).st false, (q.of_wp hv).cells⟩
 | k v => have hv : a = .v v := hv; subst hv; exact ⟨hx, rfl⟩
 | row id => obtain ⟨_, _, _, _, _, rfl⟩ := hv; exact ⟨rfl, rfl⟩
 | sub id o l => obtain ⟨_, _, _, _, _, rfl⟩ := hv; exact ⟨rfl, rfl⟩
 | ptr id i o => obtain ⟨_, _, rfl⟩ := hv; exact ⟨rfl, rfl⟩
 | _ => cases hx
theorem cells_ok {x : XV} {cs : List XV} {a : AV} (hx : cellsX x = some cs) (hv : VT ρ h x a) : All2 (V1 ρ h) cs a.cells ∧ stCells false a = some a.cells := by
 have one : ∀ x, okX x = true → V1 ρ h x a → cs = [x] → All2 (V1 ρ h) cs a.cells ∧ stCells false a = some a.cells := by
  intro x ho hv hc
  obtain ⟨s1, s2⟩ := st_ok hv ho
  subst hc
  rw [s2]
  refine ⟨.cons hv .nil, ?_⟩
  cases a <;> first | (cases s1; done) | (simp only [stCells, s1, if_true]; done)
 cases x with
 | d T y =>
  cases hx
  exact ⟨flat_v hv, wp_st hv false⟩
 | agg cs' =>
  simp only [cellsX] at hx
  split at hx
  ·rename_i hall
   cases hx
   obtain ⟨as, rfl, hc⟩ := hv
   refine ⟨hc, ?_⟩
   have : as.all (st1 false) = true := List.all_eq_true.2 fun a ha => by
    obtain ⟨i, hi⟩ := List.mem_iff_getElem?.1 ha
    obtain ⟨x, hx, hv⟩ := hc.get_right hi
    exact (st_ok hv (List.all_eq_true.1 hall x (List.mem_of_getElem? hx))).1
   simp only [stCells, this, if_true, AV.cells]
  ·cases hx
 | k v =>
  simp only [cellsX] at hx
  split at hx
  ·rename_i ho; cases hx; exact one (.k v) ho hv rfl
  ·cases hx
 | row id => cases hx; exact one (.row id) rfl hv rfl
 | sub id o l => cases hx; exact one (.sub id o l) rfl hv rfl
 | ptr id i o => cases hx; exact one (.ptr id i o) rfl hv rfl
 | _ => cases hx
end
end Abs
end Go.Proofs.YtfjhljjginlobaaDoor
end
section
namespace Go.Proofs.YtfjhljjginlobaaDoor
namespace Abs
open Go.RowKit
def StepOk (Gl : Nat → Option (List AV)) (ρ : List Nat) (h : List XO) (σ : St) (rd : Opd → XV) (i : I) (v : XV) (kl : List Nat) (h' : List XO) : Prop :=
 ∃ q a H' ρ' tch, step Gl σ i = some (q, a, H') ∧ q ∧ Upd ρ h σ.h ρ' (killH kl h') H' kl tch ∧ VT ρ' (killH kl h') v a ∧ ∀ ok : Nat → Bool, leaves ok rd i = true → ∀ id ∈ tch, ok id = true
section
variable {ρ : List Nat} {h : List XO} {H : List AObj} {σ : St} {Gl : Nat → Option (List AV)} {rd : Opd → XV} {tt : Nat → Option Ty}
theorem StepOk.pure (hs : HS ρ h σ.h) {i : I} {v : XV} {q : Prop} {a : AV} (h1 : step Gl σ i = some (q, a, σ.h)) (h2 : q) (h3 : VT ρ h v a) : StepOk Gl ρ h σ rd i v [] h :=
 ⟨q, a, σ.h, ρ, [], h1, h2, Upd.same hs, h3, fun _ _ _ q => by simp at q⟩
theorem ok_fldX {off sz : Nat} {ag : Bool} {x v : XV} {a : AV} (hx : fldX off sz ag x = some v) (hv : VT ρ h x a) : ∃ cs, a = .agg cs ∧ if ag = true then off + sz ≤ cs.length ∧ VT ρ h v (.agg ((cs.drop off).take sz)) else ∃ c, cs[off]? = some c ∧ VT ρ h v c := by
 unfold fldX at hx
 split at hx
 ·rename_i fs y
  obtain ⟨cs, rfl, hc⟩ := Wp.agg_inv hv
  have hc : All2 Wp cs (Ty.enc (.tup fs) y).cells := hc
  obtain ⟨T', x', rfl, hq⟩ := at_spec _ _ _ _ _ _ hx
  refine ⟨cs, rfl, ?_⟩
  cases ag with
  | true =>
   simp only [if_true] at hq ⊢
   refine ⟨by rw [hc.1]; exact hq.1, ?_⟩
   have := (hc.drop off).take sz
   show Wp _ _
   rw [hq.2]
   exact .agg _ _ this.1 this.2
  | false =>
   simp only [Bool.false_eq_true, if_false] at hq ⊢
   obtain ⟨c, h1, h2⟩ := hc.get_right hq
   exact ⟨c, h1, h2⟩
 ·rename_i cs'
  obtain ⟨cs, rfl, hc⟩ := hv
  refine ⟨cs, rfl, ?_⟩
  cases ag with
  | true =>
   simp only [if_true] at hx ⊢
   split at hx
   ·rename_i hl
    cases hx
    have := Nat.le_of_ble_eq_true hl
    exact ⟨by rw [← hc.1]; exact this, _, rfl, (hc.drop off).take sz⟩
   ·cases hx
  | false =>
   simp only [Bool.false_eq_true, if_false] at hx ⊢
   obtain ⟨c, h1, h2⟩ := hc.get_left hx
   exact ⟨c, h1, VT.of1 h2⟩
 ·cases hx
theorem bnd_iff {n m : Int} (h : bnd n m = true) : 0 ≤ n ∧ n < m := by
 simpa [bnd] using h
theorem ok_load_cells {T : Ty} {x : T.den} {o sz : Nat} {ag : Bool} {v : XV} {cs : List AV} (hx : atT T x o sz ag = some v) (hc : All2 Wp cs (Ty.enc T x).cells) : if ag = true then o + sz ≤ cs.length ∧ VT ρ h v (.agg ((cs.drop o).take sz)) else ∃ c, cs[o]? = some c ∧ VT ρ h v c := by
 obtain ⟨T', x', rfl, hq⟩ := at_spec _ _ _ _ _ _ hx
 cases ag with
 | true =>
  simp only [if_true] at hq ⊢
  refine ⟨by rw [hc.1]; exact hq.1, ?_⟩
  have := (hc.drop o).take sz
  show Wp _ _
  rw [hq.2]
  exact .agg _ _ this.1 this.2
 | false =>
  simp only [Bool.false_eq_true, if_false] at hq ⊢
  obtain ⟨c, h1, h2⟩ := hc.get_right hq
  exact ⟨c, h1, h2⟩
theorem getD_map_enc {T : Ty} (es : List T.den) {i : Nat} (hi : i < es.length) (u : AV) : (es.map (Ty.enc T)).getD i u = Ty.enc T (es.getD i T.dflt) := by
 simp [List.getD, List.getElem?_eq_getElem hi]
theorem ok_iaddr_row (hs : HS ρ h σ.h) {sz id ty off : Nat} {T : Ty} {fz : Bool} {es : List T.den} {x i : Opd} {k : IntKind} {n : Int} {len : Nat} (he : h[id]? = some (.row ty T fz es)) (hz : T.size = sz)
  (hx : σ.val Gl x = .row (ρ.getD id 0) es.length T.size off len) (hi : σ.val Gl i = .v (.int k n)) (hb : 0 ≤ n ∧ n < len) : StepOk Gl ρ h σ rd (.iaddr sz x i) (.ptr id (off + n.toNat) 0) [] h := by
 refine StepOk.pure hs (q := 0 ≤ n ∧ n < len) (a := .ptr (ρ.getD id 0) es.length (off + n.toNat) 0) ?_ hb ⟨_, he, rfl⟩
 simp only [step, hx, hi, hz, if_true]
theorem set_ok {T : Ty} {es : List T.den} {O : List AV} {i o : Nat} {z : T.den} {U : Ty} {y : U.den} {a : AV} (hO : All2 Wp O (es.map (Ty.enc T))) (hi : i < es.length) (hw : Wp a (Ty.enc U y)) (hz : setT y T (es.getD i T.dflt) o = some z) : o + U.size ≤ T.size ∧ All2 Wp (O.set i (setCells (O.getD i .any) o a.cells)) ((es.set i z).map (Ty.enc T)) := by
 obtain ⟨s1, s2, s3⟩ := set_spec y T _ o z hz
 refine ⟨s1, ?_⟩
 rw [List.map_set]
 refine hO.set ?_ i
 have he : Wp (O.getD i .any) (Ty.enc T (es.getD i T.dflt)) := by
  have := hO.getD (n := i) (by simpa using hi) .any .any
  rw [getD_map_enc es hi] at this; exact this
 have hc := hw.cells
 have hlen : a.cells.length = U.size := by rw [hc.1, enc_cells]
 rcases enc_agg (x := z) with ⟨ht, cs, hcs⟩ | ⟨ht, hp⟩
 ·cases T with
  | tup fs =>
   obtain ⟨us, hu, hus⟩ := Wp.agg_inv (show Wp (O.getD i .any) (.agg (Ty.encL fs (es.getD i (Ty.dflt (.tup fs))))) from he)
   rw [hu]
   have s2 : Ty.encL fs z = (Ty.encL fs (es.getD i (Ty.dflt (.tup fs)))).take o ++ (Ty.enc U y).cells ++ (Ty.encL fs (es.getD i (Ty.dflt (.tup fs)))).drop (o + U.size) := s2
   show Wp (.agg (us.take o ++ a.cells ++ us.drop (o + a.cells.length))) (.agg (Ty.encL fs z))
   rw [s2, hlen]
   have := ((hus.take o).append hc).append (hus.drop (o + U.size))
   exact .agg _ _ this.1 this.2
  | _ => cases ht
 ·obtain ⟨rfl, hu1⟩ := s3 ht
  have hna : ∀ us, O.getD i .any ≠ .agg us := fun us q => by
   rw [q] at he
   rcases enc_agg (x := es.getD i T.dflt) with ⟨q', _⟩ | ⟨_, q'⟩
   ·rw [ht] at q'; cases q'
   ·rcases q'.of_wp he with ⟨_, q', _⟩ | ⟨_, _, q'⟩ <;> cases q'
  have hsc : setCells (O.getD i .any) 0 a.cells = a.cells.headD .any := by
   cases hg : O.getD i .any <;> first | rfl | exact absurd hg (hna _)
  rw [hsc]
  have hz1 : (Ty.enc T z).cells = [Ty.enc T z] := hp.cells
  have ht1 : T.size = 1 := by rw [← enc_cells T z, hz1]; rfl
  rw [hz1, List.take_zero, List.nil_append, List.drop_eq_nil_of_le (by rw [enc_cells]; omega), List.append_nil] at s2
  rw [← s2] at hc
  obtain ⟨c, r, e1, e2, e3⟩ := hc.cons_right
  rw [e1]; exact e2
theorem whole_ok {T : Ty} {es : List T.den} {O : List AV} {i : Nat} {z : T.den} {a : AV} (hO : All2 Wp O (es.map (Ty.enc T))) (hi : i < es.length) (hw : Wp a (Ty.enc T z)) : All2 Wp (O.set i (setCells (O.getD i .any) 0 a.cells)) ((es.set i z).map (Ty.enc T)) := by
 rw [List.map_set]
 refine hO.set ?_ i
 have he : Wp (O.getD i .any) (Ty.enc T (es.getD i T.dflt)) := by
  have := hO.getD (n := i) (by simpa using hi) .any .any
  rw [getD_map_enc es hi] at this; exact this
 have hl1 : (O.getD i .any).cells.length = T.size := by rw [he.cells.1, enc_cells]
 have hl2 : a.cells.length = T.size := by rw [hw.cells.1, enc_cells]
 rcases enc_agg (x := z) with ⟨ht, cs, hcs⟩ | ⟨ht, hp⟩
 ·cases T with
  | tup fs =>
   obtain ⟨us, hu, hus⟩ := Wp.agg_inv (show Wp (O.getD i .any) (.agg (Ty.encL fs (es.getD i (Ty.dflt (.tup fs))))) from he)
   obtain ⟨as, rfl, has⟩ := Wp.agg_inv (show Wp a (.agg (Ty.encL fs z)) from hw)
   rw [hu] at hl1 ⊢
   simp only [AV.cells] at hl1 hl2
   have : setCells (.agg us) 0 (AV.agg as).cells = .agg as := by
    simp only [setCells, AV.cells, List.take_zero, List.nil_append, Nat.zero_add, List.drop_eq_nil_of_le (show us.length ≤ as.length by omega), List.append_nil]
   rw [this]; exact hw
  | _ => cases ht
 ·have hna : ∀ us, O.getD i .any ≠ .agg us := fun us q => by
   rw [q] at he
   rcases enc_agg (x := es.getD i T.dflt) with ⟨q', _⟩ | ⟨_, q'⟩
   ·rw [ht] at q'; cases q'
   ·rcases q'.of_wp he with ⟨_, q', _⟩ | ⟨_, _, q'⟩ <;> cases q'
  have hsc : setCells (O.getD i .any) 0 a.cells = a.cells.headD .any := by
   cases hg : O.getD i .any <;> first | rfl | exact absurd hg (hna _)
  rw [hsc, (hp.of_wp hw).cells]; exact hw
theorem elemsX_k {T : Ty} {v : Value} {ys : List T.den} (hx : elemsX0 h T (.k v) = some ys) : v = .slice none 0 0 ∧ ys = [] := by
 cases v with
 | slice ad n c =>
  cases ad with
  | some _ => cases hx
  | none =>
   cases n with
   | succ n => cases hx
   | zero =>
    cases c with
    | succ c => cases hx
    | zero => exact ⟨rfl, (Option.some.inj hx).symm⟩
 | _ => cases hx
theorem elems_ok0 (hs : HS ρ h σ.h) {T : Ty} {x : XV} {ys : List T.den} {a : AV} {sz : Nat} (hz : T.size = sz) (hx : elemsX0 h T x = some ys) (hv : VT ρ h x a) : ∃ as, elemsOf σ.h sz a = some as ∧ All2 Wp as (ys.map (Ty.enc T)) := by
 subst hz
 cases x with
 | d T' y =>
  have hx : castT (b := .list T) y = some ys := hx
  obtain ⟨q, rfl⟩ := castT_eq hx
  cases q
  rcases Wp.list_inv hv with ⟨rfl, hn⟩ | ⟨as, rfl, hc⟩
  ·exact ⟨[], rfl, by
    show All2 Wp [] (List.map (Ty.enc T) y)
    rw [hn]; exact .nil⟩
  ·exact ⟨as, by simp [elemsOf], hc⟩
 | k v =>
  obtain ⟨rfl, rfl⟩ := elemsX_k hx
  have hv : a = .v (.slice none 0 0) := hv
  subst hv
  exact ⟨[], rfl, .nil⟩
 | row id =>
  obtain ⟨ty, T', fz, es, he, rfl⟩ := hv
  have hx : castT (a := .list T') (b := .list T) es = some ys := by rw [← hx]; show _ = (match h[id]? with | some (.row _ T' _ es) => castT (a := .list T') (b := .list T) es | _ => none); rw [he]
  obtain ⟨q, rfl⟩ := castT_eq hx
  cases q
  obtain ⟨O, hO, o1, o2, o3, o4, o5⟩ := hs.hr _ _ he
  have hlen : O.es.length = es.length := by have := o5.1; simpa using this
  refine ⟨(O.es.drop 0).take es.length, by simp only [elemsOf, hO, hlen, o2, o3, and_self, if_true], ?_⟩
  rw [List.drop_zero, List.take_of_length_le (by omega)]
  exact o5
 | sub id off len =>
  obtain ⟨ty, T', fz, es, he, rfl⟩ := hv
  have hx : castT (a := .list T') (b := .list T) ((List.drop off es).take len) = some ys := by rw [← hx]; show _ = (match h[id]? with | some (.row _ T' _ es) => castT (a := .list T') (b := .list T) ((List.drop off es).take len) | _ => none); rw [he]
  obtain ⟨q, rfl⟩ := castT_eq hx
  cases q
  obtain ⟨O, hO, o1, o2, o3, o4, o5⟩ := hs.hr _ _ he
  have hlen : O.es.length = es.length := by have := o5.1; simpa using this
  refine ⟨(O.es.drop off).take len, by simp only [elemsOf, hO, hlen, o2, o3, and_self, if_true], ?_⟩
  show All2 Wp _ (List.map (Ty.enc _) _)
  rw [List.map_take, List.map_drop]
  exact (o5.drop _).take _
 | _ => cases hx
theorem elems_ok (hs : HS ρ h σ.h) {T : Ty} {x : XV} {ys : List T.den} {a : AV} {sz : Nat} (hz : T.size = sz) (hx : elemsX h T x = some ys) (hv : VT ρ h x a) : ∃ as, elemsOf σ.h sz a = some as ∧ All2 Wp as (ys.map (Ty.enc T)) := elems_ok0 hs hz hx (lst_vt hv)
theorem toDs_ok (hs : HS ρ h H) {T : Ty} : ∀ {xs : List XV} {ys : List T.den} {as : List AV}, toDs h T xs = some ys → All2 (VT ρ h) xs as → ∃ bs, keepAL H as = some bs ∧ All2 Wp bs (ys.map (Ty.enc T)) ∧ as.flatMap rowsA = (xs.flatMap rowsX).map (fun id => ρ.getD id 0) ∧ ∀ id ∈ xs.flatMap rowsX, isRow h id := by
 intro xs
 induction xs with
 | nil =>
  intro ys as hx hv
  cases hx
  have := hv.nil_left
  subst this
  exact ⟨[], rfl, .nil, rfl, by simp⟩
 | cons x xs ih =>
  intro ys as hx hv
  simp only [toDs] at hx
  split at hx
  ·rename_i z l hz hl
   cases hx
   obtain ⟨a, as', rfl, hv1, hv2⟩ := hv.cons_left
   have hnt : ∀ vs, x ≠ .tup vs := fun vs q => by
    subst q
    cases T <;> simp [toD, lst] at hz
   obtain ⟨b, k1, k2, k3, k4⟩ := toD_keep hs hz (hv1.notup hnt)
   obtain ⟨bs, i1, i2, i3, i4⟩ := ih hl hv2
   refine ⟨b :: bs, by simp only [keepAL, k1, i1], .cons k2 i2, by simp [k3, i3], fun id hid => ?_⟩
   simp only [List.flatMap_cons, List.mem_append] at hid
   rcases hid with q | q
   ·exact k4 id q
   ·exact i4 id q
  ·cases hx
theorem map_vt {xs : List Opd} (hrd : ∀ o, VT ρ h (rd o) (σ.val Gl o)) : All2 (VT ρ h) (xs.map rd) (xs.map (σ.val Gl)) :=
 ⟨by simp, fun i x a p q => by
  rw [List.getElem?_map] at p q
  cases ho : xs[i]? with
  | none => rw [ho] at p; cases p
  | some o => rw [ho] at p q; cases p; cases q; exact hrd o⟩
theorem lens_ok {T : Ty} {bs : List AV} {ys : List T.den} {sz : Nat} (hz : T.size = sz) (hc : All2 Wp bs (ys.map (Ty.enc T))) : bs.all (fun y => y.cells.length == sz) = true := by
 refine List.all_eq_true.2 fun b hb => ?_
 obtain ⟨i, hi⟩ := List.mem_iff_getElem?.1 hb
 obtain ⟨e, he, hw⟩ := hc.get_left hi
 rw [List.getElem?_map] at he
 cases hy : ys[i]? with
 | none => rw [hy] at he; cases he
 | some y => rw [hy] at he; cases he; rw [hw.cells.1, enc_cells, hz]; simp
end
end Abs
end Go.Proofs.YtfjhljjginlobaaDoor
end
section
namespace Go.Proofs.YtfjhljjginlobaaDoor
namespace Abs
open Go.RowKit
section
variable {ρ : List Nat} {h : List XO} {H : List AObj} {σ : St} {Gl : Nat → Option (List AV)} {rd : Opd → XV} {tt : Nat → Option Ty}
theorem vt_list {e : Ty} {xs : List e.den} {a : AV} (hv : VT ρ h (.d (.list e) xs) a) : (a = .v (.slice none 0 0) ∧ xs = []) ∨ ∃ as, a = .list e.size as ∧ as.length = xs.length ∧ All2 Wp as (xs.map (Ty.enc e)) := by
 rcases Wp.list_inv hv with ⟨ha, hn⟩ | ⟨as, ha, hc⟩
 ·exact .inl ⟨ha, List.map_eq_nil_iff.1 hn⟩
 ·exact .inr ⟨as, ha, by rw [hc.1, List.length_map], hc⟩
abbrev SimI (Gl : Nat → Option (List AV)) (ρ : List Nat) (h : List XO) (σ : St) (rd : Opd → XV) (tt : Nat → Option Ty) (i : I) : Prop :=
 HS ρ h σ.h → (∀ o, VT ρ h (rd o) (σ.val Gl o)) → ∀ (p : Bool) (v : XV) (kl : Option Nat) (h' : List XO), xstep tt h rd i = some (p, v, kl, h') → p = true → StepOk Gl ρ h σ rd i v kl.toList h'
theorem sim_len (x : Opd) : SimI Gl ρ h σ rd tt (.len x) := by
 intro hs hrd p v kl h' hx hp
 simp only [xstep] at hx
 have hv := lst_vt (hrd x)
 split at hx
 ·rename_i e xs hr
  rw [hr] at hv
  cases hx
  rcases vt_list hv with ⟨ha, rfl⟩ | ⟨as, ha, hl, hc⟩
  ·exact StepOk.pure hs (by simp only [step, ha] <;> rfl) trivial (Wp.refl _)
  ·refine StepOk.pure hs (by simp only [step, ha] <;> rfl) trivial ?_
   rw [hl]
   exact Wp.refl _
 ·rename_i id hr
  rw [hr] at hv
  obtain ⟨ty, T, fz, es, he, ha⟩ := hv
  rw [he] at hx
  cases hx
  exact StepOk.pure hs (by simp only [step, ha] <;> rfl) trivial (Wp.refl _)
 ·rename_i id off len hr
  rw [hr] at hv
  obtain ⟨ty, T, fz, es, he, ha⟩ := hv
  cases hx
  exact StepOk.pure hs (by simp only [step, ha] <;> rfl) trivial (Wp.refl _)
 ·rename_i id hr
  rw [hr] at hv
  obtain ⟨ty, cs, he, ha⟩ := hv
  rw [he] at hx
  cases hx
  exact StepOk.pure hs (by simp only [step, ha] <;> rfl) trivial (Wp.refl _)
 ·rename_i hr
  rw [hr] at hv
  cases hx
  have ha := vt_k hv
  exact StepOk.pure hs (by simp only [step, ha] <;> rfl) trivial (Wp.refl _)
 ·cases hx
theorem sim_mov (x : Opd) : SimI Gl ρ h σ rd tt (.mov x) := by
 intro hs hrd p v kl h' hx hp
 simp only [xstep] at hx
 cases hx
 exact StepOk.pure hs rfl trivial (hrd x)
theorem sim_pick (c a b : Opd) : SimI Gl ρ h σ rd tt (.pick c a b) := by
 intro hs hrd p v kl h' hx hp
 simp only [xstep] at hx
 split at hx
 ·rename_i t T x T' y h1 h2 h3
  split at hx
  ·rename_i y' hy
   cases hx
   have hc := hrd c; have ha := hrd a; have hb := hrd b
   rw [h1] at hc; rw [h2] at ha; rw [h3] at hb
   have ec := vt_bool hc
   obtain ⟨rfl, rfl⟩ := castT_eq hy
   refine StepOk.pure hs (by simp only [step, ec] <;> rfl) trivial ?_
   cases t
   ·exact hb
   ·exact ha
  ·cases hx
 ·cases hx
theorem sim_bin (op : BinOp) (x y : Opd) : SimI Gl ρ h σ rd tt (.bin op x y) := by
 intro hs hrd p v kl h' hx hp
 simp only [xstep] at hx
 split at hx
 ·rename_i p' v' hb
  cases hx
  obtain ⟨va, vb, q, r, ea, eb, hq, hqq, hv⟩ := xbin_ok hb hp (hrd x) (hrd y)
  exact StepOk.pure hs (by simp only [step, ea, eb, hq, Option.map_some]) hqq hv
 ·cases hx
theorem sim_beq (neg : Bool) (x y : Opd) : SimI Gl ρ h σ rd tt (.beq neg x y) := by
 intro hs hrd p v kl h' hx hp
 simp only [xstep] at hx
 have hvx := hrd x; have hvy := hrd y
 split at hx
 ·rename_i a b h1 h2
  rw [h1] at hvx; rw [h2] at hvy
  cases hx
  have ea := vt_bool hvx; have eb := vt_bool hvy
  refine StepOk.pure hs (by simp only [step, ea, eb] <;> rfl) trivial ?_
  cases neg <;> exact Wp.refl _
 ·cases hx
theorem sim_nilq (neg : Bool) (x : Opd) : SimI Gl ρ h σ rd tt (.nilq neg x) := by
 intro hs hrd p v kl h' hx hp
 simp only [xstep] at hx
 have hv := hrd x
 split at hx
 ·rename_i e xs hr
  rw [hr] at hv
  cases hx
  rcases vt_list hv with ⟨ha, rfl⟩ | ⟨as, ha, hl, hc⟩
  ·cases hp
  ·refine StepOk.pure hs (by simp only [step, ha] <;> rfl) ?_ (Wp.refl _)
   intro q
   subst q
   have : xs = [] := List.length_eq_zero_iff.1 hl.symm
   subst this
   cases hp
 ·rename_i e o hr
  rw [hr] at hv
  cases hx
  cases o with
  | none =>
   have ha := Wp.v_inv hv
   refine StepOk.pure hs (by simp only [step, ha] <;> rfl) trivial ?_
   cases neg <;> exact Wp.refl _
  | some xs =>
   rcases vt_list (show VT ρ h (.d (.list e) xs) _ from hv) with ⟨ha, rfl⟩ | ⟨as, ha, hl, hc⟩
   ·cases hp
   ·refine StepOk.pure hs (by simp only [step, ha] <;> rfl) ?_ ?_
    ·intro q
     subst q
     have : xs = [] := List.length_eq_zero_iff.1 hl.symm
     subst this
     cases hp
    ·cases neg <;> exact Wp.refl _
 ·rename_i hr
  rw [hr] at hv
  cases hx
  have ha := vt_k hv
  exact StepOk.pure hs (by simp only [step, ha] <;> rfl) trivial (Wp.refl _)
 ·rename_i id hr
  rw [hr] at hv
  obtain ⟨ty, T, fz, es, he, ha⟩ := hv
  rw [he] at hx
  cases hx
  refine StepOk.pure hs (by simp only [step, ha] <;> rfl) ?_ (Wp.refl _)
  cases es with
  | nil => cases hp
  | cons => simp
 ·cases hx
theorem eqA_ok {xs ys : List XV} {as bs : List AV} (hx : All2 (V1 ρ h) xs as) (hy : All2 (V1 ρ h) ys bs) : ∀ (fs : List (Nat × Nat)) (b : Bool), xeqA xs ys fs = some b → eqA as bs fs = some b := by
 intro fs
 induction fs with
 | nil => intro b hb; exact hb
 | cons f fs ih =>
  intro b hb
  obtain ⟨i, c⟩ := f
  simp only [xeqA] at hb
  simp only [eqA]
  split at hb
  ·rename_i h0; rw [if_pos h0]; exact ih b hb
  ·rename_i h0
   rw [if_neg h0]
   split at hb
   ·rename_i u w hu hw
    cases hb
    rw [ih w hw]
    have gx : ∀ {xs : List XV} {as : List AV}, All2 (V1 ρ h) xs as → ∀ i, V1 ρ h (xs.getD i .any) (as.getD i .any) := fun {xs as} hx i => by
     rcases Nat.lt_or_ge i as.length with q | q
     ·exact hx.getD q _ _
     ·have : xs[i]? = none := List.getElem?_eq_none (by rw [hx.1]; exact q)
      simp [List.getD, this]; trivial
    have h1 := gx hx i
    have h2 := gx hy i
    have key : eq1 c (as.getD i .any) (bs.getD i .any) = some u := by
     unfold xeq1 at hu
     split at hu
     ·rename_i k a k' b' e1 e2
      rw [e1] at h1; rw [e2] at h2
      rw [Wp.v_inv h1, Wp.v_inv h2]
      exact hu
     ·rename_i a b' e1 e2
      rw [e1] at h1; rw [e2] at h2
      rw [Wp.v_inv h1, Wp.v_inv h2]
      exact hu
     ·rename_i a b' e1 e2
      rw [e1] at h1; rw [e2] at h2
      rw [Wp.v_inv h1, Wp.v_inv h2]
      exact hu
     ·cases hu
    rw [key]
   ·cases hb
theorem agg_ok {x : XV} {cs : List XV} {a : AV} (hx : aggX x = some cs) (hv : VT ρ h x a) : ∃ as, a = .agg as ∧ All2 (V1 ρ h) cs as := by
 unfold aggX at hx
 split at hx
 ·rename_i fs y
  cases hx
  obtain ⟨as, rfl, _⟩ := Wp.agg_inv hv
  exact ⟨as, rfl, flat_v (T := .tup fs) hv⟩
 ·cases hx; exact hv
 ·cases hx
theorem sim_aeq (neg : Bool) (fs : List (Nat × Nat)) (x y : Opd) : SimI Gl ρ h σ rd tt (.aeq neg fs x y) := by
 intro hs hrd p v kl h' hx hp
 simp only [xstep] at hx
 split at hx
 ·rename_i xs ys h1 h2
  split at hx
  ·rename_i b hb
   cases hx
   obtain ⟨as, ea, c1⟩ := agg_ok h1 (hrd x)
   obtain ⟨bs, eb, c2⟩ := agg_ok h2 (hrd y)
   have hq := eqA_ok c1 c2 fs b hb
   refine StepOk.pure hs (by simp only [step, ea, eb, hq, Option.map_some] <;> rfl) trivial ?_
   cases neg <;> exact Wp.refl _
  ·cases hx
 ·cases hx
theorem sim_un (op : UnOp) (x : Opd) : SimI Gl ρ h σ rd tt (.un op x) := by
 intro hs hrd p v kl h' hx hp
 simp only [xstep] at hx
 have hv := hrd x
 split at hx
 ·rename_i k n h1
  rw [h1] at hv
  cases hx
  exact StepOk.pure hs (by simp only [step, vt_int hv, unV, Option.map_some] <;> rfl) trivial (Wp.refl _)
 ·rename_i b h1
  rw [h1] at hv
  cases hx
  exact StepOk.pure hs (by simp only [step, vt_bool hv, unV, Option.map_some] <;> rfl) trivial (Wp.refl _)
 ·cases hx
theorem sim_conv (k : IntKind) (x : Opd) : SimI Gl ρ h σ rd tt (.conv k x) := by
 intro hs hrd p v kl h' hx hp
 simp only [xstep] at hx
 have hv := hrd x
 split at hx
 ·rename_i k' n h1
  rw [h1] at hv
  cases hx
  exact StepOk.pure hs (by simp only [step, vt_int hv] <;> rfl) trivial (Wp.refl _)
 ·cases hx
theorem sim_fld (off sz : Nat) (ag : Bool) (x : Opd) : SimI Gl ρ h σ rd tt (.fld off sz ag x) := by
 intro hs hrd p v kl h' hx hp
 simp only [xstep] at hx
 split at hx
 ·rename_i v' hf
  cases hx
  obtain ⟨cs, ha, hq⟩ := ok_fldX hf (hrd x)
  cases ag with
  | true =>
   simp only [if_true] at hq
   exact StepOk.pure hs (by simp only [step, ha, hq.1, if_true] <;> rfl) trivial hq.2
  | false =>
   simp only [Bool.false_eq_true, if_false] at hq
   obtain ⟨c, hc, hv⟩ := hq
   exact StepOk.pure hs (by simp only [step, ha, hc, Bool.false_eq_true, if_false, Option.map_some] <;> rfl) trivial hv
 ·cases hx
theorem sim_ext (i : Nat) (x : Opd) : SimI Gl ρ h σ rd tt (.ext i x) := by
 intro hs hrd p v kl h' hx hp
 simp only [xstep] at hx
 have hv := hrd x
 split at hx
 ·rename_i vs h1
  rw [h1] at hv
  obtain ⟨as, ha, hc⟩ := hv
  split at hx
  ·rename_i w hw
   cases hx
   obtain ⟨a, h2, h3⟩ := hc.get_left hw
   exact StepOk.pure hs (by simp only [step, ha, h2, Option.map_some] <;> rfl) trivial (VT.ofA h3)
  ·cases hx
 ·cases hx
theorem sim_faddr (off : Nat) (x : Opd) : SimI Gl ρ h σ rd tt (.faddr off x) := by
 intro hs hrd p v kl h' hx hp
 simp only [xstep] at hx
 have hv := hrd x
 split at hx
 ·rename_i id i o h1
  rw [h1] at hv
  obtain ⟨ob, he, ha⟩ := hv
  cases hx
  exact StepOk.pure hs (by simp only [step, ha] <;> rfl) trivial ⟨ob, he, rfl⟩
 ·rename_i T y o h1
  rw [h1] at hv
  obtain ⟨cs, ha, hc⟩ := hv
  cases hx
  refine StepOk.pure hs (by simp only [step, ha] <;> rfl) trivial ⟨_, rfl, ?_⟩
  have := hc.drop off
  rw [List.drop_drop] at this
  exact this
 ·cases hx
theorem sim_nck (x : Opd) : SimI Gl ρ h σ rd tt (.nck x) := by
 intro hs hrd p v kl h' hx hp
 simp only [xstep] at hx
 have hv := hrd x
 split at hx
 ·rename_i id i o h1
  rw [h1] at hv
  obtain ⟨ob, he, ha⟩ := hv
  cases hx
  exact StepOk.pure hs (by simp only [step, ha] <;> rfl) trivial ⟨ob, he, rfl⟩
 ·rename_i T y o h1
  rw [h1] at hv
  obtain ⟨cs, ha, hc⟩ := hv
  cases hx
  exact StepOk.pure hs (by simp only [step, ha] <;> rfl) trivial ⟨_, rfl, hc⟩
 ·cases hx
theorem beq_eq {a b : Nat} (h : Nat.beq a b = true) : a = b := Nat.eq_of_beq_eq_true h
theorem ok_iaddr_list (hs : HS ρ h σ.h) {e : Ty} {xs : List e.den} {k : IntKind} {n : Int} {x i : Opd} {sz : Nat} (hv : VT ρ h (.d (.list e) xs) (σ.val Gl x)) (ei : σ.val Gl i = .v (.int k n)) (hz : e.size = sz) (hb : bnd n (lenI xs) = true) : StepOk Gl ρ h σ rd (.iaddr sz x i) (.lp e (atI xs n e.dflt) 0) [] h := by
 have hb := bnd_iff hb
 rcases vt_list hv with ⟨ha, rfl⟩ | ⟨as, ha, hl, hc⟩
 ·simp [lenI] at hb; omega
 ·have hlt : n.toNat < xs.length := by have := hb.2; simp only [lenI] at this; omega
  refine StepOk.pure hs (q := 0 ≤ n ∧ n < as.length) (a := .lptr (as.getD n.toNat .any).cells) (by simp only [step, ha, ei, hz, if_true]) ⟨hb.1, by rw [hl]; exact hb.2⟩ ⟨_, rfl, ?_⟩
  rw [List.drop_zero]
  have := hc.getD (n := n.toNat) (by rw [List.length_map]; exact hlt) .any .any
  rw [getD_map_enc _ hlt] at this
  exact this.cells
theorem sim_iaddr (sz : Nat) (x i : Opd) : SimI Gl ρ h σ rd tt (.iaddr sz x i) := by
 intro hs hrd p v kl h' hx hp
 simp only [xstep] at hx
 have hv := lst_vt (hrd x)
 have hi := hrd i
 split at hx
 ·rename_i e xs k n h1 h2
  rw [h1] at hv; rw [h2] at hi
  have ei := vt_int hi
  split at hx
  ·rename_i hz
   cases hx
   exact ok_iaddr_list hs hv ei (beq_eq hz) hp
  ·cases hx
 ·rename_i id k n h1 h2
  rw [h1] at hv; rw [h2] at hi
  have ei := vt_int hi
  obtain ⟨ty, T, fz, es, he, ha⟩ := hv
  rw [he] at hx
  simp only at hx
  split at hx
  ·rename_i hz
   cases hx
   have := ok_iaddr_row (Gl := Gl) (rd := rd) hs he (beq_eq hz) ha ei (bnd_iff hp)
   rw [Nat.zero_add] at this; exact this
  ·cases hx
 ·rename_i id off len k n h1 h2
  rw [h1] at hv; rw [h2] at hi
  have ei := vt_int hi
  obtain ⟨ty, T, fz, es, he, ha⟩ := hv
  rw [he] at hx
  simp only at hx
  split at hx
  ·rename_i hz
   cases hx
   exact ok_iaddr_row (Gl := Gl) (rd := rd) hs he (beq_eq hz) ha ei (bnd_iff hp)
  ·cases hx
 ·rename_i id k n h1 h2
  rw [h1] at hv; rw [h2] at hi
  have ei := vt_int hi
  obtain ⟨ty, cs, he, ha⟩ := hv
  rw [he] at hx
  simp only at hx
  split at hx
  ·rename_i hz
   have hz := beq_eq hz
   subst hz
   cases hx
   have hb := bnd_iff hp
   refine StepOk.pure hs (q := (0 : Int) ≤ (show Int from n) ∧ (show Int from n) < (cs.length : Int)) (by simp only [step, ha, ei, if_true] <;> rfl) hb ⟨.vec ty cs, he, ?_⟩
   simp only [XO.len, Nat.zero_add]
  ·cases hx
 ·cases hx
theorem sim_load (sz : Nat) (ag : Bool) (x : Opd) : SimI Gl ρ h σ rd tt (.load sz ag x) := by
 intro hs hrd p v kl h' hx hp
 simp only [xstep] at hx
 have hv := hrd x
 split at hx
 ·rename_i T y o h1
  rw [h1] at hv
  obtain ⟨cs, ha, hc⟩ := hv
  split at hx
  ·rename_i w hw
   cases hx
   obtain ⟨T', x', rfl, hq⟩ := at_spec _ _ _ _ _ _ hw
   cases ag with
   | true =>
    simp only [if_true] at hq
    have hl : sz ≤ cs.length := by rw [hc.1, List.length_drop]; omega
    refine StepOk.pure hs (by simp only [step, ha, hl, if_true] <;> rfl) trivial ?_
    show Wp _ _
    rw [hq.2]
    have := hc.take sz
    exact .agg _ _ this.1 this.2
   | false =>
    simp only [Bool.false_eq_true, if_false] at hq
    have : ((Ty.enc T y).cells.drop o)[0]? = some (Ty.enc T' x') := by rw [List.getElem?_drop, Nat.add_zero]; exact hq
    obtain ⟨c, h2, h3⟩ := hc.get_right this
    have hh : cs.head? = some c := by rw [List.head?_eq_getElem?]; exact h2
    exact StepOk.pure hs (by simp only [step, ha, hh, Bool.false_eq_true, if_false, Option.map_some] <;> rfl) trivial h3
  ·cases hx
 ·rename_i id i o h1
  rw [h1] at hv
  obtain ⟨ob, he, ha⟩ := hv
  rw [he] at hx
  obtain ⟨O, hO, hR⟩ := hs.hr id ob he
  cases ob with
  | row ty T fz es =>
   simp only at hx
   split at hx
   ·rename_i w hw
    cases hx
    obtain ⟨o1, o2, o3, o4, o5⟩ := hR
    have hlen : O.es.length = es.length := by have := o5.1; simpa using this
    have hlt : i < es.length := of_decide_eq_true hp
    have hcell : All2 Wp (O.es.getD i .any).cells (Ty.enc T (es.getD i T.dflt)).cells := by
     have := o5.getD (n := i) (by rw [List.length_map]; exact hlt) .any .any
     rw [getD_map_enc _ hlt] at this
     exact this.cells
    have hq := ok_load_cells (ρ := ρ) (h := h) hw hcell
    have hsz : (O.es.getD i .any).cells.length = T.size := by rw [hcell.1, enc_cells]
    cases ag with
    | true =>
     simp only [if_true] at hq
     exact StepOk.pure hs (q := o + sz ≤ O.sz ∧ i < es.length) (by simp only [step, ha, hO, XO.len, hlen, if_true] <;> rfl) ⟨by rw [o2]; omega, hlt⟩ hq.2
    | false =>
     simp only [Bool.false_eq_true, if_false] at hq
     obtain ⟨c, hc, hv⟩ := hq
     have hol : o < (O.es.getD i .any).cells.length := (List.getElem?_eq_some_iff.1 hc).1
     refine StepOk.pure hs (q := o < O.sz ∧ i < es.length) (by simp only [step, ha, hO, XO.len, hlen, if_true, Bool.false_eq_true, if_false] <;> rfl) ⟨by rw [o2]; omega, hlt⟩ ?_
     have : (O.es.getD i .any).cells.getD o .any = c := by simp only [List.getD] at hc ⊢; rw [hc]; rfl
     rw [this]; exact hv
   ·cases hx
  | vec ty cs =>
   obtain ⟨o1, o2, o3, o4, hc⟩ := hR
   simp only at hx
   split at hx
   case isFalse => cases hx
   rename_i hb
   simp only [Bool.and_eq_true, Bool.not_eq_true'] at hb
   obtain ⟨rfl, hb⟩ := hb
   have h0 := beq_eq hb
   subst h0
   split at hx
   case h_2 => cases hx
   rename_i w hw
   cases hx
   obtain ⟨e, h2, h3, h4⟩ := hc.get_left hw
   have hil : i < cs.length := (List.getElem?_eq_some_iff.1 hw).1
   refine StepOk.pure hs (q := 0 < O.sz ∧ i < cs.length) (by simp only [step, ha, hO, XO.len, hc.1, if_true, Bool.false_eq_true, if_false] <;> rfl) ⟨by omega, hil⟩ ?_
   have : (O.es.getD i .any).cells.getD 0 .any = e := by simp only [List.getD, h2, Option.getD_some, h3]; rfl
   rw [this]; exact VT.of1 h4
  | box ty cs =>
   obtain ⟨o1, o2, o3, o4, e, o5, hc⟩ := hR
   have hlen : O.es.length = 1 := by rw [o5]; rfl
   simp only at hx
   cases ag with
   | true =>
    simp only [if_true] at hx
    split at hx
    ·rename_i hb
     cases hx
     simp only [Bool.and_eq_true] at hb
     have hi := beq_eq hb.1
     have hl := Nat.le_of_ble_eq_true hb.2
     subst hi
     refine StepOk.pure hs (q := o + sz ≤ O.sz ∧ 0 < 1) (by simp only [step, ha, hO, XO.len, hlen, if_true] <;> rfl) ⟨by rw [o2]; exact hl, by omega⟩ ?_
     rw [o5]
     exact ⟨_, rfl, (hc.drop o).take sz⟩
    ·cases hx
   | false =>
    simp only [Bool.false_eq_true, if_false] at hx
    split at hx
    ·rename_i hb
     have hi := beq_eq hb
     subst hi
     split at hx
     ·rename_i w hw
      cases hx
      obtain ⟨c, h2, h3⟩ := hc.get_left hw
      have hol : o < cs.length := (List.getElem?_eq_some_iff.1 hw).1
      refine StepOk.pure hs (q := o < O.sz ∧ 0 < 1) (by simp only [step, ha, hO, XO.len, hlen, if_true, Bool.false_eq_true, if_false] <;> rfl) ⟨by rw [o2]; exact hol, by omega⟩ ?_
      rw [o5]
      have : ([e].getD 0 AV.any).cells.getD o .any = c := by simp only [List.getD_cons_zero]; simp only [List.getD, h2]; rfl
      rw [this]; exact VT.of1 h3
     ·cases hx
    ·cases hx
 ·cases hx
end
end Abs
end Go.Proofs.YtfjhljjginlobaaDoor
end
section
namespace Go.Proofs.YtfjhljjginlobaaDoor
namespace Abs
open Go.RowKit
section
variable {ρ : List Nat} {h : List XO} {H : List AObj} {σ : St} {Gl : Nat → Option (List AV)} {rd : Opd → XV} {tt : Nat → Option Ty}
theorem st_cells {a : AV} (hs : stCells false a = some a.cells) : ∀ c ∈ a.cells, c.cells = [c] := by
 intro c hc
 have hst : st1 false c = true := by
  cases a with
  | agg as =>
   simp only [stCells] at hs
   split at hs
   ·rename_i hall; exact List.all_eq_true.1 hall c hc
   ·cases hs
  | _ =>
   simp only [stCells] at hs
   split at hs
   ·rename_i h1
    simp only [AV.cells, List.mem_singleton] at hc
    subst hc; exact h1
   ·cases hs
 cases c <;> first | rfl | (cases hst; done)
theorem sim_store (sz : Nat) (x y : Opd) : SimI Gl ρ h σ rd tt (.store sz x y) := by
 intro hs hrd p v kl h' hx hp
 simp only [xstep] at hx
 have hv := hrd x
 have hvy := hrd y
 split at hx
 case h_2 => cases hx
 rename_i id i o h1
 rw [h1] at hv
 obtain ⟨ob, he, ha⟩ := hv
 rw [he] at hx
 obtain ⟨O, hO, hR⟩ := hs.hr id ob he
 have hleave : ∀ ok : Nat → Bool, leaves ok rd (.store sz x y) = true → ∀ id' ∈ [id], ok id' = true := by
  intro m hm id' hid
  simp only [leaves, h1, Bool.and_eq_true] at hm
  simp only [List.mem_singleton] at hid
  subst hid
  exact hm.1
 cases ob with
 | vec ty cs => cases hx
 | row ty T fz es =>
  obtain ⟨o1, o2, o3, o4, o5⟩ := hR
  have hlen : O.es.length = es.length := by have := o5.1; simpa using this
  simp only at hx
  split at hx
  ·rename_i T' w h2
   rw [h2] at hvy
   split at hx
   ·rename_i hz
    have hz := beq_eq hz
    split at hx
    ·rename_i z hset
     cases hx
     have hlt : i < es.length := of_decide_eq_true hp
     have hst := wp_st (x := w) hvy O.pr
     have hcl : (σ.val Gl y).cells.length = sz := by rw [(Wp.cells hvy).1, enc_cells, hz]
     obtain ⟨s1, s2⟩ := set_ok o5 hlt hvy hset
     refine ⟨o + sz ≤ O.sz ∧ i < es.length ∧ O.fz ≤ i, .any, _, ρ, [id], by simp only [step, ha, hO, XO.len, hlen, if_true, hst, hcl] <;> rfl, ⟨by rw [o2]; omega, hlt, by rw [o4]; simp⟩, ?_, trivial, hleave⟩
     exact Upd.set hs he ⟨rfl, rfl, by simp⟩ ⟨o1, o2, o3, by simpa using o4, s2⟩
    ·cases hx
   ·cases hx
  ·rename_i cs h2
   rw [h2] at hvy
   split at hx
   ·rename_i ho
    have ho := beq_eq ho
    subst ho
    split at hx
    ·rename_i z hz
     split at hx
     ·rename_i hsz
      have hsz := beq_eq hsz
      cases hx
      have hlt : i < es.length := of_decide_eq_true hp
      have hw := toD_pure hz (VT.notup hvy (fun vs q => by cases q))
      have hst := wp_st (x := z) hw O.pr
      have hcl : (σ.val Gl y).cells.length = sz := by rw [(Wp.cells hw).1, enc_cells, hsz]
      have s2 := whole_ok o5 hlt hw
      refine ⟨0 + sz ≤ O.sz ∧ i < es.length ∧ O.fz ≤ i, .any, _, ρ, [id], by simp only [step, ha, hO, XO.len, hlen, if_true, hst, hcl] <;> rfl, ⟨by rw [o2]; omega, hlt, by rw [o4]; simp⟩, ?_, trivial, hleave⟩
      exact Upd.set hs he ⟨rfl, rfl, by simp⟩ ⟨o1, o2, o3, by simpa using o4, s2⟩
     ·cases hx
    ·split at hx
     case h_2 => cases hx
     rename_i z hz
     split at hx
     case isFalse => cases hx
     rename_i hb
     cases hx
     simp only [Bool.and_eq_true, Bool.not_eq_true'] at hb
     obtain ⟨⟨hb1, hb2⟩, hb3⟩ := hb
     have hsz := beq_eq hb1
     have hlt : i < es.length := of_decide_eq_true hp
     obtain ⟨b, k1, k2, k3, k4⟩ := toD_keep hs hz (VT.notup hvy (fun vs q => by cases q))
     have hnone : stCells O.pr (σ.val Gl y) = none := by
      obtain ⟨as, ha2, hl⟩ := hvy
      obtain ⟨c, hc, hcr⟩ := List.any_eq_true.1 hb2
      obtain ⟨j, hj⟩ := List.mem_iff_getElem?.1 hc
      obtain ⟨d, hd, hv1⟩ := hl.get_left hj
      have hst : st1 true d = false := by
       cases c with
       | row j => obtain ⟨_, _, _, _, _, rfl⟩ := hv1; rfl
       | sub j o l => obtain ⟨_, _, _, _, _, rfl⟩ := hv1; rfl
       | _ => simp [rowsX1] at hcr
      have hall : as.all (st1 true) = false := by
       rcases q : as.all (st1 true) with _ | _
       ·rfl
       ·have := List.all_eq_true.1 q d (List.mem_of_getElem? hd); rw [hst] at this; cases this
      rw [ha2, o3]
      simp [stCells, hall]
     have u1 := Upd.frz _ hs k4
     have he2 : (frzX h (rowsX (.agg cs)))[id]? = some (.row ty T false es) := by
      have hid : id ∉ rowsX (.agg cs) := fun q => by
       have : (rowsX (.agg cs)).any (Nat.beq id) = true := List.any_eq_true.2 ⟨id, q, Nat.beq_refl id⟩
       rw [this] at hb3; cases hb3
      have key : ∀ (ids : List Nat) (g : List XO), id ∉ ids → (frzX g ids)[id]? = g[id]? := by
       intro ids
       induction ids with
       | nil => intro g _; rfl
       | cons j ids ih =>
        intro g hn
        have hj : j ≠ id := fun q => hn (by simp [q])
        have hi : id ∉ ids := fun q => hn (by simp [q])
        simp only [frzX, List.foldl_cons]
        have := fun g => ih g hi
        simp only [frzX] at this
        rw [this]
        cases hg : g[j]? with
        | none => rfl
        | some o => exact List.getElem?_set_ne hj
      rw [key _ _ hid]; exact he
     obtain ⟨O', hO', p1, p2, p3, p4, p5⟩ := u1.hs.hr id _ he2
     have hst := wp_st k2 O'.pr
     have hcl : b.cells.length = sz := by rw [(Wp.cells k2).1, enc_cells, hsz]
     have s2 := whole_ok p5 hlt k2
     rw [← k3] at hO' u1
     refine ⟨0 + sz ≤ O'.sz ∧ i < es.length ∧ O'.fz ≤ i, .any, _, ρ, rowsX (.agg cs) ++ [id], by simp only [step, ha, hO, XO.len, hlen, if_true, hnone, k1, hO', hst, hcl] <;> rfl, ⟨by rw [p2]; omega, hlt, by rw [p4]; simp⟩, ?_, trivial, fun ok hok id' hid => ?_⟩
     ·exact u1.trans (Upd.set u1.hs he2 ⟨rfl, rfl, by simp⟩ ⟨p1, p2, p3, by simpa using p4, s2⟩) hs.rl
     ·simp only [leaves, h1, h2, Bool.and_eq_true] at hok
      rcases List.mem_append.1 hid with q | q
      ·exact List.all_eq_true.1 hok.2 id' q
      ·exact hleave ok (by simp only [leaves, h1, h2, Bool.and_eq_true]; exact hok) id' q
   ·cases hx
  ·cases hx
 | box ty cs =>
  obtain ⟨o1, o2, o3, o4, e, o5, hc⟩ := hR
  have hlen : O.es.length = 1 := by rw [o5]; rfl
  simp only at hx
  split at hx
  ·rename_i vs hvs
   split at hx
   ·rename_i hb
    cases hx
    simp only [Bool.and_eq_true] at hb
    have hi := beq_eq hb.1.1.1
    have hsz := beq_eq hb.1.1.2
    have hl := Nat.le_of_ble_eq_true hb.1.2
    have h0 := blt_t hb.2
    subst hi
    obtain ⟨c1, c2⟩ := cells_ok hvs hvy
    have hcl : (σ.val Gl y).cells.length = sz := by rw [← c1.1, hsz]
    have hst : stCells O.pr (σ.val Gl y) = some (σ.val Gl y).cells := by rw [o3]; exact c2
    refine ⟨o + sz ≤ O.sz ∧ 0 < 1 ∧ O.fz ≤ 0, .any, _, ρ, [id], by simp only [step, ha, hO, XO.len, hlen, if_true, hst, hcl] <;> rfl, ⟨by rw [o2]; exact hl, by omega, by rw [o4]; simp⟩, ?_, trivial, hleave⟩
    refine Upd.set hs he trivial ⟨o1, ?_, o3, o4, setCells e o (σ.val Gl y).cells, by simp only [o5, List.set_cons_zero, List.getD_cons_zero], ?_⟩
    ·simp only [List.length_append, List.length_take, List.length_drop]; rw [o2]; omega
    ·cases e with
     | agg us =>
      have hc : All2 (V1 ρ h) cs us := hc
      show All2 (V1 ρ h) _ (us.take o ++ (σ.val Gl y).cells ++ us.drop (o + (σ.val Gl y).cells.length))
      rw [hcl, ← hsz]
      have := ((hc.take o).append c1).append (hc.drop (o + vs.length))
      exact this
     | _ =>
      have hcl1 : cs.length = 1 := by rw [hc.1]; rfl
      have ho : o = 0 := by omega
      have hs1 : vs.length = 1 := by omega
      subst ho
      have hcs : (σ.val Gl y).cells.length = 1 := by omega
      match hcc : (σ.val Gl y).cells, hcs with
      | [c], _ =>
       rw [hcc] at c1
       have hc1 := st_cells c2 c (by rw [hcc]; simp)
       show All2 (V1 ρ h) _ c.cells
       rw [hc1, List.take_zero, List.nil_append, List.drop_eq_nil_of_le (by omega), List.append_nil]
       exact c1
   ·cases hx
  ·cases hx
theorem cutL_map {e : Ty} {l u : Int} {xs : List e.den} {as : List AV} (hc : All2 Wp as (xs.map (Ty.enc e))) : All2 Wp ((as.take u.toNat).drop l.toNat) ((cutL l u xs).map (Ty.enc e)) := by
 simp only [cutL, List.map_drop, List.map_take]
 exact (hc.take _).drop _
theorem ok_slice_list (hs : HS ρ h σ.h) (hrd : ∀ o, VT ρ h (rd o) (σ.val Gl o)) {e : Ty} {xs : List e.den} {x : Opd} {lo hi : Option Opd} {sz : Nat} {p : Bool} {l u : Int} (hv : VT ρ h (.d (.list e) xs) (σ.val Gl x)) (hz : e.size = sz) (hcut : xcut xs.length (lo.map rd) (hi.map rd) = some (p, l, u)) (hp : p = true) : StepOk Gl ρ h σ rd (.slice sz x lo hi) (.d (.list e) (cutL l u xs)) [] h := by
 rcases vt_list hv with ⟨ha, rfl⟩ | ⟨as, ha, hl, hc⟩
 ·obtain ⟨h1, h2⟩ := xcut_ok hrd hcut hp
  refine StepOk.pure hs (by simp only [step, ha]; simp only [List.length_nil] at h1; rw [h1] <;> rfl) h2 ?_
  have : cutL l u ([] : List e.den) = [] := by simp [cutL]
  rw [this]
  exact Wp.nil _
 ·obtain ⟨h1, h2⟩ := xcut_ok hrd hcut hp
  rw [← hl] at h1 h2
  refine StepOk.pure hs (by simp only [step, ha, hz, if_true, h1, Option.map_some] <;> rfl) h2 ?_
  have := cutL_map (l := l) (u := u) hc
  rw [← hz]
  exact .list _ _ _ this.1 this.2
theorem ok_slice_row (hs : HS ρ h σ.h) (hrd : ∀ o, VT ρ h (rd o) (σ.val Gl o)) {id ty off len : Nat} {T : Ty} {fz : Bool} {es : List T.den} {x : Opd} {lo hi : Option Opd} {sz : Nat} {p : Bool} {l u : Int} (he : h[id]? = some (.row ty T fz es)) (ha : σ.val Gl x = .row (ρ.getD id 0) es.length T.size off len) (hz : T.size = sz)
  (hcut : xcut len (lo.map rd) (hi.map rd) = some (p, l, u)) (hp : p = true) : StepOk Gl ρ h σ rd (.slice sz x lo hi) (.sub id (off + l.toNat) (u - l).toNat) [] h := by
 obtain ⟨h1, h2⟩ := xcut_ok hrd hcut hp
 exact StepOk.pure hs (q := 0 ≤ l ∧ l ≤ u ∧ u ≤ (len : Int)) (by simp only [step, ha, hz, if_true, h1, Option.map_some] <;> rfl) h2 ⟨_, _, _, _, he, by rw [hz]⟩
theorem sim_slice3 (sz : Nat) (x y z : Opd) : SimI Gl ρ h σ rd tt (.slice3 sz x y z) := by
 intro hs hrd p v kl h' hx hp
 simp only [xstep] at hx
 have hv := hrd x
 have hy := hrd y
 have hzz := hrd z
 split at hx
 case h_2 => cases hx
 rename_i id k n k' m h1 h2 h3
 rw [h1] at hv; rw [h2] at hy; rw [h3] at hzz
 have ey := vt_int hy
 have ez := vt_int hzz
 obtain ⟨ty, T, fz, es, he, ha⟩ := hv
 rw [he] at hx
 simp only at hx
 split at hx
 case isFalse => cases hx
 rename_i hz
 cases hx
 simp only [Bool.and_eq_true, cutOk, decide_eq_true_eq, iEq, beq_iff_eq] at hp
 exact StepOk.pure hs (q := (0 : Int) ≤ (show Int from n) ∧ (show Int from n) ≤ (es.length : Int) ∧ (show Int from m) = (show Int from n)) (by simp only [step, ha, ey, ez, beq_eq hz, true_and, if_true] <;> rfl) ⟨hp.1.1.2, hp.1.2, (beq_iff_eq (α := Int)).1 hp.2⟩ ⟨_, _, _, _, he, by rw [beq_eq hz], by have := hp.1.2; have := hp.1.1.2; omega⟩
theorem sim_slice (sz : Nat) (x : Opd) (lo hi : Option Opd) : SimI Gl ρ h σ rd tt (.slice sz x lo hi) := by
 intro hs hrd p v kl h' hx hp
 simp only [xstep] at hx
 have hv := lst_vt (hrd x)
 split at hx
 ·rename_i e xs h1
  rw [h1] at hv
  split at hx
  ·rename_i hz
   split at hx
   ·rename_i p' l u hc
    cases hx
    exact ok_slice_list hs hrd hv (beq_eq hz) hc hp
   ·cases hx
  ·cases hx
 ·rename_i h1
  rw [h1] at hv
  split at hx
  ·rename_i p' l u hc
   cases hx
   obtain ⟨q1, q2⟩ := xcut_ok hrd hc hp
   exact StepOk.pure hs (by simp only [step, vt_k hv]; rw [q1] <;> rfl) q2 rfl
  ·cases hx
 ·rename_i id h1
  rw [h1] at hv
  obtain ⟨ty, T, fz, es, he, ha⟩ := hv
  rw [he] at hx
  simp only at hx
  split at hx
  ·rename_i hz
   split at hx
   ·rename_i p' l u hc
    cases hx
    have := ok_slice_row hs hrd he ha (beq_eq hz) hc hp
    rw [Nat.zero_add] at this
    exact this
   ·cases hx
  ·cases hx
 ·rename_i id off len h1
  rw [h1] at hv
  obtain ⟨ty, T, fz, es, he, ha⟩ := hv
  rw [he] at hx
  simp only at hx
  split at hx
  ·rename_i hz
   split at hx
   ·rename_i p' l u hc
    cases hx
    exact ok_slice_row hs hrd he ha (beq_eq hz) hc hp
   ·cases hx
  ·cases hx
 ·cases hx
theorem sim_sslice (x : Opd) (lo hi : Option Opd) : SimI Gl ρ h σ rd tt (.sslice x lo hi) := by
 intro hs hrd p v kl h' hx hp
 simp only [xstep] at hx
 have hv := hrd x
 split at hx
 ·rename_i s h1
  rw [h1] at hv
  split at hx
  ·rename_i p' l u hc
   cases hx
   obtain ⟨q1, q2⟩ := xcut_ok hrd hc hp
   exact StepOk.pure hs (by simp only [step, vt_str hv]; rw [q1] <;> rfl) q2 (Wp.refl _)
  ·cases hx
 ·cases hx
theorem sim_slen (x : Opd) : SimI Gl ρ h σ rd tt (.slen x) := by
 intro hs hrd p v kl h' hx hp
 simp only [xstep] at hx
 have hv := hrd x
 split at hx
 ·rename_i s h1
  rw [h1] at hv
  cases hx
  exact StepOk.pure hs (by simp only [step, vt_str hv] <;> rfl) trivial (Wp.refl _)
 ·cases hx
theorem sim_idx (x i : Opd) : SimI Gl ρ h σ rd tt (.idx x i) := by
 intro hs hrd p v kl h' hx hp
 simp only [xstep] at hx
 have hv := hrd x; have hi := hrd i
 split at hx
 ·rename_i s k n h1 h2
  rw [h1] at hv; rw [h2] at hi
  cases hx
  exact StepOk.pure hs (by simp only [step, vt_str hv, vt_int hi] <;> rfl) (bnd_iff hp) (Wp.refl _)
 ·cases hx
theorem sim_min2 (x y : Opd) : SimI Gl ρ h σ rd tt (.min2 x y) := by
 intro hs hrd p v kl h' hx hp
 simp only [xstep] at hx
 have hv := hrd x; have hi := hrd y
 split at hx
 ·rename_i k a k' b h1 h2
  rw [h1] at hv; rw [h2] at hi
  cases hx
  exact StepOk.pure hs (by simp only [step, vt_int hv, vt_int hi] <;> rfl) trivial (Wp.refl _)
 ·cases hx
theorem sim_max2 (x y : Opd) : SimI Gl ρ h σ rd tt (.max2 x y) := by
 intro hs hrd p v kl h' hx hp
 simp only [xstep] at hx
 have hv := hrd x; have hi := hrd y
 split at hx
 ·rename_i k a k' b h1 h2
  rw [h1] at hv; rw [h2] at hi
  cases hx
  exact StepOk.pure hs (by simp only [step, vt_int hv, vt_int hi] <;> rfl) trivial (Wp.refl _)
 ·cases hx
theorem getD_last {l : List Nat} {a : Nat} : (l ++ [a]).getD l.length 0 = a := by simp [List.getD]
theorem new_row (hs : HS ρ h H) {ty sz : Nat} {T : Ty} {ys : List T.den} {as : List AV} (hz : T.size = sz) (hc : All2 Wp as (ys.map (Ty.enc T))) : Upd ρ h H (ρ ++ [H.length]) (h ++ [.row ty T false ys]) (H ++ [⟨ty, sz, 0, true, as⟩]) [] [] ∧ V1 (ρ ++ [H.length]) (h ++ [.row ty T false ys]) (.row h.length) (.row H.length as.length sz 0 as.length) := by
 refine ⟨Upd.new hs ⟨rfl, hz.symm, rfl, by simp, hc⟩, ty, T, false, ys, by simp, ?_⟩
 have : as.length = ys.length := by rw [hc.1, List.length_map]
 rw [this, ← hs.rl, getD_last, hz]
theorem fits_iff {n b : Nat} (h : fits n b = true) : n * b ≤ maxB ∧ n ≤ 4611686018427387904 := by simpa [fits] using h
theorem sim_app (ty sz bytes : Nat) (s x : Opd) : SimI Gl ρ h σ rd tt (.app ty sz bytes s x) := by
 intro hs hrd p v kl h' hx hp
 simp only [xstep] at hx
 have hv := hrd s
 split at hx
 case h_2 => cases hx
 rename_i T hT
 split at hx
 case isFalse => cases hx
 rename_i hz
 have hz := beq_eq hz
 split at hx
 case h_2 => cases hx
 rename_i ys hys
 obtain ⟨as, ha, hc⟩ := elems_ok hs hz hys (hrd x)
 have hal : as.length = ys.length := by rw [hc.1, List.length_map]
 split at hx
 ·rename_i h1
  rw [h1] at hv
  cases hx
  obtain ⟨u1, u2⟩ := new_row (ty := ty) hs hz hc
  have hf := fits_iff hp
  refine ⟨as.length * bytes ≤ maxB ∧ as.length ≤ 4611686018427387904, _, _, _, [], by simp only [step, ha, vt_k hv, appY] <;> rfl, by rw [hal]; exact hf, u1, VT.of1 u2, by simp⟩
 ·rename_i id h1
  rw [h1] at hv
  obtain ⟨ty', T', fz', es', he, hav⟩ := hv
  rw [he] at hx
  simp only at hx
  split at hx
  case h_2 => cases hx
  rename_i ys' hcast
  split at hx
  case isFalse => cases hx
  rename_i hty
  have hty := beq_eq hty
  cases hx
  obtain ⟨q, rfl⟩ := castT_eq hcast
  cases q
  subst hty
  obtain ⟨O, hO, o1, o2, o3, o4, o5⟩ := hs.hr id _ he
  have hlen : O.es.length = es'.length := by have := o5.1; simpa using this
  have hf := fits_iff hp
  have o4' : O.fz = 0 := by simpa using o4
  have hobj : ObjS ρ h (.row ty T false (es' ++ ys)) { O with es := O.es ++ as } := ⟨o1, o2, o3, by simpa using o4, by rw [List.map_append]; exact o5.append hc⟩
  have hu := Upd.app hs he hobj
  refine ⟨es'.length = es'.length ∧ (es'.length + as.length) * bytes ≤ maxB ∧ es'.length + as.length ≤ 4611686018427387904, .row (ρ.getD id 0) (es'.length + as.length) sz 0 (es'.length + as.length), _, ρ, [id], ?_, ⟨rfl, by rw [hal]; exact hf.1, by rw [hal]; exact hf.2⟩, hu, ?_, ?_⟩
  ·simp only [step, ha, hav, appY, hO, hlen, hz, o1, o2, o3, o4', and_self, if_true]
  ·refine VT.of1 ⟨ty, T, false, es' ++ ys, ?_, ?_⟩
   ·show (killH [id] (h.set id (.row ty T false (es' ++ ys))))[id]? = _
    rw [killH_map, List.getElem?_map, List.getElem?_set_self (List.getElem?_eq_some_iff.1 he).1]; rfl
   ·rw [List.length_append, hal, hz]
  ·intro m hm id' hid
   simp only [leaves, h1] at hm
   simp only [List.mem_singleton] at hid
   subst hid
   exact hm
 ·cases hx
theorem bytes_enc (b : ByteArray) : All2 Wp (bytesAV b) ((bytesT b).map (Ty.enc (.int .u8))) := by
 have : (bytesT b).map (Ty.enc (.int .u8)) = bytesAV b := by
  unfold bytesT bytesAV
  rw [List.map_map]; rfl
 rw [this]; exact All2.rfl' Wp.refl _
theorem bytesT_len (b : ByteArray) : (bytesT b).length = (bytesAV b).length := by unfold bytesT bytesAV; rw [List.length_map, List.length_map]
theorem sim_apps (ty bytes : Nat) (s x : Opd) : SimI Gl ρ h σ rd tt (.apps ty bytes s x) := by
 intro hs hrd p v kl h' hx hp
 simp only [xstep] at hx
 have hv := hrd s
 have hw := hrd x
 split at hx
 case h_2 => cases hx
 rename_i b hT h2
 rw [h2] at hw
 have ew := vt_str hw
 have hc := bytes_enc b
 have hal : (bytesAV b).length = (bytesT b).length := (bytesT_len b).symm
 have hz : Ty.size (.int .u8) = 1 := rfl
 split at hx
 ·rename_i h1
  rw [h1] at hv
  cases hx
  obtain ⟨u1, u2⟩ := new_row (ty := ty) hs hz hc
  have hf := fits_iff hp
  refine ⟨(bytesAV b).length * bytes ≤ maxB ∧ (bytesAV b).length ≤ 4611686018427387904, _, _, _, [], by simp only [step, ew, vt_k hv, appY] <;> rfl, by rw [hal]; exact hf, u1, VT.of1 u2, by simp⟩
 ·rename_i id h1
  rw [h1] at hv
  obtain ⟨ty', T', fz', es', he, hav⟩ := hv
  rw [he] at hx
  split at hx
  case h_2 => cases hx
  rename_i ty2 es2 hq
  cases hq
  split at hx
  case isFalse => cases hx
  rename_i hty
  have hty := beq_eq hty
  cases hx
  subst hty
  obtain ⟨O, hO, o1, o2, o3, o4, o5⟩ := hs.hr id _ he
  have hlen : O.es.length = es2.length := by have := o5.1; rw [List.length_map] at this; exact this
  have hf := fits_iff hp
  have hobj : ObjS ρ h (.row ty (.int .u8) false (es2 ++ bytesT b)) { O with es := O.es ++ bytesAV b } := ⟨o1, o2, o3, by simpa using o4, by rw [List.map_append]; exact o5.append hc⟩
  have hu := Upd.app hs he hobj
  have hap : step Gl σ (.apps ty bytes s x) = some (es2.length = es2.length ∧ (es2.length + (bytesAV b).length) * bytes ≤ maxB ∧ es2.length + (bytesAV b).length ≤ 4611686018427387904, .row (ρ.getD id 0) (es2.length + (bytesAV b).length) 1 0 (es2.length + (bytesAV b).length), σ.h.set (ρ.getD id 0) { O with es := O.es ++ bytesAV b }) := by
   have ew' : σ.val Gl x = .v (.string b) := ew
   simp only [step, ew', hav, appY, hO]
   exact if_pos ⟨hlen, rfl, o1, o2, trivial, o3, by simpa using o4⟩
  refine ⟨_, _, _, _, [id], hap, ⟨rfl, by rw [hal]; exact hf⟩, hu, ?_, ?_⟩
  ·refine VT.of1 ⟨ty, .int .u8, false, es2 ++ bytesT b, ?_, ?_⟩
   ·show (killH [id] (h.set id (.row ty (.int .u8) false (es2 ++ bytesT b))))[id]? = _
    rw [killH_map, List.getElem?_map, List.getElem?_set_self (List.getElem?_eq_some_iff.1 he).1]; rfl
   ·rw [List.length_append, hal, hz]
  ·intro m hm id' hid
   simp only [leaves, h1] at hm
   simp only [List.mem_singleton] at hid
   subst hid
   exact hm
 ·cases hx
theorem bytesOf_enc : ∀ (xs : List Int) (as : List AV), All2 Wp as (xs.map (Ty.enc (.int .u8))) → bytesOf as = some (xs.map fun n => UInt8.ofNat n.toNat) := by
 intro xs
 induction xs with
 | nil => intro as h; rw [h.nil_right]; rfl
 | cons x xs ih =>
  intro as h
  obtain ⟨a, as', rfl, h1, h2⟩ := h.cons_right
  have e : a = .v (.int .u8 x) := h1.v_inv
  subst e
  simp only [bytesOf, byteOf, ih as' h2, List.map_cons]
theorem sim_b2s (x : Opd) : SimI Gl ρ h σ rd tt (.b2s x) := by
 intro hs hrd p v kl h' hx hp
 simp only [xstep] at hx
 split at hx
 ·rename_i xs hxs
  cases hx
  obtain ⟨as, ha, hc⟩ := elems_ok hs (T := .int .u8) (sz := 1) rfl hxs (hrd x)
  exact StepOk.pure hs (by simp only [step, ha, bytesOf_enc xs as hc, Option.map_some] <;> rfl) trivial (Wp.refl _)
 ·cases hx
theorem sim_s2b (ty : Nat) (x : Opd) : SimI Gl ρ h σ rd tt (.s2b ty x) := by
 intro hs hrd p v kl h' hx hp
 simp only [xstep] at hx
 have hw := hrd x
 split at hx
 case h_2 => cases hx
 rename_i b hT h2
 rw [h2] at hw
 have ew := vt_str hw
 cases hx
 obtain ⟨u1, u2⟩ := new_row (ty := ty) hs (T := .int .u8) (sz := 1) rfl (bytes_enc b)
 have hl : (bytesAV b).length = ByteArray.size b := by unfold bytesAV; rw [List.length_map, Array.length_toList]; rfl
 rw [hl] at u2
 refine ⟨ByteArray.size b ≤ 4611686018427387904, _, _, _, [], by simp only [step, ew] <;> rfl, of_decide_eq_true hp, u1, VT.of1 u2, by simp⟩
theorem freeze_len : ∀ (ids : List Nat) (H : List AObj), (freeze H ids).length = H.length := by
 intro ids
 induction ids with
 | nil => intro H; rfl
 | cons id ids ih =>
  intro H
  cases he : H[id]? with
  | none =>
   have e : freeze H (id :: ids) = freeze H ids := by simp only [freeze, List.foldl_cons, he]
   rw [e]; exact ih H
  | some o =>
   have e : freeze H (id :: ids) = freeze (H.set id { o with fz := o.es.length }) ids := by simp only [freeze, List.foldl_cons, he]
   rw [e, ih]; simp
theorem frzX_len : ∀ (ids : List Nat) (h : List XO), (frzX h ids).length = h.length := by
 intro ids
 induction ids with
 | nil => intro H; rfl
 | cons id ids ih =>
  intro H
  cases he : H[id]? with
  | none =>
   have e : frzX H (id :: ids) = frzX H ids := by simp only [frzX, List.foldl_cons, he]
   rw [e]; exact ih H
  | some o =>
   have e : frzX H (id :: ids) = frzX (H.set id (frzO o)) ids := by simp only [frzX, List.foldl_cons, he]
   rw [e, ih]; simp
theorem sim_bslice (ty sz : Nat) (xs : List Opd) : SimI Gl ρ h σ rd tt (.bslice ty sz xs) := by
 intro hs hrd p v kl h' hx hp
 simp only [xstep] at hx
 split at hx
 case h_2 => cases hx
 rename_i T hT
 split at hx
 case isFalse => cases hx
 rename_i hz
 have hz := beq_eq hz
 split at hx
 case h_2 => cases hx
 rename_i ys hys
 cases hx
 obtain ⟨bs, k1, k2, k3, k4⟩ := toDs_ok hs hys (map_vt (Gl := Gl) (σ := σ) hrd)
 have u1 := Upd.frz _ hs k4
 obtain ⟨u2, u3⟩ := new_row (ty := ty) u1.hs hz k2
 have u := u1.trans u2 hs.rl
 have hfl : (freeze σ.h (((xs.map rd).flatMap rowsX).map fun id => ρ.getD id 0)).length = σ.h.length := freeze_len _ _
 rw [hfl, frzX_len] at u3
 rw [hfl, ← k3] at u
 refine ⟨True, _, _, _, _, by simp only [step, k1, lens_ok hz k2, if_true] <;> rfl, trivial, u, VT.of1 u3, ?_⟩
 intro m hm id hid
 simp only [leaves] at hm
 simp only [List.append_nil] at hid
 exact List.all_eq_true.1 hm id hid
theorem pure_list {T : Ty} : ∀ {xs : List XV} {ys : List T.den} {as : List AV}, toDs [] T xs = some ys → All2 (VT ρ h) xs as → keepAL H as = some as ∧ All2 Wp as (ys.map (Ty.enc T)) ∧ ∀ a ∈ as, rowsA a = [] := by
 intro xs
 induction xs with
 | nil =>
  intro ys as hx hv
  cases hx
  have := hv.nil_left
  subst this
  exact ⟨rfl, .nil, by simp⟩
 | cons x xs ih =>
  intro ys as hx hv
  simp only [toDs] at hx
  split at hx
  ·rename_i z l hz hl
   cases hx
   obtain ⟨a, as', rfl, hv1, hv2⟩ := hv.cons_left
   have hnt : ∀ vs, x ≠ .tup vs := fun vs q => by
    subst q
    cases T <;> simp [toD, lst] at hz
   have hw := toD_pure hz (hv1.notup hnt)
   obtain ⟨k1, k2⟩ := wp_keep hw H
   obtain ⟨i1, i2, i3⟩ := ih hl hv2
   refine ⟨by simp only [keepAL, k1, i1], .cons hw i2, fun b hb => ?_⟩
   rcases List.mem_cons.1 hb with rfl | hb
   ·exact k2
   ·exact i3 b hb
  ·cases hx
theorem sim_blist (ty sz : Nat) (xs : List Opd) : SimI Gl ρ h σ rd tt (.blist ty sz xs) := by
 intro hs hrd p v kl h' hx hp
 simp only [xstep] at hx
 split at hx
 case h_2 => cases hx
 rename_i T hT
 split at hx
 case isFalse => cases hx
 rename_i hz
 have hz := beq_eq hz
 split at hx
 case h_2 => cases hx
 rename_i ys hys
 cases hx
 obtain ⟨k1, k2, k3⟩ := pure_list (H := σ.h) hys (map_vt (Gl := Gl) (σ := σ) hrd)
 have hr : (xs.map (σ.val Gl)).all (fun a => (rowsA a).isEmpty) = true := List.all_eq_true.2 fun a ha => by rw [k3 a ha]; rfl
 refine StepOk.pure hs (by simp only [step, k1, lens_ok hz k2, hr, Bool.and_self, if_true] <;> rfl) trivial ?_
 rw [← hz]
 exact .list _ _ _ k2.1 k2.2
theorem build_ok (hrd : ∀ o, VT ρ h (rd o) (σ.val Gl o)) : ∀ (ps : List (Nat × Nat × Opd)) (cs : List XV) (as : List AV) (cs' : List XV), All2 (V1 ρ h) cs as → buildX rd cs ps = some cs' → ∃ as', buildC Gl σ as ps = some as' ∧ All2 (V1 ρ h) cs' as' := by
 intro ps
 induction ps with
 | nil => intro cs as cs' hc hb; cases hb; exact ⟨as, rfl, hc⟩
 | cons p ps ih =>
  intro cs as cs' hc hb
  obtain ⟨off, sz, x⟩ := p
  simp only [buildX] at hb
  split at hb
  ·rename_i vs hvs
   split at hb
   ·rename_i hq
    simp only [Bool.and_eq_true] at hq
    have h1 := beq_eq hq.1
    have h2 := Nat.le_of_ble_eq_true hq.2
    obtain ⟨c1, c2⟩ := cells_ok hvs (hrd x)
    obtain ⟨as', e1, e2⟩ := ih _ _ cs' (((hc.take off).append c1).append (hc.drop (off + sz))) hb
    refine ⟨as', ?_, e2⟩
    have hl : (σ.val Gl x).cells.length = sz := by rw [← c1.1, h1]
    simp only [buildC, c2, hl, true_and, show off + sz ≤ as.length from by rw [← hc.1]; exact h2, if_true]
    exact e1
   ·cases hb
  ·cases hb
theorem zero_ok (l : List Value) : All2 (V1 ρ h) (l.map vx1) (l.map .v) :=
 ⟨by simp, fun i x a p q => by
  rw [List.getElem?_map] at p q
  cases hv : l[i]? with
  | none => rw [hv] at p; cases p
  | some v => rw [hv] at p q; cases p; cases q; exact vx1_v v⟩
theorem sim_build (zero : List Value) (ps : List (Nat × Nat × Opd)) : SimI Gl ρ h σ rd tt (.build zero ps) := by
 intro hs hrd p v kl h' hx hp
 simp only [xstep] at hx
 split at hx
 ·rename_i cs hb
  cases hx
  obtain ⟨as, e1, e2⟩ := build_ok hrd ps _ _ cs (zero_ok zero) hb
  exact StepOk.pure hs (by simp only [step, e1, Option.map_some] <;> rfl) trivial ⟨as, rfl, e2⟩
 ·cases hx
theorem new_box (hs : HS ρ h H) {ty : Nat} {cs : List XV} {e : AV} {sz : Nat} (hz : cs.length = sz) (hc : All2 (V1 ρ h) cs e.cells) : Upd ρ h H (ρ ++ [H.length]) (h ++ [.box ty cs]) (H ++ [⟨ty, sz, 0, false, [e]⟩]) [] [] ∧ V1 (ρ ++ [H.length]) (h ++ [.box ty cs]) (.ptr h.length 0 0) (.ptr H.length 1 0 0) := by
 refine ⟨Upd.new hs ⟨rfl, hz.symm, rfl, rfl, e, rfl, hc⟩, .box ty cs, by simp, ?_⟩
 rw [← hs.rl, getD_last]; rfl
theorem sim_box (ty sz : Nat) (x : Opd) : SimI Gl ρ h σ rd tt (.box ty sz x) := by
 intro hs hrd p v kl h' hx hp
 simp only [xstep] at hx
 split at hx
 ·rename_i cs hcs
  split at hx
  ·rename_i hz
   have hz := beq_eq hz
   cases hx
   obtain ⟨c1, c2⟩ := cells_ok hcs (hrd x)
   have hl : (σ.val Gl x).cells.length = sz := by rw [← c1.1, hz]
   obtain ⟨u1, u2⟩ := new_box (ty := ty) hs hz c1
   exact ⟨True, _, _, _, [], by simp only [step, c2, hl, if_true] <;> rfl, trivial, u1, VT.of1 u2, by simp⟩
  ·cases hx
 ·cases hx
theorem vx_av (v : Value) : VT ρ h (vx v) (avOf v) := by
 by_cases ha : ∃ cs, v = .agg cs
 ·obtain ⟨cs, rfl⟩ := ha; exact ⟨_, rfl, zero_ok cs.toList⟩
 ·have e1 : vx v = vx1 v := by cases v <;> first | rfl | exact absurd ⟨_, rfl⟩ ha
  have e2 : avOf v = .v v := by cases v <;> first | rfl | exact absurd ⟨_, rfl⟩ ha
  rw [e1, e2]; exact VT.of1 (vx1_v v)
theorem avOf_size (v : Value) : (avOf v).cells.length = v.cells.size := by
 cases v with
 | agg cs => simp [avOf, AV.cells, Value.cells]
 | _ => rfl
theorem sim_alloc (ty : Nat) (zero : Value) : SimI Gl ρ h σ rd tt (.alloc ty zero) := by
 intro hs hrd p v kl h' hx hp
 simp only [xstep] at hx
 split at hx
 ·rename_i cs hcs
  cases hx
  obtain ⟨c1, c2⟩ := cells_ok hcs (vx_av (ρ := ρ) (h := h) zero)
  obtain ⟨u1, u2⟩ := new_box (ty := ty) (sz := zero.cells.size) hs (by rw [c1.1, avOf_size]) c1
  exact ⟨True, _, _, _, [], by simp only [step] <;> rfl, trivial, u1, VT.of1 u2, by simp⟩
 ·cases hx
theorem fitsI_iff {n : Int} {b : Nat} (h : fitsI n b = true) : 0 ≤ n ∧ n * b ≤ maxB ∧ n ≤ 4611686018427387904 := by
 simp only [fitsI, Bool.and_eq_true, decide_eq_true_eq] at h
 exact ⟨h.1.1, h.1.2, h.2⟩
theorem okx_mk (hs : HS ρ h σ.h) {ty sz bytes : Nat} {zero : Value} {n : Opd} {m : Int} {T : Ty} {z : T.den} (hn : σ.val Gl n = .v (.int .i64 m)) (hz : T.size = sz) (ht : toD [] T (vx zero) = some z) (hp : fitsI m bytes = true) : StepOk Gl ρ h σ rd (.mk ty sz bytes zero n) (.row h.length) [] (h ++ [.row ty T false (List.replicate m.toNat z)]) := by
 have hf := fitsI_iff hp
 have hnt : ∀ vs, vx zero ≠ .tup vs := fun vs q => by
  rw [q] at ht
  cases T <;> simp [toD, lst] at ht
 have hw := toD_pure ht (VT.notup (vx_av (ρ := ρ) (h := h) zero) hnt)
 have hc : All2 Wp (List.replicate m.toNat (avOf zero)) ((List.replicate m.toNat z).map (Ty.enc T)) := by
  rw [List.map_replicate]
  exact ⟨by simp, fun i x y p q => by
   have p' := List.eq_of_mem_replicate (List.mem_of_getElem? p)
   have q' := List.eq_of_mem_replicate (List.mem_of_getElem? q)
   subst p' q'; exact hw⟩
 obtain ⟨u1, u2⟩ := new_row (ty := ty) hs hz hc
 rw [List.length_replicate] at u2
 exact ⟨_, _, _, _, [], by simp only [step, hn] <;> rfl, hf, u1, VT.of1 u2, by simp⟩
theorem sim_mk (ty sz bytes : Nat) (zero : Value) (n : Opd) : SimI Gl ρ h σ rd tt (.mk ty sz bytes zero n) := by
 intro hs hrd p v kl h' hx hp
 simp only [xstep] at hx
 have hv := hrd n
 split at hx
 ·rename_i T m hT h1
  rw [h1] at hv
  split at hx
  ·rename_i hz
   split at hx
   ·rename_i z hzz
    cases hx
    exact okx_mk hs (vt_int hv) (beq_eq hz) hzz hp
   ·cases hx
  ·cases hx
 ·cases hx
theorem sim_alloca (ty sz n : Nat) (zero : Value) : SimI Gl ρ h σ rd tt (.alloca ty sz n zero) := by
 intro hs hrd p v kl h' hx hp
 simp only [xstep] at hx
 split at hx
 ·rename_i T hT
  split at hx
  ·rename_i hz
   have hz := beq_eq hz
   split at hx
   ·rename_i z ht
    cases hx
    have hnt : ∀ vs, vx zero ≠ .tup vs := fun vs q => by
     rw [q] at ht
     cases T <;> simp [toD, lst] at ht
    have hw := toD_pure ht (VT.notup (vx_av (ρ := ρ) (h := h) zero) hnt)
    have hc : All2 Wp (List.replicate n (avOf zero)) ((List.replicate n z).map (Ty.enc T)) := by
     rw [List.map_replicate]
     exact ⟨by simp, fun i x y p q => by
      have p' := List.eq_of_mem_replicate (List.mem_of_getElem? p)
      have q' := List.eq_of_mem_replicate (List.mem_of_getElem? q)
      subst p' q'; exact hw⟩
    obtain ⟨u1, u2⟩ := new_row (ty := ty) hs hz hc
    refine ⟨True, _, _, _, [], by simp only [step] <;> rfl, trivial, u1, VT.of1 ⟨.row ty T false (List.replicate n z), (show (h ++ [XO.row ty T false (List.replicate n z)])[h.length]? = _ by simp), ?_⟩, by simp⟩
    rw [← hs.rl, getD_last]
    simp [XO.len]
   ·cases hx
  ·cases hx
 ·cases hx
theorem okx_aaddr (hs : HS ρ h σ.h) {bsz st n id j : Nat} {x i : Opd} {k : IntKind} {m : Int} {ty : Nat} {T : Ty} {fz : Bool} {es : List T.den} (he : h[id]? = some (.row ty T fz es)) (ha : σ.val Gl x = .ptr (ρ.getD id 0) (XO.len (.row ty T fz es)) j 0) (ei : σ.val Gl i = .v (.int k m)) (hz : T.size = bsz) (hb : 0 ≤ m ∧ m < (n : Int)) :
  StepOk Gl ρ h σ rd (.aaddr bsz st n x i) (.ptr id (j + m.toNat * st) 0) [] h := by
 obtain ⟨O, hO, o1, o2, _⟩ := hs.hr id _ he
 exact StepOk.pure hs (q := 0 ≤ m ∧ m < (n : Int)) (a := .ptr (ρ.getD id 0) (XO.len (.row ty T fz es)) (j + m.toNat * st) 0) (by simp only [step, ha, ei, hO]; rw [if_pos ⟨trivial, by rw [o2]; exact hz⟩]) hb ⟨_, he, rfl⟩
theorem tupL_enc {T : Ty} : ∀ {fs : List Ty} {x : Ty.denL fs} {xs : List T.den}, tupL T fs x = some xs → Ty.encL fs x = xs.flatMap fun y => (Ty.enc T y).cells := by
 intro fs
 induction fs with
 | nil => intro x xs h; cases h; rfl
 | cons t ts ih =>
  intro x xs h
  simp only [tupL] at h
  split at h
  ·rename_i a l ha hl
   cases h
   obtain ⟨e, rfl⟩ := castT_eq ha
   subst e
   simp only [Ty.encL, List.flatMap_cons, ih hl]
  ·cases h
theorem flat_nth {α β : Type} (f : α → List β) (k : Nat) (hk : ∀ x, (f x).length = k) : ∀ (xs : List α) (m : Nat) (hm : m < xs.length), ((xs.flatMap f).drop (m * k)).take k = f xs[m] := by
 intro xs
 induction xs with
 | nil => intro m hm; simp at hm
 | cons x xs ih =>
  intro m hm
  rw [List.flatMap_cons]
  cases m with
  | zero => simp [hk x]
  | succ m =>
   have e : (f x ++ xs.flatMap f).drop ((m + 1) * k) = (xs.flatMap f).drop (m * k) := by
    rw [List.drop_append, List.drop_eq_nil_of_le (by rw [hk x, Nat.add_mul, Nat.one_mul]; omega), List.nil_append, hk x]
    congr 1
    rw [Nat.add_mul, Nat.one_mul]; omega
   rw [e]
   exact ih m (by simpa using hm)
theorem sim_aaddr (bsz st n : Nat) (x i : Opd) : SimI Gl ρ h σ rd tt (.aaddr bsz st n x i) := by
 intro hs hrd p v kl h' hx hp
 simp only [xstep] at hx
 have hv := hrd x
 have hi := hrd i
 split at hx
 ·rename_i id j o k m h1 h2
  rw [h1] at hv; rw [h2] at hi
  have ei := vt_int hi
  obtain ⟨ob, he, ha⟩ := hv
  rw [he] at hx
  split at hx
  ·rename_i ty T fz es hq
   cases hq
   split at hx
   ·rename_i hz
    simp only [Bool.and_eq_true] at hz
    have h0 := beq_eq hz.1
    subst h0
    cases hx
    exact okx_aaddr hs he ha ei (beq_eq hz.2) (bnd_iff hp)
   ·cases hx
  ·cases hx
 ·rename_i T ts y o k m h1 h2
  rw [h1] at hv; rw [h2] at hi
  have ei := vt_int hi
  split at hx
  case h_2 => cases hx
  rename_i xs hxs
  split at hx
  case isFalse => cases hx
  rename_i hz
  simp only [Bool.and_eq_true] at hz
  obtain ⟨⟨⟨z1, z2⟩, z3⟩, z4⟩ := hz
  have z1 := beq_eq z1
  have z2 := beq_eq z2
  have z3 := beq_eq z3
  have z4 := beq_eq z4
  subst z1; subst z3
  cases hx
  have hb := bnd_iff hp
  obtain ⟨cs, ha, hc⟩ := hv
  rw [List.drop_zero] at hc
  have hm : m.toNat < xs.length := by omega
  have e1 : atI xs m T.dflt = xs[m.toNat] := by
   show xs.getD m.toNat _ = _
   simp [List.getD, List.getElem?_eq_getElem hm]
  refine StepOk.pure hs (by simp only [step, ha, ei] <;> rfl) hb ⟨_, rfl, ?_⟩
  rw [List.drop_zero, e1]
  have hq := (hc.drop (m.toNat * T.size)).take T.size
  have e2 : (Ty.enc (.tup (T :: ts)) y).cells = xs.flatMap fun x => (Ty.enc T x).cells := tupL_enc hxs
  rw [e2, flat_nth (fun x => (Ty.enc T x).cells) T.size (fun x => enc_cells T x) xs m.toNat hm] at hq
  rw [Nat.one_mul, ← z2]
  exact hq
 ·cases hx
theorem okx_aidx (hs : HS ρ h σ.h) {n : Nat} {x i : Opd} {k : IntKind} {m : Int} {T : Ty} {ts : List Ty} {y : Ty.denL (T :: ts)} {xs : List T.den} (hv : Wp (σ.val Gl x) (.agg (Ty.encL (T :: ts) y))) (ei : σ.val Gl i = .v (.int k m)) (hxs : tupL T (T :: ts) y = some xs) (z2 : xs.length = n) (hb : 0 ≤ m ∧ m < (n : Int)) :
  StepOk Gl ρ h σ rd (.aidx T.size T.isTup n x i) (.d T (atI xs m T.dflt)) [] h := by
 obtain ⟨cs, ha, hc⟩ := Wp.agg_inv hv
 have hm : m.toNat < xs.length := by omega
 have e1 : atI xs m T.dflt = xs[m.toNat] := by
  show xs.getD m.toNat _ = _
  simp [List.getD, List.getElem?_eq_getElem hm]
 have e2 : Ty.encL (T :: ts) y = xs.flatMap fun x => (Ty.enc T x).cells := tupL_enc hxs
 have hlen : cs.length = n * T.size := by
  rw [hc.1, e2, List.length_flatMap, ← z2]
  have : ∀ l : List T.den, (l.map fun x => (Ty.enc T x).cells.length).sum = l.length * T.size := by
   intro l
   induction l with
   | nil => simp
   | cons a l ih => rw [List.map_cons, List.sum_cons, ih, enc_cells, List.length_cons, Nat.add_mul, Nat.one_mul, Nat.add_comm]
  exact this xs
 have hq := (hc.drop (m.toNat * T.size)).take T.size
 rw [e2, flat_nth (fun x => (Ty.enc T x).cells) T.size (fun x => enc_cells T x) xs m.toNat hm] at hq
 rcases enc_agg (T := T) (x := xs[m.toNat]) with ⟨t1, es, t2⟩ | ⟨t1, t2⟩
 ·rw [t1]
  refine StepOk.pure hs (q := 0 ≤ m ∧ m < (n : Int)) (a := .agg ((cs.drop (m.toNat * T.size)).take T.size)) (by simp only [step, ha, ei, hlen, if_true] <;> rfl) hb ?_
  rw [e1]
  show Wp _ _
  rw [t2] at hq ⊢
  exact .agg _ _ hq.1 hq.2
 ·rw [t1]
  have hsz : T.size = 1 := by
   have := enc_cells T xs[m.toNat]
   rw [t2.cells] at this
   exact this.symm
  have hlt : m.toNat * T.size < cs.length := by rw [hlen, hsz]; omega
  refine StepOk.pure hs (q := (0 ≤ m ∧ m < (n : Int)) ∧ m.toNat * T.size < cs.length) (a := cs.getD (m.toNat * T.size) .any) (by simp only [step, ha, ei, hlen, if_true, Bool.false_eq_true, if_false] <;> rfl) ⟨hb, hlt⟩ ?_
  rw [e1]
  show Wp _ _
  rw [t2.cells] at hq
  have h0 : ((cs.drop (m.toNat * T.size)).take T.size)[0]? = some (cs.getD (m.toNat * T.size) .any) := by
   rw [List.getElem?_take, if_pos (by omega), List.getElem?_drop, Nat.add_zero]
   simp [List.getD, List.getElem?_eq_getElem hlt]
  exact hq.2 0 _ _ h0 rfl
theorem okx_aidx2 (hs : HS ρ h σ.h) {n : Nat} {x i : Opd} {k : IntKind} {m : Int} {cs : List XV} {c : XV} (hv : VA ρ h (.agg cs) (σ.val Gl x)) (ei : σ.val Gl i = .v (.int k m)) (z3 : cs.length = n) (hc1 : cs[m.toNat]? = some c) (hb : 0 ≤ m ∧ m < (n : Int)) :
  StepOk Gl ρ h σ rd (.aidx 1 false n x i) c [] h := by
 obtain ⟨as, ha, hc⟩ := hv
 obtain ⟨b, hb1, hb2⟩ := hc.get_left hc1
 have hlt : m.toNat * 1 < as.length := by rw [Nat.mul_one]; exact (List.getElem?_eq_some_iff.1 hb1).1
 have hl : as.length = n * 1 := by rw [← hc.1, z3, Nat.mul_one]
 refine StepOk.pure hs (q := (0 ≤ m ∧ m < (n : Int)) ∧ m.toNat * 1 < as.length) (a := as.getD (m.toNat * 1) .any) (by simp only [step, ha, ei, hl, if_true, Bool.false_eq_true, if_false] <;> rfl) ⟨hb, hlt⟩ ?_
 rw [Nat.mul_one]
 have : as.getD m.toNat .any = b := by simp [List.getD, hb1]
 rw [this]
 exact VT.of1 hb2
theorem sim_aidx (sz : Nat) (ag : Bool) (n : Nat) (x i : Opd) : SimI Gl ρ h σ rd tt (.aidx sz ag n x i) := by
 intro hs hrd p v kl h' hx hp
 simp only [xstep] at hx
 have hv := hrd x
 have hi := hrd i
 split at hx
 ·rename_i T ts y k m h1 h2
  rw [h1] at hv; rw [h2] at hi
  have ei := vt_int hi
  split at hx
  case h_2 => cases hx
  rename_i xs hxs
  split at hx
  case isFalse => cases hx
  rename_i hz
  simp only [Bool.and_eq_true] at hz
  obtain ⟨⟨z1, z2⟩, z3⟩ := hz
  have z1 := beq_eq z1
  have z2 := beq_eq z2
  have z3 : ag = T.isTup := by simpa using z3
  subst z1; subst z3
  cases hx
  exact okx_aidx hs hv ei hxs z2 (bnd_iff hp)
 ·rename_i cs k m h1 h2
  rw [h1] at hv; rw [h2] at hi
  have ei := vt_int hi
  split at hx
  case isFalse => cases hx
  rename_i hz
  simp only [Bool.and_eq_true, Bool.not_eq_true'] at hz
  obtain ⟨⟨z1, z2⟩, z3⟩ := hz
  have z1 := beq_eq z1
  have z3 := beq_eq z3
  subst z1; subst z2
  split at hx
  case h_2 => cases hx
  rename_i c hc1
  cases hx
  exact okx_aidx2 hs hv ei z3 hc1 (bnd_iff hp)
 ·cases hx
theorem scal_v {c : XV} {a : AV} (hc : scalX c = true) (hv : V1 ρ h c a) : ∃ z, a = .v z := by
 unfold scalX at hc
 split at hc
 ·exact ⟨_, Wp.v_inv hv⟩
 ·exact ⟨_, Wp.v_inv hv⟩
 ·exact ⟨_, Wp.v_inv hv⟩
 ·cases hc
theorem sim_aslf (n : Nat) (x : Opd) (lo hi : Option Opd) : SimI Gl ρ h σ rd tt (.aslf n x lo hi) := by
 intro hs hrd p v kl h' hx hp
 simp only [xstep] at hx
 have hv := hrd x
 split at hx
 case h_2 => cases hx
 rename_i id i o h1
 rw [h1] at hv
 obtain ⟨ob, he, ha⟩ := hv
 rw [he] at hx
 cases ob with
 | row ty T fz es => cases hx
 | vec ty cs => cases hx
 | box ty cs =>
  simp only at hx
  split at hx
  case h_2 => cases hx
  rename_i T hT
  split at hx
  case h_2 => cases hx
  rename_i z ys p' l u hz hys hc
  split at hx
  case isFalse => cases hx
  rename_i hb
  simp only [Bool.and_eq_true] at hb
  obtain ⟨⟨⟨b1, b2⟩, b3⟩, b4⟩ := hb
  have b1 := beq_eq b1
  have b2 := Nat.le_of_ble_eq_true b2
  have b3 := Nat.le_of_ble_eq_true b3
  subst b1
  cases hx
  obtain ⟨O, hO, o1, o2, o3, o4, e, o5, hcs⟩ := hs.hr id _ he
  have hlen : O.es.length = 1 := by rw [o5]; rfl
  have hel : e.cells.length = cs.length := hcs.1.symm
  have hagg : ∃ us, e = .agg us := by
   cases e with
   | agg us => exact ⟨us, rfl⟩
   | _ => exact absurd hel (by show ¬ (1 = cs.length); omega)
  obtain ⟨us, rfl⟩ := hagg
  have hcs : All2 (V1 ρ h) cs us := hcs
  have hall : O.es.all (fun e => e.cells.all allV) = true := by
   rw [o5]
   simp only [List.all_cons, List.all_nil, Bool.and_true]
   refine List.all_eq_true.2 fun a hq9 => ?_
   obtain ⟨k, hk⟩ := List.getElem?_of_mem hq9
   have hk : us[k]? = some a := hk
   obtain ⟨c, hc1, hc2⟩ := hcs.get_right hk
   obtain ⟨w, rfl⟩ := scal_v (List.all_eq_true.1 b4 c (List.mem_of_getElem? hc1)) hc2
   rfl
  have hw : Wp (.agg us) (Ty.enc T z) := toD_pure (ρ := ρ) (h := h) (x := .agg cs) hz ⟨us, rfl, hcs⟩
  have hTs : cs.length = T.size := by
   have := hw.cells.1
   rw [enc_cells] at this
   rw [hcs.1]; exact this
  obtain ⟨q1, q2⟩ := xcut_ok hrd hc hp
  have hu := (cutB_some q1).1
  have hq3 : 0 ≤ l ∧ l ≤ u ∧ u ≤ (n : Int) := by rw [← hu]; exact q2
  have hyl : All2 Wp ((us.drop o).take n) (ys.map (Ty.enc (.int .i64))) := by
   have hvt : All2 (VT ρ h) ((cs.drop o).take n) ((us.drop o).take n) := ((hcs.drop o).take n).mono fun _ _ q => VT.of1 q
   exact (pure_list (H := σ.h) hys hvt).2.1
  refine ⟨(0 ≤ l ∧ l ≤ u ∧ u ≤ (n : Int)) ∧ o + n ≤ O.sz ∧ 0 < 1, .list 1 ((((O.es.getD 0 .any).cells.drop o).take u.toNat).drop l.toNat), σ.h.set (ρ.getD id 0) { O with pr := true, fz := O.es.length }, ρ, [id], by simp only [step, ha, hO, XO.len, hlen, hall, and_self, if_true, q1, Option.map_some] <;> rfl, ⟨q2, by rw [o2]; exact b3, by omega⟩, Upd.set hs he rfl ⟨o1, by rw [o2, hTs], rfl, by simp [hlen], ?_⟩, ?_, ?_⟩
  ·rw [o5]; exact .cons hw .nil
  ·show Wp _ _
   have e0 : (O.es.getD 0 .any).cells = us := by rw [o5]; rfl
   rw [e0]
   have e1 : ((us.drop o).take u.toNat) = (((us.drop o).take n).take u.toNat) := by rw [List.take_take, Nat.min_eq_left (by omega)]
   rw [e1]
   have := cutL_map (e := .int .i64) (l := l) (u := u) hyl
   exact .list _ _ _ this.1 this.2
  ·intro ok hok id' hid
   simp only [leaves, h1] at hok
   simp only [List.mem_singleton] at hid
   subst hid
   exact hok
theorem sim_aslice (bsz n : Nat) (x : Opd) (lo hi : Option Opd) : SimI Gl ρ h σ rd tt (.aslice bsz n x lo hi) := by
 intro hs hrd p v kl h' hx hp
 simp only [xstep] at hx
 have hv := hrd x
 split at hx
 ·rename_i id j o h1
  rw [h1] at hv
  obtain ⟨ob, he, ha⟩ := hv
  rw [he] at hx
  split at hx
  ·rename_i ty T fz es hq
   cases hq
   split at hx
   ·rename_i hz
    simp only [Bool.and_eq_true] at hz
    have h0 := beq_eq hz.1.1
    have h00 := beq_eq hz.2
    subst h0 h00
    split at hx
    ·rename_i p l u hc
     cases hx
     simp only [Bool.and_eq_true] at hp
     obtain ⟨k1, k2⟩ := xcut_ok hrd hc hp.1
     obtain ⟨O, hO, o1, o2, _⟩ := hs.hr id _ he
     have hle : n ≤ es.length := of_decide_eq_true hp.2
     refine StepOk.pure hs (q := (0 ≤ l ∧ l ≤ u ∧ u ≤ (n : Int)) ∧ 0 + n ≤ XO.len (.row ty T fz es)) (a := .row (ρ.getD id 0) (XO.len (.row ty T fz es)) bsz (0 + l.toNat) (u - l).toNat) (by simp only [step, ha, hO]; rw [if_pos ⟨trivial, by rw [o2]; exact beq_eq hz.1.2⟩, k1]; rfl) ⟨k2, by simp only [XO.len]; omega⟩ ⟨_, _, _, _, he, by rw [beq_eq hz.1.2, Nat.zero_add]; rfl⟩
    ·cases hx
   ·cases hx
  ·cases hx
 ·cases hx
theorem okx_copy (hs : HS ρ h σ.h) {id ty off len sz : Nat} {T : Ty} {es ys : List T.den} {d s : Opd} (he : h[id]? = some (.row ty T false es)) (ha : σ.val Gl d = .row (ρ.getD id 0) es.length T.size off len) (hz : T.size = sz)
  (hv : VT ρ h (rd s) (σ.val Gl s)) (hy : elemsX h T (rd s) = some ys) (hl : off + len ≤ es.length) : StepOk Gl ρ h σ rd (.copy sz d s) (.d (.int .i64) ((min ys.length len : Nat) : Int)) [] (h.set id (.row ty T false (cpy es off len ys))) := by
 obtain ⟨as, e1, e2⟩ := elems_ok hs hz hy hv
 obtain ⟨O, hO, o1, o2, o3, o4, o5⟩ := hs.hr id _ he
 have hal : as.length = ys.length := by rw [e2.1, List.length_map]
 have hol : O.es.length = es.length := by have := o5.1; simpa using this
 have htl : (as.take len).length = (ys.take len).length := by simp [hal]
 have hR : All2 Wp (O.es.take off ++ as.take len ++ O.es.drop (off + (as.take len).length)) ((cpy es off len ys).map (Ty.enc T)) := by
  unfold cpy
  rw [List.map_append, List.map_append, List.map_take, List.map_take, List.map_drop, htl]
  exact ((o5.take off).append (e2.take len)).append (o5.drop _)
 have hlen : (cpy es off len ys).length = es.length := by
  unfold cpy
  simp only [List.length_append, List.length_take, List.length_drop]
  omega
 have hu := Upd.set hs (o' := .row ty T false (cpy es off len ys)) (O' := { O with es := O.es.take off ++ as.take len ++ O.es.drop (off + (as.take len).length) }) he (by simp [same2, hlen]) ⟨o1, o2, o3, by rw [o4]; simp, hR⟩
 refine ⟨O.fz ≤ off, .v (.int .i64 ((min as.length len : Nat) : Int)), _, ρ, [id], ?_, ?_, hu, ?_, ?_⟩
 ·simp only [step, e1, ha, hO]
  rw [if_pos ⟨hol, hz, by rw [o2, hz], o3, by simpa using o4⟩]
 ·rw [o4]; simp
 ·rw [hal]; exact vt_d (.refl _)
 ·intro m hm; cases hm
theorem sim_copy (sz : Nat) (d s : Opd) : SimI Gl ρ h σ rd tt (.copy sz d s) := by
 intro hs hrd p v kl h' hx hp
 simp only [xstep] at hx
 have hv := hrd d
 split at hx
 ·rename_i id off len h1
  rw [h1] at hv
  obtain ⟨ty, T, fz, es, he, ha⟩ := hv
  rw [he] at hx
  simp only at hx
  split at hx
  ·rename_i ys hy
   split at hx
   ·rename_i hz
    cases hx
    exact okx_copy hs he ha (beq_eq hz) (hrd s) hy (of_decide_eq_true hp)
   ·cases hx
  ·cases hx
 ·rename_i id h1
  rw [h1] at hv
  obtain ⟨ty, T, fz, es, he, ha⟩ := hv
  rw [he] at hx
  simp only at hx
  split at hx
  ·rename_i ys hy
   split at hx
   ·rename_i hz
    cases hx
    exact okx_copy hs he ha (beq_eq hz) (hrd s) hy (by omega)
   ·cases hx
  ·cases hx
 ·cases hx
theorem okX_st {x : XV} {a : AV} (hk : okX x = true) (hv : VT ρ h x a) : st1 false a = true ∧ a.cells = [a] ∧ V1 ρ h x a := by
 have hv1 : V1 ρ h x a := by cases x <;> first | exact hv | (cases hk; done)
 obtain ⟨c1, c2⟩ := st_ok hv1 hk
 exact ⟨c1, c2, hv1⟩
theorem sim_bvec (ty : Nat) (xs : List Opd) : SimI Gl ρ h σ rd tt (.bvec ty xs) := by
 intro hs hrd p v kl h' hx hp
 simp only [xstep] at hx
 split at hx
 case isFalse => cases hx
 rename_i hall
 cases hx
 have hone : ∀ x ∈ xs, st1 false (σ.val Gl x) = true ∧ (σ.val Gl x).cells = [σ.val Gl x] ∧ V1 ρ h (rd x) (σ.val Gl x) := fun x hxm =>
  okX_st (List.all_eq_true.1 hall _ (List.mem_map.2 ⟨x, hxm, rfl⟩)) (hrd x)
 have hst : (xs.map (σ.val Gl)).all (st1 false) = true := List.all_eq_true.2 fun a ha => by
  obtain ⟨x, hxm, rfl⟩ := List.mem_map.1 ha
  exact (hone x hxm).1
 have hO : ObjS ρ h (.vec ty (xs.map rd)) ⟨ty, 1, 0, false, xs.map (σ.val Gl)⟩ := by
  refine ⟨rfl, rfl, rfl, rfl, by simp, fun i c e q q' => ?_⟩
  rw [List.getElem?_map] at q q'
  cases hi : xs[i]? with
  | none => rw [hi] at q; cases q
  | some x =>
   rw [hi] at q q'
   cases q; cases q'
   exact (hone x (List.mem_of_getElem? hi)).2
 refine ⟨True, .row σ.h.length xs.length 1 0 xs.length, _, ρ ++ [σ.h.length], [], by simp only [step, hst, if_true] <;> rfl, trivial, Upd.new hs hO, ?_, fun _ _ _ q => by simp at q⟩
 refine VT.of1 ⟨ty, xs.map rd, by show (h ++ _)[h.length]? = _; simp, ?_⟩
 rw [← hs.rl, getD_last]; simp
theorem xstep_sim (i : I) : SimI Gl ρ h σ rd tt i := by
 cases i with
 | mov x => exact sim_mov x
 | pick c a b => exact sim_pick c a b
 | bin op x y => exact sim_bin op x y
 | beq n x y => exact sim_beq n x y
 | nilq n x => exact sim_nilq n x
 | aeq n fs x y => exact sim_aeq n fs x y
 | un op x => exact sim_un op x
 | conv k x => exact sim_conv k x
 | fld o s g x => exact sim_fld o s g x
 | ext i x => exact sim_ext i x
 | faddr o x => exact sim_faddr o x
 | iaddr s x i => exact sim_iaddr s x i
 | load s g x => exact sim_load s g x
 | store s x y => exact sim_store s x y
 | slice s x lo hi => exact sim_slice s x lo hi
 | slice3 s x y z => exact sim_slice3 s x y z
 | bvec t xs => exact sim_bvec t xs
 | sslice x lo hi => exact sim_sslice x lo hi
 | len x => exact sim_len x
 | slen x => exact sim_slen x
 | nck x => exact sim_nck x
 | idx x i => exact sim_idx x i
 | app t s b x y => exact sim_app t s b x y
 | apps t b x y => exact sim_apps t b x y
 | b2s x => exact sim_b2s x
 | s2b t x => exact sim_s2b t x
 | bslice t s xs => exact sim_bslice t s xs
 | blist t s xs => exact sim_blist t s xs
 | build z ps => exact sim_build z ps
 | box t s x => exact sim_box t s x
 | alloc t z => exact sim_alloc t z
 | mk t s b z n => exact sim_mk t s b z n
 | alloca t s n z => exact sim_alloca t s n z
 | aaddr b s n x i => exact sim_aaddr b s n x i
 | aslice b n x lo hi => exact sim_aslice b n x lo hi
 | aslf n x lo hi => exact sim_aslf n x lo hi
 | aidx s g n x i => exact sim_aidx s g n x i
 | copy s x y => exact sim_copy s x y
 | min2 x y => exact sim_min2 x y
 | max2 x y => exact sim_max2 x y
 | call f as => intro hs hrd p v kl h' hx hp; cases hx
end
end Abs
end Go.Proofs.YtfjhljjginlobaaDoor
end
section
namespace Go.Proofs.YtfjhljjginlobaaDoor
namespace Abs
open Go.RowKit
abbrev Foc := List (Option Nat)
def FLe (a b : Foc) : Prop := a.length = b.length ∧ ∀ (j id : Nat), a[j]? = some (some id) → b[j]? = some (some id)
theorem FLe.refl (a : Foc) : FLe a a := ⟨rfl, fun _ _ h => h⟩
theorem FLe.trans {a b c : Foc} (h : FLe a b) (k : FLe b c) : FLe a c := ⟨h.1.trans k.1, fun j id q => k.2 j id (h.2 j id q)⟩
theorem asg_ok {foc foc' : Foc} {j id : Nat} (h : asg foc j id = some foc') : FLe foc foc' ∧ foc'[j]? = some (some id) := by
 unfold asg at h
 split at h
 ·rename_i hj
  cases h
  have hlt : j < foc.length := (List.getElem?_eq_some_iff.1 hj).1
  refine ⟨⟨by simp, fun k id' q => ?_⟩, by rw [List.getElem?_set_self hlt]⟩
  by_cases hk : j = k
  ·subst hk; rw [hj] at q; cases q
  ·rw [List.getElem?_set_ne hk]; exact q
 ·rename_i id' hj
  split at h
  ·rename_i hb
   cases h
   have := beq_eq hb
   subst this
   exact ⟨FLe.refl _, hj⟩
  ·cases h
 ·cases h
inductive CR (foc : Foc) : XV → XV → Prop
 | any (v : XV) : CR foc v .any
 | d (v : XV) (T : Ty) (x : T.den) (h : toD [] T v = some x) : CR foc v (.d T x)
 | row (id j : Nat) (h : foc[j]? = some (some id)) : CR foc (.row id) (.row j)
 | ptr (id j i o : Nat) (h : foc[j]? = some (some id)) : CR foc (.ptr id i o) (.ptr j i o)
 | nil : CR foc (.k (.slice none 0 0)) (.k (.slice none 0 0))
 | me (id j : Nat) (h : foc[j]? = some (some id)) : CR foc (.me id) (.me j)
 | mep (id j : Nat) (h : foc[j]? = some (some id)) : CR foc (.ptr id 0 0) (.me j)
 | men (j : Nat) : CR foc (.k (.pointer none)) (.me j)
theorem CR.mono {foc foc' : Foc} {v c : XV} (h : CR foc v c) (hl : FLe foc foc') : CR foc' v c := by
 cases h with
 | any => exact .any _
 | d _ T x h => exact .d _ T x h
 | row id j h => exact .row id j (hl.2 _ _ h)
 | ptr id j i o h => exact .ptr id j i o (hl.2 _ _ h)
 | nil => exact .nil
 | me id j h => exact .me id j (hl.2 _ _ h)
 | mep id j h => exact .mep id j (hl.2 _ _ h)
 | men j => exact .men j
theorem isNilX_eq {v : XV} (h : isNilX v = true) : v = .k (.slice none 0 0) := by
 unfold isNilX at h
 split at h
 ·rfl
 ·cases h
theorem nilP_eq {v : Value} (h : nilP v = true) : v = .pointer none := by
 unfold nilP at h
 split at h
 ·rfl
 ·cases h
theorem meId_none {v : XV} (h : meId v = some none) : v = .k (.pointer none) := by
 cases v with
 | k v =>
  simp only [meId] at h
  split at h
  ·rename_i q; rw [nilP_eq q]
  ·cases h
 | ptr id i o => simp only [meId] at h; split at h <;> cases h
 | _ => simp [meId] at h
theorem meId_some {foc : Foc} {v : XV} {id j : Nat} (h : meId v = some (some id)) (hj : foc[j]? = some (some id)) : CR foc v (.me j) := by
 cases v with
 | k v => simp only [meId] at h; split at h <;> cases h
 | ptr id' i o =>
  simp only [meId] at h
  split at h
  ·rename_i hb
   simp only [Bool.and_eq_true] at hb
   have e1 := beq_eq hb.1
   have e2 := beq_eq hb.2
   subst e1 e2
   cases h
   exact .mep _ _ hj
  ·cases h
 | me id' => simp only [meId] at h; cases h; exact .me _ _ hj
 | _ => simp [meId] at h
theorem extC_ok : ∀ (cs : List SC) (r : List Ty) (vs : List XV) (foc foc' : Foc) (g : Ty.denL r → Ty.denL (SC.tys cs r)), extC cs r vs foc = some (foc', g) → FLe foc foc' ∧ ∀ y, (embC cs r (g y)).2 = y ∧ All2 (CR foc') vs (embC cs r (g y)).1 := by
 intro cs
 induction cs with
 | nil =>
  intro r vs foc foc' g h
  cases vs with
  | nil => simp only [extC] at h; cases h; exact ⟨FLe.refl _, fun y => ⟨rfl, .nil⟩⟩
  | cons => simp [extC] at h
 | cons c cs ih =>
  intro r vs foc foc' g h
  cases c with
  | d T =>
   simp only [extC] at h
   cases vs with
   | nil => cases h
   | cons v vs =>
    simp only at h
    split at h
    ·rename_i x foc1 g1 hx h1
     cases h
     obtain ⟨a, b⟩ := ih r vs foc foc' g1 h1
     exact ⟨a, fun y => ⟨(b y).1, .cons (.d v T x hx) (b y).2⟩⟩
    ·cases h
  | row j =>
   simp only [extC] at h
   split at h
   ·rename_i id vs
    split at h
    ·rename_i foc1 h1
     obtain ⟨a1, a2⟩ := asg_ok h1
     obtain ⟨a, b⟩ := ih r vs foc1 foc' g h
     exact ⟨a1.trans a, fun y => ⟨(b y).1, .cons (.row id j (a.2 _ _ a2)) (b y).2⟩⟩
    ·cases h
   ·cases h
  | ptr j i o =>
   simp only [extC] at h
   split at h
   ·rename_i id i' o' vs
    split at h
    ·rename_i hb
     simp only [Bool.and_eq_true] at hb
     have e1 := beq_eq hb.1
     have e2 := beq_eq hb.2
     subst e1 e2
     split at h
     ·rename_i foc1 h1
      obtain ⟨a1, a2⟩ := asg_ok h1
      obtain ⟨a, b⟩ := ih r vs foc1 foc' g h
      exact ⟨a1.trans a, fun y => ⟨(b y).1, .cons (.ptr id j i o (a.2 _ _ a2)) (b y).2⟩⟩
     ·cases h
    ·cases h
   ·cases h
  | me j =>
   simp only [extC] at h
   cases vs with
   | nil => cases h
   | cons v vs =>
    simp only at h
    split at h
    ·rename_i id hm
     split at h
     ·rename_i foc1 h1
      obtain ⟨a1, a2⟩ := asg_ok h1
      obtain ⟨a, b⟩ := ih r vs foc1 foc' g h
      exact ⟨a1.trans a, fun y => ⟨(b y).1, .cons (meId_some hm (a.2 _ _ a2)) (b y).2⟩⟩
     ·cases h
    ·rename_i hm
     obtain ⟨a, b⟩ := ih r vs foc foc' g h
     have := meId_none hm
     subst this
     exact ⟨a, fun y => ⟨(b y).1, .cons (.men j) (b y).2⟩⟩
    ·cases h
  | nil =>
   simp only [extC] at h
   cases vs with
   | nil => cases h
   | cons v vs =>
    simp only at h
    by_cases hv : isNilX v = true
    ·have h' : extC cs r vs foc = some (foc', g) := by simp only [hv, if_true] at h; exact h
     have := isNilX_eq hv
     subst this
     obtain ⟨a, b⟩ := ih r vs foc foc' g h'
     exact ⟨a, fun y => ⟨(b y).1, .cons .nil (b y).2⟩⟩
    ·simp only [hv, if_false] at h
     cases h
  | any =>
   simp only [extC] at h
   cases vs with
   | nil => cases h
   | cons v vs =>
    simp only at h
    obtain ⟨a, b⟩ := ih r vs foc foc' g h
    exact ⟨a, fun y => ⟨(b y).1, .cons (.any v) (b y).2⟩⟩
def OR' (foc : Foc) : XO → XO → Prop
 | .row ty T fz es, o2 => o2 = .row ty T fz es
 | .box ty vs, o2 => ∃ cs, o2 = .box ty cs ∧ All2 (CR foc) vs cs
 | .vec _ _, _ => False
theorem OR'.mono {foc foc' : Foc} {o o2 : XO} (h : OR' foc o o2) (hl : FLe foc foc') : OR' foc' o o2 := by
 cases o with
 | row => exact h
 | vec => exact h.elim
 | box ty vs => obtain ⟨cs, e, hc⟩ := h; exact ⟨cs, e, hc.mono fun x y q => q.mono hl⟩
theorem extO_ok (h : List XO) : ∀ (os : List SO) (j : Nat) (foc foc' : Foc) (y : Ty.denL (SO.tys os)), extO h os j foc = some (foc', y) → FLe foc foc' ∧ (embO os y).length = os.length ∧ ∀ (i : Nat) (o2 : XO), (embO os y)[i]? = some o2 → ∃ id o, foc'[j + i]? = some (some id) ∧ h[id]? = some o ∧ OR' foc' o o2 := by
 intro os
 induction os with
 | nil => intro j foc foc' y hx; simp only [extO] at hx; cases hx; exact ⟨FLe.refl _, rfl, fun i o2 q => by simp [embO] at q⟩
 | cons so os ih =>
  intro j foc foc' y hx
  cases so with
  | row ty T fz =>
   simp only [extO] at hx
   split at hx
   case h_2 => cases hx
   rename_i id hid
   split at hx
   case h_2 => cases hx
   rename_i ty' T' fz' es ho
   split at hx
   case isFalse => cases hx
   rename_i hb
   simp only [Bool.and_eq_true, beq_iff_eq] at hb
   have e1 := beq_eq hb.1
   have e2 := hb.2
   subst e1 e2
   split at hx
   case h_2 => cases hx
   rename_i es' foc1 y1 hc h1
   cases hx
   obtain ⟨q, rfl⟩ := castT_eq hc
   cases q
   obtain ⟨a, b, c⟩ := ih (j + 1) foc foc' y1 h1
   refine ⟨a, by simp only [embO, List.length_cons]; rw [b], fun i o2 q => ?_⟩
   cases i with
   | zero =>
    have q : some (XO.row ty T fz es) = some o2 := q
    cases q
    exact ⟨id, _, a.2 _ _ hid, ho, rfl⟩
   | succ i =>
    have q : (embO os y1)[i]? = some o2 := q
    have := c i o2 q
    rw [show j + 1 + i = j + (i + 1) by omega] at this
    exact this
  | box ty cs =>
   simp only [extO] at hx
   split at hx
   case h_2 => cases hx
   rename_i id hid
   split at hx
   case h_2 => cases hx
   rename_i ty' vs ho
   split at hx
   case isFalse => cases hx
   rename_i hb
   have e1 := beq_eq hb
   subst e1
   split at hx
   case h_2 => cases hx
   rename_i foc1 g hc
   split at hx
   case h_2 => cases hx
   rename_i foc2 y1 h1
   cases hx
   obtain ⟨a1, a2⟩ := extC_ok cs _ vs foc foc1 g hc
   obtain ⟨a, b, c⟩ := ih (j + 1) foc1 foc' y1 h1
   obtain ⟨g1, g2⟩ := a2 y1
   refine ⟨a1.trans a, ?_, fun i o2 q => ?_⟩
   ·show (XO.box ty _ :: embO os (embC cs (SO.tys os) (g y1)).2).length = _
    rw [g1, List.length_cons, List.length_cons, b]
   ·cases i with
    | zero =>
     have q : some (XO.box ty (embC cs (SO.tys os) (g y1)).1) = some o2 := q
     cases q
     exact ⟨id, _, (a1.trans a).2 _ _ hid, ho, _, rfl, g2.mono fun x y q => q.mono a⟩
    | succ i =>
     have q : (embO os (embC cs (SO.tys os) (g y1)).2)[i]? = some o2 := q
     rw [g1] at q
     have := c i o2 q
     rw [show j + 1 + i = j + (i + 1) by omega] at this
     exact this
theorem allSome_ok : ∀ {foc : Foc} {l : List Nat}, allSome foc = some l → foc.length = l.length ∧ ∀ (j id : Nat), foc[j]? = some (some id) ↔ l[j]? = some id := by
 intro foc
 induction foc with
 | nil => intro l h; cases h; exact ⟨rfl, by simp⟩
 | cons a foc ih =>
  intro l h
  cases a with
  | none => simp [allSome] at h
  | some a =>
   simp only [allSome] at h
   split at h
   ·rename_i m hm
    cases h
    obtain ⟨h1, h2⟩ := ih hm
    refine ⟨by simp [h1], fun j id => ?_⟩
    cases j with
    | zero => simp
    | succ j => simpa using h2 j id
   ·cases h
theorem nodupB_ok : ∀ {l : List Nat}, nodupB l = true → l.Nodup := by
 intro l
 induction l with
 | nil => intro _; exact List.nodup_nil
 | cons a l ih =>
  intro h
  simp only [nodupB, Bool.and_eq_true, Bool.not_eq_true', List.any_eq_false] at h
  rw [List.nodup_cons]
  refine ⟨fun hm => h.1 a hm (by simp), ih h.2⟩
def CRS (foc : Foc) (v c : XV) : Prop := CR foc v c ∨ ∃ vs cs, v = .agg vs ∧ c = .agg cs ∧ All2 (CR foc) vs cs
theorem CRS.mono {foc foc' : Foc} {v c : XV} (h : CRS foc v c) (hl : FLe foc foc') : CRS foc' v c := by
 rcases h with h | ⟨vs, cs, e1, e2, h⟩
 ·exact .inl (h.mono hl)
 ·exact .inr ⟨vs, cs, e1, e2, h.mono fun x y q => q.mono hl⟩
theorem set_crs {t b : List XV} {foc : Foc} {s : Nat} {c : XV} (hb : ∀ (i : Nat) (c : XV), b[i]? = some c → CRS foc (t.getD i .any) c) (hc : CRS foc (t.getD s .any) c) : ∀ (i : Nat) (c' : XV), (b.set s c)[i]? = some c' → CRS foc (t.getD i .any) c' := by
 intro i c' q
 rw [List.getElem?_set] at q
 split at q
 ·rename_i hi
  split at q
  ·cases q; subst hi; exact hc
  ·cases q
 ·exact hb i c' q
theorem extV_ok (t : List XV) (foc : Foc) : ∀ (vs : List (Nat × Ty)) (r : List Ty) (y : Ty.denL r) (x : Ty.denL (varTys vs r)) (b : List XV), extV t vs r y = some x → (∀ (i : Nat) (c : XV), b[i]? = some c → CRS foc (t.getD i .any) c) → (embV vs r x b).2 = y ∧ (embV vs r x b).1.length = b.length ∧ ∀ (i : Nat) (c : XV), (embV vs r x b).1[i]? = some c → CRS foc (t.getD i .any) c := by
 intro vs
 induction vs with
 | nil => intro r y x b h hb; simp only [extV] at h; cases h; exact ⟨rfl, rfl, hb⟩
 | cons p vs ih =>
  intro r y x b h hb
  obtain ⟨s, T⟩ := p
  simp only [extV] at h
  split at h
  ·rename_i x1 z h1 h2
   cases h
   obtain ⟨a, c, e⟩ := ih r y z (b.set s (.d T x1)) h2 (fun i c q => by
    rw [List.getElem?_set] at q
    split at q
    ·rename_i hi
     split at q
     ·cases q; subst hi; exact .inl (.d _ T x1 h1)
     ·cases q
    ·exact hb i c q)
   exact ⟨a, by rw [List.length_set] at c; exact c, e⟩
  ·cases h
theorem castI {k : IntKind} {m : Int} : toD [] (.int k) (.d (.int k) m) = some m := by
 have hs : Ty.same (.int k) (.int k) = true := by simp [Ty.same]
 show castT (a := .int k) (b := .int k) m = some m
 unfold castT; rw [dif_pos hs]; rfl
theorem iEqI {a b : Int} (h : iEq a b = true) : a = b := by simpa [iEq] using h
theorem isC_eq {k : IntKind} {n : Int} {v : XV} (h : isC k n v = true) : v = .d (.int k) n := by
 unfold isC at h
 split at h
 ·rename_i k' m
  simp only [Bool.and_eq_true, decide_eq_true_eq] at h
  obtain ⟨rfl, hb⟩ := h
  have hm : @Eq Int m n := iEqI hb
  exact congrArg (fun z : Int => XV.d (.int k) z) hm
 ·cases h
theorem extR_ok (t : List XV) : ∀ (refs : List (Nat × SR)) (r : List Ty) (foc foc' : Foc) (g : Ty.denL r → Ty.denL (refTys refs r)), extR t refs r foc = some (foc', g) → FLe foc foc' ∧ ∀ (y : Ty.denL r) (foc2 : Foc) (b : List XV), FLe foc' foc2 → (∀ (i : Nat) (c : XV), b[i]? = some c → CRS foc2 (t.getD i .any) c) →
  (embRf refs r (g y) b).2 = y ∧ (embRf refs r (g y) b).1.length = b.length ∧ ∀ (i : Nat) (c : XV), (embRf refs r (g y) b).1[i]? = some c → CRS foc2 (t.getD i .any) c := by
 intro refs
 induction refs with
 | nil => intro r foc foc' g h; simp only [extR] at h; cases h; exact ⟨FLe.refl _, fun y foc2 b _ hb => ⟨rfl, rfl, hb⟩⟩
 | cons p refs ih =>
  intro r foc foc' g h
  obtain ⟨s, sr⟩ := p
  have set1 : ∀ (c : XV) (foc1 : Foc), FLe foc foc1 → (∀ foc2, FLe foc1 foc2 → CRS foc2 (t.getD s .any) c) → (∀ (g1 : Ty.denL r → Ty.denL (refTys refs r)), extR t refs r foc1 = some (foc', g1) → FLe foc foc' ∧ ∀ (y : Ty.denL r) (foc2 : Foc) (b : List XV), FLe foc' foc2 → (∀ (i : Nat) (c : XV), b[i]? = some c → CRS foc2 (t.getD i .any) c) → (embRf refs r (g1 y) (b.set s c)).2 = y ∧ (embRf refs r (g1 y) (b.set s c)).1.length = b.length ∧ ∀ (i : Nat) (c' : XV), (embRf refs r (g1 y) (b.set s c)).1[i]? = some c' → CRS foc2 (t.getD i .any) c') := by
   intro c foc1 hl hc g1 h1
   obtain ⟨a1, a2⟩ := ih r foc1 foc' g1 h1
   refine ⟨hl.trans a1, fun y foc2 b hf hb => ?_⟩
   obtain ⟨b1, b2, b3⟩ := a2 y foc2 (b.set s c) hf (set_crs hb (hc foc2 (a1.trans hf)))
   exact ⟨b1, by rw [b2]; simp, b3⟩
  cases sr with
  | row j =>
   simp only [extR] at h
   split at h
   ·rename_i id hid
    split at h
    ·rename_i foc1 h1
     obtain ⟨a1, a2⟩ := asg_ok h1
     exact set1 (.row j) foc1 a1 (fun foc2 hf => by rw [hid]; exact .inl (.row id j (hf.2 _ _ a2))) g h
    ·cases h
   ·cases h
  | ptr j i o =>
   simp only [extR] at h
   split at h
   ·rename_i id i' o' hid
    split at h
    ·rename_i hb
     simp only [Bool.and_eq_true] at hb
     have e1 := beq_eq hb.1
     have e2 := beq_eq hb.2
     subst e1 e2
     split at h
     ·rename_i foc1 h1
      obtain ⟨a1, a2⟩ := asg_ok h1
      exact set1 (.ptr j i o) foc1 a1 (fun foc2 hf => by rw [hid]; exact .inl (.ptr id j i o (hf.2 _ _ a2))) g h
     ·cases h
    ·cases h
   ·cases h
  | nil =>
   by_cases hn : isNilX (t.getD s .any) = true
   ·have h' : extR t refs r foc = some (foc', g) := by simp only [extR, hn, if_true] at h; exact h
    exact set1 (.k (.slice none 0 0)) foc (FLe.refl _) (fun foc2 hf => by rw [isNilX_eq hn]; exact .inl .nil) g h'
   ·simp only [extR, hn, if_false] at h
    cases h
  | cst k n =>
   by_cases hn : isC k n (t.getD s .any) = true
   ·have h' : extR t refs r foc = some (foc', g) := by simp only [extR, hn, if_true] at h; exact h
    exact set1 (.d (.int k) n) foc (FLe.refl _) (fun foc2 hf => by rw [isC_eq hn]; exact .inl (.d _ (.int k) n castI)) g h'
   ·simp only [extR, hn, if_false] at h
    cases h
  | agg cs =>
   simp only [extR] at h
   split at h
   ·rename_i vs hid
    split at h
    ·rename_i foc1 g1 h1
     split at h
     ·rename_i foc3 g2 h2
      cases h
      obtain ⟨c1, c2⟩ := extC_ok cs _ vs foc foc1 g1 h1
      obtain ⟨a1, a2⟩ := ih r foc1 foc' g2 h2
      refine ⟨c1.trans a1, fun y foc2 b hf hb => ?_⟩
      obtain ⟨d1, d2⟩ := c2 (g2 y)
      obtain ⟨b1, b2, b3⟩ := a2 y foc2 (b.set s (.agg (embC cs (refTys refs r) (g1 (g2 y))).1)) hf (set_crs hb (by rw [hid]; exact .inr ⟨_, _, rfl, rfl, d2.mono fun x y q => q.mono (a1.trans hf)⟩))
      show (embRf refs r (embC cs (refTys refs r) (g1 (g2 y))).2 (b.set s (.agg (embC cs (refTys refs r) (g1 (g2 y))).1))).2 = y ∧ (embRf refs r (embC cs (refTys refs r) (g1 (g2 y))).2 (b.set s (.agg (embC cs (refTys refs r) (g1 (g2 y))).1))).1.length = b.length ∧ ∀ (i : Nat) (c : XV), (embRf refs r (embC cs (refTys refs r) (g1 (g2 y))).2 (b.set s (.agg (embC cs (refTys refs r) (g1 (g2 y))).1))).1[i]? = some c → CRS foc2 (t.getD i .any) c
      rw [d1]
      exact ⟨b1, by rw [b2]; simp, b3⟩
     ·cases h
    ·cases h
   ·cases h
theorem initF_len (nf : Nat) : ∀ (n j : Nat), (initF nf j n).length = n := by
 intro n
 induction n with
 | zero => intro j; rfl
 | succ n ih => intro j; simp only [initF, List.length_cons, ih]
theorem ext_sim {nf : Nat} {ρ : List Nat} {X : XS} {ts : List AV} {H : List AObj} {sh : Sh} {foc : List Nat} {x : Ty.denL sh.tys} (ht : All2 (VT ρ X.h) X.t ts) (hs : HS ρ X.h H) (hn : X.t.length = sh.n) (hx : ext nf sh X = some (foc, x)) :
  Sim (foc.map fun id => ρ.getD id 0) (emb sh x) ⟨ts, H⟩ ∧ (∀ id ∈ foc, id < X.h.length) ∧ foc.length = sh.objs.length ∧ foc.Nodup := by
 unfold ext at hx
 split at hx
 case h_2 => cases hx
 rename_i foc1 g h1
 split at hx
 case h_2 => cases hx
 rename_i foc2 y h2
 split at hx
 case h_2 => cases hx
 rename_i foc3 x3 h3 h4
 split at hx
 case isFalse => cases hx
 rename_i hnd
 cases hx
 obtain ⟨r1, r2⟩ := extR_ok X.t _ _ _ _ _ h1
 obtain ⟨o1, o2, o3⟩ := extO_ok X.h _ _ _ _ _ h2
 obtain ⟨s1, s2⟩ := allSome_ok h3
 obtain ⟨v1, v2, v3⟩ := extV_ok X.t foc2 sh.vars _ (g y) x (List.replicate sh.n .any) h4 (fun i c q => by
  have := List.eq_of_mem_replicate (List.mem_of_getElem? q); subst this; exact .inl (.any _))
 obtain ⟨w1, w2, w3⟩ := r2 y foc2 (embV sh.vars (refTys sh.refs (SO.tys sh.objs)) x (List.replicate sh.n .any)).1 o1 v3
 have hes : embS sh x = embRf sh.refs (SO.tys sh.objs) (g y) (embV sh.vars (refTys sh.refs (SO.tys sh.objs)) x (List.replicate sh.n .any)).1 := by
  unfold embS; rw [v1]
 have hfl : foc.length = sh.objs.length := by rw [← s1, ← o1.1, ← r1.1, initF_len]
 have hh2 : (emb sh x).h = embO sh.objs y := by show embO sh.objs (embS sh x).2 = _; rw [hes, w1]
 have cor : ∀ (j : Nat) (ob : XO), (emb sh x).h[j]? = some ob → ∃ id o, foc[j]? = some id ∧ X.h[id]? = some o ∧ OR' foc2 o ob := fun j ob q => by
  rw [hh2] at q
  obtain ⟨id, o, e1, e2, e3⟩ := o3 j ob q
  rw [Nat.zero_add] at e1
  exact ⟨id, o, (s2 j id).1 e1, e2, e3⟩
 have hlen : (emb sh x).h.length = foc.length := by rw [hh2, o2, hfl]
 have rget : ∀ (j id : Nat), foc[j]? = some id → (foc.map fun id => ρ.getD id 0).getD j 0 = ρ.getD id 0 := fun j id q => by
  simp [List.getD, List.getElem?_map, q]
 -- values
 have ptr1 : ∀ (id j i o : Nat) (a : AV), foc2[j]? = some (some id) → (∃ ob, X.h[id]? = some ob ∧ a = .ptr (ρ.getD id 0) ob.len i o) → ∃ ob, (emb sh x).h[j]? = some ob ∧ a = .ptr ((foc.map fun id => ρ.getD id 0).getD j 0) ob.len i o := by
   intro id j i o a hj hv
   obtain ⟨ob, he, rfl⟩ := hv
   have hj' := (s2 j id).1 hj
   have hjl : j < (emb sh x).h.length := by rw [hlen]; exact (List.getElem?_eq_some_iff.1 hj').1
   obtain ⟨id', o', e1, e2, e3⟩ := cor j _ (List.getElem?_eq_getElem hjl)
   rw [hj'] at e1
   cases e1
   rw [he] at e2
   cases e2
   refine ⟨_, List.getElem?_eq_getElem hjl, ?_⟩
   rw [rget j id hj']
   cases ob with
   | row ty T fz es => have e3 : (emb sh x).h[j] = .row ty T fz es := e3; rw [e3]
   | vec ty vs => exact e3.elim
   | box ty vs => obtain ⟨cs, e3, _⟩ := e3; rw [e3]; rfl
 have val1 : ∀ (v c : XV) (a : AV), CR foc2 v c → V1 ρ X.h v a → V1 (foc.map fun id => ρ.getD id 0) (emb sh x).h c a := by
  intro v c a hc hv
  cases hc with
  | any => trivial
  | d _ T z hz => exact toD_pure hz (VA.of1 hv)
  | nil => exact hv
  | row id j hj =>
   obtain ⟨ty, T, fz, es, he, rfl⟩ := hv
   have hj' := (s2 j id).1 hj
   have hjl : j < (emb sh x).h.length := by rw [hlen]; exact (List.getElem?_eq_some_iff.1 hj').1
   obtain ⟨id', o, e1, e2, e3⟩ := cor j _ (List.getElem?_eq_getElem hjl)
   rw [hj'] at e1
   cases e1
   rw [he] at e2
   cases e2
   have e3 : (emb sh x).h[j] = .row ty T fz es := e3
   exact ⟨ty, T, fz, es, by rw [List.getElem?_eq_getElem hjl, e3], by rw [rget j id hj']⟩
  | ptr id j i o hj => exact ptr1 id j i o a hj hv
  | me id j hj =>
   rcases hv with hv | hv
   ·exact .inl hv
   ·exact .inr (ptr1 id j 0 0 a hj hv)
  | mep id j hj => exact .inr (ptr1 id j 0 0 a hj hv)
  | men j => exact .inl hv
 refine ⟨⟨?_, ?_⟩, ?_, hfl, nodupB_ok hnd⟩
 ·refine ⟨?_, fun i c a p q => ?_⟩
  ·show (embS sh x).1.length = _
   rw [hes, w2, v2, List.length_replicate, ← hn]
   exact ht.1
  ·have hc := w3 i c (by rw [← hes]; exact p)
   have hil : i < X.t.length := by rw [ht.1]; exact (List.getElem?_eq_some_iff.1 q).1
   have hv := ht.2 i X.t[i] a (List.getElem?_eq_getElem hil) q
   have hg : X.t.getD i .any = X.t[i] := by simp [List.getD, List.getElem?_eq_getElem hil]
   rw [hg] at hc
   generalize X.t[i] = v at hc hv
   rcases hc with hc | ⟨vs, cs, rfl, rfl, hcs⟩
   case inr =>
    obtain ⟨as, rfl, hva⟩ := hv
    refine ⟨as, rfl, by rw [← hcs.1, hva.1], fun j c' a' p' q' => ?_⟩
    obtain ⟨v', hv', hcr⟩ := hcs.get_right p'
    exact val1 v' c' a' hcr (hva.2 j v' a' hv' q')
   cases hc with
   | any => trivial
   | d _ T z hz =>
    refine vt_d (toD_pure hz (VT.notup hv fun vs q => ?_))
    rw [q] at hz
    cases T <;> simp [toD, lst] at hz
   | row id j hj => exact VT.of1 (val1 _ _ a (.row id j hj) hv)
   | ptr id j i' o hj => exact VT.of1 (val1 _ _ a (.ptr id j i' o hj) hv)
   | nil => exact hv
   | me id j hj => exact VT.of1 (val1 _ _ a (.me id j hj) hv)
   | mep id j hj => exact VT.of1 (val1 _ _ a (.mep id j hj) hv)
   | men j => exact VT.of1 (val1 _ _ a (.men j) hv)
 ·refine ⟨by rw [List.length_map, hlen], ?_, fun j ob q => ?_⟩
  ·have : foc.Nodup := nodupB_ok hnd
   rw [List.nodup_iff_pairwise_ne, List.pairwise_map]
   refine List.Pairwise.imp_of_mem (fun {a b} ha hb hab e => ?_) (List.nodup_iff_pairwise_ne.1 this)
   have lt : ∀ a ∈ foc, a < X.h.length := fun a ha => by
    obtain ⟨j, hj⟩ := List.mem_iff_getElem?.1 ha
    have hjl : j < (emb sh x).h.length := by rw [hlen]; exact (List.getElem?_eq_some_iff.1 hj).1
    obtain ⟨id', o', e1, e2, e3⟩ := cor j _ (List.getElem?_eq_getElem hjl)
    rw [hj] at e1; cases e1
    exact (List.getElem?_eq_some_iff.1 e2).1
   exact hab (hs.inj (lt a ha) (lt b hb) e)
  ·obtain ⟨id, o, e1, e2, e3⟩ := cor j ob q
   obtain ⟨O, hO, hR⟩ := hs.hr id o e2
   refine ⟨O, by rw [rget j id e1]; exact hO, ?_⟩
   cases o with
   | row ty T fz es => have e3 : ob = .row ty T fz es := e3; subst e3; exact hR
   | vec ty vs => exact e3.elim
   | box ty vs =>
    obtain ⟨cs, rfl, hc⟩ := e3
    obtain ⟨q1, q2, q3, q4, e, q5, q6⟩ := hR
    refine ⟨q1, by rw [q2, hc.1], q3, q4, e, q5, by rw [← hc.1]; exact q6.1, fun i c a p q => ?_⟩
    obtain ⟨v, hv, hcr⟩ := hc.get_right p
    exact val1 v c a hcr (q6.2 i v a hv q)
 ·intro id hid
  obtain ⟨j, hj⟩ := List.mem_iff_getElem?.1 hid
  have hjl : j < (emb sh x).h.length := by rw [hlen]; exact (List.getElem?_eq_some_iff.1 hj).1
  obtain ⟨id', o', e1, e2, e3⟩ := cor j _ (List.getElem?_eq_getElem hjl)
  rw [hj] at e1; cases e1
  exact (List.getElem?_eq_some_iff.1 e2).1
theorem ext_novec {nf : Nat} {X : XS} {sh : Sh} {foc : List Nat} {x : Ty.denL sh.tys} (hx : ext nf sh X = some (foc, x)) : ∀ id ∈ foc, ∀ ty cs, X.h[id]? ≠ some (.vec ty cs) := by
 unfold ext at hx
 split at hx
 case h_2 => cases hx
 rename_i foc1 g h1
 split at hx
 case h_2 => cases hx
 rename_i foc2 y h2
 split at hx
 case h_2 => cases hx
 rename_i foc3 x3 h3 h4
 split at hx
 case isFalse => cases hx
 rename_i hnd
 cases hx
 obtain ⟨r1, r2⟩ := extR_ok X.t _ _ _ _ _ h1
 obtain ⟨o1, o2, o3⟩ := extO_ok X.h _ _ _ _ _ h2
 obtain ⟨s1, s2⟩ := allSome_ok h3
 intro id hid ty cs q
 obtain ⟨j, hj⟩ := List.mem_iff_getElem?.1 hid
 have hfl : foc.length = sh.objs.length := by rw [← s1, ← o1.1, ← r1.1, initF_len]
 have hjl : j < (embO sh.objs y).length := by rw [o2, ← hfl]; exact (List.getElem?_eq_some_iff.1 hj).1
 obtain ⟨id', o, e1, e2, e3⟩ := o3 j _ (List.getElem?_eq_getElem hjl)
 rw [Nat.zero_add] at e1
 have := (s2 j id').1 e1
 rw [hj] at this
 cases this
 rw [q] at e2
 cases e2
 exact e3
end Abs
end Go.Proofs.YtfjhljjginlobaaDoor
end
section
namespace Go.Proofs.YtfjhljjginlobaaDoor
namespace Abs
open Go.RowKit
def encs : (ps : List Ty) → Ty.denL ps → List AV
 | [], _ => []
 | T :: ps, x => Ty.enc T x.1 :: encs ps x.2
def oneT (l : List AV) : AV := match l with
 | [a] => a
 | l => .tup l
def POk (P : Program) (Gl : Nat → Option (List AV)) (p : PI) : Prop := callable P p.f = true ∧ ∀ x y, p.run x = some y → Pure P Gl p.f (encs p.ps x) (oneT (encs p.rs y))
structure Frm (H0 : List AObj) (ρ0 ρ : List Nat) (H : List AObj) : Prop where
 pre : ∃ l, ρ = ρ0 ++ l ∧ ∀ x ∈ l, H0.length ≤ x
 ge : H0.length ≤ H.length
 fr : ∀ j, j < H0.length → j ∉ ρ0 → H[j]? = H0[j]?
def HOk (P : Program) (Gl : Nat → Option (List AV)) (p : HI) : Prop := callable P p.f = true ∧ ∀ x y, p.run x = some y → ∀ (H : List AObj) (ρ : List Nat) (as : List AV), Sim ρ (emb p.ish x) ⟨as, H⟩ →
 PureH P Gl p.f H as (fun res H' => ∃ ρ' rs, Sim ρ' (emb p.osh y) ⟨rs, H'⟩ ∧ oneT rs = res ∧ Frm H ρ ρ' H')
theorem Frm.refl (H : List AObj) (ρ : List Nat) : Frm H ρ ρ H := ⟨⟨[], by simp, by simp⟩, Nat.le_refl _, fun _ _ _ => rfl⟩
theorem Frm.upd {H0 H H' : List AObj} {ρ0 ρ ρ' kl tch : List Nat} {h h' : List XO} (hf : Frm H0 ρ0 ρ H) (hρ : ρ.length = h.length) (hu : Upd ρ h H ρ' h' H' kl tch) : Frm H0 ρ0 ρ' H' := by
 obtain ⟨l, e1, q1⟩ := hf.pre
 obtain ⟨n, e2, q2⟩ := hu.ap
 refine ⟨⟨l ++ n, by rw [e2, e1, List.append_assoc], fun x hx => ?_⟩, Nat.le_trans hf.ge hu.ge, fun j hj hn => ?_⟩
 ·rcases List.mem_append.1 hx with q | q
  ·exact q1 x q
  ·exact Nat.le_trans hf.ge (q2 x q)
 ·rw [hu.fr j (Nat.lt_of_lt_of_le hj hf.ge) (fun id _ hid q => ?_), hf.fr j hj hn]
  have hmem : ρ.getD id 0 ∈ ρ := by
   have hl : id < ρ.length := by rw [hρ]; exact hid
   simp only [List.getD, List.getElem?_eq_getElem hl, Option.getD_some]
   exact List.getElem_mem _
  rw [q, e1] at hmem
  rcases List.mem_append.1 hmem with q' | q'
  ·exact hn q'
  ·have := q1 j q'; omega
section
variable {ρ : List Nat} {h : List XO} {H : List AObj}
theorem listX_ok : ∀ (rs : List Ty) (y : Ty.denL rs), All2 (VA ρ h) (listX rs y) (encs rs y) := by
 intro rs
 induction rs with
 | nil => intro y; exact .nil
 | cons T rs ih => intro y; exact .cons (Wp.refl _) (ih y.2)
theorem resX_ok (rs : List Ty) (y : Ty.denL rs) : VT ρ h (resX rs y) (oneT (encs rs y)) := by
 have hc := listX_ok (ρ := ρ) (h := h) rs y
 unfold resX oneT
 generalize listX rs y = l at hc
 generalize encs rs y = m at hc
 match l, m, hc with
 | [], m, hc => have := hc.nil_left; subst this; exact ⟨[], rfl, .nil⟩
 | [v], m, hc =>
  obtain ⟨a, r, rfl, hv, ht⟩ := hc.cons_left
  have := ht.nil_left
  subst this
  exact VT.ofA hv
 | v :: w :: l, m, hc =>
  obtain ⟨a, r, rfl, hv, ht⟩ := hc.cons_left
  obtain ⟨b, r', rfl, hw, ht'⟩ := ht.cons_left
  exact ⟨_, rfl, hc⟩
theorem scal_cells (T : Ty) : hasF T = false → ∀ x : T.den, ((Ty.enc T x).cells.all allV = scalT T) := by
 refine Ty.rec (motive_1 := fun T => hasF T = false → ∀ x : T.den, (Ty.enc T x).cells.all allV = scalT T) (motive_2 := fun fs => hasFL fs = false → ∀ x : Ty.denL fs, (Ty.encL fs x).all allV = scalL fs) ?_ ?_ ?_ ?_ ?_ ?_ ?_ ?_ ?_ T
 ·intro k _ x; rfl
 ·intro _ x; rfl
 ·intro _ x; rfl
 ·intro e _ _ x; rfl
 ·intro fs ih h x; exact ih h x
 ·intro f _ x; rfl
 ·intro e _ h; cases h
 ·intro _ x; rfl
 ·intro t ts h1 h2 h x
  simp only [hasFL, Bool.or_eq_false_iff] at h
  simp only [Ty.encL, List.all_append, h1 h.1, h2 h.2, scalL]
theorem scal_one (T : Ty) (hF : hasF T = false) (x : T.den) : (match Ty.enc T x with | .v _ => true | .agg cs => cs.all allV | _ => false) = scalT T := by
 cases T with
 | tup fs => exact scal_cells (.tup fs) hF x
 | listF e => cases hF
 | _ => rfl
theorem scal_all : ∀ (rs : List Ty) (hF : hasFL rs = false) (y : Ty.denL rs), ((encs rs y).all fun a => match a with | .v _ => true | .agg cs => cs.all allV | _ => false) = scalL rs := by
 intro rs
 induction rs with
 | nil => intro _ y; rfl
 | cons T rs ih =>
  intro h y
  simp only [hasFL, Bool.or_eq_false_iff] at h
  simp only [encs, List.all_cons, scal_one T h.1, ih h.2, scalL]
theorem scal_res (rs : List Ty) (hF : hasFL rs = false) (y : Ty.denL rs) : scalar (oneT (encs rs y)) = scalL rs := by
 match rs, hF, y with
 | [], _, y => rfl
 | [T], hF, y =>
  simp only [hasFL, Bool.or_false] at hF
  show scalar (Ty.enc T y.1) = (scalT T && true)
  rw [Bool.and_true, ← scal_one T hF y.1]
  cases T with
  | listF e => cases hF
  | _ => rfl
 | T :: U :: rs, hF, y => exact scal_all (T :: U :: rs) hF y
mutual
theorem scal_noF : ∀ {T : Ty}, scalT T = true → hasF T = false
 | .int _, _ => rfl
 | .bool, _ => rfl
 | .str, _ => rfl
 | .list _, _ => rfl
 | .tup fs, h => scalL_noF (fs := fs) h
 | .fnc _, _ => rfl
 | .listF _, h => by cases h
theorem scalL_noF : ∀ {fs : List Ty}, scalL fs = true → hasFL fs = false
 | [], _ => rfl
 | t :: ts, h => by
  simp only [scalL, Bool.and_eq_true] at h
  simp only [hasFL, scal_noF h.1, scalL_noF h.2, Bool.or_self]
end
theorem argsD_ok (hs : HS ρ h H) : ∀ (ps : List Ty) (vs : List XV) (x : Ty.denL ps) (as : List AV), argsD h ps vs = some x → All2 (VT ρ h) vs as → ∃ bs, keepAL H as = some bs ∧ All2 Wp bs (encs ps x) ∧ as.flatMap rowsA = (vs.flatMap rowsX).map (fun id => ρ.getD id 0) ∧ ∀ id ∈ vs.flatMap rowsX, isRow h id := by
 intro ps
 induction ps with
 | nil =>
  intro vs x as hx hv
  cases vs with
  | nil => have := hv.nil_left; subst this; exact ⟨[], rfl, .nil, rfl, by simp⟩
  | cons => simp [argsD] at hx
 | cons T ps ih =>
  intro vs x as hx hv
  cases vs with
  | nil => simp [argsD] at hx
  | cons v vs =>
   simp only [argsD] at hx
   split at hx
   ·rename_i z l hz hl
    cases hx
    obtain ⟨a, as', rfl, hv1, hv2⟩ := hv.cons_left
    have hnt : ∀ us, v ≠ .tup us := fun us q => by
     subst q
     cases T <;> simp [toD, lst] at hz
    obtain ⟨b, k1, k2, k3, k4⟩ := toD_keep hs hz (hv1.notup hnt)
    obtain ⟨bs, i1, i2, i3, i4⟩ := ih vs l as' hl hv2
    refine ⟨b :: bs, by simp only [keepAL, k1, i1], .cons k2 i2, by simp [k3, i3], fun id hid => ?_⟩
    simp only [List.flatMap_cons, List.mem_append] at hid
    rcases hid with q | q
    ·exact k4 id q
    ·exact i4 id q
   ·cases hx
theorem frzX_id : ∀ (ids : List Nat) (h : List XO), ids.all (isFz h) = true → frzX h ids = h := by
 intro ids
 induction ids with
 | nil => intro h _; rfl
 | cons id ids ih =>
  intro h ha
  simp only [List.all_cons, Bool.and_eq_true] at ha
  have hset : (match h[id]? with | some o => h.set id (frzO o) | none => h) = h := by
   have := ha.1
   unfold isFz at this
   split at this
   ·rename_i ty T fz es he
    rw [he]
    subst this
    simp only [frzO]
    apply List.ext_getElem?
    intro j
    rw [List.getElem?_set]
    split
    ·rename_i hj
     subst hj
     split
     ·rw [he]
     ·rename_i hl; rw [List.getElem?_eq_none (by omega)]
    ·rfl
   ·cases this
  show frzX (match h[id]? with | some o => h.set id (frzO o) | none => h) ids = h
  rw [hset]; exact ih h ha.2
def rowK : XO → Bool
 | .row .. => true
 | _ => false
def rowS : SO → Bool
 | .row .. => true
 | _ => false
theorem objS_pr {o : XO} {O : AObj} (hR : ObjS ρ h o O) : O.pr = rowK o := by
 cases o with
 | row => exact hR.2.2.1
 | box => exact hR.2.2.1
 | vec => exact hR.2.2.1
theorem embO_novec : ∀ (os : List SO) (y : Ty.denL (SO.tys os)) (ty : Nat) (cs : List XV), XO.vec ty cs ∉ embO os y := by
 intro os
 induction os with
 | nil => intro y ty cs q; simp [embO] at q
 | cons so os ih =>
  intro y ty cs q
  cases so with
  | row ty' T fz =>
   simp only [embO, List.mem_cons] at q
   rcases q with q | q
   ·cases q
   ·exact ih _ _ _ q
  | box ty' cs' =>
   simp only [embO, List.mem_cons] at q
   rcases q with q | q
   ·cases q
   ·exact ih _ _ _ q
theorem embO_kind : ∀ (os : List SO) (y : Ty.denL (SO.tys os)), (embO os y).map rowK = os.map rowS := by
 intro os
 induction os with
 | nil => intro y; rfl
 | cons so os ih =>
  intro y
  cases so with
  | row ty T fz => simp only [embO, List.map_cons, rowK, rowS, ih]
  | box ty cs => simp only [embO, List.map_cons, rowK, rowS, ih]
theorem kinds_ok : ∀ {os os' : List SO}, kinds os os' = true → os.length ≤ os'.length ∧ ∀ (j : Nat), j < os.length → (os.map rowS)[j]? = (os'.map rowS)[j]? := by
 intro os
 induction os with
 | nil => intro os' _; exact ⟨by simp, fun j hj => by simp at hj⟩
 | cons so os ih =>
  intro os' hk
  cases os' with
  | nil => cases so <;> simp [kinds] at hk
  | cons so' os' =>
   have hk' : kinds os os' = true ∧ rowS so = rowS so' := by cases so <;> cases so' <;> simp [kinds] at hk <;> exact ⟨hk, rfl⟩
   obtain ⟨a, b⟩ := ih hk'.1
   refine ⟨by simp; exact a, fun j hj => ?_⟩
   cases j with
   | zero => simp [hk'.2]
   | succ j => simpa using b j (by simpa using hj)
theorem rowIds_ok : ∀ (foc : List Nat) (os : List SO), foc.length = os.length → ∀ (j id : Nat), foc[j]? = some id → (os.map rowS)[j]? = some true → id ∈ rowIds foc os := by
 intro foc
 induction foc with
 | nil => intro os _ j id q; simp at q
 | cons f foc ih =>
  intro os hl j id q k
  cases os with
  | nil => simp at hl
  | cons so os =>
   have hl' : foc.length = os.length := by simpa using hl
   cases j with
   | zero =>
    simp at q k
    subst q
    cases so with
    | row => simp [rowIds]
    | box => cases k
   | succ j =>
    have := ih os hl' j id (by simpa using q) (by simpa using k)
    cases so with
    | row => simp only [rowIds, List.mem_cons]; exact .inr this
    | box => simp only [rowIds]; exact this
theorem setFoc_ok (foc : List Nat) (base : Nat) : ∀ (l : List Nat) (h os : List XO), l.Nodup → (∀ id ∈ l, id < h.length) → l.length ≤ os.length →
  (setFoc foc base l h os).length = h.length + (os.length - l.length) ∧ (∀ (k id : Nat), l[k]? = some id → (setFoc foc base l h os)[id]? = (os[k]?).map (renO foc base)) ∧ (∀ id, id < h.length → id ∉ l → (setFoc foc base l h os)[id]? = h[id]?) ∧ ∀ k, l.length ≤ k → k < os.length → (setFoc foc base l h os)[h.length + (k - l.length)]? = (os[k]?).map (renO foc base) := by
 intro l
 induction l with
 | nil =>
  intro h os _ _ _
  refine ⟨by simp [setFoc], fun k id q => by simp at q, fun id hid _ => ?_, fun k _ hk => ?_⟩
  ·simp only [setFoc]; rw [List.getElem?_append_left hid]
  ·simp only [setFoc, List.length_nil, Nat.sub_zero]
   rw [List.getElem?_append_right (by omega), Nat.add_sub_cancel_left, List.getElem?_map]
 | cons f l ih =>
  intro h os hn hlt hle
  cases os with
  | nil => simp at hle
  | cons o os =>
   rw [List.nodup_cons] at hn
   have hf := hlt f (by simp)
   obtain ⟨a, b, c, d⟩ := ih (h.set f (renO foc base o)) os hn.2 (fun id hid => by simp; exact hlt id (by simp [hid])) (by simpa using hle)
   refine ⟨by simp only [setFoc]; rw [a]; simp, fun k id q => ?_, fun id hid hn' => ?_, fun k hk hk' => ?_⟩
   ·cases k with
    | zero =>
     simp at q
     subst q
     simp only [setFoc]
     rw [c f (by simpa using hf) hn.1, List.getElem?_set_self hf]
     rfl
    | succ k =>
     simp only [setFoc]
     rw [b k id (by simpa using q)]
     simp
   ·simp only [setFoc]
    simp only [List.mem_cons, not_or] at hn'
    rw [c id (by simpa using hid) hn'.2, List.getElem?_set_ne (fun q => hn'.1 q.symm)]
   ·cases k with
    | zero => simp at hk
    | succ k =>
     simp only [setFoc]
     have := d k (by simpa using hk) (by simpa using hk')
     rw [List.length_set] at this
     simp only [List.length_cons, Nat.add_sub_add_right, List.getElem?_cons_succ]
     exact this
end
end Abs
end Go.Proofs.YtfjhljjginlobaaDoor
end
section
namespace Go.Proofs.YtfjhljjginlobaaDoor
namespace Abs
open Go.RowKit
section
variable {ρ : List Nat} {h : List XO} {H H' : List AObj}
theorem getD_congr {a b : List Nat} {i k : Nat} (q : a[i]? = b[k]?) : a.getD i 0 = b.getD k 0 := by simp only [List.getD, q]
theorem embV_notup : ∀ (vs : List (Nat × Ty)) (r : List Ty) (x : Ty.denL (varTys vs r)) (b : List XV), (∀ z ∈ b, ∀ us, z ≠ .tup us) → ∀ z ∈ (embV vs r x b).1, ∀ us, z ≠ .tup us := by
 intro vs
 induction vs with
 | nil => intro r x b hb; exact hb
 | cons p vs ih =>
  intro r x b hb
  obtain ⟨s, T⟩ := p
  refine ih r x.2 _ fun z hz us q => ?_
  rcases List.mem_or_eq_of_mem_set hz with hz | hz
  ·exact hb z hz us q
  ·rw [hz] at q; cases q
theorem embRf_notup : ∀ (refs : List (Nat × SR)) (r : List Ty) (x : Ty.denL (refTys refs r)) (b : List XV), (∀ z ∈ b, ∀ us, z ≠ .tup us) → ∀ z ∈ (embRf refs r x b).1, ∀ us, z ≠ .tup us := by
 intro refs
 induction refs with
 | nil => intro r x b hb; exact hb
 | cons p refs ih =>
  intro r x b hb
  obtain ⟨s, sr⟩ := p
  have st : ∀ c : XV, (∀ us, c ≠ .tup us) → ∀ z ∈ b.set s c, ∀ us, z ≠ .tup us := fun c hc z hz us q => by
   rcases List.mem_or_eq_of_mem_set hz with hz | hz
   ·exact hb z hz us q
   ·rw [hz] at q; exact hc us q
  cases sr with
  | row j => exact ih r x _ (st _ fun us q => by cases q)
  | ptr j i o => exact ih r x _ (st _ fun us q => by cases q)
  | nil => exact ih r x _ (st _ fun us q => by cases q)
  | cst k n => exact ih r x _ (st _ fun us q => by cases q)
  | agg cs => exact ih r _ _ (st _ fun us q => by cases q)
theorem emb_notup (sh : Sh) (x : Ty.denL sh.tys) : ∀ z ∈ (emb sh x).t, ∀ us, z ≠ .tup us := by
 refine embRf_notup _ _ _ _ (embV_notup _ _ _ _ fun z hz us q => ?_)
 have := List.eq_of_mem_replicate hz
 rw [this] at q; cases q
theorem merge_ok {ish osh : Sh} {vs : List XV} {as rs : List AV} {foc ρ' : List Nat} {x : Ty.denL ish.tys} {y : Ty.denL osh.tys} (hs : HS ρ h H) (hv : All2 (VT ρ h) vs as) (hn : vs.length = ish.n) {nf : Nat} (hx : ext nf ish ⟨vs, h⟩ = some (foc, x)) (hk : kinds ish.objs osh.objs = true)
  (hS : Sim ρ' (emb osh y) ⟨rs, H'⟩) (hF : Frm H (foc.map fun id => ρ.getD id 0) ρ' H') :
  ∃ ρc, Upd ρ h H ρc (setFoc foc h.length foc (killH (rowIds foc ish.objs) h) (emb osh y).h) H' (rowIds foc ish.objs) foc ∧ VT ρc (setFoc foc h.length foc (killH (rowIds foc ish.objs) h) (emb osh y).h) (outX foc h.length (emb osh y).t) (oneT rs) := by
 obtain ⟨hS0, hlt, hfl, hnd⟩ := ext_sim (X := ⟨vs, h⟩) hv hs hn hx
 have hnv : ∀ id ∈ foc, ∀ ty cs, h[id]? ≠ some (.vec ty cs) := ext_novec hx
 obtain ⟨l, hl1, hl2⟩ := hF.pre
 have hlt : ∀ id ∈ foc, id < h.length := hlt
 obtain ⟨kl1, kl2⟩ := kinds_ok hk
 have ho2 : (emb osh y).h.map rowK = osh.objs.map rowS := embO_kind _ _
 have ho1 : (emb ish x).h.map rowK = ish.objs.map rowS := embO_kind _ _
 have hol : (emb osh y).h.length = osh.objs.length := by have := congrArg List.length ho2; simpa using this
 have hol1 : (emb ish x).h.length = ish.objs.length := by have := congrArg List.length ho1; simpa using this
 have hkl : (killH (rowIds foc ish.objs) h).length = h.length := by rw [killH_map]; simp
 obtain ⟨s1, s2, s3, s4⟩ := setFoc_ok foc h.length foc (killH (rowIds foc ish.objs) h) (emb osh y).h hnd (fun id hid => by rw [hkl]; exact hlt id hid) (by rw [hol, hfl]; exact kl1)
 rw [hkl] at s1 s3 s4
 generalize hkeq : rowIds foc ish.objs = kl at *
 generalize hceq : setFoc foc h.length foc (killH kl h) (emb osh y).h = hc at *
 have hρ' : ρ'.length = (emb osh y).h.length := hS.h.rl
 have hll : l.length = (emb osh y).h.length - foc.length := by
  have := congrArg List.length hl1; simp at this; omega
 have hfo : foc.length ≤ (emb osh y).h.length := by rw [hol, hfl]; exact kl1
 -- the numbers
 have num : ∀ j, j < (emb osh y).h.length → (ρ ++ l).getD (if Nat.blt j foc.length = true then foc.getD j 0 else h.length + (j - foc.length)) 0 = ρ'.getD j 0 ∧ hc[if Nat.blt j foc.length = true then foc.getD j 0 else h.length + (j - foc.length)]? = ((emb osh y).h[j]?).map (renO foc h.length) := by
  intro j hj
  by_cases hjf : Nat.blt j foc.length = true
  ·have hj' := blt_t hjf
   rw [if_pos hjf]
   have hg : foc[j]? = some (foc.getD j 0) := by simp [List.getD, List.getElem?_eq_getElem hj']
   refine ⟨?_, s2 j _ hg⟩
   have hm : foc.getD j 0 ∈ foc := List.mem_of_getElem? hg
   rw [getD_left (by rw [hs.rl]; exact hlt _ hm), hl1, getD_left (by simpa using hj')]
   simp [List.getD, List.getElem?_map, List.getElem?_eq_getElem hj']
  ·have hj' := blt_f hjf
   rw [if_neg hjf]
   refine ⟨?_, s4 j hj' hj⟩
   rw [hl1]
   have e1 : (ρ ++ l)[h.length + (j - foc.length)]? = l[j - foc.length]? := by rw [List.getElem?_append_right (by rw [hs.rl]; omega), hs.rl, Nat.add_sub_cancel_left]
   have e2 : ((foc.map fun id => ρ.getD id 0) ++ l)[j]? = l[j - foc.length]? := by rw [List.getElem?_append_right (by simpa using hj')]; simp
   exact getD_congr (e1.trans e2.symm)
 have val1 : ∀ (v : XV) (a : AV), V1 ρ' (emb osh y).h v a → V1 (ρ ++ l) hc (ren1 foc h.length v) a := by
  intro v a hv
  cases v with
  | row j =>
   obtain ⟨ty, T, fz, es, he, rfl⟩ := hv
   obtain ⟨n1, n2⟩ := num j (List.getElem?_eq_some_iff.1 he).1
   exact ⟨ty, T, fz, es, by rw [n2, he]; rfl, by rw [n1]⟩
  | sub j off len => trivial
  | csub j len => trivial
  | vrow j => trivial
  | ptr j i o =>
   obtain ⟨ob, he, rfl⟩ := hv
   obtain ⟨n1, n2⟩ := num j (List.getElem?_eq_some_iff.1 he).1
   refine ⟨renO foc h.length ob, by rw [n2, he]; rfl, ?_⟩
   rw [n1]
   cases ob <;> rfl
  | me j =>
   rcases hv with hv | ⟨ob, he, rfl⟩
   ·exact .inl hv
   ·obtain ⟨n1, n2⟩ := num j (List.getElem?_eq_some_iff.1 he).1
    refine .inr ⟨renO foc h.length ob, by rw [n2, he]; rfl, ?_⟩
    rw [n1]
    cases ob <;> rfl
  | agg => exact hv.elim
  | tup => exact hv.elim
  | _ => exact hv
 have valA : ∀ (v : XV) (a : AV), VA ρ' (emb osh y).h v a → VA (ρ ++ l) hc (renA foc h.length v) a := by
  intro v a hv
  by_cases ha : ∃ cs, v = .agg cs
  ·obtain ⟨cs, rfl⟩ := ha
   obtain ⟨us, rfl, hcs⟩ := hv
   refine ⟨us, rfl, by simp [hcs.1], fun i z b p q => ?_⟩
   rw [List.getElem?_map] at p
   cases hz : cs[i]? with
   | none => rw [hz] at p; cases p
   | some w => rw [hz] at p; cases p; exact val1 w b (hcs.2 i w b hz q)
  ·have e1 : renA foc h.length v = ren1 foc h.length v := by cases v <;> first | rfl | exact absurd ⟨_, rfl⟩ ha
   rw [e1]
   exact VA.of1 (val1 v a (by cases v <;> first | exact hv | exact absurd ⟨_, rfl⟩ ha))
 have nov : ∀ (j : Nat) (ty : Nat) (cs : List XV), (emb osh y).h[j]? ≠ some (.vec ty cs) := fun j ty cs q => embO_novec _ _ ty cs (List.mem_of_getElem? q)
 have obj1 : ∀ (j : Nat) (o : XO) (O : AObj), (emb osh y).h[j]? = some o → ObjS ρ' (emb osh y).h o O → ObjS (ρ ++ l) hc (renO foc h.length o) O := by
  intro j o O hj hR
  cases o with
  | vec ty cs => exact absurd hj (nov j ty cs)
  | row => exact hR
  | box ty cs =>
   obtain ⟨a, b, c, d, e, he, hcs⟩ := hR
   refine ⟨a, by simpa using b, c, d, e, he, by simp [hcs.1], fun i z w p q => ?_⟩
   rw [List.getElem?_map] at p
   cases hz : cs[i]? with
   | none => rw [hz] at p; cases p
   | some u => rw [hz] at p; cases p; exact val1 u w (hcs.2 i u w hz q)
 -- what was known
 have kind1 : ∀ (j id : Nat) (o : XO), foc[j]? = some id → h[id]? = some o → (ish.objs.map rowS)[j]? = some (rowK o) := by
  intro j id o hj ho
  have hjl : j < (emb ish x).h.length := by rw [hol1, ← hfl]; exact (List.getElem?_eq_some_iff.1 hj).1
  obtain ⟨O1, hO1, hR1⟩ := hS0.h.hr j _ (List.getElem?_eq_getElem hjl)
  obtain ⟨O2, hO2, hR2⟩ := hs.hr id o ho
  have : (foc.map fun id => ρ.getD id 0).getD j 0 = ρ.getD id 0 := by simp [List.getD, List.getElem?_map, hj]
  rw [this] at hO1
  have hO1 : H[ρ.getD id 0]? = some O1 := hO1
  rw [hO2] at hO1
  cases hO1
  rw [← ho1, List.getElem?_map, List.getElem?_eq_getElem hjl]
  show some (rowK _) = some (rowK o)
  rw [← objS_pr hR1, objS_pr hR2]
 have tr : Trn ρ h (ρ ++ l) hc kl := by
  refine Trn.mk (fun id o ho hn => ?_) (fun id hid => getD_left (by rw [hs.rl]; exact hid))
  by_cases hf : id ∈ foc
  ·obtain ⟨j, hj⟩ := List.mem_iff_getElem?.1 hf
   have hjl : j < foc.length := (List.getElem?_eq_some_iff.1 hj).1
   have hk1 := kind1 j id o hj ho
   have hbox : rowK o = false := by
    cases hr : rowK o with
    | false => rfl
    | true =>
     rw [hr] at hk1
     have := rowIds_ok foc ish.objs hfl j id hj hk1
     rw [hkeq] at this
     exact absurd this hn
   have hjo : j < (emb osh y).h.length := by omega
   have hk2 := kl2 j (by rw [← hfl]; exact hjl)
   rw [hk1, hbox, ← ho2, List.getElem?_map, List.getElem?_eq_getElem hjo] at hk2
   have hk3 : rowK (emb osh y).h[j] = false := by simpa using hk2.symm
   refine ⟨renO foc h.length (emb osh y).h[j], by rw [s2 j id hj, List.getElem?_eq_getElem hjo]; rfl, ?_⟩
   cases o with
   | row => cases hbox
   | vec ty cs => exact absurd ho (hnv id hf ty cs)
   | box ty cs =>
    have hnj := nov j
    rw [List.getElem?_eq_getElem hjo] at hnj
    generalize (emb osh y).h[j] = o2 at hk3 hnj ⊢
    cases o2 with
    | row => cases hk3
    | vec ty' cs' => exact absurd rfl (hnj ty' cs')
    | box => trivial
  ·refine ⟨killO1 kl o, ?_, ?_⟩
   ·rw [s3 id (List.getElem?_eq_some_iff.1 ho).1 hf, killH_map, List.getElem?_map, ho]; rfl
   ·cases o <;> simp [same2, killO1]
 refine ⟨ρ ++ l, ⟨⟨?_, ?_, fun id o ho => ?_⟩, tr, hF.ge, fun j hj hn => ?_, ⟨l, rfl, hl2⟩, by rw [s1]; omega⟩, ?_⟩
 ·rw [List.length_append, s1, hs.rl, hll]
 ·have hnd' := hS.h.nd
  rw [hl1, List.nodup_append] at hnd'
  rw [List.nodup_append]
  refine ⟨hs.nd, hnd'.2.1, fun a ha b hb => ?_⟩
  have := hs.mem_lt ha
  have := hl2 b hb
  omega
 ·by_cases hid : id < h.length
  ·by_cases hf : id ∈ foc
   ·obtain ⟨j, hj⟩ := List.mem_iff_getElem?.1 hf
    have hjl : j < foc.length := (List.getElem?_eq_some_iff.1 hj).1
    have hjo : j < (emb osh y).h.length := by omega
    rw [s2 j id hj, List.getElem?_eq_getElem hjo] at ho
    cases ho
    obtain ⟨O, hO, hR⟩ := hS.h.hr j _ (List.getElem?_eq_getElem hjo)
    refine ⟨O, ?_, obj1 _ _ _ (List.getElem?_eq_getElem hjo) hR⟩
    rw [getD_left (by rw [hs.rl]; exact hid)]
    have : ρ'.getD j 0 = ρ.getD id 0 := by rw [hl1, getD_left (by simpa using hjl)]; simp [List.getD, List.getElem?_map, hj]
    rw [this] at hO; exact hO
   ·rw [s3 id hid hf, killH_map, List.getElem?_map] at ho
    cases hx2 : h[id]? with
    | none => rw [hx2] at ho; cases ho
    | some ox =>
     rw [hx2] at ho; cases ho
     obtain ⟨O, hO, hR⟩ := hs.hr id ox hx2
     refine ⟨O, ?_, tr.obj hR⟩
     rw [getD_left (by rw [hs.rl]; exact hid), hF.fr _ (hs.lt hid) (fun q => ?_)]
     ·exact hO
     ·obtain ⟨id', hid', e⟩ := List.mem_map.1 q
      exact hf (hs.inj (hlt id' hid') hid e ▸ hid')
  ·have hidl := (List.getElem?_eq_some_iff.1 ho).1
   rw [s1] at hidl
   have hk' := s4 (id - h.length + foc.length) (by omega) (by omega)
   rw [Nat.add_sub_cancel, show h.length + (id - h.length) = id by omega, ho] at hk'
   have hjo : id - h.length + foc.length < (emb osh y).h.length := by omega
   rw [List.getElem?_eq_getElem hjo] at hk'
   cases hk'
   obtain ⟨O, hO, hR⟩ := hS.h.hr _ _ (List.getElem?_eq_getElem hjo)
   refine ⟨O, ?_, obj1 _ _ _ (List.getElem?_eq_getElem hjo) hR⟩
   have e1 : (ρ ++ l)[id]? = l[id - h.length]? := by rw [List.getElem?_append_right (by rw [hs.rl]; omega), hs.rl]
   have e2 : ρ'[id - h.length + foc.length]? = l[id - h.length]? := by rw [hl1, List.getElem?_append_right (by simp)]; simp
   have : (ρ ++ l).getD id 0 = ρ'.getD (id - h.length + foc.length) 0 := getD_congr (e1.trans e2.symm)
   rw [this]; exact hO
 ·refine hF.fr j hj (fun q => ?_)
  obtain ⟨id, hid, e⟩ := List.mem_map.1 q
  exact hn id hid (hlt id hid) e
 ·have ht := hS.t
  have hts : ∀ (z : XV) (a : AV), VT ρ' (emb osh y).h z a → (∀ us, z ≠ .tup us) → VA (ρ ++ l) hc (renA foc h.length z) a := fun z a q hz => valA z a (q.notup hz)
  have hnt : ∀ z ∈ (emb osh y).t, ∀ us, z ≠ .tup us := emb_notup osh y
  unfold outX oneT
  generalize (emb osh y).t = tl at ht hnt
  match tl, rs, ht, hnt with
  | [], rs, ht, _ => have := ht.nil_left; subst this; exact ⟨[], rfl, .nil⟩
  | [v], rs, ht, hnt =>
   obtain ⟨a, r, rfl, hv, htt⟩ := ht.cons_left
   have := htt.nil_left
   subst this
   exact VT.ofA (hts v a hv (hnt v (by simp)))
  | v :: w :: tl, rs, ht, hnt =>
   obtain ⟨a, r, rfl, hv, htt⟩ := ht.cons_left
   obtain ⟨b, r', rfl, hw, htt'⟩ := htt.cons_left
   refine ⟨_, rfl, by simpa using ht.1, fun i z c p q => ?_⟩
   rw [List.getElem?_map] at p
   cases hz : (v :: w :: tl)[i]? with
   | none => rw [hz] at p; cases p
   | some u => rw [hz] at p; cases p; exact hts u c (ht.2 i u c hz q) (hnt u (List.mem_of_getElem? hz))
end
end Abs
end Go.Proofs.YtfjhljjginlobaaDoor
end
section
namespace Go.Proofs.YtfjhljjginlobaaDoor
namespace Abs
open Go.RowKit
structure CfgOk (P : Program) (c : Cfg) : Prop where
 pis : ∀ p ∈ c.pis, POk P (gx c.GX) p
 his : ∀ p ∈ c.his, HOk P (gx c.GX) p
section
variable {P : Program} {c : Cfg} {ρ : List Nat} {h : List XO} {H : List AObj} {σ : St} {rd : Opd → XV} {tt : Nat → Option Ty} {Gl : Nat → Option (List AV)} {β : Type} {r : β}
theorem xstep_cls {i : I} {p : Bool} {v : XV} {kl : Option Nat} {h' : List XO} (hc : i.cls ≤ 1) (hx : xstep tt h rd i = some (p, v, kl, h')) : kl = none ∧ h' = h := by
 cases i <;> simp only [I.cls] at hc <;> first | omega | skip
 all_goals (simp only [xstep] at hx)
 all_goals (repeat' (split at hx))
 all_goals first | (cases hx; done) | (cases hx; exact ⟨rfl, rfl⟩)
theorem step_cls {i : I} (hc : i.cls ≤ 1) {q : Prop} {a : AV} {H' : List AObj} (hx : step Gl σ i = some (q, a, H')) : H' = σ.h := by
 by_cases h0 : i.cls = 0
 ·exact (step_free (τ := σ) h0 (fun _ _ => rfl) hx).1
 ·cases i with
  | aaddr b st n x i =>
   simp only [step] at hx
   repeat' (split at hx)
   all_goals first
    | (cases hx; done)
    | (cases hx; rfl)
  | b2s x =>
   simp only [step] at hx
   split at hx
   ·rw [Option.map_eq_some_iff] at hx; obtain ⟨_, _, q⟩ := hx; cases q; rfl
   ·cases hx
  | aslice b n x lo hi =>
   simp only [step] at hx
   repeat' (split at hx)
   all_goals first
    | (cases hx; done)
    | (rw [Option.map_eq_some_iff] at hx; obtain ⟨_, _, q⟩ := hx; cases q; rfl)
  | load sz ag x =>
   simp only [step] at hx
   repeat' (split at hx)
   all_goals first
    | (cases hx; done)
    | (cases hx; rfl)
    | (rw [Option.map_eq_some_iff] at hx; obtain ⟨_, _, q⟩ := hx; cases q; rfl)
  | call f as => cases hx
  | _ => first | exact absurd rfl h0 | (simp [I.cls] at hc; done)
theorem aExec_step {d : Bool} {dst : Option Nat} {K : St → Prop} {i : I} (hn : ∀ f as, i ≠ .call f as) : aExec P Gl d σ dst K i = match step Gl σ i with
  | some (p, a, h') => p ∧ K (St.put ⟨σ.t, h'⟩ dst a)
  | none => False := by
 cases i <;> first | rfl | exact absurd rfl (hn _ _)
theorem ap_same {ρ' : List Nat} {h' : List XO} {H' : List AObj} {kl tch : List Nat} (hu : Upd ρ h H ρ' h' H' kl tch) (hρ : ρ.length = h.length) (he : h'.length = h.length) : ρ' = ρ := by
 obtain ⟨n, e, _⟩ := hu.ap
 have := hu.hs.rl
 rw [e, List.length_append] at this
 have hn : n = [] := List.length_eq_zero_iff.1 (by omega)
 rw [e, hn, List.append_nil]
def Aft (ρ : List Nat) (h : List XO) (σ : St) (d : Bool) (ok : Nat → Bool) (rd : Opd → XV) (i : I) (K : XV → List Nat → List XO → Option β) (r : β) (a : AV) (H' : List AObj) : Prop :=
 ∃ ρ' v kl h' tch, Upd ρ h σ.h ρ' h' H' kl tch ∧ VT ρ' h' v a ∧ (leaves ok rd i = true → ∀ id ∈ tch, ok id = true) ∧ (i.cls ≤ 1 → d = true → ρ' = ρ ∧ H' = σ.h ∧ kl = [] ∧ h' = h) ∧ K v kl h' = some r
theorem xcallP_ok (hs : HS ρ h H) {vs : List XV} {as : List AV} (hv : All2 (VT ρ h) vs as) {f : Nat} {d : Bool} {K : XV → List Nat → List XO → Option β} {o : Option β} : ∀ (ps : List PI), (∀ p ∈ ps, POk P Gl p) → xcallP f d h vs K o ps = some r →
  (∃ bs res v h' tch, callable P f = true ∧ keepAL H as = some bs ∧ Pure P Gl f bs res ∧ (d = true → (if scalar res then H else freeze H (as.flatMap rowsA)) = H) ∧ Upd ρ h H ρ h' (if scalar res then H else freeze H (as.flatMap rowsA)) [] tch ∧ (∀ id ∈ tch, id ∈ vs.flatMap rowsX) ∧ VT ρ h' v res ∧ (d = true → h' = h) ∧ K v [] h' = some r) ∨ o = some r := by
 intro ps
 induction ps with
 | nil => intro _ hx; exact .inr hx
 | cons p ps ih =>
  intro hp hx
  simp only [xcallP] at hx
  split at hx
  ·rename_i hf
   have hf := beq_eq hf
   subst hf
   split at hx
   ·rename_i x ha
    obtain ⟨bs, k1, k2, k3, k4⟩ := argsD_ok hs _ _ _ _ ha hv
    have hpure : ∀ y, p.run x = some y → Pure P Gl p.f bs (oneT (encs p.rs y)) := fun y hy =>
     ((hp p (by simp)).2 x y hy).weak k2.1 fun j a b q q' => (k2.2 j a b q q').wk
    split at hx
    ·rename_i hsc
     cases hy : p.run x with
     | none => rw [hy] at hx; cases hx
     | some y =>
      rw [hy] at hx
      have hsr : scalar (oneT (encs p.rs y)) = true := by rw [scal_res _ (scalL_noF hsc)]; exact hsc
      refine .inl ⟨bs, _, resX p.rs y, h, [], (hp p (by simp)).1, k1, hpure y hy, fun _ => by rw [hsr]; rfl, ?_, (fun _ q => by simp at q), resX_ok _ _, fun _ => rfl, hx⟩
      rw [hsr]; exact Upd.same hs
    ·rename_i hsc
     split at hx
     ·rename_i hd
      cases hy : p.run x with
      | none => rw [hy] at hx; cases hx
      | some y =>
       rw [hy] at hx
       have frz_id : (vs.flatMap rowsX).all (isFz h) = true → freeze H (as.flatMap rowsA) = H ∧ frzX h (vs.flatMap rowsX) = h := by
        intro hd
        rw [k3]
        refine ⟨?_, frzX_id _ _ hd⟩
        clear hx ih hpure
        have : ∀ (ids : List Nat), (∀ id ∈ ids, isRow h id) → ids.all (isFz h) = true → freeze H (ids.map fun id => ρ.getD id 0) = H := by
         intro ids
         induction ids with
         | nil => intro _ _; rfl
         | cons id ids ih =>
          intro hr ha
          simp only [List.all_cons, Bool.and_eq_true] at ha
          obtain ⟨ty, T, fz, es, he⟩ := hr id (by simp)
          have hfz : fz = true := by have := ha.1; simp only [isFz, he] at this; exact this
          obtain ⟨O, hO, o1, o2, o3, o4, o5⟩ := hs.hr id _ he
          rw [hfz, if_pos rfl] at o4
          have hlen : O.es.length = es.length := by have := o5.1; simpa using this
          have hst : H.set (ρ.getD id 0) { O with fz := O.es.length } = H := by
           have : ({ O with fz := O.es.length } : AObj) = O := by rw [hlen, ← o4]
           rw [this]
           apply List.ext_getElem?
           intro j
           rw [List.getElem?_set]
           split
           ·rename_i hj
            subst hj
            split
            ·rw [hO]
            ·rename_i hl; rw [List.getElem?_eq_none (by omega)]
           ·rfl
          have e : freeze H ((id :: ids).map fun id => ρ.getD id 0) = freeze H (ids.map fun id => ρ.getD id 0) := by
           simp only [List.map_cons, freeze, List.foldl_cons, hO]; rw [hst]
          rw [e]
          exact ih (fun j hj => hr j (by simp [hj])) ha.2
        exact this _ k4 hd
       by_cases hall : (vs.flatMap rowsX).all (isFz h) = true
       ·obtain ⟨f1, f2⟩ := frz_id hall
        have hif : (if scalar (oneT (encs p.rs y)) = true then H else freeze H (as.flatMap rowsA)) = H := by rw [f1]; split <;> rfl
        rw [f2] at hx
        exact .inl ⟨bs, _, resX p.rs y, h, [], (hp p (by simp)).1, k1, hpure y hy, fun _ => hif, by rw [hif]; exact Upd.same hs, (fun _ q => by simp at q), resX_ok _ _, fun _ => rfl, hx⟩
       ·have hd' : d = false ∧ hasFL p.rs = false := by
         have := Bool.not_eq_true _ ▸ hall
         rw [this] at hd
         simpa using hd
        have hsr : scalar (oneT (encs p.rs y)) = false := by rw [scal_res _ hd'.2]; simpa using hsc
        have hu := Upd.frz _ hs k4
        rw [← k3] at hu
        refine .inl ⟨bs, _, resX p.rs y, _, _, (hp p (by simp)).1, k1, hpure y hy, fun q => ?_, by rw [hsr]; exact hu, (fun _ q => q), resX_ok _ _, fun q => ?_, hx⟩
        ·rw [hd'.1] at q; cases q
        ·rw [hd'.1] at q; cases q
     ·cases hx
   ·exact ih (fun q hq => hp q (by simp [hq])) hx
  ·exact ih (fun q hq => hp q (by simp [hq])) hx
theorem xcallH_ok (hs : HS ρ h H) {vs : List XV} {as : List AV} (hv : All2 (VT ρ h) vs as) {f : Nat} {ok : Nat → Bool} {K : XV → List Nat → List XO → Option β} : ∀ (ps : List HI), (∀ p ∈ ps, HOk P Gl p) → xcallH f ok h vs K ps = some r →
  callable P f = true ∧ PureH P Gl f H as fun res H' => ∃ ρ' v kl h' tch, Upd ρ h H ρ' h' H' kl tch ∧ (∀ id ∈ tch, ok id = true) ∧ VT ρ' h' v res ∧ K v kl h' = some r := by
 intro ps
 induction ps with
 | nil => intro _ hx; cases hx
 | cons p ps ih =>
  intro hp hx
  simp only [xcallH] at hx
  split at hx
  ·rename_i hb
   simp only [Bool.and_eq_true] at hb
   have hf := beq_eq hb.1.1
   have hn := beq_eq hb.1.2
   subst hf
   split at hx
   ·rename_i foc x he
    split at hx
    case isFalse => cases hx
    rename_i hfo
    cases hy : p.run x with
    | none => rw [hy] at hx; cases hx
    | some y =>
     rw [hy] at hx
     have hS := (ext_sim (X := ⟨vs, h⟩) hv hs hn.symm he).1
     refine ⟨(hp p (by simp)).1, ((hp p (by simp)).2 x y hy H _ as hS).mono ?_⟩
     rintro res H' ⟨ρ', rs, hS', rfl, hF⟩
     obtain ⟨ρc, hu, hvt⟩ := merge_ok hs hv hn.symm he hb.2 hS' hF
     exact ⟨ρc, _, _, _, _, hu, fun id hid => List.all_eq_true.1 hfo id hid, hvt, hx⟩
   ·exact ih (fun q hq => hp q (by simp [hq])) hx
  ·exact ih (fun q hq => hp q (by simp [hq])) hx
theorem xappc_ok (hs : HS ρ h σ.h) (hrd : ∀ o, VT ρ h (rd o) (σ.val Gl o)) {tt : Nat → Option Ty} {d : Bool} {ok : Nat → Bool} {K : XV → List Nat → List XO → Option β} {ty sz bytes : Nat} {s x : Opd} {id len : Nat} (h1 : rd s = .csub id len)
  (hx : (match tt ty, h[id]? with
   | some T, some (.row _ T' _ es) => if Nat.beq T.size sz = true then match elemsX h T (rd x), castT (a := .list T') (b := .list T) es with
     | some ys, some es => cond (someE ys) (cond (fits (len + List.length ys) bytes) (K (.row h.length) [] (h ++ [.row ty T false (List.take len es ++ ys)])) none) (K (.sub id 0 len) [] h)
     | _, _ => none
    else none
   | _, _ => none) = some r) : ∃ q a H', step Gl σ (.app ty sz bytes s x) = some (q, a, H') ∧ q ∧ Aft ρ h σ d ok rd (.app ty sz bytes s x) K r a H' := by
 have hv := hrd s
 rw [h1] at hv
 split at hx
 case h_2 => cases hx
 rename_i T ty' T' fz es0 hT he
 split at hx
 case isFalse => cases hx
 rename_i hz
 have hz := beq_eq hz
 split at hx
 case h_2 => cases hx
 rename_i ys es hys hcast
 obtain ⟨q, rfl⟩ := castT_eq hcast
 cases q
 obtain ⟨ty2, T2, fz2, es2, he2, hav, hle⟩ := hv
 rw [he] at he2
 cases he2
 obtain ⟨as, ha, hc⟩ := elems_ok hs hz hys (hrd x)
 have hal : as.length = ys.length := by rw [hc.1, List.length_map]
 obtain ⟨O, hO, o1, o2, o3, o4, o5⟩ := hs.hr id _ he
 have hlen : O.es.length = es0.length := by have := o5.1; simpa using this
 cases hy : ys with
 | nil =>
  rw [hy] at hx
  have has : as = [] := List.length_eq_zero_iff.1 (by rw [hal, hy]; rfl)
  subst has
  refine ⟨True, .row (ρ.getD id 0) es0.length sz 0 len, σ.h, ?_, trivial, ρ, .sub id 0 len, [], h, [], Upd.same hs, ?_, fun _ _ q => by simp at q, fun q => ?_, hx⟩
  ·simp only [step, appY, ha, hav, hO, hlen, hz, o2, o3, and_self, if_true, List.isEmpty_nil]
  ·exact VT.of1 ⟨ty', T, fz, es0, he, by rw [hz]⟩
  ·simp [I.cls] at q
 | cons y0 ys0 =>
  have hse : someE ys = true := by rw [hy]; rfl
  rw [hse] at hx
  simp only [cond_true] at hx
  cases hf : fits (len + List.length ys) bytes with
  | false => rw [hf] at hx; cases hx
  | true =>
   rw [hf] at hx
   simp only [cond_true] at hx
   have hf := fits_iff hf
   have hne : as.isEmpty = false := by
    cases as with
    | nil => rw [hy] at hal; simp at hal
    | cons => rfl
   have hcc : All2 Wp (O.es.take len ++ as) ((es0.take len ++ ys).map (Ty.enc T)) := by
    rw [List.map_append, List.map_take]; exact (o5.take len).append hc
   obtain ⟨u1, u2⟩ := new_row (ty := ty) hs hz hcc
   have hl2 : (O.es.take len ++ as).length = len + as.length := by rw [List.length_append, List.length_take, hlen]; omega
   rw [hl2] at u2
   refine ⟨(len + as.length) * bytes ≤ maxB ∧ len + as.length ≤ 4611686018427387904, .row σ.h.length (len + as.length) sz 0 (len + as.length), σ.h ++ [⟨ty, sz, 0, true, O.es.take len ++ as⟩], ?_, ⟨by rw [hal]; exact hf.1, by rw [hal]; exact hf.2⟩, _, .row h.length, [], _, [], u1, VT.of1 u2, fun _ _ q => by simp at q, fun q => ?_, hx⟩
   ·simp only [step, appY, ha, hav, hO, hlen, hz, o2, o3, and_self, if_true, hne, Bool.false_eq_true, if_false]
   ·simp [I.cls] at q
theorem xexec_ok (hc : CfgOk P c) (hs : HS ρ h σ.h) (hrd : ∀ o, VT ρ h (rd o) (σ.val (gx c.GX) o)) {d : Bool} {ok : Nat → Bool} {K : XV → List Nat → List XO → Option β} {i : I} {dst : Option Nat} {Q : St → Prop} (hx : xexec c d ok h rd K i = some r) (hQ : ∀ a H', Aft ρ h σ d ok rd i K r a H' → Q (St.put ⟨σ.t, H'⟩ dst a)) : aExec P (gx c.GX) d σ dst Q i := by
 by_cases hcall : ∃ f as, i = .call f as
 ·obtain ⟨f, as, rfl⟩ := hcall
  simp only [xexec] at hx
  split at hx
  case h_2 => cases hx
  rename_i fi u hfo
  have hfv : σ.val (gx c.GX) f = .v (.func (.func fi) #[] #[]) := by
   have := hrd f
   rw [hfo] at this
   exact vt_fnc this
  have hv := map_vt (xs := as) hrd
  rcases xcallP_ok hs hv c.pis hc.pis hx with ⟨bs, res, v, h', tch, k0, k1, k2, k3, k4, k4', k5, k6, k7⟩ | ho
  ·refine ⟨fi, hfv, k0, .inl ⟨bs, res, k1, k2, k3, hQ _ _ ⟨ρ, v, [], h', tch, k4, k5, (fun hm id hid => List.all_eq_true.1 hm id (k4' id hid)), fun _ hd => ⟨rfl, k3 hd, rfl, k6 hd⟩, k7⟩⟩⟩
  ·cases d with
   | true => cases ho
   | false =>
    obtain ⟨k0, kH⟩ := xcallH_ok hs hv c.his hc.his ho
    refine ⟨fi, hfv, k0, .inr ⟨rfl, kH.mono ?_⟩⟩
    rintro res H' ⟨ρ', v, kl, h', tch, u1, u1', u2, u3⟩
    exact hQ _ _ ⟨ρ', v, kl, h', tch, u1, u2, (fun _ => u1'), (fun _ hd => by cases hd), u3⟩
 ·have hn : ∀ f as, i ≠ .call f as := fun f as q => hcall ⟨f, as, q⟩
  rw [aExec_step hn]
  by_cases happ : ∃ ty sz bytes s x id len, i = .app ty sz bytes s x ∧ rd s = .csub id len
  ·obtain ⟨ty, sz, bytes, s, x, id, len, rfl, h1⟩ := happ
   simp only [xexec, h1] at hx
   obtain ⟨q, a, H', e1, e2, e3⟩ := xappc_ok (d := d) (ok := ok) hs hrd h1 hx
   rw [e1]
   exact ⟨e2, hQ _ _ e3⟩
  have hx' : (match xstep c.tt h rd i with
    | some (p, v, kl, h') => cond p (K v kl.toList (killH kl.toList h')) none
    | none => none) = some r := by
   rw [← hx]
   cases i with
   | call f as => exact absurd rfl (hn _ _)
   | app ty sz bytes s x =>
    simp only [xexec]
    cases h1 : rd s with
    | csub id len => exact absurd ⟨ty, sz, bytes, s, x, id, len, rfl, h1⟩ happ
    | _ => rfl
   | _ => rfl
  split at hx'
  ·rename_i p v kl h' hst
   cases p with
   | false => cases hx'
   | true =>
    obtain ⟨q, a, H', ρ', tch, e1, e2, e3, e4, e5⟩ := xstep_sim i hs hrd _ _ _ _ hst rfl
    rw [e1]
    refine ⟨e2, hQ _ _ ⟨ρ', v, kl.toList, _, tch, e3, e4, e5 ok, fun hcl _ => ?_, hx'⟩⟩
    obtain ⟨c1, c2⟩ := xstep_cls hcl hst
    subst c1 c2
    exact ⟨ap_same e3 hs.rl rfl, step_cls hcl e1, rfl, rfl⟩
  ·cases hx'
end
end Abs
end Go.Proofs.YtfjhljjginlobaaDoor
end
section
namespace Go.Proofs.YtfjhljjginlobaaDoor
namespace Abs
open Go.RowKit
def SpR (ρ : List Nat) (h : List XO) (σ : St) (sp : Sp) : Prop := ∀ q ∈ sp, (σ.t.getD q.2.1 .any = .v (.bool q.2.2.1) ∧ VT ρ h q.2.2.2 (σ.t.getD q.1 .any)) ∨ (σ.t.getD q.2.1 .any ≠ .v (.bool q.2.2.1) ∧ σ.t.getD q.1 .any = und)
section
variable {P : Program} {c : Cfg} {ρ : List Nat} {X : XS} {H : List AObj} {σ : St} {β : Type} {r : β} {sp : Sp}
theorem vt_get {h : List XO} {t : List XV} {ts : List AV} (ht : All2 (VT ρ h) t ts) (i : Nat) : VT ρ h (t.getD i .any) (ts.getD i .any) := by
 rcases Nat.lt_or_ge i ts.length with q | q
 ·exact ht.getD q _ _
 ·have : t[i]? = none := List.getElem?_eq_none (by rw [ht.1]; exact q)
  simp only [List.getD, this, Option.getD_none]; trivial
theorem rdG_ok (hS : Sim ρ X σ) (o : Opd) : VT ρ X.h (rdG c.GX X.t o) (σ.val (gx c.GX) o) := by
 cases o with
 | t i => exact vt_get hS.t i
 | k v => exact VT.of1 (vx1_v v)
 | g i =>
  simp only [rdG, St.val, gx]
  by_cases hb : Nat.blt i 1000000 = true
  case neg => rw [if_neg hb]; trivial
  rw [if_pos hb, if_pos hb]
  cases c.GX i with
  | none => trivial
  | some p =>
   obtain ⟨T, x⟩ := p
   exact ⟨_, rfl, by rw [List.drop_zero]; exact All2.rfl' .refl _⟩
theorem rdC_ok (hS : Sim ρ X σ) (hsp : SpR ρ X.h σ sp) {ctx : List (Nat × Bool)} (hg : ∀ g ∈ ctx, σ.t.getD g.1 .any = .v (.bool g.2)) (o : Opd) : VT ρ X.h (rdC c.GX sp ctx X.t o) (σ.val (gx c.GX) o) := by
 cases o with
 | t i =>
  simp only [rdC]
  split
  ·rename_i q hq
   have hm := List.mem_of_find?_eq_some hq
   have hp := List.find?_some hq
   simp only [Bool.and_eq_true, List.any_eq_true] at hp
   obtain ⟨e1, g, hgm, hg2⟩ := hp
   have e1 := beq_eq e1
   simp only [Bool.and_eq_true, beq_iff_eq] at hg2
   have e2 := beq_eq hg2.1
   have hgg := hg g hgm
   rw [e2, hg2.2] at hgg
   rcases hsp q hm with ⟨_, h2⟩ | ⟨h1, _⟩
   ·rw [e1] at h2; exact h2
   ·exact absurd hgg h1
  ·exact vt_get hS.t i
 | k v => exact rdG_ok (c := c) hS (.k v)
 | g i => exact rdG_ok (c := c) hS (.g i)
theorem all2_at {h : List XO} {t : List XV} {ts : List AV} (ht : All2 (VT ρ h) t ts) {u : Nat} {x : XV} (hx : VT ρ h x (ts.getD u .any)) : All2 (VT ρ h) (t.set u x) ts := by
 refine ⟨by simp [ht.1], fun i y a p q => ?_⟩
 rw [List.getElem?_set] at p
 split at p
 ·rename_i hi
  subst hi
  split at p
  ·cases p
   have : ts.getD u .any = a := by simp only [List.getD, q, Option.getD_some]
   rw [this] at hx; exact hx
  ·cases p
 ·exact ht.2 i y a p q
theorem mat_ok {h : List XO} {s : Nat} {v : Bool} (hg : σ.t.getD s .any = .v (.bool v)) : ∀ (l : Sp) (t : List XV), All2 (VT ρ h) t σ.t → (∀ q ∈ l, (σ.t.getD q.2.1 .any = .v (.bool q.2.2.1) ∧ VT ρ h q.2.2.2 (σ.t.getD q.1 .any)) ∨ (σ.t.getD q.2.1 .any ≠ .v (.bool q.2.2.1) ∧ σ.t.getD q.1 .any = und)) → All2 (VT ρ h) (l.foldl (fun t q => if Nat.beq q.2.1 s = true then t.set q.1 (if (q.2.2.1 == v) = true then q.2.2.2 else kU) else t) t) σ.t := by
 intro l
 induction l with
 | nil => intro t ht _; exact ht
 | cons q l ih =>
  intro t ht hl
  refine ih _ ?_ (fun q' hq' => hl q' (by simp [hq']))
  dsimp only
  split
  ·rename_i hb
   have hb := beq_eq hb
   rcases hl q (by simp) with ⟨h1, h2⟩ | ⟨h1, h2⟩
   ·rw [hb, hg] at h1
    cases h1
    rw [if_pos (by simp)]
    exact all2_at ht h2
   ·have hne : ¬ (q.2.2.1 == v) = true := fun e => h1 (by rw [hb, hg]; simp only [beq_iff_eq] at e; rw [e])
    rw [if_neg hne]
    refine all2_at ht ?_
    rw [h2]; exact rfl
  ·exact ht
theorem same_set {t : List XV} {ts : List AV} {h : List XO} (ht : All2 (VT ρ h) t ts) {s : Nat} {b : Bool} (hb : ts.getD s .any = .v (.bool b)) : All2 (VT ρ h) (t.set s (.d .bool b)) ts := all2_at ht (by rw [hb]; exact Wp.refl _)
theorem matL_ok {s : Nat} {v : Bool} (hS : Sim ρ X σ) (hsp : SpR ρ X.h σ sp) (hg : σ.t.getD s .any = .v (.bool v)) : Sim ρ ⟨matL s v sp X.t, X.h⟩ σ ∧ SpR ρ X.h σ (matS s sp) :=
 ⟨⟨mat_ok hg sp _ (same_set hS.t hg) hsp, hS.h⟩, fun q hq => hsp q (List.mem_filter.1 hq).1⟩
theorem killS_map (kl : List Nat) : ∀ sp, killS kl sp = sp.map fun q => (q.1, q.2.1, q.2.2.1, killTL kl q.2.2.2) := by
 induction kl with
 | nil => intro sp; show sp = _; simp [killTL]
 | cons k kl ih =>
  intro sp
  show killS kl (sp.map _) = _
  rw [ih, List.map_map]; rfl
theorem vt_any {h : List XO} (a : AV) : VT ρ h .any a := trivial
theorem put_ok {ρ' : List Nat} {h' : List XO} {H' : List AObj} {kl tch : List Nat} {t : List XV} (ht : All2 (VT ρ X.h) t σ.t) (hu : Upd ρ X.h H ρ' h' H' kl tch) {v : XV} {a : AV} (hv : VT ρ' h' v a) (dst : Option Nat) : Sim ρ' ⟨putX (killL kl t) dst v, h'⟩ (St.put ⟨σ.t, H'⟩ dst a) := by
 have h1 : All2 (VT ρ' h') (killL kl t) σ.t := by
  rw [killL_map]
  exact ⟨by simp [ht.1], fun i y b p q => by
   rw [List.getElem?_map] at p
   cases hy : t[i]? with
   | none => rw [hy] at p; cases p
   | some z => rw [hy] at p; cases p; exact hu.tr.T (ht.2 i z b hy q)⟩
 cases dst with
 | none => exact ⟨h1, hu.hs⟩
 | some i => exact ⟨h1.set hv i, hu.hs⟩
theorem getD_put {σ : St} {H' : List AObj} {dst : Option Nat} {a : AV} {j : Nat} (hj : dst ≠ some j) : (St.put ⟨σ.t, H'⟩ dst a).t.getD j .any = σ.t.getD j .any := by
 cases dst with
 | none => rfl
 | some i =>
  have : i ≠ j := fun q => hj (by rw [q])
  simp only [St.put, List.getD, List.getElem?_set_ne this]
theorem drop_ok {ρ' : List Nat} {h' : List XO} {H H' : List AObj} {kl tch : List Nat} (hsp : SpR ρ X.h σ sp) (hu : Upd ρ X.h H ρ' h' H' kl tch) (dst : Option Nat) (a : AV) : SpR ρ' h' (St.put ⟨σ.t, H'⟩ dst a) (spDrop dst (killS kl sp)) := by
 intro q hq
 have hne : dst ≠ some q.1 ∧ dst ≠ some q.2.1 ∧ q ∈ killS kl sp := by
  cases dst with
  | none => exact ⟨by simp, by simp, hq⟩
  | some i =>
   simp only [spDrop, List.mem_filter, Bool.and_eq_true, Bool.not_eq_true'] at hq
   refine ⟨fun e => ?_, fun e => ?_, hq.1⟩
   ·cases e; simp at hq
   ·cases e; simp at hq
 rw [getD_put hne.1, getD_put hne.2.1]
 have hm := hne.2.2
 rw [killS_map] at hm
 obtain ⟨q0, hq0, rfl⟩ := List.mem_map.1 hm
 rcases hsp q0 hq0 with ⟨h1, h2⟩ | ⟨h1, h2⟩
 ·exact .inl ⟨h1, hu.tr.T h2⟩
 ·exact .inr ⟨h1, h2⟩
def AftI (c : Cfg) (ρ : List Nat) (X : XS) (σ : St) (d : Bool) (ok : Nat → Bool) (ins : Ins) (K : XS → Sp → Option β) (r : β) (τ : St) : Prop :=
 ∃ ρ' X' sp', Sim ρ' X' τ ∧ SpR ρ' X'.h τ sp' ∧ (∃ kl tch, Upd ρ X.h σ.h ρ' X'.h τ.h kl tch ∧ (ins.gd = none → leaves ok (rdG c.GX X.t) ins.i = true → ∀ id ∈ tch, ok id = true)) ∧ K X' sp' = some r
theorem put_h {σ : St} {H' : List AObj} {dst : Option Nat} {a : AV} : (St.put ⟨σ.t, H'⟩ dst a).h = H' := by cases dst <;> rfl
theorem specI_cls {i : I} (h : specI i = true) : i.cls ≤ 1 ∧ ∀ f as, i ≠ .call f as := by
 cases i <;> simp [specI] at h <;> exact ⟨by simp [I.cls], fun f as q => by cases q⟩
theorem mrg_ok {t : Bool} {x y v : XV} {a b : AV} {h : List XO} (hm : mrg t x y = some v) (ha : t = true → VT ρ h x a) (hb : t = false → VT ρ h y b) : VT ρ h v (if t = true then a else b) := by
 unfold mrg at hm
 split at hm
 ·rename_i T x T' y
  split at hm
  ·rename_i y' hy
   cases hm
   obtain ⟨rfl, rfl⟩ := castT_eq hy
   cases t with
   | true => exact ha rfl
   | false => exact hb rfl
  ·cases hm
 ·cases hm
theorem pick_step {Gl : Nat → Option (List AV)} {σ : St} {s : Nat} {a b : Opd} {t : Bool} (ht : σ.t.getD s .any = .v (.bool t)) : step Gl σ (.pick (.t s) a b) = some (True, if t = true then σ.val Gl a else σ.val Gl b, σ.h) := by
 have hts : σ.val Gl (.t s) = .v (.bool t) := ht
 simp only [step, hts]
def AftU (c : Cfg) (ρ : List Nat) (X : XS) (σ : St) (d : Bool) (ok : Nat → Bool) (i : I) (K : XS → Sp → Option β) (r : β) (τ : St) : Prop :=
 ∃ ρ' X' sp', Sim ρ' X' τ ∧ SpR ρ' X'.h τ sp' ∧ (∃ kl tch, Upd ρ X.h σ.h ρ' X'.h τ.h kl tch ∧ (leaves ok (rdG c.GX X.t) i = true → ∀ id ∈ tch, ok id = true) ∧ (i.cls ≤ 1 → d = true → ρ' = ρ ∧ X'.h = X.h ∧ τ.h = σ.h)) ∧ K X' sp' = some r
theorem xun_ok (hc : CfgOk P c) (hS : Sim ρ X σ) (hsp : SpR ρ X.h σ sp) {d : Bool} {ok : Nat → Bool} {K : XS → Sp → Option β} {Q : St → Prop} {dst : Option Nat} {i : I} (hx : xun c d ok X sp dst K i = some r) (hQ : ∀ τ, AftU c ρ X σ d ok i K r τ → Q τ) : aExec P (gx c.GX) d σ dst Q i := by
 by_cases hp : ∃ s a b, i = .pick (.t s) a b
 ·obtain ⟨s, a, b, rfl⟩ := hp
  simp only [xun, xpick] at hx
  have hvs := vt_get hS.t s
  have go : ∀ t : Bool, σ.t.getD s .any = .v (.bool t) → (match (generalizing := false) mrg t (rdC c.GX sp [(s, true)] X.t a) (rdC c.GX sp [(s, false)] X.t b) with
   | some v => K ⟨putX X.t dst v, X.h⟩ (spDrop dst sp)
   | none => cond t (K ⟨putX (matL s true sp X.t) dst (rdC c.GX sp [(s, true)] X.t a), X.h⟩ (spDrop dst (matS s sp))) (K ⟨putX (matL s false sp X.t) dst (rdC c.GX sp [(s, false)] X.t b), X.h⟩ (spDrop dst (matS s sp)))) = some r → aExec P (gx c.GX) d σ dst Q (.pick (.t s) a b) := by
   intro t ht hy
   rw [aExec_step (by intro f as q; cases q), pick_step ht]
   refine ⟨trivial, hQ _ ?_⟩
   have hva : t = true → VT ρ X.h (rdC c.GX sp [(s, true)] X.t a) (σ.val (gx c.GX) a) := fun q => rdC_ok hS hsp (by simp only [List.mem_singleton, forall_eq]; rw [ht, q]) a
   have hvb : t = false → VT ρ X.h (rdC c.GX sp [(s, false)] X.t b) (σ.val (gx c.GX) b) := fun q => rdC_ok hS hsp (by simp only [List.mem_singleton, forall_eq]; rw [ht, q]) b
   have hu := Upd.same hS.h
   have fin : ∀ (t' : List XV) (sp1 : Sp) (v : XV), All2 (VT ρ X.h) t' σ.t → SpR ρ X.h σ sp1 → VT ρ X.h v (if t = true then σ.val (gx c.GX) a else σ.val (gx c.GX) b) → K ⟨putX t' dst v, X.h⟩ (spDrop dst sp1) = some r → AftU c ρ X σ d ok (.pick (.t s) a b) K r (St.put ⟨σ.t, σ.h⟩ dst (if t = true then σ.val (gx c.GX) a else σ.val (gx c.GX) b)) := by
    intro t' sp1 v ht' hsp1 hv hK
    refine ⟨ρ, ⟨putX t' dst v, X.h⟩, spDrop dst sp1, put_ok (X := X) (kl := []) ht' hu hv dst, drop_ok (kl := []) hsp1 hu dst _, ⟨[], [], by rw [put_h]; exact hu, (fun _ _ q => by simp at q), fun _ _ => ⟨rfl, rfl, put_h⟩⟩, hK⟩
   split at hy
   ·rename_i v hm
    exact fin X.t sp v hS.t hsp (mrg_ok hm hva hvb) hy
   ·cases t with
    | true => obtain ⟨m1, m2⟩ := matL_ok hS hsp ht; exact fin _ _ _ m1.t m2 (hva rfl) hy
    | false => obtain ⟨m1, m2⟩ := matL_ok hS hsp ht; exact fin _ _ _ m1.t m2 (hvb rfl) hy
  split at hx
  ·rename_i t hcb
   have hcb : X.t.getD s .any = .d .bool t := hcb
   rw [hcb] at hvs
   exact go t (vt_bool hvs) hx
  ·cases hx
 ·have hx' : xexec c d ok X.h (rdG c.GX X.t) (fun x kl h' => K ⟨putX (killL kl X.t) dst x, h'⟩ (spDrop dst (killS kl sp))) i = some r := by
   rw [← hx]
   unfold xun
   split
   ·exact absurd ⟨_, _, _, rfl⟩ hp
   ·rfl
  refine xexec_ok hc hS.h (rdG_ok hS) hx' ?_
  rintro a H' ⟨ρ', v, kl, h', tch, u1, u2, u3, u4, u5⟩
  exact hQ _ ⟨ρ', _, _, put_ok hS.t u1 u2 dst, drop_ok hsp u1 dst a, ⟨kl, tch, by rw [put_h]; exact u1, u3, fun p q => ⟨(u4 p q).1, (u4 p q).2.2.2, by rw [put_h]; exact (u4 p q).2.1⟩⟩, u5⟩
theorem xspec_ok {tt : Nat → Option Ty} (hS : Sim ρ X σ) (hsp : SpR ρ X.h σ sp) {s : Nat} {want : Bool} (hg : σ.t.getD s .any = .v (.bool want)) {i : I} (hcl : i.cls ≤ 1) {p : Bool} {v : XV} (hx : xspec c.GX tt X.h X.t sp s want i = some (p, v)) (hp : p = true) : ∃ q a, step (gx c.GX) σ i = some (q, a, σ.h) ∧ q ∧ VT ρ X.h v a := by
  by_cases hpk : ∃ s' a b, i = .pick (.t s') a b
  · obtain ⟨s', a, b, rfl⟩ := hpk
    simp only [xspec] at hx
    have hv1 := rdC_ok (c := c) hS hsp (ctx := [(s, want)]) (by simp only [List.mem_singleton, forall_eq]; exact hg) (.t s')
    have go : ∀ t : Bool, σ.t.getD s' .any = .v (.bool t) → (match (generalizing := false) mrg t (rdC c.GX sp [(s', true), (s, want)] X.t a) (rdC c.GX sp [(s', false), (s, want)] X.t b) with
      | some v => some (true, v)
      | none => none) = some (p, v) → ∃ q a', step (gx c.GX) σ (.pick (.t s') a b) = some (q, a', σ.h) ∧ q ∧ VT ρ X.h v a' := by
      intro t ht hy
      split at hy
      · rename_i w hm
        cases hy
        refine ⟨_, _, pick_step ht, trivial, ?_⟩
        refine mrg_ok hm (fun q => ?_) (fun q => ?_)
        · exact rdC_ok hS hsp (by simp only [List.mem_cons, List.not_mem_nil, or_false, forall_eq_or_imp, forall_eq]; exact ⟨by rw [ht, q], hg⟩) a
        · exact rdC_ok hS hsp (by simp only [List.mem_cons, List.not_mem_nil, or_false, forall_eq_or_imp, forall_eq]; exact ⟨by rw [ht, q], hg⟩) b
      · cases hy
    split at hx
    · rename_i t hcb
      rw [hcb] at hv1
      exact go t (vt_bool hv1) hx
    · cases hx
  · have hx' : (match xstep tt X.h (rdC c.GX sp [(s, want)] X.t) i with
        | some (p, v, _, _) => some (p, v)
        | none => none) = some (p, v) := by
      rw [← hx]
      cases i with
      | pick c' a b => cases c' with
        | t s' => exact absurd ⟨_, _, _, rfl⟩ hpk
        | _ => rfl
      | _ => rfl
    split at hx'
    · rename_i p1 v1 q1 q2 hst
      cases hx'
      obtain ⟨q, a, H', ρ2, tch, e1, e2, e3, e4, e5⟩ := xstep_sim i hS.h (fun o => rdC_ok hS hsp (by simp only [List.mem_singleton, forall_eq]; exact hg) o) _ _ _ _ hst hp
      obtain ⟨c1, c2⟩ := xstep_cls hcl hst
      subst c1 c2
      have hρ := ap_same e3 hS.h.rl rfl
      have hH := step_cls hcl e1
      subst hρ
      rw [hH] at e1
      exact ⟨q, a, e1, e2, e4⟩
    · cases hx'
theorem spec_new {u s : Nat} {want b : Bool} {v : XV} {a : AV} (hsp : SpR ρ X.h σ sp) (hs : HS ρ X.h σ.h) (hul : u < σ.t.length) (hus : u ≠ s) (hg : σ.t.getD s .any = .v (.bool b)) (hv : (b = want ∧ VT ρ X.h v a) ∨ (b ≠ want ∧ a = und)) : SpR ρ X.h (St.put ⟨σ.t, σ.h⟩ (some u) a) ((u, s, want, v) :: spDrop (some u) sp) := by
 intro q hq
 rcases List.mem_cons.1 hq with rfl | hq
 ·have h1 : (St.put ⟨σ.t, σ.h⟩ (some u) a).t.getD u .any = a := by simp [St.put, List.getD, hul]
  have h2 : (St.put ⟨σ.t, σ.h⟩ (some u) a).t.getD s .any = .v (.bool b) := by rw [getD_put (by simpa using hus)]; exact hg
  show ((St.put ⟨σ.t, σ.h⟩ (some u) a).t.getD s .any = .v (.bool want) ∧ VT ρ X.h v ((St.put ⟨σ.t, σ.h⟩ (some u) a).t.getD u .any)) ∨ ((St.put ⟨σ.t, σ.h⟩ (some u) a).t.getD s .any ≠ .v (.bool want) ∧ (St.put ⟨σ.t, σ.h⟩ (some u) a).t.getD u .any = und)
  rw [h1, h2]
  rcases hv with ⟨rfl, hv⟩ | ⟨hb, rfl⟩
  ·exact .inl ⟨rfl, hv⟩
  ·exact .inr ⟨fun q => by cases q; exact hb rfl, rfl⟩
 ·exact drop_ok (kl := []) hsp (Upd.same hs) (some u) a q hq
theorem xIns_ok (hc : CfgOk P c) {d : Bool} {ok : Nat → Bool} {K : XS → Sp → Option β} {ins : Ins} : ∀ (n : Nat) (X : XS) (sp : Sp) (Q : St → Prop), Sim ρ X σ → SpR ρ X.h σ sp → xIns c d ok n X sp K ins = some r → (∀ τ, AftI c ρ X σ d ok ins K r τ → Q τ) → aStep P (gx c.GX) d σ ins Q := by
 intro n
 induction n with
 | zero => intro X sp Q _ _ hx; cases hx
 | succ n ih =>
  intro X sp Q hS hsp hx hQ
  obtain ⟨dst, gd, i⟩ := ins
  cases gd with
  | none =>
   show aExec P (gx c.GX) d σ dst Q i
   simp only [xIns] at hx
   refine xun_ok hc hS hsp hx fun τ hτ => hQ τ ?_
   obtain ⟨ρ', X', sp', a1, a2, ⟨kl, tch, a3, a4, _⟩, a5⟩ := hτ
   exact ⟨ρ', X', sp', a1, a2, ⟨kl, tch, a3, fun _ => a4⟩, a5⟩
  | some g =>
   obtain ⟨s, want⟩ := g
   simp only [xIns] at hx
   have hvs := vt_get hS.t s
   have hu := Upd.same hS.h
   have skip : ∀ (X1 : XS) (sp1 : Sp), X1.h = X.h → Sim ρ X1 σ → SpR ρ X1.h σ sp1 → K ⟨putX X1.t dst kU, X1.h⟩ (spDrop dst sp1) = some r → Q (σ.put dst und) := by
    intro X1 sp1 he hS1 hsp1 hK
    have hu1 := Upd.same hS1.h
    refine hQ _ ⟨ρ, ⟨putX X1.t dst kU, X1.h⟩, spDrop dst sp1, put_ok (X := X1) (kl := []) hS1.t hu1 (show VT ρ X1.h kU und from rfl) dst, drop_ok (kl := []) hsp1 hu1 dst und, ⟨[], [], ?_, fun q => by cases q⟩, hK⟩
    have : (σ.put dst und).h = σ.h := put_h (H' := σ.h)
    rw [this]
    show Upd ρ X.h σ.h ρ X1.h σ.h [] []
    rw [he]; exact hu
   have gcase : ∀ b : Bool, σ.t.getD s .any = .v (.bool b) → (match (generalizing := false) specI i, dst, xspec c.GX c.tt X.h X.t sp s want i with
     | true, some u, some (p, v) => if (Nat.blt u X.t.length && !(Nat.beq u s)) = true then cond (p || not (bEq b want)) (K ⟨X.t.set u .any, X.h⟩ ((u, s, want, v) :: spDrop (some u) sp)) none else none
     | _, _, _ => cond b (xsplit c d ok X sp dst s want i K true) (xsplit c d ok X sp dst s want i K false)) = some r → aStep P (gx c.GX) d σ ⟨dst, some (s, want), i⟩ Q := by
    clear hx
    intro b hg hx
    have hstep : aStep P (gx c.GX) d σ ⟨dst, some (s, want), i⟩ Q = if b = want then aExec P (gx c.GX) d σ dst Q i else Q (σ.put dst und) := by
     simp only [aStep, hg]
    rw [hstep]
    have split_ok : xsplit c d ok X sp dst s want i K b = some r → if b = want then aExec P (gx c.GX) d σ dst Q i else Q (σ.put dst und) := by
     intro hy
     obtain ⟨m1, m2⟩ := matL_ok hS hsp hg
     unfold xsplit at hy
     by_cases hw : b = want
     ·rw [if_pos hw]
      rw [if_pos (by rw [hw]; simp)] at hy
      refine xun_ok hc m1 m2 hy fun τ hτ => hQ τ ?_
      obtain ⟨ρ', X', sp', a1, a2, ⟨kl, tch, a3, a4, _⟩, a5⟩ := hτ
      exact ⟨ρ', X', sp', a1, a2, ⟨kl, tch, a3, fun q => by cases q⟩, a5⟩
     ·rw [if_neg hw]
      rw [if_neg (by simpa using hw)] at hy
      exact skip ⟨matL s b sp X.t, X.h⟩ _ rfl m1 m2 hy
    split at hx
    ·rename_i u p v hsi hxs
     split at hx
     case isFalse => cases hx
     rename_i hub
     simp only [Bool.and_eq_true, Bool.not_eq_true'] at hub
     have hul := blt_t hub.1
     have hus : u ≠ s := fun q => by subst q; simp at hub
     have hul' : u < σ.t.length := by rw [← hS.t.1]; exact hul
     obtain ⟨hcl, hncall⟩ := specI_cls hsi
     cases hpb : (p || not (bEq b want)) with
     | false => rw [hpb] at hx; cases hx
     | true =>
      rw [hpb] at hx
      have hx : K ⟨X.t.set u .any, X.h⟩ ((u, s, want, v) :: spDrop (some u) sp) = some r := hx
      by_cases hw : b = want
      ·rw [if_pos hw]
       have hp : p = true := by
        subst hw
        simpa [bEq] using hpb
       obtain ⟨q, a, e1, e2, e4⟩ := xspec_ok hS hsp (by rw [hg, hw]) hcl hxs hp
       rw [aExec_step hncall, e1]
       exact ⟨e2, hQ _ ⟨ρ, _, _, put_ok (X := X) (kl := []) hS.t hu (vt_any _) (some u), spec_new hsp hS.h hul' hus hg (.inl ⟨hw, e4⟩), ⟨[], [], hu, fun q => by cases q⟩, hx⟩⟩
      ·rw [if_neg hw]
       exact hQ _ ⟨ρ, _, _, put_ok (X := X) (kl := []) hS.t hu (vt_any _) (some u), spec_new hsp hS.h hul' hus hg (.inr ⟨hw, rfl⟩), ⟨[], [], hu, fun q => by cases q⟩, hx⟩
    ·cases b with
     | true => exact split_ok hx
     | false => exact split_ok hx
   split at hx
   ·rename_i b hb
    rw [hb] at hvs
    exact gcase b (vt_bool hvs) hx
   ·rename_i xs hb
    rw [hb] at hvs
    have hg := vt_k hvs
    have hstep : aStep P (gx c.GX) d σ ⟨dst, some (s, want), i⟩ Q = Q (σ.put dst und) := by simp only [aStep, hg]
    rw [hstep]
    exact skip X sp rfl hS hsp hx
   ·split at hx
    ·rename_i q hq
     have hvq := vt_get hS.t q.2.1
     have go : ∀ b : Bool, σ.t.getD q.2.1 .any = .v (.bool b) → cond b (xIns c d ok n ⟨matL q.2.1 true sp X.t, X.h⟩ (matS q.2.1 sp) K ⟨dst, some (s, want), i⟩) (xIns c d ok n ⟨matL q.2.1 false sp X.t, X.h⟩ (matS q.2.1 sp) K ⟨dst, some (s, want), i⟩) = some r → aStep P (gx c.GX) d σ ⟨dst, some (s, want), i⟩ Q := by
      intro b hb hy
      obtain ⟨m1, m2⟩ := matL_ok hS hsp hb
      have hy' : xIns c d ok n ⟨matL q.2.1 b sp X.t, X.h⟩ (matS q.2.1 sp) K ⟨dst, some (s, want), i⟩ = some r := by cases b <;> exact hy
      refine ih _ _ Q m1 m2 hy' fun τ hτ => hQ τ ?_
      obtain ⟨ρ', X', sp', a1, a2, ⟨kl, tch, a3, a4⟩, a5⟩ := hτ
      exact ⟨ρ', X', sp', a1, a2, ⟨kl, tch, a3, fun q => by cases q⟩, a5⟩
     split at hx
     ·rename_i b hb
      rw [hb] at hvq
      exact go b (vt_bool hvq) hx
     ·cases hx
    ·cases hx
   ·cases hx
theorem xops_ok (hc : CfgOk P c) {d : Bool} {K : XS → Option β} {H0 : List AObj} {ρ0 : List Nat} : ∀ (l : List Ins) (X : XS) (sp : Sp) (ρ : List Nat) (σ : St), Sim ρ X σ → SpR ρ X.h σ sp → Frm H0 ρ0 ρ σ.h → xops c d K l X sp = some r → aOps P (gx c.GX) d (fun τ => ∃ ρ' X', Sim ρ' X' τ ∧ Frm H0 ρ0 ρ' τ.h ∧ K X' = some r) l σ := by
 intro l
 induction l with
 | nil => intro X sp ρ σ hS _ hF hx; exact ⟨ρ, X, hS, hF, hx⟩
 | cons i l ih =>
  intro X sp ρ σ hS hsp hF hx
  refine xIns_ok hc 8 X sp _ hS hsp hx ?_
  rintro τ ⟨ρ', X', sp', s1, s2, ⟨kl, tch, u, _⟩, hK⟩
  exact ih X' sp' ρ' τ s1 s2 (hF.upd hS.h.rl u) hK
end
end Abs
end Go.Proofs.YtfjhljjginlobaaDoor
end
section
namespace Go.Proofs.YtfjhljjginlobaaDoor
namespace Abs
open Go.RowKit
section
variable {P : Program} {c : Cfg} {ρ : List Nat} {X : XS} {h : List XO} {H : List AObj} {σ : St} {β : Type} {r : β} {sp : Sp} {m N : Nat} {U : List Nat} {Gl : Nat → Option (List AV)} {rd : Opd → XV}
theorem rows_1 {v : XV} {a : AV} (hv : V1 ρ h v a) (hp : plain1 v = true) : rows1 a = (rowsX1 v).map fun id => ρ.getD id 0 := by
 cases v with
 | d T x =>
  have hw : Wp a (Ty.enc T x) := hv
  have := (wp_keep hw []).2
  cases a with
  | agg cs => rfl
  | _ => exact this
 | k y => have : a = .v y := hv; subst this; rfl
 | row id => obtain ⟨ty, T, fz, es, he, rfl⟩ := hv; rfl
 | sub id o l => obtain ⟨ty, T, fz, es, he, rfl⟩ := hv; rfl
 | _ => cases hp
theorem rows_A {v : XV} {a : AV} (hv : VT ρ h v a) (hp : plainX v = true) : rowsA a = (rowsX v).map fun id => ρ.getD id 0 := by
 cases v with
 | agg cs =>
  obtain ⟨as, rfl, hl⟩ := hv
  show as.flatMap rows1 = (cs.flatMap rowsX1).map _
  have hp' : cs.all plain1 = true := hp
  clear hp
  induction cs generalizing as with
  | nil => rw [hl.nil_left]; rfl
  | cons c cs ih =>
   obtain ⟨a, as', rfl, h1, h2⟩ := hl.cons_left
   simp only [List.all_cons, Bool.and_eq_true] at hp'
   rw [List.flatMap_cons, List.flatMap_cons, List.map_append, rows_1 h1 hp'.1, ih as' h2 hp'.2]
 | d T x => exact (wp_keep (show Wp a (Ty.enc T x) from hv) []).2
 | k y => have : a = .v y := hv; subst this; rfl
 | row id => obtain ⟨ty, T, fz, es, he, rfl⟩ := hv; rfl
 | sub id o l => obtain ⟨ty, T, fz, es, he, rfl⟩ := hv; rfl
 | _ => cases hp
theorem rows_L : ∀ {vs : List XV} {as : List AV}, All2 (VT ρ h) vs as → vs.all plainX = true → as.flatMap rowsA = (vs.flatMap rowsX).map fun id => ρ.getD id 0 := by
 intro vs
 induction vs with
 | nil => intro as hl _; rw [hl.nil_left]; rfl
 | cons v vs ih =>
  intro as hl hp
  obtain ⟨a, as', rfl, h1, h2⟩ := hl.cons_left
  simp only [List.all_cons, Bool.and_eq_true] at hp
  rw [List.flatMap_cons, List.flatMap_cons, List.map_append, rows_A h1 hp.1, ih h2 hp.2]
theorem idsX_ok {ok : Nat → Bool} (hrd : ∀ o, VT ρ h (rd o) (σ.val Gl o)) {i : I} (hx : idsX ok rd i = true) : ∀ id ∈ i.ids Gl σ, ∃ j, id = ρ.getD j 0 ∧ ok j = true ∧ j < h.length := by
 have one : ∀ x : Opd, (match rd x with | .ptr id _ _ => ok id | .lp _ _ _ => true | _ => false) = true → ∀ id ∈ (match σ.val Gl x with | .ptr id _ _ _ => [id] | _ => []), ∃ j, id = ρ.getD j 0 ∧ ok j = true ∧ j < h.length := by
  intro x hb id hid
  have hv := hrd x
  split at hb
  ·rename_i j i o hj
   rw [hj] at hv
   obtain ⟨ob, he, ha⟩ := hv
   rw [ha] at hid
   simp only [List.mem_singleton] at hid
   exact ⟨j, hid, hb, (List.getElem?_eq_some_iff.1 he).1⟩
  ·rename_i T y o hj
   rw [hj] at hv
   obtain ⟨cs, ha, _⟩ := hv
   rw [ha] at hid
   cases hid
  ·cases hb
 have two : ∀ x : Opd, (match rd x with | .ptr id _ _ => ok id | _ => false) = true → (match rd x with | .ptr id _ _ => ok id | .lp _ _ _ => true | _ => false) = true := by
  intro x hb
  split at hb
  ·rename_i h1; rw [h1]; exact hb
  ·cases hb
 cases i with
 | load sz ag x => exact one x hx
 | aaddr b st n x k => exact one x hx
 | b2s x =>
  intro id hid
  have hv := hrd x
  simp only [idsX] at hx
  simp only [I.ids] at hid
  split at hx
  ·rename_i j hj
   rw [hj] at hv
   obtain ⟨ty, T, fz, es, he, ha⟩ := hv
   rw [ha] at hid
   simp only [List.mem_singleton] at hid
   exact ⟨j, hid, hx, (List.getElem?_eq_some_iff.1 he).1⟩
  ·rename_i j o l hj
   rw [hj] at hv
   obtain ⟨ty, T, fz, es, he, ha⟩ := hv
   rw [ha] at hid
   simp only [List.mem_singleton] at hid
   exact ⟨j, hid, hx, (List.getElem?_eq_some_iff.1 he).1⟩
  ·rename_i T y hj
   rw [hj] at hv
   have hw : Wp (σ.val Gl x) (Ty.enc T y) := hv
   split at hid
   ·rename_i q
    rw [q] at hw
    exfalso
    cases T <;> first | (cases hw; done) | (cases y <;> cases hw)
   ·cases hid
  ·rename_i v hj
   rw [hj] at hv
   rw [show σ.val Gl x = .v v from hv] at hid
   cases hid
  ·cases hx
 | aslice b n x lo hi => exact one x (two x hx)
 | call fo args =>
  simp only [idsX, Bool.and_eq_true] at hx
  intro id hid
  simp only [I.ids] at hid
  rw [rows_L (map_vt (xs := args) hrd) hx.1] at hid
  obtain ⟨j, hj, rfl⟩ := List.mem_map.1 hid
  refine ⟨j, rfl, List.all_eq_true.1 hx.2 j hj, ?_⟩
  obtain ⟨v, hv, hjv⟩ := List.mem_flatMap.1 hj
  obtain ⟨o, ho, rfl⟩ := List.mem_map.1 hv
  have hV := hrd o
  have lt1 : ∀ {v : XV} {a : AV}, V1 ρ h v a → ∀ j ∈ rowsX1 v, j < h.length := by
   intro v a hv j hj
   cases v with
   | row id => obtain ⟨ty, T, fz, es, he, _⟩ := hv; simp only [rowsX1, List.mem_singleton] at hj; subst hj; exact (List.getElem?_eq_some_iff.1 he).1
   | sub id o l => obtain ⟨ty, T, fz, es, he, _⟩ := hv; simp only [rowsX1, List.mem_singleton] at hj; subst hj; exact (List.getElem?_eq_some_iff.1 he).1
   | _ => cases hj
  generalize rd o = v at hV hjv
  cases v with
  | agg cs =>
   obtain ⟨as, _, hl⟩ := hV
   obtain ⟨c', hc', hj'⟩ := List.mem_flatMap.1 hjv
   obtain ⟨k, hk⟩ := List.getElem?_of_mem hc'
   obtain ⟨b, _, hb⟩ := hl.get_left hk
   exact lt1 hb j hj'
  | row id => exact lt1 (show V1 ρ h (.row id) _ from hV) j hjv
  | sub id o l => exact lt1 (show V1 ρ h (.sub id o l) _ from hV) j hjv
  | _ => cases hjv
 | _ => intro id hid; cases hid
theorem ok_low {j : Nat} (h : (Nat.blt j m && !(U.any (Nat.beq j))) = true) : j < m ∧ j ∉ U := by
 simp only [Bool.and_eq_true, Bool.not_eq_true'] at h
 refine ⟨blt_t h.1, fun q => ?_⟩
 have : U.any (Nat.beq j) = true := List.any_eq_true.2 ⟨j, q, Nat.beq_refl j⟩
 rw [this] at h; cases h.2
theorem ok_up {j : Nat} (h : (Nat.ble m j || U.any (Nat.beq j)) = true) : m ≤ j ∨ j ∈ U := by
 simp only [Bool.or_eq_true, List.any_eq_true] at h
 rcases h with q | ⟨x, hx, q⟩
 ·exact .inl (Nat.le_of_ble_eq_true q)
 ·have := beq_eq q; subst this; exact .inr hx
theorem getD_inj (hnd : ρ.Nodup) {i j : Nat} (hi : i < ρ.length) (hj : j < ρ.length) (h : ρ.getD i 0 = ρ.getD j 0) : i = j := by
 simp only [List.getD, List.getElem?_eq_getElem hi, List.getElem?_eq_getElem hj, Option.getD_some] at h
 exact (List.getElem_inj hnd).1 h
theorem xrd_ok (hc : CfgOk P c) {ok : Nat → Bool} (hS : Sim ρ X σ) (hsp : SpR ρ X.h σ sp) {K : XS → Sp → Option β} {ins : Ins} {Q : St → Prop} (hcl : ins.i.cls ≤ 1) (hx : xrd c ok X sp K ins = some r)
  (hQ : ∀ (X' : XS) (sp' : Sp) (τ : St), Sim ρ X' τ → SpR ρ X'.h τ sp' → X'.h = X.h → τ.h = σ.h → K X' sp' = some r → Q τ) : (wants σ ins → ∀ id ∈ ins.i.ids (gx c.GX) σ, ∃ j, id = ρ.getD j 0 ∧ ok j = true ∧ j < X.h.length) ∧ aStep P (gx c.GX) true σ ins Q := by
 have hu := Upd.same hS.h
 obtain ⟨dst, gd, i⟩ := ins
 cases gd with
 | none =>
  simp only [xrd] at hx
  split at hx
  case isFalse => cases hx
  rename_i hid
  refine ⟨fun _ => idsX_ok (rdG_ok hS) hid, ?_⟩
  show aExec P (gx c.GX) true σ dst Q i
  refine xun_ok hc hS hsp hx fun τ hτ => ?_
  obtain ⟨ρ', X', sp', a1, a2, ⟨kl, tch, a3, _, a4⟩, a5⟩ := hτ
  obtain ⟨rfl, e1, e2⟩ := a4 hcl rfl
  exact hQ X' sp' τ a1 a2 e1 e2 a5
 | some g =>
  obtain ⟨s, want⟩ := g
  simp only [xrd] at hx
  have hvs := vt_get hS.t s
  split at hx
  case h_2 => cases hx
  rename_i b hb
  change Bool at b
  rw [hb] at hvs
  have hg := vt_bool hvs
  split at hx
  case h_2 => cases hx
  rename_i u p v hsi hxs
  split at hx
  case isFalse => cases hx
  rename_i hub
  simp only [Bool.and_eq_true, Bool.not_eq_true'] at hub
  obtain ⟨⟨hu1, hu2⟩, hid⟩ := hub
  have hul := blt_t hu1
  have hus : u ≠ s := fun q => by subst q; simp at hu2
  have hul' : u < σ.t.length := by rw [← hS.t.1]; exact hul
  refine ⟨fun hw => idsX_ok (fun o => rdC_ok hS hsp (by simp only [List.mem_singleton, forall_eq]; exact hw) o) hid, ?_⟩
  have hstep : aStep P (gx c.GX) true σ ⟨some u, some (s, want), i⟩ Q = if b = want then aExec P (gx c.GX) true σ (some u) Q i else Q (St.put σ (some u) und) := by
   simp only [aStep, hg]
  rw [hstep]
  cases hpb : (p || not (bEq b want)) with
  | false => rw [hpb] at hx; cases hx
  | true =>
   rw [hpb] at hx
   have hx : K ⟨X.t.set u .any, X.h⟩ ((u, s, want, v) :: spDrop (some u) sp) = some r := hx
   obtain ⟨_, hncall⟩ := specI_cls hsi
   have hany : ∀ a, Sim ρ ⟨X.t.set u .any, X.h⟩ (St.put ⟨σ.t, σ.h⟩ (some u) a) := fun a => put_ok (X := X) (kl := []) hS.t hu (vt_any a) (some u)
   by_cases hw : b = want
   ·rw [if_pos hw]
    have hp : p = true := by
     subst hw
     simpa [bEq] using hpb
    obtain ⟨q, a, e1, e2, e4⟩ := xspec_ok hS hsp (by rw [hg, hw]) hcl hxs hp
    rw [aExec_step hncall, e1]
    exact ⟨e2, hQ _ _ (St.put ⟨σ.t, σ.h⟩ (some u) a) (hany a) (spec_new hsp hS.h hul' hus hg (.inl ⟨hw, e4⟩)) rfl rfl hx⟩
   ·rw [if_neg hw]
    exact hQ _ _ (St.put ⟨σ.t, σ.h⟩ (some u) und) (hany und) (spec_new hsp hS.h hul' hus hg (.inr ⟨hw, rfl⟩)) rfl rfl hx
theorem xopsR_ok (hc : CfgOk P c) {K : XS → Option β} {H0 : List AObj} {ρ0 : List Nat} {V : List Nat} : ∀ (l : List (Nat × Ins)) (X : XS) (sp : Sp) (ρ : List Nat) (σ : St), Sim ρ X σ → SpR ρ X.h σ sp → Frm H0 ρ0 ρ σ.h → (∀ i, i < m → i < ρ.length → ρ.getD i 0 < N ∧ (ρ.getD i 0 ∈ V ↔ i ∈ U)) → (∀ i, m ≤ i → i < ρ.length → N ≤ ρ.getD i 0) → N ≤ σ.h.length → m ≤ X.h.length →
  xopsR c m U K l X sp = some r → aOpsR P (gx c.GX) N V (fun τ => ∃ ρ' X', Sim ρ' X' τ ∧ Frm H0 ρ0 ρ' τ.h ∧ K X' = some r) l σ := by
 intro l
 induction l with
 | nil => intro X sp ρ σ hS _ hF _ _ _ _ hx; exact ⟨ρ, X, hS, hF, hx⟩
 | cons p l ih =>
  intro X sp ρ σ hS hsp hF hA hB hN hM hx
  obtain ⟨mk, i⟩ := p
  have next : ∀ (ρ' : List Nat) (X' : XS) (sp' : Sp) (τ : St) (kl tch : List Nat), Sim ρ' X' τ → SpR ρ' X'.h τ sp' → Upd ρ X.h σ.h ρ' X'.h τ.h kl tch → xopsR c m U K l X' sp' = some r → aOpsR P (gx c.GX) N V (fun τ => ∃ ρ' X', Sim ρ' X' τ ∧ Frm H0 ρ0 ρ' τ.h ∧ K X' = some r) l τ := by
   intro ρ' X' sp' τ kl tch s1 s2 u hK
   obtain ⟨n, e, q⟩ := u.ap
   have hml : m ≤ ρ.length := by rw [hS.h.rl]; exact hM
   refine ih X' sp' ρ' τ s1 s2 (hF.upd hS.h.rl u) (fun j hj hj' => ?_) (fun j hj hj' => ?_) (Nat.le_trans hN u.ge) (Nat.le_trans hM u.hl) hK
   ·rw [e, getD_left (by omega)]; exact hA j hj (by omega)
   ·rcases Nat.lt_or_ge j ρ.length with hl | hl
    ·rw [e, getD_left hl]; exact hB j hj hl
    ·rw [e] at hj' ⊢
     simp only [List.length_append] at hj'
     have : (ρ ++ n).getD j 0 = n[j - ρ.length]'(by omega) := by
      simp only [List.getD]
      rw [List.getElem?_append_right hl, List.getElem?_eq_getElem (by omega)]; rfl
     rw [this]
     exact Nat.le_trans hN (q _ (List.getElem_mem _))
  match mk with
  | 0 =>
   simp only [xopsR] at hx
   refine xIns_ok hc 8 X sp _ hS hsp hx ?_
   rintro τ ⟨ρ', X', sp', s1, s2, ⟨kl, tch, u, _⟩, hK⟩
   exact next ρ' X' sp' τ kl tch s1 s2 u hK
  | 1 =>
   simp only [xopsR] at hx
   split at hx
   case isFalse => cases hx
   rename_i hcl
   obtain ⟨k1, k2⟩ := xrd_ok (Q := aOpsR P (gx c.GX) N V (fun τ => ∃ ρ' X', Sim ρ' X' τ ∧ Frm H0 ρ0 ρ' τ.h ∧ K X' = some r) l) hc hS hsp (Nat.le_of_ble_eq_true hcl) hx (fun X' sp' τ s1 s2 he hh hK => ih X' sp' ρ τ s1 s2 (by rw [hh]; exact hF) hA hB (by rw [hh]; exact hN) (by rw [he]; exact hM) hK)
   refine ⟨fun hw id hid => ?_, k2⟩
   obtain ⟨j, rfl, hok, hj⟩ := k1 hw id hid
   obtain ⟨o1, o2⟩ := ok_low hok
   have := hA j o1 (by rw [hS.h.rl]; exact hj)
   exact ⟨this.1, fun q => o2 (this.2.1 q)⟩
  | k + 2 =>
   show aStep P (gx c.GX) false σ i (fun ρ => agree N V σ.h ρ.h ∧ aOpsR P (gx c.GX) N V _ l ρ)
   have fin : ∀ (ρ' : List Nat) (X' : XS) (sp' : Sp) (τ : St) (kl tch : List Nat), Sim ρ' X' τ → SpR ρ' X'.h τ sp' → Upd ρ X.h σ.h ρ' X'.h τ.h kl tch → (∀ id ∈ tch, (Nat.ble m id || U.any (Nat.beq id)) = true) → xopsR c m U K l X' sp' = some r → agree N V σ.h τ.h ∧ aOpsR P (gx c.GX) N V (fun τ => ∃ ρ' X', Sim ρ' X' τ ∧ Frm H0 ρ0 ρ' τ.h ∧ K X' = some r) l τ := by
    intro ρ' X' sp' τ kl tch s1 s2 u hlv hK
    refine ⟨?_, next ρ' X' sp' τ kl tch s1 s2 u hK⟩
    intro j hj hjV
    refine u.fr j (by omega) (fun id hid hil q => ?_)
    have hil' : id < ρ.length := by rw [hS.h.rl]; exact hil
    rcases ok_up (hlv id hid) with r1 | r1
    ·have := hB id r1 hil'; omega
    ·rcases Nat.lt_or_ge id m with r2 | r2
     ·exact hjV (q ▸ (hA id r2 hil').2.2 r1)
     ·have := hB id r2 hil'; omega
   obtain ⟨dst, gd, ii⟩ := i
   cases gd with
   | none =>
    have hx : (if leaves (fun id => Nat.ble m id || U.any (Nat.beq id)) (rdG c.GX X.t) ii = true then xIns c false (fun id => Nat.ble m id || U.any (Nat.beq id)) 8 X sp (fun X' sp' => xopsR c m U K l X' sp') ⟨dst, none, ii⟩ else none) = some r := hx
    split at hx
    case isFalse => cases hx
    rename_i hb
    refine xIns_ok hc 8 X sp _ hS hsp hx ?_
    rintro τ ⟨ρ', X', sp', s1, s2, ⟨kl, tch, u, hlv⟩, hK⟩
    exact fin ρ' X' sp' τ kl tch s1 s2 u (hlv rfl hb) hK
   | some g =>
    obtain ⟨s, want⟩ := g
    have hx : (match X.t.getD s .any with
     | .d .bool b => cond b (xwr c (fun id => Nat.ble m id || U.any (Nat.beq id)) X sp dst s want ii (fun X' sp' => xopsR c m U K l X' sp') true) (xwr c (fun id => Nat.ble m id || U.any (Nat.beq id)) X sp dst s want ii (fun X' sp' => xopsR c m U K l X' sp') false)
     | _ => none) = some r := hx
    have hvs := vt_get hS.t s
    split at hx
    case h_2 => cases hx
    rename_i b hb
    change Bool at b
    rw [hb] at hvs
    have hg := vt_bool hvs
    have hw : xwr c (fun id => Nat.ble m id || U.any (Nat.beq id)) X sp dst s want ii (fun X' sp' => xopsR c m U K l X' sp') b = some r := by
     cases b <;> exact hx
    obtain ⟨m1, m2⟩ := matL_ok hS hsp hg
    have hstep : ∀ Q, aStep P (gx c.GX) false σ ⟨dst, some (s, want), ii⟩ Q = if b = want then aExec P (gx c.GX) false σ dst Q ii else Q (σ.put dst und) := by
     intro Q; simp only [aStep, hg]
    rw [hstep]
    unfold xwr at hw
    by_cases hbw : b = want
    ·rw [if_pos hbw]
     rw [if_pos (by rw [hbw]; simp)] at hw
     split at hw
     case isFalse => cases hw
     rename_i hlv
     refine xun_ok hc m1 m2 hw fun τ hτ => ?_
     obtain ⟨ρ', X', sp', a1, a2, ⟨kl, tch, a3, a4, _⟩, a5⟩ := hτ
     exact fin ρ' X' sp' τ kl tch a1 a2 a3 (a4 hlv) a5
    ·rw [if_neg hbw]
     rw [if_neg (by simpa using hbw)] at hw
     have hu1 := Upd.same m1.h
     refine fin ρ _ _ _ [] [] (put_ok (X := ⟨matL s b sp X.t, X.h⟩) (kl := []) m1.t hu1 (show VT ρ X.h kU und from rfl) dst) (drop_ok (kl := []) m2 hu1 dst und) ?_ (fun id q => by simp at q) hw
     have : (σ.put dst und).h = σ.h := put_h (H' := σ.h)
     show Upd ρ X.h σ.h ρ X.h (σ.put dst und).h [] []
     rw [this]; exact Upd.same hS.h
end
end Abs
end Go.Proofs.YtfjhljjginlobaaDoor
end
