/- Maps of the call's own: the abstract machine's steps on them; slices made with room. -/
import Derived.Test.YtnhgeocdffhkjaaDoorAbsN
import Derived.ChangeKeysEq
namespace Go.Proofs.YtnhgeocdffhkjaaDoor
namespace Abs
open Go.RowKit
set_option linter.unusedVariables false
set_option linter.unusedSimpArgs false
/-- A map's keys' type. -/
def cKT (P : Program) (t : TypeId) : Option KT := match P.underlying t with
  | some (.int k) => some (.int k)
  | some .string => some .str
  | some (.array n e) => match P.underlying e, P.info? e with
    | some (.int k), some i => if i.size = 1 ∧ n ≠ 1 ∧ n ≠ 0 then some (.arr n k) else none
    | _, _ => none
  | _ => none
/-- The entry of a row of numbers, by its place. -/
def posA (k : List AV) : List MapEntry → Nat → Option (Nat × Value)
  | [], _ => none
  | e :: es, i => if eqCs k (avOf e.key).cells = true then some (i, e.val) else posA k es (i + 1)
/-- What a key is. -/
def KT.is : KT → Value → Prop
  | .int k, x => ∃ m, x = .int k m
  | .str, x => ∃ m, x = .string m
  | .arr n k, x => ∃ cs : Array Value, x = .agg cs ∧ cs.size = n ∧ ∀ y ∈ cs.toList, ∃ m, y = .int k m
theorem okI_v {k : IntKind} {y : Value} (h : okI k (.v y) = true) : ∃ m, y = .int k m := by
  unfold okI at h
  split at h
  · rename_i k' m hy; cases hy; exact ⟨m, by rw [of_decide_eq_true h]⟩
  · cases h
theorem KT.ok_int {k : IntKind} {l : List AV} (h : (KT.int k).ok l = true) : ∃ m, l = [.v (.int k m)] := by
  cases l with
  | nil => cases h
  | cons a l => cases l with
    | nil =>
      have h : okI k a = true := h
      cases a <;> first | (cases h; done) | skip
      rename_i x
      obtain ⟨m, rfl⟩ := okI_v h
      exact ⟨m, rfl⟩
    | cons b l => cases h
theorem KT.ok_str {l : List AV} (h : KT.str.ok l = true) : ∃ s, l = [.v (.string s)] := by
  cases l with
  | nil => cases h
  | cons a l => cases l with
    | nil =>
      cases a <;> first | (cases h; done) | skip
      rename_i x
      cases x <;> first | (cases h; done) | exact ⟨_, rfl⟩
    | cons b l =>
      exfalso
      cases a <;> first | (cases h; done) | skip
      rename_i x
      cases x <;> cases h
/-- A key by its cells. -/
theorem KT.is_of {kt : KT} {x : Value} (h : kt.ok (avOf x).cells = true) (h1 : ∀ cs, x = .agg cs → cs.size ≠ 1) (hn : ∀ n k, kt = .arr n k → n ≠ 1) : kt.is x := by
  have agg : ∀ cs, x = .agg cs → (avOf x).cells = cs.toList.map .v := fun cs q => by rw [q, avOf_cells]; rfl
  have one : (∀ cs, x ≠ .agg cs) → (avOf x).cells = [.v x] := fun q => by cases x <;> first | rfl | exact absurd rfl (q _)
  by_cases ha : ∃ cs, x = .agg cs
  · obtain ⟨cs, hcs⟩ := ha
    have hs := h1 cs hcs
    rw [agg cs hcs] at h
    cases kt with
    | int k =>
      obtain ⟨m, q⟩ := KT.ok_int h
      have := congrArg List.length q
      simp at this; omega
    | str =>
      obtain ⟨m, q⟩ := KT.ok_str h
      have := congrArg List.length q
      simp at this; omega
    | arr n k =>
      simp only [KT.ok, Bool.and_eq_true, List.all_eq_true] at h
      refine ⟨cs, hcs, by simpa using Nat.eq_of_beq_eq_true h.1, fun y hy => okI_v (h.2 (.v y) (List.mem_map.2 ⟨y, hy, rfl⟩))⟩
  · rw [one fun cs q => ha ⟨cs, q⟩] at h
    cases kt with
    | int k =>
      obtain ⟨m, q⟩ := KT.ok_int h
      simp at q
      exact ⟨m, q⟩
    | str =>
      obtain ⟨s, q⟩ := KT.ok_str h
      simp at q
      exact ⟨s, q⟩
    | arr n k =>
      exfalso
      simp only [KT.ok, Bool.and_eq_true] at h
      exact hn n k rfl (by have := Nat.eq_of_beq_eq_true h.1; simpa using this.symm)
theorem KT.is_cells {kt : KT} {x : Value} (h : kt.is x) : (avOf x).cells.length = kt.n ∧ kt.ok (avOf x).cells = true := by
  cases kt with
  | int k => obtain ⟨m, rfl⟩ := h; exact ⟨rfl, by simp [avOf, AV.cells, KT.ok, okI]⟩
  | str => obtain ⟨m, rfl⟩ := h; exact ⟨rfl, rfl⟩
  | arr n k =>
    obtain ⟨cs, rfl, h1, h2⟩ := h
    rw [avOf_cells]
    refine ⟨by simp [Value.cells, h1, KT.n], ?_⟩
    simp only [KT.ok, Bool.and_eq_true, List.all_eq_true]
    refine ⟨by simp [Value.cells, h1], fun a ha => ?_⟩
    obtain ⟨y, hy, rfl⟩ := List.mem_map.1 ha
    obtain ⟨m, rfl⟩ := h2 y hy
    simp [okI]
/-- An operand that is a key. -/
theorem key_of {F : Addr → Option Value} {own : List Ent} {x : Value} {a : AV} {kt : KT} (hn : ∀ n k, kt = .arr n k → n ≠ 1) (h : R F own x a) (hk : kt.ok a.cells = true) (hf : ∀ cs, a = .agg cs → cs.length ≠ 1) : a = avOf x ∧ kt.is x ∧ ∀ cs, x = .agg cs → cs.size ≠ 1 := by
  have sing : ∀ y, a.cells = [.v y] → a = .v y := fun y q => by
    cases a with
    | agg cs => have := hf cs rfl; rw [show cs = [.v y] from q] at this; simp at this
    | v x => simpa [AV.cells] using q
    | _ => simp [AV.cells] at q
  cases kt with
  | int k =>
    obtain ⟨m, q⟩ := KT.ok_int hk
    have := sing _ q
    subst this
    have hx := h.v_inv
    subst hx
    exact ⟨rfl, ⟨m, rfl⟩, fun cs q => by cases q⟩
  | str =>
    obtain ⟨s, q⟩ := KT.ok_str hk
    have := sing _ q
    subst this
    have hx := h.v_inv
    subst hx
    exact ⟨rfl, ⟨s, rfl⟩, fun cs q => by cases q⟩
  | arr n k =>
    simp only [KT.ok, Bool.and_eq_true, List.all_eq_true] at hk
    have hlen := Nat.eq_of_beq_eq_true hk.1
    cases a with
    | agg cs =>
      obtain ⟨xs, rfl, hl, h1, hR⟩ := h.agg_inv
      have hn1 := hf cs rfl
      have hl' : cs.length = n := hlen
      have hall : ∀ (j : Nat) (x : Value) (c : AV), xs[j]? = some x → cs[j]? = some c → c = .v x ∧ ∃ m, x = .int k m := by
        intro j x c p q
        have hc := hk.2 c (List.mem_of_getElem? q)
        cases c <;> first | (cases hc; done) | skip
        rename_i y
        have := (hR j x _ p q).v_inv
        subst this
        exact ⟨rfl, okI_v hc⟩
      refine ⟨?_, ⟨xs, rfl, by omega, fun y hy => ?_⟩, fun cs' q => by cases q; omega⟩
      · show AV.agg cs = AV.agg (xs.toList.map .v)
        congr 1
        apply List.ext_getElem?
        intro j
        rw [List.getElem?_map]
        rcases Nat.lt_or_ge j cs.length with hj | hj
        · have e1 : cs[j]? = some cs[j] := List.getElem?_eq_getElem hj
          have e2 : xs[j]? = some (xs[j]'(by omega)) := Array.getElem?_eq_getElem (by omega)
          have := (hall j _ _ e2 e1).1
          rw [e1, Array.getElem?_toList, e2, this]; rfl
        · rw [List.getElem?_eq_none hj, List.getElem?_eq_none (by simp; omega)]; rfl
      · obtain ⟨j, hj⟩ := List.getElem?_of_mem hy
        have hj' : xs[j]? = some y := by simpa using hj
        have hjl : j < cs.length := by rw [← hl]; exact (Array.getElem?_eq_some_iff.1 hj').1
        exact (hall j y cs[j] hj' (List.getElem?_eq_getElem hjl)).2
    | v x => exfalso; exact hn n k rfl (by simpa [AV.cells] using hlen.symm)
    | _ => exfalso; exact hn n k rfl (by simpa [AV.cells] using hlen.symm)

theorem EntR.key {F : Addr → Option Value} {en : MapEntry} {x : AV} {kt : KT} (hn : ∀ n k, kt = .arr n k → n ≠ 1) (h : EntR F en x) (hk : kt.entOk x = true) : kt.is en.key ∧ ∃ a, x = .agg ((avOf en.key).cells ++ [a]) ∧ (avOf en.key).cells.length = kt.n ∧ en.val.oneCell' = true ∧ RP F en.val a := by
  obtain ⟨a, rfl, h1, h2, h3⟩ := h
  simp only [KT.entOk, Bool.and_eq_true] at hk
  have hl := Nat.eq_of_beq_eq_true hk.1
  have hl : (avOf en.key).cells.length = kt.n := by simpa using hl
  have ht : ((avOf en.key).cells ++ [a]).take kt.n = (avOf en.key).cells := by rw [← hl, List.take_left']; rfl
  rw [ht] at hk
  exact ⟨KT.is_of hk.2 h1 hn, a, rfl, hl, h2, h3⟩

/-- What a search finds, by its place. -/
def PosR (F : Addr → Option Value) : Option (Nat × Value) → Option (Nat × AV) → Prop
  | none, none => True
  | some (i, v), some (j, a) => i = j ∧ v.oneCell' = true ∧ RP F v a
  | _, _ => False
def posK : KT → Value → List MapEntry → Nat → Option (Nat × Value)
  | .int k, .int _ n, es, i => posI k n es i
  | .str, .string s, es, i => posS s es i
  | .arr _ _, x, es, i => posA (avOf x).cells es i
  | _, _, _, _ => none
theorem eqCs_int (k : IntKind) (n m : Int) : eqCs [.v (.int k n)] [.v (.int k m)] = decide (n = m) := by
  simp only [eqCs, eqC, Bool.and_true]
  by_cases h : n = m <;> simp [h]
theorem toList_inj {a b : ByteArray} (h : a.toList = b.toList) : a = b := by
  rw [ByteArray.toList_eq, ByteArray.toList_eq] at h
  cases a; cases b; simp at h; rw [h]
theorem eqCs_str (n m : ByteArray) : eqCs [.v (.string n)] [.v (.string m)] = decide (n = m) := by
  simp only [eqCs, eqC, Bool.and_true]
  by_cases h : n = m
  · simp [h]
  · rw [decide_eq_false h]
    exact Bool.eq_false_iff.2 fun q => h (toList_inj (by simpa using q))
theorem pos_sound {F : Addr → Option Value} {kt : KT} (hn : ∀ n k, kt = .arr n k → n ≠ 1) {x : Value} (hx : kt.is x) : ∀ (es : List MapEntry) (xs : List AV) (i : Nat), es.length = xs.length → (∀ (j : Nat) (en : MapEntry) (x : AV), es[j]? = some en → xs[j]? = some x → EntR F en x) → xs.all kt.entOk = true →
    (∀ e ∈ es, kt.is e.key) ∧ PosR F (posK kt x es i) (findE kt.n (avOf x).cells xs i)
  | [], [], i, _, _, _ => ⟨by simp, by cases kt <;> (first | (obtain ⟨m, rfl⟩ := hx) | (obtain ⟨m, rfl, _⟩ := hx)) <;> trivial⟩
  | [], _ :: _, _, h, _, _ => by simp at h
  | _ :: _, [], _, h, _, _ => by simp at h
  | e :: es, y :: ys, i, hl, hR, ha => by
    simp only [List.all_cons, Bool.and_eq_true] at ha
    have h0 := hR 0 e y rfl rfl
    obtain ⟨k1, a, rfl, k2, k3, k4⟩ := h0.key hn ha.1
    obtain ⟨m1, m2⟩ := pos_sound hn hx es ys (i + 1) (by simpa using hl) (fun j en x p q => hR (j + 1) en x (by simpa using p) (by simpa using q)) ha.2
    refine ⟨by simp only [List.mem_cons, forall_eq_or_imp]; exact ⟨k1, m1⟩, ?_⟩
    have ht : ((avOf e.key).cells ++ [a]).take kt.n = (avOf e.key).cells := by rw [← k2, List.take_left']; rfl
    have hg : ((avOf e.key).cells ++ [a]).getD kt.n .any = a := by rw [← k2]; simp [List.getD]
    have fe : findE kt.n (avOf x).cells (.agg ((avOf e.key).cells ++ [a]) :: ys) i = if eqCs (avOf x).cells (avOf e.key).cells = true then some (i, a) else findE kt.n (avOf x).cells ys (i + 1) := by
      conv => lhs; unfold findE
      rw [ht, hg]
    rw [fe]
    cases kt with
    | int k =>
      obtain ⟨n, rfl⟩ := hx
      obtain ⟨m, hm⟩ := k1
      rw [show (avOf e.key).cells = [.v (.int k m)] by rw [hm]; rfl, show (avOf (.int k n)).cells = [.v (.int k n)] from rfl, eqCs_int]
      show PosR F (posI k n (e :: es) i) _
      unfold posI
      rw [hm]
      dsimp only
      by_cases hnm : n = m
      · rw [if_pos hnm, decide_eq_true hnm, if_pos rfl]; exact ⟨rfl, k3, k4⟩
      · rw [if_neg hnm, decide_eq_false hnm, if_neg (by simp)]; exact m2
    | str =>
      obtain ⟨n, rfl⟩ := hx
      obtain ⟨m, hm⟩ := k1
      rw [show (avOf e.key).cells = [.v (.string m)] by rw [hm]; rfl, show (avOf (.string n)).cells = [.v (.string n)] from rfl, eqCs_str]
      show PosR F (posS n (e :: es) i) _
      unfold posS
      rw [hm]
      dsimp only
      by_cases hnm : n = m
      · rw [if_pos hnm, decide_eq_true hnm, if_pos rfl]; exact ⟨rfl, k3, k4⟩
      · rw [if_neg hnm, decide_eq_false hnm, if_neg (by simp)]; exact m2
    | arr n k =>
      show PosR F (posA (avOf x).cells (e :: es) i) _
      unfold posA
      by_cases hq : eqCs (avOf x).cells (avOf e.key).cells = true
      · rw [if_pos hq, if_pos hq]; exact ⟨rfl, k3, k4⟩
      · rw [if_neg hq, if_neg hq]; exact m2

section
variable {P : Program} {w : World}
theorem is_arr_eq {n : Nat} {k : IntKind} {x y : Value} (hx : (KT.arr n k).is x) (hy : (KT.arr n k).is y) : eqCs (avOf x).cells (avOf y).cells = true ↔ x = y := by
  obtain ⟨xs, rfl, hxl, hxi⟩ := hx
  obtain ⟨ys, rfl, hyl, hyi⟩ := hy
  rw [avOf_cells, avOf_cells]
  have key : ∀ (l m : List Value), l.length = m.length → (∀ y ∈ l, ∃ m, y = .int k m) → (∀ y ∈ m, ∃ m, y = .int k m) → (eqCs (l.map .v) (m.map .v) = true ↔ l = m) := by
    intro l
    induction l with
    | nil => intro m h _ _; cases m with
      | nil => simp [eqCs]
      | cons => simp at h
    | cons a l ih =>
      intro m h h1 h2
      cases m with
      | nil => simp at h
      | cons b m =>
        obtain ⟨a', rfl⟩ := h1 a (by simp)
        obtain ⟨b', rfl⟩ := h2 b (by simp)
        have := ih m (by simpa using h) (fun y hy => h1 y (by simp [hy])) (fun y hy => h2 y (by simp [hy]))
        simp only [List.map_cons, eqCs, Bool.and_eq_true, this, eqC, List.cons.injEq, Value.int.injEq, true_and, beq_iff_eq]
  simp only [Value.cells]
  rw [key xs.toList ys.toList (by simp [hxl, hyl]) hxi hyi]
  constructor
  · intro h; rw [Array.toList_inj.1 h]
  · intro h; injection h with h; rw [h]
theorem run_part_int {e : TypeId} {k : IntKind} (he : P.underlying e = some (.int k)) (xs : Array Value) {j : Nat} {v : Value} (hv : xs[j]? = some v) : (part e xs j).run P w = .ok v w := by
  unfold part isAgg
  simp only [Sem.run_bind, run_underlying he, Result.andThen_ok]
  simp [hv]
theorem run_eq_arr {kt e : TypeId} {k : IntKind} {n : Nat} {i : TypeInfo} (ht : P.underlying kt = some (.array n e)) (he : P.underlying e = some (.int k)) (hi : P.info? e = some i) (h1 : i.size = 1) {x y : Value} (hx : (KT.arr n k).is x) (hy : (KT.arr n k).is y) :
    (Op.equal kt x y).run P w = .ok (eqCs (avOf x).cells (avOf y).cells) w := by
  obtain ⟨xs, rfl, hxl, hxi⟩ := hx
  obtain ⟨ys, rfl, hyl, hyi⟩ := hy
  have hc : P.cellsOf e = 1 := by simp [Program.cellsOf, hi, h1]
  show (Op.equalIn (9999 + 1) kt (.agg xs) (.agg ys)).run P w = _
  rw [run_equalIn_array w 9999 xs ys ht hi, hc, List.range_eq_range', avOf_cells, avOf_cells]
  have key : ∀ m s, s + m = n → (Op.eqItems 9999 e 1 xs ys (List.range' s m)).run P w = .ok (eqCs ((xs.toList.drop s).map .v) ((ys.toList.drop s).map .v)) w := by
    intro m
    induction m with
    | zero =>
      intro s hs
      have e1 : xs.toList.drop s = [] := List.drop_eq_nil_of_le (by simp; omega)
      have e2 : ys.toList.drop s = [] := List.drop_eq_nil_of_le (by simp; omega)
      rw [e1, e2]
      rfl
    | succ m ih =>
      intro s hs
      have hx : xs.toList.drop s = xs[s]'(by omega) :: xs.toList.drop (s + 1) := by rw [List.drop_eq_getElem_cons (by simp; omega)]; simp
      have hy : ys.toList.drop s = ys[s]'(by omega) :: ys.toList.drop (s + 1) := by rw [List.drop_eq_getElem_cons (by simp; omega)]; simp
      have px : xs[s]? = some (xs[s]'(by omega)) := Array.getElem?_eq_getElem (by omega)
      have py : ys[s]? = some (ys[s]'(by omega)) := Array.getElem?_eq_getElem (by omega)
      obtain ⟨a, ha⟩ := hxi (xs[s]'(by omega)) (by simp)
      obtain ⟨b, hb⟩ := hyi (ys[s]'(by omega)) (by simp)
      rw [hx, hy, ha, hb]
      rw [ha] at px
      rw [hb] at py
      rw [List.range'_succ]
      unfold Op.eqItems
      rw [Nat.mul_one]
      simp only [Sem.run_bind, run_part_int he xs px, run_part_int he ys py, Result.andThen_ok]
      rw [show (9999 : Nat) = 9998 + 1 from rfl, eqi_int 9998 e k k a b he]
      simp only [Result.andThen_ok, List.map_cons, eqCs, eqC]
      have ih := ih (s + 1) (by omega)
      cases hab : (a == b)
      · simp
      · simp only [Bool.not_true, Bool.false_eq_true, if_false, Bool.true_and]; exact ih
  have := key n 0 (by omega)
  simpa [Value.cells] using this
theorem run_checkKey_arr {kt e : TypeId} {k : IntKind} {n : Nat} {i : TypeInfo} (ht : P.underlying kt = some (.array n e)) (he : P.underlying e = some (.int k)) (hi : P.info? e = some i) (h1 : i.size = 1) {x : Value} (hx : (KT.arr n k).is x) (b : Bool) (m : Nat) :
    (Instr.checkKey b (m + 2) kt x).run P w = .ok () w := by
  obtain ⟨xs, rfl, hxl, hxi⟩ := hx
  have hs : (sizeOf e).run P w = .ok 1 w := by simp [sizeOf, typeInfo, hi, h1]
  unfold Instr.checkKey
  simp only [Sem.run_bind, run_underlying ht, Result.andThen_ok]
  simp only [Std.Legacy.Range.forIn_eq_forIn_range', Std.Legacy.Range.size, Nat.sub_zero, Nat.add_one_sub_one, Nat.div_one]
  have key : ∀ m' s, s + m' = n → (forIn (List.range' s m') PUnit.unit fun j (_ : PUnit) => do
      let q ← sizeOf e
      let p ← part e xs (j * q)
      Instr.checkKey b (m + 1) e p
      (Pure.pure (ForInStep.yield PUnit.unit) : Sem _) : Sem PUnit).run P w = .ok PUnit.unit w := by
    intro m'
    induction m' with
    | zero => intro s _; simp
    | succ m' ih =>
      intro s hs'
      have px : xs[s]? = some (xs[s]'(by omega)) := Array.getElem?_eq_getElem (by omega)
      obtain ⟨a, ha⟩ := hxi (xs[s]'(by omega)) (by simp)
      rw [ha] at px
      rw [List.range'_succ]
      simp only [List.forIn_cons, Sem.run_bind, hs, Result.andThen_ok, Nat.mul_one, run_part_int he xs px, run_checkKey_int he w b m a, Sem.run_pure]
      exact ih (s + 1) (by omega)
  have := key n 0 (by omega)
  simp at this ⊢
  rw [this]; rfl
/-- What the program says of a key's type. -/
def KTy (P : Program) (kt : TypeId) : KT → Prop
  | .int k => P.underlying kt = some (.int k)
  | .str => P.underlying kt = some .string
  | .arr n k => n ≠ 1 ∧ ∃ e i, P.underlying kt = some (.array n e) ∧ P.underlying e = some (.int k) ∧ P.info? e = some i ∧ i.size = 1
theorem cKT_ty {kt : TypeId} {q : KT} (h : cKT P kt = some q) : KTy P kt q := by
  unfold cKT at h
  split at h
  · rename_i k hk; cases h; exact hk
  · rename_i hk; cases h; exact hk
  · rename_i n e hk
    split at h
    · rename_i k i h1 h2
      split at h
      · rename_i hc; cases h; exact ⟨hc.2.1, e, i, hk, h1, h2, hc.1⟩
      · cases h
    · cases h
  · cases h
theorem KTy.n1 {kt : TypeId} {q : KT} (h : KTy P kt q) : ∀ n k, q = .arr n k → n ≠ 1 := fun n k e => by subst e; exact h.1
theorem run_findKey_arr {kt e : TypeId} {k : IntKind} {n : Nat} {i : TypeInfo} (ht : P.underlying kt = some (.array n e)) (he : P.underlying e = some (.int k)) (hi : P.info? e = some i) (h1 : i.size = 1) {x : Value} (hx : (KT.arr n k).is x) (es : List MapEntry) (hes : ∀ e ∈ es, (KT.arr n k).is e.key) :
    (Instr.findKey kt x es).run P w = .ok (posA (avOf x).cells es 0) w := by
  have ask : ∀ (es : List MapEntry) (j : Nat), (∀ e ∈ es, (KT.arr n k).is e.key) → (Instr.findAsking kt x es j).run P w = .ok (posA (avOf x).cells es j) w := by
    intro es
    induction es with
    | nil => intro j _; rfl
    | cons en es ih =>
      intro j h
      unfold Instr.findAsking posA
      simp only [Sem.run_bind, run_eq_arr ht he hi h1 hx (h en (by simp)), Result.andThen_ok]
      split
      · rfl
      · exact ih (j + 1) fun e he => h e (by simp [he])
  unfold Instr.findKey
  simp only [Sem.run_bind, run_underlying ht, Result.andThen_ok]
  cases es with
  | nil => rfl
  | cons en es =>
    have : Instr.findNow (.array n e) x (en :: es) 0 = none := by
      unfold Instr.findNow Instr.sameNow
      rfl
    rw [this]
    exact ask (en :: es) 0 hes
/-- A lookup. -/
theorem run_lookup {t kt et : TypeId} {q : KT} (ht : P.underlying t = some (.map kt et)) (hq : KTy P kt q) {g : Nat} {es : Array MapEntry} {clock : Nat} (hb : w.heap[g]? = some (.map es clock)) (hes : ∀ e ∈ es.toList, q.is e.key) {x : Value} (hx : q.is x) {ti : TypeInfo} {z : Value} (hi : P.info? et = some ti) (hz : ti.zero = some z) (ok : Bool) :
    (Instr.lookup t (.map (some g)) x ok).run P w = .ok (match posK q x es.toList 0 with
      | some (_, v) => (if ok then .tuple #[v, .bool true] else v)
      | none => (if ok then .tuple #[z, .bool false] else z)) w := by
  cases q with
  | int k => obtain ⟨n, rfl⟩ := hx; exact run_lookup_int ht hq hb hes n hi hz ok
  | str => obtain ⟨n, rfl⟩ := hx; exact run_lookup_str ht hq hb hes n hi hz ok
  | arr n k =>
    obtain ⟨hn, e, i, h1, h2, h3, h4⟩ := hq
    have hg : (Sem.getObj g Sem.pure).run P w = .ok (.map es clock) w := by
      show Sem.run P (.getObj g .pure) w = _
      simp only [Sem.run, hb]
    have hc : (Instr.checkKey es.isEmpty 10000 kt x).run P w = .ok () w := run_checkKey_arr h1 h2 h3 h4 hx es.isEmpty 9998
    have hf := run_findKey_arr (w := w) h1 h2 h3 h4 hx es.toList hes
    show _ = Result.ok (match posA (avOf x).cells es.toList 0 with
      | some (_, v) => (if ok then Value.tuple #[v, .bool true] else v)
      | none => (if ok then Value.tuple #[z, .bool false] else z)) w
    unfold Instr.lookup
    simp only [getObj, run_underlying ht, Sem.run_bind, Result.andThen_ok, hg, Sem.run_pure, hc, hf]
    cases posA (avOf x).cells es.toList 0 with
    | none => cases ok <;> simp [zeroValue, typeInfo, hi, hz]
    | some p => cases ok <;> simp
def putK (q : KT) (x v : Value) (es : Array MapEntry) (clock : Nat) : Obj := match posK q x es.toList 0 with
  | some (i, _) => .map (es.modify i fun e => { e with key := x, val := v }) clock
  | none => .map (es.push { key := x, val := v, born := clock }) (clock + 1)
theorem posA_at {n : Nat} {k : IntKind} {x : Value} (hx : (KT.arr n k).is x) : ∀ (es : List MapEntry) (i j : Nat) (v : Value), (∀ e ∈ es, (KT.arr n k).is e.key) → posA (avOf x).cells es i = some (j, v) → i ≤ j ∧ ∃ e, es[j - i]? = some e ∧ e.key = x ∧ e.val = v
  | [], i, j, v, _, h => by cases h
  | e :: es, i, j, v, hk, h => by
    unfold posA at h
    split at h
    · rename_i hq
      cases h
      exact ⟨Nat.le_refl _, e, by simp, ((is_arr_eq hx (hk e (by simp))).1 hq).symm, rfl⟩
    · obtain ⟨h1, e', h2, h3, h4⟩ := posA_at hx es (i + 1) j v (fun e he => hk e (by simp [he])) h
      refine ⟨by omega, e', ?_, h3, h4⟩
      rw [show j - i = (j - (i + 1)) + 1 by omega, List.getElem?_cons_succ]
      exact h2
theorem sameBits_arr {n : Nat} {k : IntKind} {x : Value} (hx : (KT.arr n k).is x) : Instr.sameBits 10000 x x = true := by
  obtain ⟨xs, rfl, _, hi⟩ := hx
  show Instr.sameBits (9999 + 1) (.agg xs) (.agg xs) = true
  unfold Instr.sameBits
  simp only [beq_self_eq_true, Bool.true_and, List.all_eq_true]
  intro p hp
  obtain ⟨a, b⟩ := p
  have hab : a = b := by
    have key : ∀ (l : List Value), (a, b) ∈ l.zip l → a = b := by
      intro l
      induction l with
      | nil => intro h; cases h
      | cons c l ih =>
        intro h
        simp only [List.zip_cons_cons, List.mem_cons, Prod.mk.injEq] at h
        rcases h with ⟨rfl, rfl⟩ | h
        · rfl
        · exact ih h
    exact key _ hp
  subst hab
  obtain ⟨m, rfl⟩ := hi a (List.of_mem_zip hp).1
  unfold Instr.sameBits
  simp
/-- An entry put. -/
theorem run_put {t kt et : TypeId} {q : KT} (ht : P.underlying t = some (.map kt et)) (hq : KTy P kt q) {g : Nat} {es : Array MapEntry} {clock : Nat} (hb : w.heap[g]? = some (.map es clock)) (hes : ∀ e ∈ es.toList, q.is e.key) {x : Value} (hx : q.is x) (v : Value) :
    (Instr.mapUpdate t (.map (some g)) x v).run P w = .ok () { w with heap := w.heap.setIfInBounds g (putK q x v es clock) } := by
  cases q with
  | int k => obtain ⟨n, rfl⟩ := hx; exact run_put_int ht hq hb hes n v
  | str => obtain ⟨n, rfl⟩ := hx; exact run_put_str ht hq hb hes n v
  | arr n k =>
    obtain ⟨hn, e, i, h1, h2, h3, h4⟩ := hq
    have hg : (Sem.getObj g Sem.pure).run P w = .ok (.map es clock) w := by
      show Sem.run P (.getObj g .pure) w = _
      simp only [Sem.run, hb]
    have hs : ∀ o : Obj, (setObj g o).run P w = .ok () { w with heap := w.heap.setIfInBounds g o } := fun o => by simp [setObj, Sem.run, hb]
    have hc : (Instr.checkKey false 10000 kt x).run P w = .ok () w := run_checkKey_arr h1 h2 h3 h4 hx false 9998
    have hf := run_findKey_arr (w := w) h1 h2 h3 h4 hx es.toList hes
    have hp := posA_at hx es.toList 0
    show _ = Result.ok () { w with heap := w.heap.setIfInBounds g (match posA (avOf x).cells es.toList 0 with
      | some (i, _) => .map (es.modify i fun e => { e with key := x, val := v }) clock
      | none => .map (es.push { key := x, val := v, born := clock }) (clock + 1)) }
    unfold Instr.mapUpdate
    simp only [getObj, run_underlying ht, Sem.run_bind, Result.andThen_ok, hg, Sem.run_pure, hc, hf]
    cases hq : posA (avOf x).cells es.toList 0 with
    | none => simp only [Sem.run_pure, Result.andThen_ok, hs]
    | some p =>
      obtain ⟨j, y⟩ := p
      obtain ⟨_, e, k2, k3, _⟩ := hp j y hes hq
      rw [Nat.sub_zero] at k2
      have k2 : es[j]? = some e := by simpa using k2
      have hst : (Instr.keyThatStays (((es[j]?).map (·.key)).getD x) x).run P w = .ok x w := by
        rw [k2, Option.map_some, Option.getD_some, k3]
        unfold Instr.keyThatStays
        rw [if_pos (sameBits_arr hx)]; rfl
      simp only [Sem.run_pure, Result.andThen_ok, hst, hs, Sem.run_bind]
end

section
variable {P : Program} {Gl : Nat → Option (List AV)} {F : Addr → Option Value} {own : List Ent} {B : Nat} {w0 : W0} {σ : St} {act : Act} {w : World}
theorem fitK_ne {a : AV} (h : fitK a = true) : ∀ cs, a = .agg cs → cs.length ≠ 1 := fun cs e => by
  subst e
  intro q
  have h : (!(Nat.beq cs.length 1)) = true := h
  rw [q] at h
  cases h
/-- A map's value is a map of the call's own. -/
theorem Inv.map_at (h : Inv Gl F own B w0 σ act w) {x : Value} {id : Nat} {ob : AObj} (hR : R F own x (.mp id)) (hob : σ.h[id]? = some ob) : ∃ e g es clock, own[id]? = some e ∧ e.g = some g ∧ x = .map (some g) ∧ ob.sz = 0 ∧ ob.pr = true ∧ w.heap[g]? = some (.map es clock) ∧ es.size = ob.es.length ∧ ∀ (i : Nat) (en : MapEntry) (x : AV), es[i]? = some en → ob.es[i]? = some x → EntR F en x := by
  obtain ⟨e, he, h0, g, hg, rfl⟩ := hR.mp_inv
  rcases h.objs id e ob he hob with ⟨h1, h2⟩ | ⟨h1, h2, h3, g', hg', es, clock, k1, k2, k3, k4⟩
  · have := h2.2.1; omega
  · rw [hg] at hg'; cases hg'
    exact ⟨e, g, es, clock, he, hg, rfl, h1, h3, k1, k2, k3⟩
theorem ok_mmk (h : Inv Gl F own B w0 σ act w) {o : Oper} {t kt et : TypeId} {hint : Option Operand} (ho : o.op = .makeMap t hint) (ht : P.underlying t = some (.map kt et))
    {p : Prop} {r : AV} {h' : List AObj} (hs : step Gl σ (.mmk t (hint.map cOpd)) = some (p, r, h')) (hp : p) : Ok1 P Gl B w0 σ act w o r h' := by
  have fin : ∀ v : Option Value, v = hint.map act.eval → (Instr.makeMap t v).run P w = .ok (.map (some w.heap.size)) (w.alloc (.map #[] 0)) → Ok1 P Gl B w0 σ act w o (.mp σ.h.length) (σ.h ++ [⟨t, 0, 0, true, []⟩]) := by
    intro v hv hrun
    refine ⟨.value (.map (some w.heap.size)), .map (some w.heap.size), w.alloc (.map #[] 0), F, own ++ [⟨some w.heap.size, 0, 0, 0⟩], ?_, .inl rfl, h.newMap t, ?_⟩
    · unfold execOp
      simp only [ho, ← hv, hrun, Sem.run_bind, Result.andThen_ok, Sem.run_pure]
    · rw [← h.hl]
      exact .mp _ _ _ (List.getElem?_concat_length) rfl ⟨_, rfl, rfl⟩
  simp only [step] at hs
  cases hint with
  | none =>
    simp only [Option.map_none] at hs
    cases hs
    exact fin none rfl (run_makeMap ht w)
  | some x =>
    have hx := h.ev x
    simp only [Option.map_some] at hs
    split at hs
    · rename_i q; cases q
    · rename_i k n hv
      cases hs
      injection hv with hv
      rw [hv] at hx
      exact fin (some (.int k n)) (by rw [Option.map_some, hx.v_inv]) (run_makeMap_hint ht w k n)
    · cases hs
theorem ok_mget (h : Inv Gl F own B w0 σ act w) {o : Oper} {t kt et : TypeId} {x k : Operand} {ok : Bool} (ho : o.op = .lookup t x k ok) (ht : P.underlying t = some (.map kt et)) {q : KT} (hq : KTy P kt q) {ti : TypeInfo} {z : Value} (hi : P.info? et = some ti) (hz : ti.zero = some z)
    {p : Prop} {r : AV} {h' : List AObj} (hs : step Gl σ (.mget q ok z (cOpd x) (cOpd k)) = some (p, r, h')) (hp : p) : Ok1 P Gl B w0 σ act w o r h' := by
  have hx := h.ev x
  have hk := h.ev k
  simp only [step] at hs
  split at hs
  · rename_i id hv
    rw [hv] at hx
    split at hs
    · rename_i ob hob
      split at hs
      · rename_i hc
        obtain ⟨e, g, es, clock, he, hg, hxv, h0, hpr, hb, hsz, hE⟩ := h.map_at hx hob
        obtain ⟨ka, kis, kag⟩ := key_of hq.n1 hk hc.2.1 (fitK_ne hc.2.2.2)
        have hpos := pos_sound hq.n1 kis es.toList ob.es 0 (by simpa using hsz) (fun j en x a b => hE j en x (by simpa using a) b) hc.2.2.1
        have run := run_lookup (w := w) ht hq hb hpos.1 kis hi hz ok
        have hP := hpos.2
        rw [← ka] at hP
        have exe : ∀ v, (Instr.lookup t (.map (some g)) (act.eval k) ok).run P w = .ok v w → (execOp act.eval o).run P w = .ok (.value v) w := fun v hv => by
          unfold execOp
          simp only [ho, hxv, hv, Sem.run_bind, Result.andThen_ok, Sem.run_pure]
        cases hf : findE q.n (σ.val Gl (cOpd k)).cells ob.es 0 with
        | none =>
          rw [hf] at hs hP
          cases hs
          cases hpk : posK q (act.eval k) es.toList 0 with
          | some _ => rw [hpk] at hP; exact hP.elim
          | none =>
            rw [hpk] at run
            refine Ok1.mk h (exe _ run) ?_
            cases ok with
            | false => exact .pure (.v z)
            | true => exact .pure (.tup _ _ rfl fun j x a p q => by
                match j with
                | 0 => simp at p q; subst p q; exact .v _
                | 1 => simp at p q; subst p q; exact .v _
                | j + 2 => simp at p)
        | some f =>
          obtain ⟨i, v⟩ := f
          rw [hf] at hs hP
          cases hs
          cases hpk : posK q (act.eval k) es.toList 0 with
          | none => rw [hpk] at hP; exact hP.elim
          | some pv =>
            obtain ⟨j, y⟩ := pv
            rw [hpk] at run hP
            obtain ⟨_, _, hRv⟩ := hP
            refine Ok1.mk h (exe _ run) ?_
            cases ok with
            | false => exact .pure hRv
            | true => exact .pure (.tup _ _ rfl fun j x a p q => by
                match j with
                | 0 => simp at p q; subst p q; exact hRv
                | 1 => simp at p q; subst p q; exact .v _
                | j + 2 => simp at p)
      · cases hs
    · cases hs
  · cases hs
theorem posK_lt {q : KT} {x : Value} (hx : q.is x) : ∀ (es : List MapEntry) (i : Nat) (j : Nat) (v : Value), posK q x es i = some (j, v) → i ≤ j ∧ j < i + es.length := by
  cases q with
  | int k =>
    obtain ⟨n, rfl⟩ := hx
    intro es
    induction es with
    | nil => intro i j v h; cases h
    | cons e es ih =>
      intro i j v h
      replace h : posI k n (e :: es) i = some (j, v) := h
      unfold posI at h
      split at h
      · split at h
        · cases h; simp
        · have := ih (i + 1) j v h; simp; omega
      · cases h
  | str =>
    obtain ⟨n, rfl⟩ := hx
    intro es
    induction es with
    | nil => intro i j v h; cases h
    | cons e es ih =>
      intro i j v h
      replace h : posS n (e :: es) i = some (j, v) := h
      unfold posS at h
      split at h
      · split at h
        · cases h; simp
        · have := ih (i + 1) j v h; simp; omega
      · cases h
  | arr m k =>
    intro es
    induction es with
    | nil => intro i j v h; cases h
    | cons e es ih =>
      intro i j v h
      replace h : posA (avOf x).cells (e :: es) i = some (j, v) := h
      unfold posA at h
      split at h
      · cases h; simp
      · have := ih (i + 1) j v h; simp; omega
theorem ok_mput (h : Inv Gl F own B w0 σ act w) {o : Oper} {t kt et : TypeId} {x k y : Operand} (ho : o.op = .mapUpdate t x k y ∨ o.op = .insert t x k y) (ht : P.underlying t = some (.map kt et)) {q : KT} (hq : KTy P kt q)
    {p : Prop} {r : AV} {h' : List AObj} (hs : step Gl σ (.mput q (cOpd x) (cOpd k) (cOpd y)) = some (p, r, h')) (hp : p) : Ok1 P Gl B w0 σ act w o r h' := by
  have hx := h.ev x
  have hk := h.ev k
  have hy := h.ev y
  simp only [step] at hs
  split at hs
  · rename_i id hv
    rw [hv] at hx
    split at hs
    · rename_i ob hob
      split at hs
      · rename_i hc
        obtain ⟨e, g, es, clock, he, hg, hxv, h0, hpr, hb, hsz, hE⟩ := h.map_at hx hob
        obtain ⟨ka, kis, kag⟩ := key_of hq.n1 hk hc.2.1 (fitK_ne hc.2.2.2.2)
        have hpos := pos_sound hq.n1 kis es.toList ob.es 0 (by simpa using hsz) (fun j en x a b => hE j en x (by simpa using a) b) hc.2.2.1
        have run := run_put (w := w) ht hq hb hpos.1 kis (act.eval y)
        obtain ⟨y1, y2, y3⟩ := st1_sound hy hc.2.2.2.1
        have y2 : RP F (act.eval y) (σ.val Gl (cOpd y)) := by unfold RC at y2; rw [if_pos rfl] at y2; exact y2
        have hP := hpos.2
        rw [← ka] at hP
        have glt : g < w.heap.size := h.own_lt he hg
        have exe : (execOp act.eval o).run P w = .ok .skip { w with heap := w.heap.setIfInBounds g (putK q (act.eval k) (act.eval y) es clock) } := by
          unfold execOp
          rcases ho with ho | ho <;> simp only [ho, hxv, run, Sem.run_bind, Result.andThen_ok, Sem.run_pure]
        have newE : ∀ b : Nat, EntR F { key := act.eval k, val := act.eval y, born := b } (.agg ((σ.val Gl (cOpd k)).cells ++ [σ.val Gl (cOpd y)])) := fun b => ⟨_, by rw [ka], kag, y1, y2⟩
        have fin : ∀ ob' : AObj, ob'.sz = 0 → ob'.pr = true → (∃ (es' : Array MapEntry) (clock' : Nat), putK q (act.eval k) (act.eval y) es clock = .map es' clock' ∧ es'.size = ob'.es.length ∧ ∀ (i : Nat) (en : MapEntry) (x : AV), es'[i]? = some en → ob'.es[i]? = some x → EntR F en x) → Ok1 P Gl B w0 σ act w o .any (σ.h.set id ob') := by
          intro ob' a1 a2 ⟨es', clock', a3, a4, a5⟩
          refine ⟨_, undef, _, F, own, exe, .inr ⟨rfl, rfl⟩, h.putMap he hob hg h0 a1 a2 (fun j hj => ?_) ⟨es', clock', ?_, a4, a5⟩ rfl rfl rfl (by simp), .pure (.any _)⟩
          · rw [Array.getElem?_setIfInBounds, if_neg (Ne.symm hj)]
          · simp [Array.getElem?_setIfInBounds, glt, a3]
        cases hf : findE q.n (σ.val Gl (cOpd k)).cells ob.es 0 with
        | none =>
          rw [hf] at hs hP
          cases hs
          cases hpk : posK q (act.eval k) es.toList 0 with
          | some _ => rw [hpk] at hP; exact hP.elim
          | none =>
            refine fin _ h0 rfl ⟨es.push { key := act.eval k, val := act.eval y, born := clock }, clock + 1, ?_, by simp [hsz], fun i en x a b => ?_⟩
            · unfold putK; rw [hpk]
            · rcases Nat.lt_trichotomy i es.size with hi | hi | hi
              · rw [Array.getElem?_push_lt hi] at a
                have b' : ob.es[i]? = some x := by rw [List.getElem?_append_left (by omega)] at b; exact b
                exact hE i en x (by rw [Array.getElem?_eq_getElem hi]; exact a) b'
              · subst hi
                simp at a
                rw [hsz] at b
                simp at b
                subst a b
                exact newE clock
              · rw [Array.getElem?_eq_none (by simp; omega)] at a; cases a
        | some f =>
          obtain ⟨i, v⟩ := f
          rw [hf] at hs hP
          cases hs
          cases hpk : posK q (act.eval k) es.toList 0 with
          | none => rw [hpk] at hP; exact hP.elim
          | some pv =>
            obtain ⟨j, y'⟩ := pv
            rw [hpk] at hP
            obtain ⟨hji, _, _⟩ := hP
            subst hji
            have hj := posK_lt kis es.toList 0 j y' hpk
            refine fin _ h0 rfl ⟨es.modify j fun e => { e with key := act.eval k, val := act.eval y }, clock, ?_, by simp [hsz], fun i en x a b => ?_⟩
            · unfold putK; rw [hpk]
            · rw [Array.getElem?_modify] at a
              have b : (ob.es.set j (.agg ((σ.val Gl (cOpd k)).cells ++ [σ.val Gl (cOpd y)])))[i]? = some x := b
              by_cases hji : j = i
              · subst hji
                rw [if_pos rfl] at a
                rw [List.getElem?_set_self (by simp at hj; omega)] at b
                cases b
                cases hen : es[j]? with
                | none => rw [hen] at a; cases a
                | some en0 => rw [hen] at a; cases a; exact newE _
              · rw [if_neg hji] at a
                rw [List.getElem?_set_ne hji] at b
                exact hE i en x a b
      · cases hs
    · cases hs
  · cases hs
theorem ok_mk2 (h : Inv Gl F own B w0 σ act w) {o : Oper} {t et : TypeId} {x y : Operand} (ho : o.op = .makeSlice t x y) {i : TypeInfo} {z : Value} (ht : P.underlying t = some (.slice et)) (hi : P.info? et = some i) (hz : i.zero = some z) (hsz : z.cells.size = i.size) (h0 : 0 < i.size) (h1 : z.cells.all (·.oneCell') = true)
    {p : Prop} {r : AV} {h' : List AObj} (hs : step Gl σ (.mk2 et i.size i.bytes z (cOpd x) (cOpd y)) = some (p, r, h')) (hp : p) : Ok1 P Gl B w0 σ act w o r h' := by
  have hex := h.ev x
  have hey := h.ev y
  simp only [step] at hs
  split at hs
  · rename_i l c hv hv2
    rw [hv] at hex
    rw [hv2] at hey
    obtain ⟨rfl, h2⟩ := Prod.mk.inj (Option.some.inj hs)
    obtain ⟨rfl, rfl⟩ := Prod.mk.inj h2
    obtain ⟨p0, p1, p2, p3⟩ := hp
    have hb : (i.bytes : Int) * c ≤ 281474976710656 := by
      rw [Int.mul_comm]; unfold maxB at p2; omega
    have run := run_make (P := P) w t et i z ht hi hz .i64 .i64 l c p0 p1 hb (by omega)
    have hel : ∀ (k : Nat) (y : AV), (List.replicate l.toNat (avOf z))[k]? = some y → k < l.toNat ∧ y = avOf z := fun k y hy => by
      have hk : k < l.toNat := by have := (List.getElem?_eq_some_iff.1 hy).1; simpa using this
      simp [hk] at hy
      exact ⟨hk, hy.symm⟩
    refine Ok1.new h (ob := ⟨et, i.size, 0, true, List.replicate l.toNat (avOf z)⟩) (cap := c.toNat) (cs := madeCells z.cells (c.toNat * i.size)) (x := .slice (some ⟨w.heap.size, 0, none⟩) l.toNat c.toNat) h0 rfl (by simp; omega) (by simp [maxLen]; omega) ?_ (by simp [size_madeCells]) ?_ ?_ ?_
    · intro k y hy
      obtain ⟨_, rfl⟩ := hel k y hy
      rw [avOf_cells]; simpa using hsz
    · intro k j y a hy hb'
      obtain ⟨hk, rfl⟩ := hel k y hy
      rw [avOf_cells] at hb'
      simp at hb'
      obtain ⟨v, hv', rfl⟩ := hb'
      have hj : j < z.cells.size := (Array.getElem?_eq_some_iff.1 hv').1
      have hlt : k * i.size + j < c.toNat * i.size := by
        have : (k + 1) * i.size ≤ c.toNat * i.size := Nat.mul_le_mul_right _ (by omega)
        rw [Nat.add_mul] at this; omega
      have hmod : (k * i.size + j) % z.cells.size = j := by
        rw [hsz, Nat.mul_comm, Nat.mul_add_mod]
        exact Nat.mod_eq_of_lt (by omega)
      refine ⟨v, ?_, Array.all_eq_true_iff_forall_mem.1 h1 v (Array.mem_of_getElem? hv'), RP.v v⟩
      simp only
      unfold madeCells
      rw [Array.getElem?_map, Array.getElem?_range, if_pos hlt]
      simp only [Option.map_some, hmod]
      rw [getElem!_pos z.cells j hj]
      rw [Array.getElem?_eq_getElem hj] at hv'
      exact hv'
    · unfold execOp
      simp only [ho, hex.v_inv, hey.v_inv]
      simp [run]
    · rw [← h.hl]
      refine .row _ _ _ _ _ _ _ own_last (by simp) ⟨_, _, rfl, by omega, fun _ => rfl⟩ (fun _ => ⟨rfl, by simp, fun _ => ⟨c.toNat, by simp, ?_⟩⟩) (by first | omega | assumption | (simp; done) | (simp; omega) | (dsimp only; omega))
      simp
  · cases hs
end
end Abs
end Go.Proofs.YtnhgeocdffhkjaaDoor
