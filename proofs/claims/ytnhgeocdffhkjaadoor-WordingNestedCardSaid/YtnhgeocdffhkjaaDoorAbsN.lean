/- Maps: what lookups find. -/
import Derived.Test.YtnhgeocdffhkjaaDoorAbsM
import Derived.MapKept
namespace Go.Proofs.YtnhgeocdffhkjaaDoor
namespace Abs
open Go.RowKit
set_option linter.unusedVariables false
set_option linter.unusedSimpArgs false
/-- The entry of a number, by its place. -/
def posI (k : IntKind) (n : Int) : List MapEntry → Nat → Option (Nat × Value)
  | [], _ => none
  | e :: es, i => match e.key with
    | .int _ m => if n = m then some (i, e.val) else posI k n es (i + 1)
    | _ => none
theorem findNow_int (k : IntKind) (n : Int) : ∀ (es : List MapEntry) (i : Nat), (∀ e ∈ es, ∃ m, e.key = .int k m) → Instr.findNow (.int k) (.int k n) es i = some (posI k n es i)
  | [], i, _ => rfl
  | e :: es, i, h => by
    obtain ⟨m, hm⟩ := h e (by simp)
    have ih := findNow_int k n es (i + 1) fun e he => h e (by simp [he])
    unfold Instr.findNow posI
    rw [hm]
    simp only [Instr.sameNow, if_true]
    by_cases hnm : n = m
    · subst hnm; simp
    · rw [if_neg hnm]
      have : (n == m) = false := by simpa using hnm
      rw [this]
      exact ih
theorem run_checkKey_int {P : Program} {kt : TypeId} {k : IntKind} (hk : P.underlying kt = some (.int k)) (w : World) (b : Bool) (m : Nat) (n : Int) : (Instr.checkKey b (m + 1) kt (.int k n)).run P w = .ok () w := by
  unfold Instr.checkKey
  simp [run_underlying hk]
theorem run_lookup_int {P : Program} {t kt et : TypeId} {k : IntKind} (ht : P.underlying t = some (.map kt et)) (hk : P.underlying kt = some (.int k)) {w : World} {g : Nat} {es : Array MapEntry} {clock : Nat} (hb : w.heap[g]? = some (.map es clock)) (hkeys : ∀ e ∈ es.toList, ∃ m, e.key = .int k m) (n : Int) {ti : TypeInfo} {z : Value} (hi : P.info? et = some ti) (hz : ti.zero = some z) (ok : Bool) :
    (Instr.lookup t (.map (some g)) (.int k n) ok).run P w = .ok (match posI k n es.toList 0 with
      | some (_, v) => (if ok then .tuple #[v, .bool true] else v)
      | none => (if ok then .tuple #[z, .bool false] else z)) w := by
  have hf := findNow_int k n es.toList 0 hkeys
  have hc := run_checkKey_int hk w es.isEmpty 9999 n
  have hc : (Instr.checkKey es.isEmpty 10000 kt (.int k n)).run P w = .ok () w := hc
  have hg : (Sem.getObj g Sem.pure).run P w = .ok (.map es clock) w := by
    show Sem.run P (.getObj g .pure) w = _
    simp only [Sem.run, hb]
  unfold Instr.lookup Instr.findKey
  simp only [getObj, run_underlying ht, Sem.run_bind, Result.andThen_ok, hg, Sem.run_pure, hc, run_underlying hk, hf]
  cases posI k n es.toList 0 with
  | none => cases ok <;> simp [zeroValue, typeInfo, hi, hz]
  | some p => cases ok <;> simp
theorem posI_at (k : IntKind) (n : Int) : ∀ (es : List MapEntry) (i j : Nat) (v : Value), (∀ e ∈ es, ∃ m, e.key = .int k m) → posI k n es i = some (j, v) → i ≤ j ∧ ∃ e, es[j - i]? = some e ∧ e.key = .int k n ∧ e.val = v
  | [], i, j, v, _, h => by cases h
  | e :: es, i, j, v, hk, h => by
    obtain ⟨m, hm⟩ := hk e (by simp)
    unfold posI at h
    rw [hm] at h
    dsimp only at h
    split at h
    · rename_i hnm
      cases h
      exact ⟨Nat.le_refl _, e, by simp, by rw [hm, hnm], rfl⟩
    · obtain ⟨h1, e', h2, h3, h4⟩ := posI_at k n es (i + 1) j v (fun e he => hk e (by simp [he])) h
      refine ⟨by omega, e', ?_, h3, h4⟩
      rw [show j - i = (j - (i + 1)) + 1 by omega, List.getElem?_cons_succ]
      exact h2
/-- A map's entries with one put. -/
def putI (k : IntKind) (n : Int) (v : Value) (es : Array MapEntry) (clock : Nat) : Obj := match posI k n es.toList 0 with
  | some (i, _) => .map (es.modify i fun e => { e with key := .int k n, val := v }) clock
  | none => .map (es.push { key := .int k n, val := v, born := clock }) (clock + 1)
theorem run_put_int {P : Program} {t kt et : TypeId} {k : IntKind} (ht : P.underlying t = some (.map kt et)) (hk : P.underlying kt = some (.int k)) {w : World} {g : Nat} {es : Array MapEntry} {clock : Nat} (hb : w.heap[g]? = some (.map es clock)) (hkeys : ∀ e ∈ es.toList, ∃ m, e.key = .int k m) (n : Int) (v : Value) :
    (Instr.mapUpdate t (.map (some g)) (.int k n) v).run P w = .ok () { w with heap := w.heap.setIfInBounds g (putI k n v es clock) } := by
  have hf := findNow_int k n es.toList 0 hkeys
  have hc := run_checkKey_int hk w false 9999 n
  have hc : (Instr.checkKey false 10000 kt (.int k n)).run P w = .ok () w := hc
  have hg : (Sem.getObj g Sem.pure).run P w = .ok (.map es clock) w := by
    show Sem.run P (.getObj g .pure) w = _
    simp only [Sem.run, hb]
  have hs : ∀ o : Obj, (setObj g o).run P w = .ok () { w with heap := w.heap.setIfInBounds g o } := fun o => by simp [setObj, Sem.run, hb]
  have hp := posI_at k n es.toList 0
  unfold Instr.mapUpdate Instr.findKey putI
  simp only [getObj, run_underlying ht, Sem.run_bind, Result.andThen_ok, hg, Sem.run_pure, hc, run_underlying hk, hf]
  cases hq : posI k n es.toList 0 with
  | none => simp only [Sem.run_pure, Result.andThen_ok, hs]
  | some p =>
    obtain ⟨i, x⟩ := p
    obtain ⟨_, e, h2, h3, _⟩ := hp i x hkeys hq
    rw [Nat.sub_zero] at h2
    have h2 : es[i]? = some e := by simpa using h2
    have hst : (Instr.keyThatStays (((es[i]?).map (·.key)).getD (.int k n)) (.int k n)).run P w = .ok (.int k n) w := by
      rw [h2, Option.map_some, Option.getD_some, h3]
      unfold Instr.keyThatStays
      have : Instr.sameBits 10000 (.int k n) (.int k n) = true := by unfold Instr.sameBits; simp
      rw [if_pos this]; rfl
    simp only [Sem.run_pure, Result.andThen_ok, hst, hs, Sem.run_bind]
/-- The entry of a text, by its place. -/
def posS (n : ByteArray) : List MapEntry → Nat → Option (Nat × Value)
  | [], _ => none
  | e :: es, i => match e.key with
    | .string m => if n = m then some (i, e.val) else posS n es (i + 1)
    | _ => none
theorem findNow_str (n : ByteArray) : ∀ (es : List MapEntry) (i : Nat), (∀ e ∈ es, ∃ m, e.key = .string m) → Instr.findNow .string (.string n) es i = some (posS n es i)
  | [], i, _ => rfl
  | e :: es, i, h => by
    obtain ⟨m, hm⟩ := h e (by simp)
    have ih := findNow_str n es (i + 1) fun e he => h e (by simp [he])
    unfold Instr.findNow posS
    rw [hm]
    simp only [Instr.sameNow, if_true]
    by_cases hnm : n = m
    · subst hnm; rw [(MapKept.bytes_beq n n).2 rfl, if_pos rfl]
    · rw [if_neg hnm]
      have : (n == m) = false := Bool.eq_false_iff.2 fun q => hnm ((MapKept.bytes_beq n m).1 q)
      rw [this]
      exact ih
theorem run_checkKey_str {P : Program} {kt : TypeId} (hk : P.underlying kt = some .string) (w : World) (b : Bool) (m : Nat) (n : ByteArray) : (Instr.checkKey b (m + 1) kt (.string n)).run P w = .ok () w := by
  unfold Instr.checkKey
  simp [run_underlying hk]
theorem run_lookup_str {P : Program} {t kt et : TypeId} (ht : P.underlying t = some (.map kt et)) (hk : P.underlying kt = some .string) {w : World} {g : Nat} {es : Array MapEntry} {clock : Nat} (hb : w.heap[g]? = some (.map es clock)) (hkeys : ∀ e ∈ es.toList, ∃ m, e.key = .string m) (n : ByteArray) {ti : TypeInfo} {z : Value} (hi : P.info? et = some ti) (hz : ti.zero = some z) (ok : Bool) :
    (Instr.lookup t (.map (some g)) (.string n) ok).run P w = .ok (match posS n es.toList 0 with
      | some (_, v) => (if ok then .tuple #[v, .bool true] else v)
      | none => (if ok then .tuple #[z, .bool false] else z)) w := by
  have hf := findNow_str n es.toList 0 hkeys
  have hc := run_checkKey_str hk w es.isEmpty 9999 n
  have hc : (Instr.checkKey es.isEmpty 10000 kt (.string n)).run P w = .ok () w := hc
  have hg : (Sem.getObj g Sem.pure).run P w = .ok (.map es clock) w := by
    show Sem.run P (.getObj g .pure) w = _
    simp only [Sem.run, hb]
  unfold Instr.lookup Instr.findKey
  simp only [getObj, run_underlying ht, Sem.run_bind, Result.andThen_ok, hg, Sem.run_pure, hc, run_underlying hk, hf]
  cases posS n es.toList 0 with
  | none => cases ok <;> simp [zeroValue, typeInfo, hi, hz]
  | some p => cases ok <;> simp
theorem posS_at (n : ByteArray) : ∀ (es : List MapEntry) (i j : Nat) (v : Value), (∀ e ∈ es, ∃ m, e.key = .string m) → posS n es i = some (j, v) → i ≤ j ∧ ∃ e, es[j - i]? = some e ∧ e.key = .string n ∧ e.val = v
  | [], i, j, v, _, h => by cases h
  | e :: es, i, j, v, hk, h => by
    obtain ⟨m, hm⟩ := hk e (by simp)
    unfold posS at h
    rw [hm] at h
    dsimp only at h
    split at h
    · rename_i hnm
      cases h
      exact ⟨Nat.le_refl _, e, by simp, by rw [hm, hnm], rfl⟩
    · obtain ⟨h1, e', h2, h3, h4⟩ := posS_at n es (i + 1) j v (fun e he => hk e (by simp [he])) h
      refine ⟨by omega, e', ?_, h3, h4⟩
      rw [show j - i = (j - (i + 1)) + 1 by omega, List.getElem?_cons_succ]
      exact h2
/-- The same of texts. -/
def putS (n : ByteArray) (v : Value) (es : Array MapEntry) (clock : Nat) : Obj := match posS n es.toList 0 with
  | some (i, _) => .map (es.modify i fun e => { e with key := .string n, val := v }) clock
  | none => .map (es.push { key := .string n, val := v, born := clock }) (clock + 1)
theorem run_put_str {P : Program} {t kt et : TypeId} (ht : P.underlying t = some (.map kt et)) (hk : P.underlying kt = some .string) {w : World} {g : Nat} {es : Array MapEntry} {clock : Nat} (hb : w.heap[g]? = some (.map es clock)) (hkeys : ∀ e ∈ es.toList, ∃ m, e.key = .string m) (n : ByteArray) (v : Value) :
    (Instr.mapUpdate t (.map (some g)) (.string n) v).run P w = .ok () { w with heap := w.heap.setIfInBounds g (putS n v es clock) } := by
  have hf := findNow_str n es.toList 0 hkeys
  have hc := run_checkKey_str hk w false 9999 n
  have hc : (Instr.checkKey false 10000 kt (.string n)).run P w = .ok () w := hc
  have hg : (Sem.getObj g Sem.pure).run P w = .ok (.map es clock) w := by
    show Sem.run P (.getObj g .pure) w = _
    simp only [Sem.run, hb]
  have hs : ∀ o : Obj, (setObj g o).run P w = .ok () { w with heap := w.heap.setIfInBounds g o } := fun o => by simp [setObj, Sem.run, hb]
  have hp := posS_at n es.toList 0
  unfold Instr.mapUpdate Instr.findKey putS
  simp only [getObj, run_underlying ht, Sem.run_bind, Result.andThen_ok, hg, Sem.run_pure, hc, run_underlying hk, hf]
  cases hq : posS n es.toList 0 with
  | none => simp only [Sem.run_pure, Result.andThen_ok, hs]
  | some p =>
    obtain ⟨i, x⟩ := p
    obtain ⟨_, e, h2, h3, _⟩ := hp i x hkeys hq
    rw [Nat.sub_zero] at h2
    have h2 : es[i]? = some e := by simpa using h2
    have hst : (Instr.keyThatStays (((es[i]?).map (·.key)).getD (.string n)) (.string n)).run P w = .ok (.string n) w := by
      rw [h2, Option.map_some, Option.getD_some, h3]
      unfold Instr.keyThatStays
      have : Instr.sameBits 10000 (.string n) (.string n) = true := by unfold Instr.sameBits; exact (MapKept.bytes_beq n n).2 rfl
      rw [if_pos this]; rfl
    simp only [Sem.run_pure, Result.andThen_ok, hst, hs, Sem.run_bind]
theorem run_makeMap {P : Program} {t kt et : TypeId} (ht : P.underlying t = some (.map kt et)) (w : World) : (Instr.makeMap t none).run P w = .ok (.map (some w.heap.size)) (w.alloc (.map #[] 0)) := by
  unfold Instr.makeMap
  simp [newObj, Sem.run]
theorem run_makeMap_hint {P : Program} {t kt et : TypeId} (ht : P.underlying t = some (.map kt et)) (w : World) (k : IntKind) (n : Int) : (Instr.makeMap t (some (.int k n))).run P w = .ok (.map (some w.heap.size)) (w.alloc (.map #[] 0)) := by
  unfold Instr.makeMap
  simp [newObj, Sem.run, run_underlying ht, asInt, asIntOf]
end Abs
end Go.Proofs.YtnhgeocdffhkjaaDoor
