/- The abstract machine: operations that write or make memory. -/
import Derived.Test.YtnhgeocdffhkjaaDoorAbs3
import Derived.Laws.MakeOwn
namespace Go.Proofs.YtnhgeocdffhkjaaDoor
namespace Abs
open Go.RowKit
set_option linter.unusedVariables false
set_option linter.unusedSimpArgs false

section
variable {P : Program} {Gl : Nat → Option (List AV)} {F : Addr → Option Value} {own : List Ent} {B : Nat} {w0 : W0} {σ : St} {act : Act} {w : World}

theorem st1_sound {pr : Bool} {x : Value} {a : AV} (h : R F own x a) (hs : st1 pr a = true) : x.oneCell' = true ∧ RC F own pr x a ∧ a.cells = [a] := by
  have key : ∀ {q : Prop}, q → (pr = true → RP F x a) → RC F own pr x a := by
    intro _ _ hq
    unfold RC
    split
    · rename_i e; exact hq e
    · exact h
  cases a with
  | v y =>
    have := h.v_inv
    subst this
    exact ⟨hs, key trivial (fun _ => .v _), rfl⟩
  | list sz xs =>
    have hq := h.list_inv
    refine ⟨?_, key trivial (fun _ => hq), rfl⟩
    cases hq <;> rfl
  | lptr cs =>
    have hq := h.lptr_inv
    refine ⟨?_, key trivial (fun _ => hq), rfl⟩
    cases hq; rfl
  | row id G sz off len =>
    obtain ⟨e, _, _, ⟨a, c, rfl, _⟩, _⟩ := h.row_inv
    refine ⟨rfl, key trivial (fun q => ?_), rfl⟩
    subst q; cases hs
  | ptr id G i off =>
    obtain ⟨e, _, _, ⟨a, rfl⟩, _⟩ := h.ptr_inv
    refine ⟨rfl, key trivial (fun q => ?_), rfl⟩
    subst q; cases hs
  | mp id =>
    obtain ⟨e, _, _, g, _, rfl⟩ := h.mp_inv
    refine ⟨rfl, key trivial (fun q => ?_), rfl⟩
    subst q; cases hs
  | clo f cs =>
    obtain ⟨xs, rfl, _⟩ := h.clo_inv
    refine ⟨rfl, key trivial (fun q => ?_), rfl⟩
    subst q; cases hs
  | crow => cases hs
  | any => cases hs
  | agg cs => cases hs
  | tup cs => cases hs

theorem stCells_sound {pr : Bool} {x : Value} {a : AV} {cs : List AV} (h : R F own x a) (hs : stCells pr a = some cs) :
    a.cells = cs ∧ x.cells.size = cs.length ∧ (∀ (j : Nat) (y : Value) (b : AV), x.cells[j]? = some y → cs[j]? = some b → y.oneCell' = true ∧ RC F own pr y b ∧ b.cells = [b]) := by
  by_cases ha : ∃ ds, a = .agg ds
  · obtain ⟨ds, rfl⟩ := ha
    have hs' : (if ds.all (st1 pr) then some ds else none) = some cs := hs
    split at hs'
    · rename_i hall
      cases hs'
      obtain ⟨xs, rfl, hl, h1, hR⟩ := h.agg_inv
      refine ⟨rfl, hl, fun j y b p q => ?_⟩
      exact st1_sound (hR j y b p q) (List.all_eq_true.1 hall b (List.mem_of_getElem? q))
    · cases hs'
  · have hs' : (if st1 pr a then some [a] else none) = some cs := by
      cases a <;> first | exact hs | exact absurd ⟨_, rfl⟩ ha
    split at hs'
    · rename_i h1
      cases hs'
      obtain ⟨q1, q2, q3⟩ := st1_sound h h1
      have e1 : x.cells = #[x] := by cases x <;> simp_all [Value.cells, Value.oneCell']
      rw [e1, q3]
      refine ⟨rfl, rfl, fun j y b p q => ?_⟩
      have : j = 0 := by
        rcases Nat.eq_zero_or_pos j with h0 | h0
        · exact h0
        · rw [List.getElem?_eq_none (by simp; omega)] at q; cases q
      subst this
      simp at p q
      subst p q
      exact ⟨q1, q2, q3⟩
    · cases hs'

theorem Ok1.new (h : Inv Gl F own B w0 σ act w) {o : Oper} {cs : Array Value} {ob : AObj} {cap : Nat} {x : Value} {a : AV} (hsz : 0 < ob.sz) (hfz : ob.fz = 0) (hcap : ob.es.length ≤ cap) (hm : cap ≤ maxLen) (hes : ∀ (i : Nat) (x : AV), ob.es[i]? = some x → x.cells.length = ob.sz)
    (hcs : cs.size = cap * ob.sz) (hR : ∀ (i j : Nat) (x a : AV), ob.es[i]? = some x → x.cells[j]? = some a → ∃ y, cs[i * ob.sz + j]? = some y ∧ y.oneCell' = true ∧ RC F own ob.pr y a)
    (hr : (execOp act.eval o).run P w = .ok (.value x) (w.alloc (.cells cs ob.ty))) (ha : R F (own ++ [⟨some w.heap.size, ob.es.length, ob.sz, cap⟩]) x a) (hbx : ob.pr = false → cap = ob.es.length := by intro q; first | rfl | (cases q; done) | (simp; done)) : Ok1 P Gl B w0 σ act w o a (σ.h ++ [ob]) :=
  ⟨_, x, _, F, _, hr, .inl rfl, h.new cs ob cap hsz hfz hcap hm hes hcs hR hbx, ha⟩

theorem own_last {e : Ent} : (own ++ [e])[own.length]? = some e := by simp

theorem ok_box (h : Inv Gl F own B w0 σ act w) {o : Oper} {t : TypeId} {x : Operand} (ho : o.op = .box t x) {sz : Nat} (h0 : 0 < sz)
    {p : Prop} {r : AV} {h' : List AObj} (hs : step Gl σ (.box t sz (cOpd x)) = some (p, r, h')) (hp : p) : Ok1 P Gl B w0 σ act w o r h' := by
  have he := h.ev x
  simp only [step] at hs
  cases hc : stCells false (σ.val Gl (cOpd x)) with
  | none => rw [hc] at hs; cases hs
  | some cs =>
    rw [hc] at hs
    simp only at hs
    split at hs
    · rename_i hl
      obtain ⟨_, h2⟩ := Prod.mk.inj (Option.some.inj hs)
      obtain ⟨rfl, rfl⟩ := Prod.mk.inj h2
      obtain ⟨q1, q2, q3⟩ := stCells_sound he hc
      refine Ok1.new h (ob := ⟨t, sz, 0, false, [σ.val Gl (cOpd x)]⟩) (cap := 1) (cs := (act.eval x).cells) (x := .pointer (some ⟨w.heap.size, 0, none⟩)) h0 rfl (by simp) (by simp [maxLen]) ?_ (by simp; omega) ?_ ?_ ?_
      · intro i y hy
        have : i = 0 := by
          rcases Nat.eq_zero_or_pos i with h0 | h0
          · exact h0
          · rw [List.getElem?_eq_none (by simp; omega)] at hy; cases hy
        subst this
        simp at hy
        subst hy
        rw [q1]; exact hl
      · intro i j y a hy hb
        have : i = 0 := by
          rcases Nat.eq_zero_or_pos i with h0 | h0
          · exact h0
          · rw [List.getElem?_eq_none (by simp; omega)] at hy; cases hy
        subst this
        simp at hy
        subst hy
        rw [q1] at hb
        have hj : j < (act.eval x).cells.size := by rw [q2]; exact (List.getElem?_eq_some_iff.1 hb).1
        refine ⟨(act.eval x).cells[j], by simp, (q3 j _ a (Array.getElem?_eq_getElem hj) hb).1, (q3 j _ a (Array.getElem?_eq_getElem hj) hb).2.1⟩
      · unfold execOp
        simp only [ho]
        simp [Instr.box, newVar, newRow]
      · rw [← h.hl]
        exact .ptr _ _ _ _ _ _ own_last (by simp) ⟨_, rfl⟩ (fun _ => ⟨_, rfl, by simp⟩) (by first | omega | assumption | (simp; done) | (simp; omega) | (dsimp only; omega))
    · cases hs

theorem avOf_cells (z : Value) : (avOf z).cells = z.cells.toList.map .v := by cases z <;> rfl

theorem ok_alloc (h : Inv Gl F own B w0 σ act w) {o : Oper} {t : TypeId} (ho : o.op = .alloc t) {i : TypeInfo} {z : Value} (hi : P.info? t = some i) (hz : i.zero = some z) (h0 : 0 < z.cells.size) (h1 : z.cells.all (·.oneCell') = true) :
    Ok1 P Gl B w0 σ act w o (.ptr σ.h.length 1 0 0) (σ.h ++ [⟨t, z.cells.size, 0, false, [avOf z]⟩]) := by
  refine Ok1.new h (ob := ⟨t, z.cells.size, 0, false, [avOf z]⟩) (cap := 1) (cs := z.cells) (x := .pointer (some ⟨w.heap.size, 0, none⟩)) h0 rfl (by simp) (by simp [maxLen]) ?_ (by simp) ?_ ?_ ?_
  · intro i y hy
    have : i = 0 := by
      rcases Nat.eq_zero_or_pos i with h0 | h0
      · exact h0
      · rw [List.getElem?_eq_none (by simp; omega)] at hy; cases hy
    subst this
    simp at hy
    subst hy
    rw [avOf_cells]; simp
  · intro i j y a hy hb
    have : i = 0 := by
      rcases Nat.eq_zero_or_pos i with h0 | h0
      · exact h0
      · rw [List.getElem?_eq_none (by simp; omega)] at hy; cases hy
    subst this
    simp at hy
    subst hy
    rw [avOf_cells] at hb
    simp at hb
    obtain ⟨v, hv, rfl⟩ := hb
    refine ⟨v, by simpa using hv, ?_, R.pure (.v v)⟩
    exact Array.all_eq_true_iff_forall_mem.1 h1 v (Array.mem_of_getElem? hv)
  · unfold execOp
    simp only [ho]
    simp [Instr.alloc, zeroValue, typeInfo, hi, hz, newVar, newRow]
  · rw [← h.hl]
    exact .ptr _ _ _ _ _ _ own_last (by simp) ⟨_, rfl⟩ (fun _ => ⟨_, rfl, by simp⟩) (by first | omega | assumption | (simp; done) | (simp; omega) | (dsimp only; omega))

theorem ok_mk (h : Inv Gl F own B w0 σ act w) {o : Oper} {t et : TypeId} {x : Operand} (ho : o.op = .makeSlice t x x) {i : TypeInfo} {z : Value} (ht : P.underlying t = some (.slice et)) (hi : P.info? et = some i) (hz : i.zero = some z) (hsz : z.cells.size = i.size) (h0 : 0 < i.size) (h1 : z.cells.all (·.oneCell') = true)
    {p : Prop} {r : AV} {h' : List AObj} (hs : step Gl σ (.mk et i.size i.bytes z (cOpd x)) = some (p, r, h')) (hp : p) : Ok1 P Gl B w0 σ act w o r h' := by
  have he := h.ev x
  simp only [step] at hs
  split at hs
  · rename_i n hv
    rw [hv] at he
    obtain ⟨rfl, h2⟩ := Prod.mk.inj (Option.some.inj hs)
    obtain ⟨rfl, rfl⟩ := Prod.mk.inj h2
    obtain ⟨p1, p2, p3⟩ := hp
    have hb : (i.bytes : Int) * n ≤ 281474976710656 := by
      rw [Int.mul_comm]; unfold maxB at p2; omega
    have run := run_make (P := P) w t et i z ht hi hz .i64 .i64 n n p1 (Int.le_refl _) hb (by omega)
    have hel : ∀ (k : Nat) (y : AV), (List.replicate n.toNat (avOf z))[k]? = some y → k < n.toNat ∧ y = avOf z := fun k y hy => by
      have hk : k < n.toNat := by have := (List.getElem?_eq_some_iff.1 hy).1; simpa using this
      simp [hk] at hy
      exact ⟨hk, hy.symm⟩
    refine Ok1.new h (ob := ⟨et, i.size, 0, true, List.replicate n.toNat (avOf z)⟩) (cap := n.toNat) (cs := madeCells z.cells (n.toNat * i.size)) (x := .slice (some ⟨w.heap.size, 0, none⟩) n.toNat n.toNat) h0 rfl (by simp) (by simp [maxLen]; omega) ?_ (by simp [size_madeCells]) ?_ ?_ ?_
    · intro k y hy
      obtain ⟨_, rfl⟩ := hel k y hy
      rw [avOf_cells]; simpa using hsz
    · intro k j y a hy hb'
      obtain ⟨hk, rfl⟩ := hel k y hy
      rw [avOf_cells] at hb'
      simp at hb'
      obtain ⟨v, hv', rfl⟩ := hb'
      have hj : j < z.cells.size := (Array.getElem?_eq_some_iff.1 hv').1
      have hlt : k * i.size + j < n.toNat * i.size := by
        have : (k + 1) * i.size ≤ n.toNat * i.size := Nat.mul_le_mul_right _ hk
        rw [Nat.add_mul] at this; omega
      have hmod : (k * i.size + j) % z.cells.size = j := by
        rw [hsz, Nat.mul_comm, Nat.mul_add_mod]
        exact Nat.mod_eq_of_lt (by omega)
      refine ⟨v, ?_, Array.all_eq_true_iff_forall_mem.1 h1 v (Array.mem_of_getElem? hv'), RP.v v⟩
      simp only
      unfold madeCells
      rw [Array.getElem?_map, Array.getElem?_range, if_pos hlt]
      simp only [Option.map_some, hmod]
      rw [getElem!_pos z.cells j hj]
      rw [Array.getElem?_eq_getElem hj] at hv'
      exact hv'
    · unfold execOp
      simp only [ho, he.v_inv]
      simp [run]
    · rw [← h.hl]
      refine .row _ _ _ _ _ _ _ own_last (by simp) ⟨_, _, rfl, by simp, fun _ => rfl⟩ (fun _ => ⟨rfl, by simp, fun _ => ⟨_, Nat.le_of_eq (Nat.zero_add _), ?_⟩⟩) (by first | omega | assumption | (simp; done) | (simp; omega) | (dsimp only; omega))
      simp
  · cases hs

/-- Cells stored into a block of which no cell is shared. -/
theorem run_storeCells_nf (P : Program) (g o : Nat) (t : TypeId) (fr : Nat × Nat) : ∀ (vs : List Value) (i : Nat) (cur : Array Value) (w : World), w.heap[g]? = some (.cells cur t fr) → NoFz fr cur.size → o + i + vs.length ≤ cur.size → (∀ v ∈ vs, v.oneCell' = true) →
    (storeCells ⟨g, o, none⟩ vs i).run P w = .ok () (w.setRow g (cur.toList.take (o + i) ++ vs ++ cur.toList.drop (o + i + vs.length)).toArray)
  | [], i, cur, w, hg, _, _, _ => by
    simp only [storeCells, List.append_nil, List.length_nil, Nat.add_zero, List.take_append_drop, Array.toArray_toList]
    rw [setRow_self w g cur t fr hg]
    rfl
  | v :: rest, i, cur, w, hg, hnf, hl, h1 => by
    have hi : o + i < cur.size := by simp at hl; omega
    have hadd : (⟨g, o, none⟩ : Addr).add i = ⟨g, o + i, none⟩ := by unfold Addr.add; split <;> simp_all
    have hcell : w.cell? ⟨g, o + i, none⟩ = some cur[o + i] := by simp [World.cell?, hg, hi]
    have hfro : w.frozen? ⟨g, o + i, none⟩ = false := by
      have := hnf (o + i) hi
      unfold World.frozen?
      rw [hg]
      simp only [Bool.and_eq_false_iff, decide_eq_false_iff_not]
      by_cases q : fr.1 ≤ o + i
      · right; intro q2; exact this ⟨q, q2⟩
      · left; exact q
    have hst : (store ((⟨g, o, none⟩ : Addr).add i) v).run P w = .ok () (w.setRow g (cur.setIfInBounds (o + i) v)) := by
      rw [hadd, run_store P w _ v _ (h1 v (by simp)), hcell]
      simp [hfro, setCell_eq_setRow w g (o + i) cur t fr v hg]
    have ih := run_storeCells_nf P g o t fr rest (i + 1) (cur.setIfInBounds (o + i) v) (w.setRow g (cur.setIfInBounds (o + i) v)) (setRow_heap w g cur _ t _ hg) (by simpa using hnf) (by simp at hl ⊢; omega) (fun x hx => h1 x (by simp [hx]))
    simp only [storeCells, Sem.run_bind, hst, Result.andThen_ok, ih, setRow_setRow]
    congr 3
    have e := list_seg_step cur.toList (o + i) v rest (by simp at hl ⊢; omega)
    simpa [Array.toList_setIfInBounds, Nat.add_assoc] using e
/-- A store into a block of the call's own. -/
theorem Inv.set (h : Inv Gl F own B w0 σ act w) {id : Nat} {e : Ent} {ob ob' : AObj} {g : Nat} (he : own[id]? = some e) (hob : σ.h[id]? = some ob) (hg : e.g = some g) (h0 : 0 < e.sz) (cs' : Array Value)
    (hty : ob'.ty = ob.ty) (hsz : ob'.sz = ob.sz) (hfz : ob'.fz = ob.fz) (hpr : ob'.pr = ob.pr) (hlen : ob'.es.length = ob.es.length) (hes : ∀ (i : Nat) (x : AV), ob'.es[i]? = some x → x.cells.length = ob'.sz)
    (hcs : cs'.size = e.cap * ob.sz) (hold : ∀ j x, j < ob.fz * ob.sz → w.cell? ⟨g, j, none⟩ = some x → cs'[j]? = some x)
    (hR : ∀ (i j : Nat) (x a : AV), ob'.es[i]? = some x → x.cells[j]? = some a → ∃ y, cs'[i * ob.sz + j]? = some y ∧ y.oneCell' = true ∧ RC F own ob.pr y a) :
    Inv Gl F own B w0 ⟨σ.t, σ.h.set id ob'⟩ act (w.setRow g cs') := by
  have hOr := h.objs id e ob he hob
  have hO := hOr.of_e h0
  obtain ⟨cs, fr, hblk, hfr, hcsz, hcell⟩ := hO.blkF hg
  have hidlt : id < σ.h.length := (List.getElem?_eq_some_iff.1 hob).1
  refine h.turn (fun _ _ q => q) (Le.refl _) (fun a x q => ?_) (by simp [h.hl]) (fun id' e' o' p q => ?_) h.inj ?_ h.base (hpw := fun k _ hk => setRow_other w g k cs' fun q => hk id e he (by rw [hg, q]))
  · have hc := h.sub a x q
    by_cases hab : a.block = g
    · obtain ⟨b, off, spot⟩ := a
      simp only at hab
      subst hab
      cases spot with
      | some s => simp [World.cell?, hblk] at hc
      | none =>
        rw [cell_setRow_same w b off cs cs' ob.ty fr hblk]
        rcases Nat.lt_or_ge off (ob.fz * ob.sz) with hlt | hge
        · exact hold off x hlt hc
        · rw [hOr.fz hg hge] at q; cases q
    · rw [World.cell?_of_block (w := w) (setRow_other w g a.block cs' hab)]; exact hc
  · by_cases hid : id' = id
    · subst hid
      rw [he] at p
      cases p
      have q' : (σ.h.set id' ob')[id']? = some o' := q
      rw [List.getElem?_set_self hidlt] at q'
      cases q'
      obtain ⟨k1, k2, k3, k4, k5, k6, k7, k8⟩ := hO
      refine ObjC.r ⟨by rw [hlen]; exact k1, by rw [hsz]; exact k2, by rw [hsz]; exact k3, k4, ⟨k5.1, by rw [hpr, hlen]; exact k5.2⟩, by rw [hfz, hlen]; exact k6, hes, ?_⟩
      rw [hg]
      refine ⟨cs', ⟨fr, by rw [hty]; exact setRow_heap w g cs cs' ob.ty fr hblk, by rw [hpr, hfz, hlen, hcs, ← hcsz]; exact hfr⟩, by rw [hsz]; exact hcs, fun i j x a p q => ?_, fun j hj => ?_⟩
      · obtain ⟨y, a1, a2, a3⟩ := hR i j x a p q
        exact ⟨y, by rw [hsz]; exact a1, a2, by rw [hpr]; exact a3⟩
      · rw [hfz, hsz] at hj
        rw [hg] at k8
        obtain ⟨_, _, _, _, k⟩ := k8
        exact k j hj
    · have q' : (σ.h.set id ob')[id']? = some o' := q
      rw [List.getElem?_set_ne (fun e => hid e.symm)] at q'
      have hO' := h.objs id' e' o' p q'
      refine hO'.mono (fun _ _ r => r) (Le.refl _) (fun g' hg' => setRow_other w g g' cs' (fun e => ?_)) (fun g' j hg' hj => hO'.fz hg' hj)
      subst e
      exact hid (h.inj id' id e' _ g' p he hg' hg)
  · refine h.below.trans ⟨rfl, rfl, rfl, by simp, fun k hk => setRow_other w g k cs' (fun e' => ?_)⟩
    subst e'
    have := h.base id e k he hg
    omega

theorem splice_at {α : Type} (l m : List α) (p : Nat) (hp : p + m.length ≤ l.length) (j : Nat) :
    (l.take p ++ m ++ l.drop (p + m.length))[j]? = if j < p then l[j]? else if j < p + m.length then m[j - p]? else l[j]? := by
  rw [List.append_assoc, List.getElem?_append]
  have h1 : (l.take p).length = p := by simp; omega
  rw [h1]
  by_cases h : j < p
  · rw [if_pos h, if_pos h, List.getElem?_take, if_pos h]
  · rw [if_neg h, if_neg h, List.getElem?_append]
    by_cases h2 : j - p < m.length
    · rw [if_pos h2, if_pos (by omega)]
    · rw [if_neg h2, if_neg (by omega), List.getElem?_drop]
      congr 1
      omega

theorem store_core (h : Inv Gl F own B w0 σ act w) {o : Oper} {t : TypeId} {x y : Operand} (ho : o.op = .store t x y) {ag : Bool} {sz : Nat} (ha : agT P t = some (ag, sz)) (h0 : 0 < sz) {id G i off : Nat} (he : R F own (act.eval x) (.ptr id G i off)) {a : AV} (hy : R F own (act.eval y) a)
    {ob : AObj} (hob : σ.h[id]? = some ob) (hlen : ob.es.length = G) {cs : List AV} (hc : stCells ob.pr a = some cs) (hcl : cs.length = sz) (hp : off + sz ≤ ob.sz ∧ i < G ∧ ob.fz ≤ i) : Ok1 P Gl B w0 σ act w o .any (σ.h.set id { ob with es := ob.es.set i (setCells (ob.es.getD i .any) off cs) }) := by
  have hag := run_agT ha
  obtain ⟨e, he1, hG, hst, hx⟩ := he.ptr_inv
  have hOr := h.objs id e ob he1 hob
  have hO := hOr.of_e (he.ptr_sz he1)
  obtain ⟨p1, p2, p3⟩ := hp
  obtain ⟨g, hg, ex⟩ := hx (by rw [hO.1, hlen])
  obtain ⟨cur, fr, hblk, hnf, hcsz, hcell⟩ := hO.blk hg (.inr (by omega))
  obtain ⟨q1, q2, q3⟩ := stCells_sound hy hc
  have hsz' : e.sz = ob.sz := hO.2.1
  have hcap : e.G ≤ e.cap := hO.2.2.2.1
  have hcells := hO.2.2.2.2.2.2.1
  have hsp := hO.2.2.1
  have hvl : (act.eval y).cells.toList.length = sz := by simp; omega
  have hone : ∀ v ∈ (act.eval y).cells.toList, v.oneCell' = true := fun v hv => by
    obtain ⟨j, hj, rfl⟩ := List.mem_iff_getElem.1 hv
    have hj' : j < (act.eval y).cells.size := by simpa using hj
    have hjc : j < cs.length := by omega
    have := (q3 j (act.eval y).cells[j] cs[j] (Array.getElem?_eq_getElem hj') (List.getElem?_eq_getElem hjc)).1
    simpa using this
  have hi1 : (i + 1) * ob.sz ≤ e.cap * ob.sz := Nat.mul_le_mul_right _ (by rw [hO.1] at hcap; omega)
  rw [Nat.add_mul, Nat.one_mul] at hi1
  have hfit : (i * ob.sz + off) + (act.eval y).cells.toList.length ≤ cur.toList.length := by simp; omega
  have hrun := run_storeCells_nf P g (i * ob.sz + off) ob.ty fr (act.eval y).cells.toList 0 cur w hblk hnf (by simpa using hfit) hone
  simp only [Nat.add_zero] at hrun
  generalize hcs' : (cur.toList.take (i * ob.sz + off) ++ (act.eval y).cells.toList ++ cur.toList.drop (i * ob.sz + off + (act.eval y).cells.toList.length)).toArray = cs' at hrun
  have hat : ∀ j, cs'[j]? = if j < i * ob.sz + off then cur[j]? else if j < i * ob.sz + off + sz then (act.eval y).cells[j - (i * ob.sz + off)]? else cur[j]? := fun j => by
    rw [← hcs', List.getElem?_toArray, splice_at _ _ _ hfit, hvl]
    simp
  have hel : ob.es[i]? = some (ob.es.getD i .any) := by simp [List.getD, List.getElem?_eq_getElem (show i < ob.es.length by omega)]
  have hcl1 := hcells i _ hel
  have run : (execOp act.eval o).run P w = .ok .skip (w.setRow g cs') := by
    unfold execOp
    simp only [ho, ex]
    have : (act.eval y).cells.size = sz := by omega
    simp [Instr.storeAt, Instr.sureAddr, storeVar, hag, this, hsz', hrun]
  have hset : (setCells (ob.es.getD i .any) off cs).cells = (ob.es.getD i .any).cells.take off ++ cs ++ (ob.es.getD i .any).cells.drop (off + cs.length) := by
    generalize ob.es.getD i .any = E at *
    by_cases hE : ∃ l, E = .agg l
    · obtain ⟨l, rfl⟩ := hE; rfl
    · have hE1 : E.cells = [E] := by cases E <;> first | rfl | exact absurd ⟨_, rfl⟩ hE
      rw [hE1] at hcl1 ⊢
      simp at hcl1
      have h1 : cs.length = 1 := by omega
      have hoff : off = 0 := by omega
      subst hoff
      match cs, h1 with
      | [c], _ =>
        have hs1 : setCells E 0 [c] = c := by
          cases E <;> first | rfl | exact absurd ⟨_, rfl⟩ hE
        rw [hs1]
        have hy0 : 0 < (act.eval y).cells.size := by omega
        have := (q3 0 _ c (Array.getElem?_eq_getElem hy0) rfl).2.2
        rw [this]
        simp
  refine ⟨_, undef, _, F, own, run, .inr ⟨rfl, rfl⟩, ?_, .pure (.any _)⟩
  refine h.set he1 hob hg (he.ptr_sz he1) cs' rfl rfl rfl rfl (by simp) ?_ ?_ ?_ ?_
  · intro k z hz
    simp only at hz ⊢
    rw [List.getElem?_set] at hz
    split at hz
    · split at hz
      · cases hz
        rw [hset]
        simp only [List.length_append, List.length_take, List.length_drop]
        omega
      · cases hz
    · exact hcells k z hz
  · rw [← hcs']
    simp
    omega
  · intro j z hj hz
    have : ob.fz * ob.sz ≤ i * ob.sz := Nat.mul_le_mul_right _ p3
    rw [hat j, if_pos (by omega)]
    rw [cell_of_row w g j cur ob.ty fr hblk] at hz
    exact hz
  · intro k j z a hz hb
    simp only at hz
    rw [List.getElem?_set] at hz
    split at hz
    · rename_i hik
      subst hik
      split at hz
      · cases hz
        rw [hset, splice_at _ _ _ (by omega)] at hb
        have hjlt : j < ob.sz := by
          rcases Nat.lt_or_ge j ob.sz with q | q
          · exact q
          · rw [if_neg (by omega), if_neg (by omega), List.getElem?_eq_none (by omega)] at hb; cases hb
        split at hb
        · rename_i hjo
          obtain ⟨v, a1, a2, a3⟩ := hcell i j _ a hel hb
          exact ⟨v, by rw [hat, if_pos (by omega)]; exact a1, a2, a3⟩
        · rename_i hjo
          split at hb
          · rename_i hjs
            have hjc : j - off < (act.eval y).cells.size := by omega
            obtain ⟨a2, a3, _⟩ := q3 (j - off) _ a (Array.getElem?_eq_getElem hjc) hb
            refine ⟨(act.eval y).cells[j - off], ?_, a2, a3⟩
            rw [hat, if_neg (by omega), if_pos (by omega)]
            rw [show i * ob.sz + j - (i * ob.sz + off) = j - off from by omega]
            exact Array.getElem?_eq_getElem hjc
          · rename_i hjs
            obtain ⟨v, a1, a2, a3⟩ := hcell i j _ a hel hb
            exact ⟨v, by rw [hat, if_neg (by omega), if_neg (by omega)]; exact a1, a2, a3⟩
      · cases hz
    · rename_i hik
      obtain ⟨v, a1, a2, a3⟩ := hcell k j z a hz hb
      refine ⟨v, ?_, a2, a3⟩
      have hjlt : j < ob.sz := by rw [← hcells k z hz]; exact (List.getElem?_eq_some_iff.1 hb).1
      rw [hat]
      rcases Nat.lt_or_gt_of_ne hik with q | q
      · have : (i + 1) * ob.sz ≤ k * ob.sz := Nat.mul_le_mul_right _ q
        rw [Nat.add_mul, Nat.one_mul] at this
        rw [if_neg (by omega), if_neg (by omega)]; exact a1
      · have : (k + 1) * ob.sz ≤ i * ob.sz := Nat.mul_le_mul_right _ q
        rw [Nat.add_mul, Nat.one_mul] at this
        rw [if_pos (by omega)]; exact a1
end
end Abs
end Go.Proofs.YtnhgeocdffhkjaaDoor
