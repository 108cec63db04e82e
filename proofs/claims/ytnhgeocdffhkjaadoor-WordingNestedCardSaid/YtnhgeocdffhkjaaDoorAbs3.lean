/- The abstract machine: operations that read. -/
import Derived.Test.YtnhgeocdffhkjaaDoorAbs2
namespace Go.Proofs.YtnhgeocdffhkjaaDoor
namespace Abs
open Go.RowKit
set_option linter.unusedVariables false
set_option linter.unusedSimpArgs false

theorem add_add_ (a : Addr) (i j : Nat) : (a.add i).add j = a.add (i + j) := by
  unfold Addr.add
  by_cases hi : i = 0 <;> by_cases hj : j = 0 <;> simp [hi, hj, Nat.add_assoc]
theorem add_zero_ (a : Addr) : a.add 0 = a := by simp [Addr.add]
theorem add_block (a : Addr) (n : Nat) : (a.add n).block = a.block := by unfold Addr.add; split <;> rfl

theorem exists_list {α : Type} (n : Nat) (p : Nat → α → Prop) (h : ∀ j, j < n → ∃ y, p j y) : ∃ ys : List α, ys.length = n ∧ ∀ (j : Nat) (y : α), ys[j]? = some y → p j y := by
  induction n with
  | zero => exact ⟨[], rfl, fun j y hy => by simp at hy⟩
  | succ n ih =>
    obtain ⟨ys, hl, hp⟩ := ih (fun j hj => h j (by omega))
    obtain ⟨y, hy⟩ := h n (by omega)
    refine ⟨ys ++ [y], by simp [hl], fun j z hz => ?_⟩
    rcases Nat.lt_or_ge j n with q | q
    · rw [List.getElem?_append_left (by omega)] at hz; exact hp j z hz
    · rw [List.getElem?_append_right (by omega)] at hz
      have : j = n := by
        rcases Nat.lt_or_ge n j with q' | q'
        · rw [List.getElem?_eq_none (by simp; omega)] at hz; cases hz
        · omega
      subst this
      simp [hl] at hz
      subst hz
      exact hy

section
variable {P : Program} {Gl : Nat → Option (List AV)} {F : Addr → Option Value} {own : List Ent} {B : Nat} {w0 : W0} {σ : St} {act : Act} {w : World}

theorem run_agT {t : TypeId} {ag : Bool} {sz : Nat} (h : agT P t = some (ag, sz)) (w : World) : (isAgg t).run P w = .ok ag w ∧ (sizeOf t).run P w = .ok sz w := by
  unfold agT at h
  split at h
  · rename_i d i hd hi
    obtain ⟨rfl, rfl⟩ := Prod.mk.inj (Option.some.inj h)
    refine ⟨?_, by simp [sizeOf, typeInfo, hi]⟩
    unfold isAgg
    simp only [Sem.run_bind, run_underlying hd, Result.andThen_ok]
    cases d <;> rfl
  · cases h

theorem ok_fld (h : Inv Gl F own B w0 σ act w) {o : Oper} {t : TypeId} {x : Operand} {f : Nat} (ho : o.op = .field t x f) {fs : Array Field} {fd : Field} {ag : Bool} {sz : Nat} (ht : P.underlying t = some (.struct fs)) (hf : fs[f]? = some fd) (ha : agT P fd.type = some (ag, sz))
    {p : Prop} {r : AV} {h' : List AObj} (hs : step Gl σ (.fld fd.offset sz ag (cOpd x)) = some (p, r, h')) (hp : p) : Ok1 P Gl B w0 σ act w o r h' := by
  have he := h.ev x
  have hag := run_agT ha
  simp only [step] at hs
  split at hs
  · rename_i cs hv
    rw [hv] at he
    obtain ⟨xs, ex, hl, h1, hR⟩ := he.agg_inv
    cases ag with
    | true =>
      simp only [if_true] at hs
      split at hs
      · rename_i hle
        obtain ⟨_, h2⟩ := Prod.mk.inj (Option.some.inj hs)
        obtain ⟨rfl, rfl⟩ := Prod.mk.inj h2
        refine Ok1.mk h (x := .agg (xs.extract fd.offset (fd.offset + sz))) ?_ ?_
        · unfold execOp
          simp only [ho, ex]
          simp [Instr.field, run_underlying ht, hf, asAgg, part, hag]
        · refine .agg _ _ (by simp; omega) (fun j y hy => ?_) (fun j y a hy ha' => ?_)
          · rw [Array.getElem?_extract] at hy
            split at hy
            · exact h1 _ _ hy
            · cases hy
          · rw [Array.getElem?_extract] at hy
            split at hy
            · rename_i hj
              rw [List.getElem?_take] at ha'
              split at ha'
              · rw [List.getElem?_drop] at ha'; exact hR _ _ _ hy ha'
              · cases ha'
            · cases hy
      · cases hs
    | false =>
      simp only [Bool.false_eq_true, if_false] at hs
      cases hc : cs[fd.offset]? with
      | none => rw [hc] at hs; cases hs
      | some a =>
        rw [hc] at hs
        obtain ⟨_, h2⟩ := Prod.mk.inj (Option.some.inj hs)
        obtain ⟨rfl, rfl⟩ := Prod.mk.inj h2
        have hlt : fd.offset < xs.size := by rw [hl]; exact (List.getElem?_eq_some_iff.1 hc).1
        refine Ok1.mk h (x := xs[fd.offset]) ?_ (hR _ _ _ (Array.getElem?_eq_getElem hlt) hc)
        unfold execOp
        simp only [ho, ex]
        simp [Instr.field, run_underlying ht, hf, asAgg, part, hag, Array.getElem?_eq_getElem hlt]
  · cases hs

theorem ok_ext (h : Inv Gl F own B w0 σ act w) {o : Oper} {x : Operand} {i : Nat} (ho : o.op = .extract x i)
    {p : Prop} {r : AV} {h' : List AObj} (hs : step Gl σ (.ext i (cOpd x)) = some (p, r, h')) (hp : p) : Ok1 P Gl B w0 σ act w o r h' := by
  have he := h.ev x
  simp only [step] at hs
  split at hs
  · rename_i cs hv
    rw [hv] at he
    obtain ⟨xs, ex, hl, hR⟩ := he.tup_inv
    cases hc : cs[i]? with
    | none => rw [hc] at hs; cases hs
    | some a =>
      rw [hc] at hs
      obtain ⟨_, h2⟩ := Prod.mk.inj (Option.some.inj hs)
      obtain ⟨rfl, rfl⟩ := Prod.mk.inj h2
      have hlt : i < xs.size := by rw [hl]; exact (List.getElem?_eq_some_iff.1 hc).1
      refine Ok1.mk h (x := xs[i]) ?_ (hR _ _ _ (Array.getElem?_eq_getElem hlt) hc)
      unfold execOp
      simp only [ho, ex]
      simp [Instr.extract, Array.getElem?_eq_getElem hlt]
  · cases hs

theorem ok_mov (h : Inv Gl F own B w0 σ act w) {o : Oper} {x : Operand} (ho : o.op = .move x ∨ o.op = .assign x) : Ok1 P Gl B w0 σ act w o (σ.val Gl (cOpd x)) σ.h := by
  refine Ok1.mk h ?_ (h.ev x)
  unfold execOp
  rcases ho with ho | ho <;> simp only [ho] <;> rfl

theorem ok_nck (h : Inv Gl F own B w0 σ act w) {o : Oper} {x : Operand} (ho : o.op = .nilCheck x)
    {p : Prop} {r : AV} {h' : List AObj} (hs : step Gl σ (.nck (cOpd x)) = some (p, r, h')) (hp : p) : Ok1 P Gl B w0 σ act w o r h' := by
  have he := h.ev x
  simp only [step] at hs
  split at hs
  · rename_i id G i o' hv
    rw [hv] at he
    obtain ⟨_, h2⟩ := Prod.mk.inj (Option.some.inj hs)
    obtain ⟨rfl, rfl⟩ := Prod.mk.inj h2
    obtain ⟨e, he1, hG, ⟨a, hx0⟩, hx⟩ := he.ptr_inv
    refine Ok1.mk h ?_ he
    unfold execOp
    simp only [ho, hx0]
    rfl
  · rename_i cs hv
    rw [hv] at he
    obtain ⟨_, h2⟩ := Prod.mk.inj (Option.some.inj hs)
    obtain ⟨rfl, rfl⟩ := Prod.mk.inj h2
    have hq := he.lptr_inv
    refine Ok1.mk h ?_ he
    generalize hv' : act.eval x = v at hq
    cases hq with
    | lptr ad cs cv hF hR =>
      unfold execOp
      simp only [ho, hv']
      rfl
  · cases hs

theorem ok_pick (h : Inv Gl F own B w0 σ act w) {o : Oper} {c a b : Operand} (ho : o.op = .pick c a b)
    {p : Prop} {r : AV} {h' : List AObj} (hs : step Gl σ (.pick (cOpd c) (cOpd a) (cOpd b)) = some (p, r, h')) (hp : p) : Ok1 P Gl B w0 σ act w o r h' := by
  have he := h.ev c
  simp only [step] at hs
  split at hs
  · rename_i t hv
    rw [hv] at he
    have ec := he.v_inv
    obtain ⟨_, h2⟩ := Prod.mk.inj (Option.some.inj hs)
    obtain ⟨rfl, rfl⟩ := Prod.mk.inj h2
    refine Ok1.mk h (x := if t then act.eval a else act.eval b) ?_ ?_
    · unfold execOp
      simp only [ho, ec]
      simp [asBool]
    · cases t
      · exact h.ev b
      · exact h.ev a
  · cases hs

theorem ok_faddr (h : Inv Gl F own B w0 σ act w) {o : Oper} {t : TypeId} {x : Operand} {f : Nat} (ho : o.op = .fieldAddr t x f) {fs : Array Field} {fd : Field} {ag : Bool} {sz : Nat} (ht : P.underlying t = some (.struct fs)) (hf : fs[f]? = some fd) (ha : agT P fd.type = some (ag, sz)) (h0 : sz ≠ 0)
    {p : Prop} {r : AV} {h' : List AObj} (hs : step Gl σ (.faddr fd.offset (cOpd x)) = some (p, r, h')) (hp : p) : Ok1 P Gl B w0 σ act w o r h' := by
  have he := h.ev x
  have hag := run_agT ha
  have run : ∀ a, act.eval x = .pointer (some a) → (execOp act.eval o).run P w = .ok (.value (.pointer (some (a.add fd.offset)))) w := by
    intro a ex
    unfold execOp
    simp only [ho, ex]
    simp [Instr.fieldAt, run_underlying ht, hf, Instr.sureAddr, fieldPlace, hag, h0]
  simp only [step] at hs
  split at hs
  · rename_i id G i o' hv
    rw [hv] at he
    obtain ⟨_, h2⟩ := Prod.mk.inj (Option.some.inj hs)
    obtain ⟨rfl, rfl⟩ := Prod.mk.inj h2
    obtain ⟨e, he1, hG, ⟨a, ea⟩, hx⟩ := he.ptr_inv
    refine Ok1.mk h (run a ea) (.ptr _ _ _ _ _ e he1 hG ⟨_, rfl⟩ (fun q => ?_) (by first | exact he.ptr_sz he1 | exact he.row_sz he1 | exact he.crow_sz he1))
    obtain ⟨g, hg, hx'⟩ := hx q
    rw [ea] at hx'
    cases hx'
    exact ⟨g, hg, by simp [Addr.add_lit, Nat.add_assoc]⟩
  · rename_i cs hv
    rw [hv] at he
    obtain ⟨_, h2⟩ := Prod.mk.inj (Option.some.inj hs)
    obtain ⟨rfl, rfl⟩ := Prod.mk.inj h2
    have hq := he.lptr_inv
    generalize hv' : act.eval x = v at hq
    cases hq with
    | lptr ad cs cv hF hR =>
      refine Ok1.mk h (run ad hv') (.pure (.lptr _ _ (fun j => cv (fd.offset + j)) (fun j a q => ?_) (fun j a q => ?_)))
      · rw [List.getElem?_drop] at q; rw [add_add_]; exact hF _ _ q
      · rw [List.getElem?_drop] at q; exact hR _ _ q
  · cases hs

theorem ok_iaddr (h : Inv Gl F own B w0 σ act w) {o : Oper} {t : TypeId} {x ix : Operand} (ho : o.op = .indexAddr t x ix) {et : TypeId} {ag : Bool} {sz : Nat} (ht : P.underlying t = some (.slice et)) (ha : agT P et = some (ag, sz))
    {p : Prop} {r : AV} {h' : List AObj} (hs : step Gl σ (.iaddr sz (cOpd x) (cOpd ix)) = some (p, r, h')) (hp : p) : Ok1 P Gl B w0 σ act w o r h' := by
  have he := h.ev x
  have hi := h.ev ix
  have hag := run_agT ha
  have run : ∀ a n c k (m : Int), act.eval x = .slice (some a) n c → act.eval ix = .int k m → 0 ≤ m → m < n → (execOp act.eval o).run P w = .ok (.value (.pointer (some (a.add (m.toNat * sz))))) w := by
    intro a n c k m ex ei h0 h1
    unfold execOp
    simp only [ho, ex, ei]
    simp [Instr.indexAt, asIntOf, run_underlying ht, hag, h0, h1]
  simp only [step] at hs
  split at hs
  · rename_i sz' xs k n hv hvi
    rw [hv] at he
    rw [hvi] at hi
    split at hs
    · rename_i hsz
      subst hsz
      obtain ⟨rfl, h2⟩ := Prod.mk.inj (Option.some.inj hs)
      obtain ⟨rfl, rfl⟩ := Prod.mk.inj h2
      have hq := he.list_inv
      generalize hv' : act.eval x = v at hq
      have hlt : n.toNat < xs.length := by omega
      have hg : xs[n.toNat]? = some (xs.getD n.toNat .any) := by simp [List.getD, List.getElem?_eq_getElem hlt]
      cases hq with
      | nil => simp at hlt
      | list ad n' cap sz xs cv hn hc hz hF hR =>
        refine Ok1.mk h (run ad _ _ _ n hv' hi.v_inv hp.1 (by omega)) (.pure (.lptr _ _ (fun j => cv (n.toNat * sz' + j)) (fun j a q => ?_) (fun j a q => ?_)))
        · rw [add_add_]; exact hF _ _ _ _ hg q
        · exact hR _ _ _ _ hg q
    · cases hs
  · rename_i id G sz' off len k n hv hvi
    rw [hv] at he
    rw [hvi] at hi
    split at hs
    · rename_i hsz
      subst hsz
      obtain ⟨rfl, h2⟩ := Prod.mk.inj (Option.some.inj hs)
      obtain ⟨rfl, rfl⟩ := Prod.mk.inj h2
      obtain ⟨e, he1, hG, ⟨a, cap, hx0, hl, ha'⟩, hx⟩ := he.row_inv
      have hsome := ha' (.inl (by omega))
      cases a with
      | none => cases hsome
      | some a =>
        refine Ok1.mk h (run a _ _ _ n hx0 hi.v_inv hp.1 (by omega)) (.ptr _ _ _ _ _ e he1 hG ⟨_, rfl⟩ (fun q => ?_) (by first | exact he.ptr_sz he1 | exact he.row_sz he1 | exact he.crow_sz he1))
        obtain ⟨q1, q2, qe⟩ := hx q
        obtain ⟨cp, qc, q3⟩ := qe (.inl (by omega))
        rw [hx0] at q3
        injection q3 with q3
        cases hg : e.g with
        | none => rw [hg] at q3; cases q3
        | some g =>
          rw [hg] at q3
          simp at q3
          refine ⟨g, rfl, ?_⟩
          rw [q3, Addr.add_lit, ← q1, Nat.add_mul]
          rfl
    · cases hs
  · cases hs

theorem ok_len (h : Inv Gl F own B w0 σ act w) {o : Oper} {t : TypeId} {x : Operand} (ho : o.op = .call { callee := .builtin .len, args := #[x], argTypes := #[t] }) {et : TypeId} (ht : P.underlying t = some (.slice et))
    {p : Prop} {r : AV} {h' : List AObj} (hs : step Gl σ (.len (cOpd x)) = some (p, r, h')) (hp : p) : Ok1 P Gl B w0 σ act w o r h' := by
  have he := h.ev x
  have run : ∀ a n c et, P.underlying t = some (.slice et) → act.eval x = .slice a n c → (execOp act.eval o).run P w = .ok (.value (.int .i64 n)) w := by
    intro a n c et ht ex
    unfold execOp
    simp only [ho]
    simp [resolve, invoke, builtin, ex, Builtin.len_, run_underlying ht, goInt]
  simp only [step] at hs
  split at hs
  · rename_i sz xs hv
    rw [hv] at he
    obtain ⟨_, h2⟩ := Prod.mk.inj (Option.some.inj hs)
    obtain ⟨rfl, rfl⟩ := Prod.mk.inj h2
    have hq := he.list_inv
    generalize hv' : act.eval x = v at hq
    cases hq with
    | nil => exact Ok1.v h (run _ _ _ _ ht hv')
    | list ad n' cap sz xs cv hn hc hz hF hR => subst hn; exact Ok1.v h (run _ _ _ _ ht hv')
  · rename_i id G sz off len hv
    rw [hv] at he
    obtain ⟨_, h2⟩ := Prod.mk.inj (Option.some.inj hs)
    obtain ⟨rfl, rfl⟩ := Prod.mk.inj h2
    obtain ⟨e, he1, hG, ⟨a, cap, hx0, hl, ha'⟩, hx⟩ := he.row_inv
    exact Ok1.v h (run _ _ _ _ ht hx0)
  · rename_i hv
    rw [hv] at he
    obtain ⟨_, h2⟩ := Prod.mk.inj (Option.some.inj hs)
    obtain ⟨rfl, rfl⟩ := Prod.mk.inj h2
    exact Ok1.v h (run _ _ _ _ ht he.v_inv)
  · cases hs

theorem ok_slen (h : Inv Gl F own B w0 σ act w) {o : Oper} {t : TypeId} {x : Operand} (ho : o.op = .call { callee := .builtin .len, args := #[x], argTypes := #[t] }) (ht : P.underlying t = some .string)
    {p : Prop} {r : AV} {h' : List AObj} (hs : step Gl σ (.slen (cOpd x)) = some (p, r, h')) (hp : p) : Ok1 P Gl B w0 σ act w o r h' := by
  have he := h.ev x
  simp only [step] at hs
  split at hs
  · rename_i s hv
    rw [hv] at he
    obtain ⟨_, h2⟩ := Prod.mk.inj (Option.some.inj hs)
    obtain ⟨rfl, rfl⟩ := Prod.mk.inj h2
    refine Ok1.v h ?_
    unfold execOp
    simp only [ho]
    simp [resolve, invoke, builtin, he.v_inv, Builtin.len_, run_underlying ht, goInt]
  · cases hs

theorem ok_idx (h : Inv Gl F own B w0 σ act w) {o : Oper} {t : TypeId} {x ix : Operand} (ho : o.op = .index t x ix) (ht : P.underlying t = some .string)
    {p : Prop} {r : AV} {h' : List AObj} (hs : step Gl σ (.idx (cOpd x) (cOpd ix)) = some (p, r, h')) (hp : p) : Ok1 P Gl B w0 σ act w o r h' := by
  have he := h.ev x
  have hi := h.ev ix
  simp only [step] at hs
  split at hs
  · rename_i s k n hv hvi
    rw [hv] at he
    rw [hvi] at hi
    obtain ⟨rfl, h2⟩ := Prod.mk.inj (Option.some.inj hs)
    obtain ⟨rfl, rfl⟩ := Prod.mk.inj h2
    refine Ok1.v h ?_
    have hlt : n.toNat < s.size := by omega
    have hd : s.data.getD n.toNat 0 = s[n.toNat] := by
      have hlt' : n.toNat < s.data.size := hlt
      unfold Array.getD
      rw [dif_pos hlt']
      rfl
    have hg : s[n.toNat]? = some s[n.toNat] := getElem?_pos s n.toNat hlt
    unfold execOp
    simp only [ho, he.v_inv, hi.v_inv]
    simp only [Instr.index, asIntOf, Sem.run_bind, Sem.run_pure, Result.andThen_ok, run_underlying ht, hp.1, if_true, hg, hd]
  · cases hs

theorem ok_minmax (h : Inv Gl F own B w0 σ act w) {o : Oper} {ts : Array TypeId} {x y : Operand} {mx : Bool} (ho : o.op = .call { callee := .builtin (if mx then .max else .min), args := #[x, y], argTypes := ts })
    {p : Prop} {r : AV} {h' : List AObj} (hs : step Gl σ (if mx then .max2 (cOpd x) (cOpd y) else .min2 (cOpd x) (cOpd y)) = some (p, r, h')) (hp : p) : Ok1 P Gl B w0 σ act w o r h' := by
  have he := h.ev x
  have hi := h.ev y
  cases mx <;> simp only [if_true, if_false, Bool.false_eq_true, step] at hs ho <;> split at hs <;> first
    | (cases hs; done)
    | (rename_i k a k' b hv hvi
       rw [hv] at he
       rw [hvi] at hi
       obtain ⟨_, h2⟩ := Prod.mk.inj (Option.some.inj hs)
       obtain ⟨rfl, rfl⟩ := Prod.mk.inj h2
       refine Ok1.v h ?_
       unfold execOp
       simp only [ho]
       simp [resolve, invoke, builtin, he.v_inv, hi.v_inv, Builtin.min_, Builtin.max_, Builtin.min2, Builtin.max2]
       first | (split <;> omega) | omega)

theorem run_load_agg {t : TypeId} {sz : Nat} (ha : agT P t = some (true, sz)) (ad : Addr) (ys : List Value) (hl : ys.length = sz) (hc : ∀ (j : Nat) (y : Value), ys[j]? = some y → w.cell? (ad.add j) = some y) : (loadVar t ad).run P w = .ok (.agg ys.toArray) w := by
  have hag := run_agT ha
  have := run_loadCells_list (P := P) w ad ys hc
  rw [hl] at this
  simp [loadVar, hag, this]
theorem run_load_one {t : TypeId} {sz : Nat} (ha : agT P t = some (false, sz)) (ad : Addr) (y : Value) (hc : w.cell? ad = some y) : (loadVar t ad).run P w = .ok y w := by
  have hag := run_agT ha
  simp [loadVar, hag, hc]

theorem load_val (h : Inv Gl F own B w0 σ act w) {t : TypeId} {x : Operand} {ag : Bool} {sz : Nat} (ha : agT P t = some (ag, sz))
    {p : Prop} {r : AV} {h' : List AObj} (hs : step Gl σ (.load sz ag (cOpd x)) = some (p, r, h')) (hp : p) : ∃ a y, act.eval x = .pointer (some a) ∧ (loadVar t a).run P w = .ok y w ∧ R F own y r ∧ h' = σ.h := by
  have he := h.ev x
  simp only [step] at hs
  split at hs
  · rename_i cs hv
    rw [hv] at he
    have hq := he.lptr_inv
    generalize hv' : act.eval x = v at hq
    cases hq with
    | lptr ad cs cv hF hR =>
      cases ag with
      | true =>
        simp only [if_true] at hs
        split at hs
        · rename_i hle
          obtain ⟨_, h2⟩ := Prod.mk.inj (Option.some.inj hs)
          obtain ⟨rfl, rfl⟩ := Prod.mk.inj h2
          have hat : ∀ j, j < sz → cs[j]? = some (cs.getD j .any) := fun j hj => by simp [List.getD, List.getElem?_eq_getElem (show j < cs.length by omega)]
          have hys : ∀ (j : Nat) (y : Value), ((List.range sz).map cv)[j]? = some y → j < sz ∧ y = cv j := fun j y hy => by
            have hj : j < sz := by have := (List.getElem?_eq_some_iff.1 hy).1; simpa using this
            simp [List.getElem?_eq_getElem, hj] at hy
            exact ⟨hj, hy.symm⟩
          refine ⟨ad, _, rfl, run_load_agg ha ad ((List.range sz).map cv) (by simp) (fun j y hy => ?_), ?_, rfl⟩
          · obtain ⟨hj, rfl⟩ := hys j y hy
            exact h.sub _ _ (hF j _ (hat j hj)).1
          · refine .agg _ _ (by simp; omega) (fun j y hy => ?_) (fun j y a hy hb => ?_)
            · obtain ⟨hj, rfl⟩ := hys j y (by simpa using hy)
              exact (hF j _ (hat j hj)).2
            · obtain ⟨hj, rfl⟩ := hys j y (by simpa using hy)
              rw [List.getElem?_take, if_pos hj] at hb
              exact .pure (hR j a hb)
        · cases hs
      | false =>
        simp only [Bool.false_eq_true, if_false] at hs
        cases cs with
        | nil => cases hs
        | cons a cs =>
          obtain ⟨_, h2⟩ := Prod.mk.inj (Option.some.inj hs)
          obtain ⟨rfl, rfl⟩ := Prod.mk.inj h2
          have h0 := (hF 0 a rfl).1
          rw [add_zero_] at h0
          exact ⟨ad, _, rfl, run_load_one ha ad (cv 0) (h.sub _ _ h0), .pure (hR 0 a rfl), rfl⟩
  · rename_i id G i off hv
    rw [hv] at he
    obtain ⟨e, he1, hG, hst, hx⟩ := he.ptr_inv
    obtain ⟨ob, hob, hO⟩ := h.own_obj he1
    have hO := hO.of_e (he.ptr_sz he1)
    rw [hob] at hs
    simp only at hs
    split at hs
    · rename_i hlen
      obtain ⟨g, hg, ex⟩ := hx (by rw [hO.1, hlen])
      obtain ⟨cs, fr, hblk, _, hsz, hcell⟩ := hO.blkF hg
      have hcl := hO.2.2.2.2.2.2.1
      have hsz' : e.sz = ob.sz := hO.2.1
      have cellw : ∀ (j : Nat) (y : Value), cs[i * ob.sz + (off + j)]? = some y → w.cell? ((⟨g, i * e.sz + off, none⟩ : Addr).add j) = some y := fun j y hy => by
        rw [Addr.add_lit, cell_of_row w g _ cs ob.ty fr hblk, ← hy, hsz', Nat.add_assoc]
      cases ag with
      | true =>
        simp only [if_true] at hs
        obtain ⟨rfl, h2⟩ := Prod.mk.inj (Option.some.inj hs)
        obtain ⟨rfl, rfl⟩ := Prod.mk.inj h2
        have hel : ob.es[i]? = some (ob.es.getD i .any) := by simp [List.getD, List.getElem?_eq_getElem (show i < ob.es.length by omega)]
        have hc1 := hcl i _ hel
        obtain ⟨ys, hyl, hyp⟩ := exists_list sz (fun j y => cs[i * ob.sz + (off + j)]? = some y ∧ y.oneCell' = true ∧ ∀ a, (ob.es.getD i .any).cells[off + j]? = some a → R F own y a) (fun j hj => by
          have : off + j < (ob.es.getD i .any).cells.length := by omega
          obtain ⟨y, h1, h2, h3⟩ := hcell i (off + j) _ _ hel (List.getElem?_eq_getElem this)
          exact ⟨y, h1, h2, fun a ha' => by rw [List.getElem?_eq_getElem this] at ha'; cases ha'; exact h3.r⟩)
        refine ⟨_, _, ex, run_load_agg ha _ ys hyl (fun j y hy => cellw j y (hyp j y hy).1), ?_, rfl⟩
        generalize ob.es.getD i .any = E at *
        refine .agg _ _ (by simp; omega) (fun j y hy => (hyp j y (by simpa using hy)).2.1) (fun j y a hy hb => ?_)
        rw [List.getElem?_take] at hb
        split at hb
        · rw [List.getElem?_drop] at hb
          exact (hyp j y (by simpa using hy)).2.2 a hb
        · cases hb
      | false =>
        simp only [Bool.false_eq_true, if_false] at hs
        obtain ⟨rfl, h2⟩ := Prod.mk.inj (Option.some.inj hs)
        obtain ⟨rfl, rfl⟩ := Prod.mk.inj h2
        have hel : ob.es[i]? = some (ob.es.getD i .any) := by simp [List.getD, List.getElem?_eq_getElem (show i < ob.es.length by omega)]
        have hc1 := hcl i _ hel
        have hlt : off < (ob.es.getD i .any).cells.length := by omega
        generalize ob.es.getD i .any = E at *
        have hge : E.cells[off]? = some (E.cells.getD off .any) := by simp [List.getD, List.getElem?_eq_getElem hlt]
        obtain ⟨y, h1, h2, h3⟩ := hcell i off _ _ hel hge
        have hw := cellw 0 y (by simpa using h1)
        rw [add_zero_] at hw
        exact ⟨_, _, ex, run_load_one ha _ y hw, h3.r, rfl⟩
    · cases hs
  · cases hs

theorem ok_load (h : Inv Gl F own B w0 σ act w) {o : Oper} {t : TypeId} {x : Operand} (ho : o.op = .load t x) {ag : Bool} {sz : Nat} (ha : agT P t = some (ag, sz))
    {p : Prop} {r : AV} {h' : List AObj} (hs : step Gl σ (.load sz ag (cOpd x)) = some (p, r, h')) (hp : p) : Ok1 P Gl B w0 σ act w o r h' := by
  obtain ⟨a, y, ex, hy, hR, rfl⟩ := load_val h ha hs hp
  refine Ok1.mk h ?_ hR
  unfold execOp
  simp only [ho, ex]
  simp [Instr.loadAt, Instr.sureAddr, hy]

theorem cutB_some {n : Nat} {lo hi : Option AV} {p : Prop} {l u : Int} (h : cutB n lo hi = some (p, l, u)) : p = (0 ≤ l ∧ l ≤ u ∧ u ≤ n) ∧ ((lo = none ∧ l = 0) ∨ ∃ k, lo = some (.v (.int k l))) ∧ ((hi = none ∧ u = n) ∨ ∃ k, hi = some (.v (.int k u))) := by
  unfold cutB at h
  split at h
  · rename_i l' u' h1 h2
    cases h
    have asn : ∀ {a : AV} {m : Int}, asN a = some m → ∃ k, a = .v (.int k m) := by
      intro a m q
      unfold asN at q
      split at q
      · cases q; exact ⟨_, rfl⟩
      · cases q
    refine ⟨rfl, ?_, ?_⟩
    · cases lo with
      | none => cases h1; exact .inl ⟨rfl, rfl⟩
      | some a => obtain ⟨k, rfl⟩ := asn h1; exact .inr ⟨k, rfl⟩
    · cases hi with
      | none => cases h2; exact .inl ⟨rfl, rfl⟩
      | some a => obtain ⟨k, rfl⟩ := asn h2; exact .inr ⟨k, rfl⟩
  · cases h

/-- The bounds of a cut, run. -/
theorem run_bounds (h : Inv Gl F own B w0 σ act w) {lo hi : Option Operand} {n cap : Nat} {p : Prop} {l u : Int} (hc : cutB n ((lo.map cOpd).map (σ.val Gl)) ((hi.map cOpd).map (σ.val Gl)) = some (p, l, u)) (hp : p) (hn : n ≤ cap) (b : Bool) :
    (Instr.sliceBounds b n cap (lo.map act.eval) (hi.map act.eval) none).run P w = .ok (l.toNat, u.toNat, cap) w := by
  obtain ⟨rfl, h1, h2⟩ := cutB_some hc
  have s2 : ∀ x code, hi = some x → (Instr.sliceBound (act.eval x) cap code).run P w = .ok u.toNat w := by
    rintro x code rfl
    rcases h2 with ⟨q, _⟩ | ⟨k, q⟩
    · cases q
    · have he := h.ev x
      rw [show σ.val Gl (cOpd x) = .v (.int k u) from by simpa using q] at he
      simp [he.v_inv, Instr.sliceBound, asIntOf, show (0 : Int) ≤ u from by omega, show u ≤ cap from by omega]
  have s1 : ∀ x code, lo = some x → (Instr.sliceBound (act.eval x) u.toNat code).run P w = .ok l.toNat w := by
    rintro x code rfl
    rcases h1 with ⟨q, _⟩ | ⟨k, q⟩
    · cases q
    · have he := h.ev x
      rw [show σ.val Gl (cOpd x) = .v (.int k l) from by simpa using q] at he
      have : (0 : Int) ≤ l ∧ l ≤ ((u.toNat : Nat) : Int) := by omega
      simp only [he.v_inv, Instr.sliceBound, asIntOf, Sem.run_bind, Sem.run_pure, Result.andThen_ok, if_pos this]
  have hu : hi = none → u.toNat = n := by
    rintro rfl
    rcases h2 with ⟨_, q⟩ | ⟨k, q⟩
    · omega
    · cases q
  have hl : lo = none → l.toNat = 0 := by
    rintro rfl
    rcases h1 with ⟨_, q⟩ | ⟨k, q⟩
    · omega
    · cases q
  cases hi with
  | none =>
    cases lo with
    | none => simp [Instr.sliceBounds, hu rfl, hl rfl]
    | some x =>
      have := s1 x .sliceB rfl
      rw [hu rfl] at this
      simp [Instr.sliceBounds, hu rfl, this]
  | some y =>
    cases lo with
    | none => simp [Instr.sliceBounds, s2 y _ rfl, hl rfl]
    | some x => simp [Instr.sliceBounds, s2 y _ rfl, s1 x _ rfl]

theorem ok_sslice (h : Inv Gl F own B w0 σ act w) {o : Oper} {t : TypeId} {x : Operand} {lo hi : Option Operand} (ho : o.op = .slice t x lo hi none) (ht : P.underlying t = some .string)
    {p : Prop} {r : AV} {h' : List AObj} (hs : step Gl σ (.sslice (cOpd x) (lo.map cOpd) (hi.map cOpd)) = some (p, r, h')) (hp : p) : Ok1 P Gl B w0 σ act w o r h' := by
  have he := h.ev x
  simp only [step] at hs
  split at hs
  · rename_i s hv
    rw [hv] at he
    cases hc : cutB s.size ((lo.map cOpd).map (σ.val Gl)) ((hi.map cOpd).map (σ.val Gl)) with
    | none => rw [hc] at hs; cases hs
    | some q =>
      obtain ⟨p', l, u⟩ := q
      rw [hc] at hs
      obtain ⟨rfl, h2⟩ := Prod.mk.inj (Option.some.inj hs)
      obtain ⟨rfl, rfl⟩ := Prod.mk.inj h2
      have hb := run_bounds (P := P) h hc hp (Nat.le_refl _) false
      refine Ok1.v h ?_
      unfold execOp
      simp only [ho, he.v_inv]
      simp [Instr.sliceAt, Instr.slice, run_underlying ht, hb]
  · cases hs

theorem ok_slice (h : Inv Gl F own B w0 σ act w) {o : Oper} {t et : TypeId} {x : Operand} {lo hi : Option Operand} (ho : o.op = .slice t x lo hi none) {ag : Bool} {sz : Nat} (ht : P.underlying t = some (.slice et)) (ha : agT P et = some (ag, sz))
    {p : Prop} {r : AV} {h' : List AObj} (hs : step Gl σ (.slice sz (cOpd x) (lo.map cOpd) (hi.map cOpd)) = some (p, r, h')) (hp : p) : Ok1 P Gl B w0 σ act w o r h' := by
  have he := h.ev x
  have hag := run_agT ha
  have run : ∀ a n c l u, act.eval x = .slice a n c → (Instr.sliceBounds true n c (lo.map act.eval) (hi.map act.eval) none).run P w = .ok (l, u, c) w → (execOp act.eval o).run P w = .ok (.value (.slice (if c = l then a else a.map (·.add (l * sz))) (u - l) (c - l))) w := by
    intro a n c l u ex hb
    unfold execOp
    simp only [ho, ex]
    simp [Instr.sliceAt, Instr.slice, run_underlying ht, hb, hag]
  simp only [step] at hs
  split at hs
  · rename_i sz' xs hv
    rw [hv] at he
    split at hs
    · rename_i hsz
      subst hsz
      cases hc : cutB xs.length ((lo.map cOpd).map (σ.val Gl)) ((hi.map cOpd).map (σ.val Gl)) with
      | none => rw [hc] at hs; cases hs
      | some q =>
        obtain ⟨p', l, u⟩ := q
        rw [hc] at hs
        obtain ⟨rfl, h2⟩ := Prod.mk.inj (Option.some.inj hs)
        obtain ⟨rfl, rfl⟩ := Prod.mk.inj h2
        have hp' := hp
        rw [(cutB_some hc).1] at hp'
        have hq := he.list_inv
        generalize hv' : act.eval x = v at hq
        cases hq with
        | nil =>
          have hb := run_bounds (P := P) (cap := 0) h hc hp (by simp) true
          have hl0 : l.toNat = 0 := by have := hp'; simp at this; omega
          have hu0 : u.toNat = 0 := by have := hp'; simp at this; omega
          have := run _ _ _ _ _ hv' hb
          rw [hl0, hu0] at this
          refine Ok1.mk h (by simpa using this) ?_
          simp
          exact .pure (.nil _)
        | list ad n cap sz xs cv hn hcap hz hF hR =>
          have hb := run_bounds (P := P) (cap := cap) h hc hp (by omega) true
          rw [hn] at hb
          refine Ok1.mk h (run _ _ _ _ _ hv' hb) ?_
          have hlen : ((xs.take u.toNat).drop l.toNat).length = u.toNat - l.toNat := by simp; omega
          by_cases hcl : cap = l.toNat
          · rw [if_pos hcl]
            have h0 : u.toNat - l.toNat = 0 := by omega
            have hnil : (xs.take u.toNat).drop l.toNat = [] := List.eq_nil_of_length_eq_zero (by omega)
            rw [hnil, h0]
            exact .pure (.list ad 0 _ _ [] cv rfl (by omega) (fun i e q => by simp at q) (fun i j e a q => by simp at q) (fun i j e a q => by simp at q))
          · rw [if_neg hcl]
            have key : ∀ (i : Nat) (e : AV), ((xs.take u.toNat).drop l.toNat)[i]? = some e → xs[l.toNat + i]? = some e := fun i e q => by
              rw [List.getElem?_drop, List.getElem?_take] at q
              split at q
              · exact q
              · cases q
            refine .pure (.list (ad.add (l.toNat * sz')) _ _ _ _ (fun j => cv (l.toNat * sz' + j)) hlen (by omega) (fun i e q => hz _ _ (key i e q)) (fun i j e a q q' => ?_) (fun i j e a q q' => ?_))
            · have := hF _ j _ _ (key i e q) q'
              rw [add_add_]
              rw [Nat.add_mul, Nat.add_assoc] at this
              exact this
            · have := hR _ j _ _ (key i e q) q'
              rw [Nat.add_mul, Nat.add_assoc] at this
              exact this
    · cases hs
  · rename_i hv
    rw [hv] at he
    cases hc : cutB 0 ((lo.map cOpd).map (σ.val Gl)) ((hi.map cOpd).map (σ.val Gl)) with
    | none => rw [hc] at hs; cases hs
    | some q =>
      obtain ⟨p', l, u⟩ := q
      rw [hc] at hs
      obtain ⟨rfl, h2⟩ := Prod.mk.inj (Option.some.inj hs)
      obtain ⟨rfl, rfl⟩ := Prod.mk.inj h2
      have hp' := hp
      rw [(cutB_some hc).1] at hp'
      have hb := run_bounds (P := P) (cap := 0) h hc hp (by simp) true
      have hl0 : l.toNat = 0 := by have := hp'; simp at this; omega
      have hu0 : u.toNat = 0 := by have := hp'; simp at this; omega
      have := run _ _ _ _ _ he.v_inv hb
      rw [hl0, hu0] at this
      exact Ok1.v h (by simpa using this)
  · rename_i id G sz' off len hv
    rw [hv] at he
    split at hs
    · rename_i hsz
      subst hsz
      cases hc : cutB len ((lo.map cOpd).map (σ.val Gl)) ((hi.map cOpd).map (σ.val Gl)) with
      | none => rw [hc] at hs; cases hs
      | some q =>
        obtain ⟨p', l, u⟩ := q
        rw [hc] at hs
        simp only [Option.map_some] at hs
        obtain ⟨rfl, h2⟩ := Prod.mk.inj (Option.some.inj hs)
        obtain ⟨rfl, rfl⟩ := Prod.mk.inj h2
        have hp' := hp
        rw [(cutB_some hc).1] at hp'
        obtain ⟨e, he1, hG, ⟨a, cap, hx0, hl, ha'⟩, hx⟩ := he.row_inv
        have hb := run_bounds (P := P) (cap := cap) h hc hp hl true
        have hr := run _ _ _ _ _ hx0 hb
        have hul : u.toNat - l.toNat = (u - l).toNat := by omega
        rw [hul] at hr
        refine Ok1.mk h hr (.row _ _ _ _ _ _ e he1 hG ⟨_, _, rfl, by omega, fun q => ?_⟩ (fun q => ?_) (by first | exact he.ptr_sz he1 | exact he.row_sz he1 | exact he.crow_sz he1))
        · have := ha' (by omega)
          cases a with
          | none => cases this
          | some a => split <;> rfl
        · obtain ⟨q1, q2, qe⟩ := hx q
          clear hx
          refine ⟨q1, (by clear qe; omega), fun hne => ?_⟩
          have hne' : 0 < len ∨ off = 0 := by clear qe; omega
          obtain ⟨cp, qc, q3⟩ := qe hne'
          clear qe
          have haddr : (if cap = l.toNat then a else a.map (·.add (l.toNat * sz'))) = a.map (·.add (l.toNat * sz')) := by
            rcases hne with h0 | hlt
            · rw [if_neg (by omega)]
            · have : l.toNat = 0 := by omega
              rw [this, Nat.zero_mul]
              split
              · cases a <;> simp [add_zero_]
              · rfl
          rw [haddr]
          rw [hx0] at q3
          injection q3 with q3 q4 q5
          refine ⟨cp - l.toNat, by omega, ?_⟩
          rw [q3, q5]
          cases hg : e.g with
          | none => simp
          | some g => simp [Addr.add_lit, Nat.add_mul]
    · cases hs
  · cases hs

theorem ok_slice3 (h : Inv Gl F own B w0 σ act w) {o : Oper} {t et : TypeId} {x y z : Operand} (ho : o.op = .slice t x none (some y) (some z)) {ag : Bool} {sz : Nat} (ht : P.underlying t = some (.slice et)) (ha : agT P et = some (ag, sz))
    {p : Prop} {r : AV} {h' : List AObj} (hs : step Gl σ (.slice3 sz (cOpd x) (cOpd y) (cOpd z)) = some (p, r, h')) (hp : p) : Ok1 P Gl B w0 σ act w o r h' := by
  have he := h.ev x
  have hey := h.ev y
  have hez := h.ev z
  have hag := run_agT ha
  simp only [step] at hs
  split at hs
  · rename_i id G sz' off len k n k' m hv hvy hvz
    rw [hv] at he
    rw [hvy] at hey
    rw [hvz] at hez
    split at hs
    · rename_i hsz
      obtain ⟨rfl, rfl⟩ := hsz
      obtain ⟨rfl, h2⟩ := Prod.mk.inj (Option.some.inj hs)
      obtain ⟨rfl, rfl⟩ := Prod.mk.inj h2
      obtain ⟨e, he1, hG, ⟨a, cap, hx0, hl, ha'⟩, hx⟩ := he.row_inv
      have hy := hey.v_inv
      have hz := hez.v_inv
      obtain ⟨hp1, hp2, hmn⟩ := hp
      rw [hmn] at hz
      have hb : (Instr.sliceBounds true len cap none (some (act.eval y)) (some (act.eval z))).run P w = .ok (0, n.toNat, n.toNat) w := by
        have s1 : ∀ (k : IntKind) (c : Nat) code, n ≤ c → (Instr.sliceBound (.int k n) c code).run P w = .ok n.toNat w := fun k c code hc => by
          simp [Instr.sliceBound, asIntOf, hp1, hc]
        rw [hz, hy]
        simp [Instr.sliceBounds, s1 k' cap _ (by omega), s1 k n.toNat _ (by omega)]
      have hr : (execOp act.eval o).run P w = .ok (.value (.slice a n.toNat n.toNat)) w := by
        unfold execOp
        simp only [ho, hx0]
        simp only [Option.map_some, Option.map_none]
        simp [Instr.sliceAt, Instr.slice, run_underlying ht, hb, hag]
        cases a <;> simp [add_zero_]
      refine Ok1.mk h hr (.crow _ _ _ _ _ e he1 hG ⟨_, rfl, fun q => ha' (.inl (by omega))⟩ (fun q => ?_) (by first | exact he.ptr_sz he1 | exact he.row_sz he1 | exact he.crow_sz he1))
      obtain ⟨q1, q2, qe⟩ := hx q
      obtain ⟨cp, qc, q3⟩ := qe (.inr rfl)
      rw [hx0] at q3
      injection q3 with q3
      refine ⟨q1, by omega, ?_⟩
      rw [q3]
      cases e.g <;> simp
    · cases hs
  · cases hs
end
end Abs
end Go.Proofs.YtnhgeocdffhkjaaDoor
