/- The abstract machine: arrays of the call's own, copies. -/
import Derived.Test.YtnhgeocdffhkjaaDoorAbs6
import Derived.Laws.BytesString
import Derived.Lib.ConvBytes
namespace Go.Proofs.YtnhgeocdffhkjaaDoor
namespace Abs
open Go.RowKit
set_option linter.unusedVariables false
set_option linter.unusedSimpArgs false
section
variable {P : Program} {Gl : Nat → Option (List AV)} {F : Addr → Option Value} {own : List Ent} {B : Nat} {w0 : W0} {σ : St} {act : Act} {w : World}

/-- An array's cells are those of its elements. -/
def flatN (z : Value) : Nat → List Value
  | 0 => []
  | n + 1 => z.cells.toList ++ flatN z n
theorem flatN_len (z : Value) : ∀ n, (flatN z n).length = n * z.cells.size
  | 0 => by simp [flatN]
  | n + 1 => by rw [flatN, List.length_append, flatN_len z n, Nat.add_mul]; simp; omega
theorem flatN_at (z : Value) {j : Nat} (hj : j < z.cells.size) : ∀ n k, k < n → (flatN z n)[k * z.cells.size + j]? = z.cells[j]?
  | 0, k, h => by omega
  | n + 1, 0, h => by rw [flatN, List.getElem?_append_left (by simp; omega)]; simp
  | n + 1, k + 1, h => by
    rw [flatN, List.getElem?_append_right (by simp [Nat.add_mul]; omega)]
    have := flatN_at z hj n k (by omega)
    rw [← this]
    congr 1
    simp [Nat.add_mul]; omega
theorem ok_alloca (h : Inv Gl F own B w0 σ act w) {o : Oper} {t : TypeId} (ho : o.op = .alloc t) {i : TypeInfo} {za z : Value} (hi : P.info? t = some i) (hz : i.zero = some za) {n : Nat} (hf : za.cells.toList = flatN z n) (hn : n ≤ maxLen) (h0 : 0 < z.cells.size) (h1 : z.cells.all (·.oneCell') = true) :
    Ok1 P Gl B w0 σ act w o (.ptr σ.h.length n 0 0) (σ.h ++ [⟨t, z.cells.size, 0, true, List.replicate n (avOf z)⟩]) := by
  have hel : ∀ (k : Nat) (y : AV), (List.replicate n (avOf z))[k]? = some y → k < n ∧ y = avOf z := fun k y hy => by
    have hk : k < n := by have := (List.getElem?_eq_some_iff.1 hy).1; simpa using this
    simp [hk] at hy
    exact ⟨hk, hy.symm⟩
  have hsz : za.cells.size = n * z.cells.size := by rw [← flatN_len, ← hf]; simp
  refine Ok1.new h (ob := ⟨t, z.cells.size, 0, true, List.replicate n (avOf z)⟩) (cap := n) (cs := za.cells) (x := .pointer (some ⟨w.heap.size, 0, none⟩)) h0 rfl (by simp) hn ?_ hsz ?_ ?_ ?_
  · intro k y hy
    obtain ⟨_, rfl⟩ := hel k y hy
    rw [avOf_cells]; simp
  · intro k j y a hy hb
    obtain ⟨hk, rfl⟩ := hel k y hy
    rw [avOf_cells] at hb
    simp at hb
    obtain ⟨v, hv, rfl⟩ := hb
    have hj : j < z.cells.size := (Array.getElem?_eq_some_iff.1 hv).1
    refine ⟨v, ?_, Array.all_eq_true_iff_forall_mem.1 h1 v (Array.mem_of_getElem? hv), RP.v v⟩
    rw [← Array.getElem?_toList, hf, flatN_at z hj n k hk]
    exact hv
  · unfold execOp
    simp only [ho]
    simp [Instr.alloc, zeroValue, typeInfo, hi, hz, newVar, newRow]
  · rw [← h.hl]
    exact .ptr _ _ _ _ _ _ own_last (by simp) ⟨_, rfl⟩ (fun _ => ⟨_, rfl, by simp⟩) (by first | omega | assumption | (simp; done) | (simp; omega) | (dsimp only; omega))

theorem ok_aaddr (h : Inv Gl F own B w0 σ act w) {o : Oper} {t : TypeId} {x ix : Operand} (ho : o.op = .indexAddr t x ix) {et : TypeId} {n bsz st : Nat} {i : TypeInfo} (ht : P.underlying t = some (.array n et)) (hi : P.info? et = some i) (hsz : i.size = st * bsz)
    {p : Prop} {r : AV} {h' : List AObj} (hs : step Gl σ (.aaddr bsz st n (cOpd x) (cOpd ix)) = some (p, r, h')) (hp : p) : Ok1 P Gl B w0 σ act w o r h' := by
  have he := h.ev x
  have hix := h.ev ix
  simp only [step] at hs
  split at hs
  · rename_i id G j o' k m hv hvi
    rw [hv] at he
    rw [hvi] at hix
    obtain ⟨e, he1, hG, ⟨a, ha⟩, hx⟩ := he.ptr_inv
    obtain ⟨ob, hob, hO⟩ := h.own_obj he1
    have hO := hO.of_e (he.ptr_sz he1)
    rw [hob] at hs
    simp only at hs
    split at hs
    · rename_i hc
      obtain ⟨rfl, hb⟩ := hc
      obtain ⟨rfl, h2⟩ := Prod.mk.inj (Option.some.inj hs)
      obtain ⟨rfl, rfl⟩ := Prod.mk.inj h2
      obtain ⟨p1, p2⟩ := hp
      have run : (execOp act.eval o).run P w = .ok (.value (.pointer (some (a.add (m.toNat * (st * bsz)))))) w := by
        unfold execOp
        simp only [ho, ha, hix.v_inv]
        simp [Instr.indexAt, asIntOf, run_underlying ht, Instr.sureAddr, sizeOf, typeInfo, hi, hsz, p1, p2]
      refine Ok1.mk h run (.ptr _ _ _ _ _ e he1 hG ⟨_, rfl⟩ (fun q => ?_) (by first | exact he.ptr_sz he1 | exact he.row_sz he1 | exact he.crow_sz he1))
      obtain ⟨g, hg, q3⟩ := hx q
      rw [ha] at q3
      cases q3
      refine ⟨g, hg, ?_⟩
      rw [Addr.add_lit, show e.sz = bsz by rw [hO.2.1, hb], Nat.add_mul, Nat.mul_assoc]
      simp
    · split at hs
      · rename_i hc
        obtain ⟨rfl, rfl⟩ := hc
        obtain ⟨rfl, h2⟩ := Prod.mk.inj (Option.some.inj hs)
        obtain ⟨rfl, rfl⟩ := Prod.mk.inj h2
        obtain ⟨p1, p2⟩ := hp
        have run : (execOp act.eval o).run P w = .ok (.value (.pointer (some (a.add (m.toNat * (1 * 1)))))) w := by
          unfold execOp
          simp only [ho, ha, hix.v_inv]
          simp [Instr.indexAt, asIntOf, run_underlying ht, Instr.sureAddr, sizeOf, typeInfo, hi, hsz, p1, p2]
        refine Ok1.mk h run (.ptr _ _ _ _ _ e he1 hG ⟨_, rfl⟩ (fun q => ?_) (by first | exact he.ptr_sz he1 | exact he.row_sz he1 | exact he.crow_sz he1))
        obtain ⟨g, hg, q3⟩ := hx q
        rw [ha] at q3
        cases q3
        refine ⟨g, hg, ?_⟩
        rw [Addr.add_lit]
        simp [Nat.add_assoc]
      · cases hs
  · rename_i cs k m hv hvi
    rw [hv] at he
    rw [hvi] at hix
    obtain ⟨rfl, h2⟩ := Prod.mk.inj (Option.some.inj hs)
    obtain ⟨rfl, rfl⟩ := Prod.mk.inj h2
    obtain ⟨p1, p2⟩ := hp
    have hq := he.lptr_inv
    generalize hv' : act.eval x = v at hq
    cases hq with
    | lptr ad cs cv hF hR =>
      have run : (execOp act.eval o).run P w = .ok (.value (.pointer (some (ad.add (m.toNat * (st * bsz)))))) w := by
        unfold execOp
        simp only [ho, hv', hix.v_inv]
        simp [Instr.indexAt, asIntOf, run_underlying ht, Instr.sureAddr, sizeOf, typeInfo, hi, hsz, p1, p2]
      refine Ok1.mk h run (.pure (.lptr _ _ (fun j => cv (m.toNat * (st * bsz) + j)) (fun j a q => ?_) (fun j a q => ?_)))
      · rw [List.getElem?_take] at q
        split at q
        · rw [List.getElem?_drop] at q; rw [add_add_]; exact hF _ _ q
        · cases q
      · rw [List.getElem?_take] at q
        split at q
        · rw [List.getElem?_drop] at q; exact hR _ _ q
        · cases q
  · cases hs

theorem ok_aidx (h : Inv Gl F own B w0 σ act w) {o : Oper} {t : TypeId} {x ix : Operand} (ho : o.op = .index t x ix) {et : TypeId} {n : Nat} {ag : Bool} {sz : Nat} (ht : P.underlying t = some (.array n et)) (ha : agT P et = some (ag, sz))
    {p : Prop} {r : AV} {h' : List AObj} (hs : step Gl σ (.aidx sz ag n (cOpd x) (cOpd ix)) = some (p, r, h')) (hp : p) : Ok1 P Gl B w0 σ act w o r h' := by
  have he := h.ev x
  have hi := h.ev ix
  have hag := run_agT ha
  simp only [step] at hs
  split at hs
  · rename_i cs k m hv hvi
    rw [hv] at he
    rw [hvi] at hi
    obtain ⟨xs, ex, hl, h1, hR⟩ := he.agg_inv
    split at hs
    · rename_i hlen
      cases ag with
      | true =>
        simp only [if_true] at hs
        obtain ⟨rfl, h2⟩ := Prod.mk.inj (Option.some.inj hs)
        obtain ⟨rfl, rfl⟩ := Prod.mk.inj h2
        have hb : m.toNat * sz + sz ≤ xs.size := by
          have : (m.toNat + 1) * sz ≤ n * sz := Nat.mul_le_mul_right _ (by omega)
          rw [Nat.add_mul, Nat.one_mul] at this; omega
        refine Ok1.mk h (x := .agg (xs.extract (m.toNat * sz) (m.toNat * sz + sz))) ?_ ?_
        · unfold execOp
          simp only [ho, ex, hi.v_inv]
          simp [Instr.index, asIntOf, run_underlying ht, part, hag, hp.1, hp.2]
        · refine .agg _ _ (by simp; omega) (fun j y hy => ?_) (fun j y a hy ha' => ?_)
          · rw [Array.getElem?_extract] at hy
            split at hy
            · exact h1 _ _ hy
            · cases hy
          · rw [Array.getElem?_extract] at hy
            split at hy
            · rename_i hj
              rw [List.getElem?_take] at ha'
              split at ha'
              · rw [List.getElem?_drop] at ha'; exact hR _ _ _ hy ha'
              · cases ha'
            · cases hy
      | false =>
        simp only [Bool.false_eq_true, if_false] at hs
        obtain ⟨rfl, h2⟩ := Prod.mk.inj (Option.some.inj hs)
        obtain ⟨rfl, rfl⟩ := Prod.mk.inj h2
        obtain ⟨hp1, hlt⟩ := hp
        have hlt' : m.toNat * sz < xs.size := by omega
        refine Ok1.mk h (x := xs[m.toNat * sz]) ?_ ?_
        · unfold execOp
          simp only [ho, ex, hi.v_inv]
          simp [Instr.index, asIntOf, run_underlying ht, part, hag, hp1.1, hp1.2, Array.getElem?_eq_getElem hlt']
        · exact hR _ _ _ (Array.getElem?_eq_getElem hlt') (by simp [List.getD, List.getElem?_eq_getElem hlt])
    · cases hs
  · cases hs
theorem allV_v {a : AV} (h : allV a = true) : ∃ z, a = .v z := by cases a <;> first | exact ⟨_, rfl⟩ | cases h
theorem Inv.toPr (h : Inv Gl F own B w0 σ act w) {id : Nat} {ob : AObj} (hob : σ.h[id]? = some ob) (hv : ob.es.all (fun e => e.cells.all allV) = true) : Inv Gl F own B w0 ⟨σ.t, σ.h.set id { ob with pr := true }⟩ act w := by
  have hidlt : id < σ.h.length := (List.getElem?_eq_some_iff.1 hob).1
  refine h.turn (fun _ _ q => q) (Le.refl _) h.sub (by simp [h.hl]) (fun k f o' p q => ?_) h.inj h.below h.base
  have q' : (σ.h.set id { ob with pr := true })[k]? = some o' := q
  by_cases hk : k = id
  · subst hk
    rw [List.getElem?_set_self hidlt] at q'; cases q'
    rcases h.objs k f ob p hob with ⟨k0, hO⟩ | ⟨k0, m1, m2, m3⟩
    case inr => exact .inr ⟨k0, m1, rfl, m3⟩
    obtain ⟨k1, k2, k3, k4, k5, k6, k7, k8⟩ := hO
    refine .inl ⟨k0, k1, k2, k3, k4, ⟨k5.1, fun q => by cases q⟩, k6, k7, ?_⟩
    cases hg : f.g with
    | none => rw [hg] at k8; exact k8
    | some g =>
      rw [hg] at k8
      obtain ⟨cs, a1, a2, a3, a4⟩ := k8
      refine ⟨cs, a1, a2, fun i j x a r s => ?_, a4⟩
      obtain ⟨y, b1, b2, b3⟩ := a3 i j x a r s
      refine ⟨y, b1, b2, ?_⟩
      obtain ⟨z, rfl⟩ := allV_v (List.all_eq_true.1 (List.all_eq_true.1 hv x (List.mem_of_getElem? r)) a (List.mem_of_getElem? s))
      have := b3.r.v_inv
      subst this
      unfold RC
      rw [if_pos rfl]
      exact .v _
  · rw [List.getElem?_set_ne (fun e => hk e.symm)] at q'
    exact h.objs k f o' p q'
theorem ok_aslf (h : Inv Gl F own B w0 σ act w) {o : Oper} {t : TypeId} {x : Operand} {lo hi : Option Operand} (ho : o.op = .slice t x lo hi none) {et : TypeId} {n : Nat} {i : TypeInfo} (ht : P.underlying t = some (.array n et)) (hi' : P.info? et = some i) (hsz : i.size = 1)
    {p : Prop} {r : AV} {h' : List AObj} (hs : step Gl σ (.aslf n (cOpd x) (lo.map cOpd) (hi.map cOpd)) = some (p, r, h')) (hp : p) : Ok1 P Gl B w0 σ act w o r h' := by
  have he := h.ev x
  simp only [step] at hs
  split at hs
  · rename_i id G j o' hv
    rw [hv] at he
    obtain ⟨e, he1, hG, ⟨a, ha⟩, hx⟩ := he.ptr_inv
    obtain ⟨ob, hob, hO⟩ := h.own_obj he1
    have hO := hO.of_e (he.ptr_sz he1)
    rw [hob] at hs
    simp only at hs
    split at hs
    · rename_i hc
      obtain ⟨hG', hall⟩ := hc
      cases hc : cutB n ((lo.map cOpd).map (σ.val Gl)) ((hi.map cOpd).map (σ.val Gl)) with
      | none => rw [hc] at hs; cases hs
      | some q =>
        obtain ⟨p', l, u⟩ := q
        rw [hc] at hs
        simp only [Option.map_some] at hs
        obtain ⟨rfl, h2⟩ := Prod.mk.inj (Option.some.inj hs)
        obtain ⟨rfl, rfl⟩ := Prod.mk.inj h2
        obtain ⟨hp1, hon, hjG⟩ := hp
        have hp' := hp1
        rw [(cutB_some hc).1] at hp'
        have hb' := run_bounds (P := P) (cap := n) h hc hp1 (Nat.le_refl _) false
        have run : (execOp act.eval o).run P w = .ok (.value (.slice (some (if n = l.toNat then a else a.add (l.toNat * 1))) (u - l).toNat (n - l.toNat))) w := by
          unfold execOp
          simp only [ho, ha]
          simp [Instr.sliceAt, run_underlying ht, Instr.sureAddr, hb', sizeOf, typeInfo, hi', hsz]
          omega
        obtain ⟨g, hg, q3⟩ := hx (by rw [hO.1, hG'])
        rw [ha] at q3
        cases q3
        have hidlt : id < σ.h.length := (List.getElem?_eq_some_iff.1 hob).1
        have h1 := h.toPr hob hall
        obtain ⟨F', hF, hI, hk⟩ := h1.freeze1 (id := id) (ob := { ob with pr := true }) (by show (σ.h.set id _)[id]? = _; rw [List.getElem?_set_self hidlt])
        simp only [List.set_set] at hI
        obtain ⟨cs, fr, hblk, _, hcsz, hcell⟩ := hO.blkF hg
        have hesz : e.sz = ob.sz := hO.2.1
        have hel : ob.es[j]? = some (ob.es.getD j .any) := by simp [List.getD, List.getElem?_eq_getElem (show j < ob.es.length by omega)]
        generalize ob.es.getD j .any = el at hel
        have hcl := hO.2.2.2.2.2.2.1 j el hel
        have key : ∀ (k : Nat) (y : AV), el.cells[k]? = some y → ∃ z, y = .v z ∧ z.oneCell' = true ∧ F' ⟨g, j * ob.sz + k, none⟩ = some z := fun k y hy => by
          obtain ⟨v, a1, a2, a3⟩ := hcell j k el y hel hy
          obtain ⟨z, rfl⟩ := allV_v (List.all_eq_true.1 (List.all_eq_true.1 hall el (List.mem_of_getElem? hel)) y (List.mem_of_getElem? hy))
          have := a3.r.v_inv
          subst this
          refine ⟨_, rfl, a2, ?_⟩
          have hk1 : k < ob.sz := by rw [← hcl]; exact (List.getElem?_eq_some_iff.1 hy).1
          have hlt : j * ob.sz + k < ob.es.length * ob.sz := by
            have : (j + 1) * ob.sz ≤ ob.es.length * ob.sz := Nat.mul_le_mul_right _ (by omega)
            rw [Nat.add_mul, Nat.one_mul] at this; omega
          rw [hk { ob with pr := true } e g (by show (σ.h.set id _)[id]? = _; rw [List.getElem?_set_self hidlt]) he1 hg _ hlt, cell_of_row w g _ cs ob.ty fr hblk]
          exact a1
        refine ⟨_, _, w, F', own, run, .inl rfl, hI, .pure ?_⟩
        have hget : ∀ (k : Nat) (y : AV), (((el.cells.drop o').take u.toNat).drop l.toNat)[k]? = some y → el.cells[o' + (l.toNat + k)]? = some y ∧ l.toNat + k < u.toNat := fun k y hy => by
          rw [List.getElem?_drop, List.getElem?_take] at hy
          split at hy
          · rw [List.getElem?_drop] at hy; exact ⟨hy, by assumption⟩
          · cases hy
        have hlen : (((el.cells.drop o').take u.toNat).drop l.toNat).length = (u - l).toNat := by
          simp only [List.length_drop, List.length_take, hcl]; omega
        refine .list _ _ _ 1 _ (fun k => (cs[j * ob.sz + o' + l.toNat + k]?).getD undef) hlen (by omega) (fun k y hy => ?_) (fun k c y b hy hb => ?_) (fun k c y b hy hb => ?_)
        · obtain ⟨h2, _⟩ := hget k y hy
          obtain ⟨z, rfl, _⟩ := key _ y h2
          rfl
        · obtain ⟨h2, h3⟩ := hget k y hy
          obtain ⟨z, rfl, z1, z2⟩ := key _ y h2
          match c, hb with
          | 0, hb =>
            cases hb
            have hn : ¬ n = l.toNat := by omega
            rw [if_neg hn, Addr.add_lit, Addr.add_lit, hesz]
            obtain ⟨v, a1, a2, a3⟩ := hcell j _ el _ hel h2
            have hv := a3.r.v_inv
            subst hv
            have e1 : j * ob.sz + o' + l.toNat + (k * 1 + 0) = j * ob.sz + (o' + (l.toNat + k)) := by omega
            have e2 : j * ob.sz + o' + l.toNat * 1 + (k * 1 + 0) = j * ob.sz + (o' + (l.toNat + k)) := by omega
            rw [e1, e2, a1]
            exact ⟨z2, z1⟩
        · obtain ⟨h2, h3⟩ := hget k y hy
          obtain ⟨z, rfl, z1, z2⟩ := key _ y h2
          match c, hb with
          | 0, hb =>
            cases hb
            obtain ⟨v, a1, a2, a3⟩ := hcell j _ el _ hel h2
            have hv := a3.r.v_inv
            subst hv
            have e1 : j * ob.sz + o' + l.toNat + (k * 1 + 0) = j * ob.sz + (o' + (l.toNat + k)) := by omega
            rw [e1, a1]
            exact .v _
    · cases hs
  · cases hs
theorem set_same {l : List AObj} {id : Nat} {ob : AObj} (h : l[id]? = some ob) : l.set id ob = l := by
  refine List.ext_getElem? fun j => ?_
  by_cases q : id = j
  · subst q; rw [List.getElem?_set_self (List.getElem?_eq_some_iff.1 h).1, h]
  · rw [List.getElem?_set_ne q]
theorem ok_aslice (h : Inv Gl F own B w0 σ act w) {o : Oper} {t : TypeId} {x : Operand} {lo hi : Option Operand} (ho : o.op = .slice t x lo hi none) {et : TypeId} {n bsz : Nat} {i : TypeInfo} (ht : P.underlying t = some (.array n et)) (hi' : P.info? et = some i) (hsz : i.size = bsz)
    {p : Prop} {r : AV} {h' : List AObj} (hs : step Gl σ (.aslice bsz n (cOpd x) (lo.map cOpd) (hi.map cOpd)) = some (p, r, h')) (hp : p) : Ok1 P Gl B w0 σ act w o r h' := by
  have he := h.ev x
  simp only [step] at hs
  split at hs
  · rename_i id G j o' hv
    rw [hv] at he
    obtain ⟨e, he1, hG, ⟨a, ha⟩, hx⟩ := he.ptr_inv
    obtain ⟨ob, hob, hO⟩ := h.own_obj he1
    have hO := hO.of_e (he.ptr_sz he1)
    rw [hob] at hs
    simp only at hs
    split at hs
    · rename_i hc
      obtain ⟨rfl, hb⟩ := hc
      cases hc : cutB n ((lo.map cOpd).map (σ.val Gl)) ((hi.map cOpd).map (σ.val Gl)) with
      | none => rw [hc] at hs; cases hs
      | some q =>
        obtain ⟨p', l, u⟩ := q
        rw [hc] at hs
        simp only [Option.map_some] at hs
        obtain ⟨rfl, h2⟩ := Prod.mk.inj (Option.some.inj hs)
        obtain ⟨rfl, rfl⟩ := Prod.mk.inj h2
        obtain ⟨hp1, hjn⟩ := hp
        have hp' := hp1
        rw [(cutB_some hc).1] at hp'
        have hb' := run_bounds (P := P) (cap := n) h hc hp1 (Nat.le_refl _) false
        have run : (execOp act.eval o).run P w = .ok (.value (.slice (some (if n = l.toNat then a else a.add (l.toNat * bsz))) (u - l).toNat (n - l.toNat))) w := by
          unfold execOp
          simp only [ho, ha]
          simp [Instr.sliceAt, run_underlying ht, Instr.sureAddr, hb', sizeOf, typeInfo, hi', hsz]
          omega
        refine Ok1.mk h run (.row _ _ _ _ _ _ e he1 hG ⟨_, _, rfl, by omega, fun _ => rfl⟩ (fun q => ?_) (by first | exact he.ptr_sz he1 | exact he.row_sz he1 | exact he.crow_sz he1))
        obtain ⟨g, hg, q3⟩ := hx q
        rw [ha] at q3
        cases q3
        have hcap : e.G ≤ e.cap := hO.2.2.2.1
        refine ⟨by rw [hO.2.1, hb], by omega, fun hne => ⟨n - l.toNat, by omega, ?_⟩⟩
        have haddr : ∀ a : Addr, (if n = l.toNat then a else a.add (l.toNat * bsz)) = a.add (l.toNat * bsz) := fun a => by
          rcases hne with h0 | hlt
          · rw [if_neg (by omega)]
          · have : l.toNat = 0 := by omega
            rw [this, Nat.zero_mul, add_zero_]; split <;> rfl
        rw [haddr, hg, Addr.add_lit, show e.sz = bsz by rw [hO.2.1, hb], Nat.add_mul]
        simp
    · split at hs
      · rename_i hc
        obtain ⟨rfl, c1, c2, c3, c4⟩ := hc
        refine ok_aslf h ho ht hi' hsz (p := p) (r := r) (h' := h') ?_ hp
        simp only [step, hv, hob]
        rw [if_pos ⟨c1, c2⟩]
        have e1 : σ.h.set id { ob with pr := true, fz := ob.es.length } = σ.h := by
          have : ({ ob with pr := true, fz := ob.es.length } : AObj) = ob := by rw [← c3, ← c4]
          rw [this]
          exact set_same hob
        rw [e1]
        exact hs
      · cases hs
  · cases hs

theorem ok_copy (h : Inv Gl F own B w0 σ act w) {o : Oper} {t et t' : TypeId} {d s : Operand} (ho : o.op = .call { callee := .builtin .copy, args := #[d, s], argTypes := #[t, t'] }) {i : TypeInfo} (ht : P.underlying t = some (.slice et)) (hi : P.info? et = some i) (h0 : 0 < i.size)
    {p : Prop} {r : AV} {h' : List AObj} (hs : step Gl σ (.copy i.size (cOpd d) (cOpd s)) = some (p, r, h')) (hp : p) : Ok1 P Gl B w0 σ act w o r h' := by
  have hed := h.ev d
  have hex := h.ev s
  simp only [step] at hs
  cases hy : elemsOf σ.h i.size (σ.val Gl (cOpd s)) with
  | none => rw [hy] at hs; cases hs
  | some ys =>
    rw [hy] at hs
    simp only at hs
    obtain ⟨⟨A, c, news, ex, hA, hAc, hnl, hncell, hn1, hnR⟩, hycl⟩ := src_sound h hex h0 hy
    split at hs
    · rename_i id G sz' off len hv
      rw [hv] at hed
      obtain ⟨e, he1, hG, ⟨a0, cap0, hx0, hl0, ha0⟩, hx⟩ := hed.row_inv
      obtain ⟨ob, hob, hO⟩ := h.own_obj he1
      have hO := hO.of_e (hed.row_sz he1)
      rw [hob] at hs
      simp only at hs
      split at hs
      · rename_i hc
        obtain ⟨c1, rfl, c3, c4, c5⟩ := hc
        obtain ⟨rfl, h2⟩ := Prod.mk.inj (Option.some.inj hs)
        obtain ⟨rfl, rfl⟩ := Prod.mk.inj h2
        obtain ⟨q1, q2, qe⟩ := hx (by rw [hO.1, c1])
        have hcap : e.G ≤ e.cap := hO.2.2.2.1
        have heG : e.G = G := by rw [hO.1, c1]
        have hcl := hO.2.2.2.2.2.2.1
        have htl : (ys.take len).length = min ys.length len := by rw [List.length_take, Nat.min_comm]
        -- nothing is written
        have none' : (ys.take len).length = 0 → ({ ob with es := ob.es.take off ++ ys.take len ++ ob.es.drop (off + (ys.take len).length) } : AObj) = ob := fun hz => by
          have : ys.take len = [] := List.eq_nil_of_length_eq_zero hz
          rw [this]; simp
        have set_id : ∀ ob' : AObj, ob' = ob → σ.h.set id ob' = σ.h := fun ob' q => by
          subst q
          apply List.ext_getElem?
          intro k
          rw [List.getElem?_set]
          split
          · rename_i hk; subst hk; split
            · rw [hob]
            · rename_i hn; rw [List.getElem?_eq_none (by omega)]
          · rfl
        have run : ∀ w', (Builtin.copy_ #[t, t'] o.type #[act.eval d, act.eval s]).run P w = .ok (goInt ((min ys.length len : Nat) : Int)) w' → (execOp act.eval o).run P w = .ok (.value (.int .i64 (min ys.length len : Nat))) w' := by
          intro w' hr
          unfold execOp
          simp only [ho, resolve, invoke, builtin, Sem.run_bind, Sem.run_pure, Result.andThen_ok, List.map_toArray, List.map_cons, List.map_nil, hr]
          rfl
        by_cases hex : 0 < len ∨ off = 0
        case neg =>
          have hl0' : len = 0 := by omega
          subst hl0'
          refine ⟨_, _, w, F, own, run w ?_, .inl rfl, ?_, .pure (.v _)⟩
          · rw [hx0, ex]
            cases A <;> cases a0 <;> simp [Builtin.copy_, run_underlying ht, Builtin.lenOf, sizeOf, typeInfo, hi, Builtin.firstCells, loadCells, loadCellsFrom, storeCells]
          · rw [set_id _ (none' (by simp))]; exact h
        obtain ⟨cp, qc, q3⟩ := qe hex
        cases hg : e.g with
        | none =>
          have hcap0 : e.cap = 0 := by have := hO.2.2.2.2.2.2.2; rw [hg] at this; exact this
          have hl0 : len = 0 := by omega
          subst hl0
          rw [hg] at q3
          refine ⟨_, _, w, F, own, run w ?_, .inl rfl, ?_, .pure (.v _)⟩
          · rw [q3, ex]
            cases A <;> simp [Builtin.copy_, run_underlying ht, Builtin.lenOf, sizeOf, typeInfo, hi, Builtin.firstCells, loadCells, loadCellsFrom]
          · rw [set_id _ (none' (by simp))]; exact h
        | some g =>
          rw [hg] at q3
          simp only [Option.map_some] at q3
          obtain ⟨cur, fr, hblk, hnf, hcsz, hcell⟩ := hO.blk hg (.inl c5)
          rw [c3] at hcsz hcell
          generalize hm : min ys.length len = m at *
          have hml : m ≤ len := by omega
          have hmy : m ≤ ys.length := by omega
          have hvs : (news.take (m * i.size)).length = m * i.size := by
            rw [List.length_take, hnl]; exact Nat.min_eq_left (Nat.mul_le_mul_right _ hmy)
          have hoff : (off + m) * i.size ≤ cur.size := by rw [hcsz]; exact Nat.mul_le_mul_right _ (by omega)
          rw [Nat.add_mul] at hoff
          have hrun := run_storeCells_nf P g (off * i.size) ob.ty fr (news.take (m * i.size)) 0 cur w hblk hnf (by rw [hvs]; omega) (fun v hv => hn1 v (List.mem_of_mem_take hv))
          simp only [Nat.add_zero] at hrun
          have hfit : off * i.size + (news.take (m * i.size)).length ≤ cur.toList.length := by rw [hvs]; simpa using hoff
          generalize hcs' : (cur.toList.take (off * i.size) ++ news.take (m * i.size) ++ cur.toList.drop (off * i.size + (news.take (m * i.size)).length)).toArray = cs' at hrun
          have hat : ∀ j, cs'[j]? = if j < off * i.size then cur[j]? else if j < off * i.size + m * i.size then (news.take (m * i.size))[j - off * i.size]? else cur[j]? := fun j => by
            rw [← hcs', List.getElem?_toArray, splice_at _ _ _ hfit, hvs]
            simp
          have hfc : (Builtin.firstCells i.size m (.slice A ys.length c)).run P w = .ok (news.take (m * i.size)).toArray w := by
            cases A with
            | none =>
              have := hA rfl
              subst this
              have : m = 0 := by simpa using hmy
              subst this
              simp [Builtin.firstCells]
            | some ad =>
              exact run_firstCells_some w i.size m ad _ _ (news.take (m * i.size)) hvs (fun j v q => hncell ad rfl j v (by rw [List.getElem?_take] at q; split at q; exact q; cases q))
          have hmin : Nat.min ys.length len = m := hm
          refine ⟨_, _, _, F, own, run _ ?_, .inl rfl, h.set he1 hob hg (by rw [hO.2.1]; exact hO.2.2.1) cs' rfl rfl rfl rfl ?_ ?_ ?_ ?_ ?_, .pure (.v _)⟩
          · rw [q3, ex]
            simp [Builtin.copy_, run_underlying ht, Builtin.lenOf, sizeOf, typeInfo, hi, hmin, hfc, hrun]
          · simp only [List.length_append, List.length_take, List.length_drop]; omega
          · intro k z hz
            simp only at hz ⊢
            rw [splice_at _ _ _ (by rw [htl]; omega), htl] at hz
            rw [c3]
            split at hz
            · rw [← c3]; exact hcl k z hz
            · split at hz
              · rw [List.getElem?_take] at hz
                split at hz
                · exact hycl _ z hz
                · cases hz
              · rw [← c3]; exact hcl k z hz
          · rw [← hcs']
            simp only [List.size_toArray, List.length_append, List.length_take, List.length_drop, hvs, Array.length_toList, hcsz, c3]
            rw [hcsz] at hoff
            omega
          · intro j z hj hz
            have : ob.fz * ob.sz ≤ off * i.size := by rw [c3]; exact Nat.mul_le_mul_right _ hp
            rw [hat j, if_pos (by omega)]
            rw [cell_of_row w g j cur ob.ty fr hblk] at hz
            exact hz
          · intro k j z a hz hb
            simp only at hz
            rw [c3]
            have hjl : j < i.size := by
              have : z.cells.length = i.size := by
                rw [splice_at _ _ _ (by rw [htl]; omega), htl] at hz
                split at hz
                · rw [← c3]; exact hcl k z hz
                · split at hz
                  · rw [List.getElem?_take] at hz
                    split at hz
                    · exact hycl _ z hz
                    · cases hz
                  · rw [← c3]; exact hcl k z hz
              rw [← this]; exact (List.getElem?_eq_some_iff.1 hb).1
            rw [splice_at _ _ _ (by rw [htl]; omega), htl] at hz
            rw [hat]
            split at hz
            · rename_i hk
              have : (k + 1) * i.size ≤ off * i.size := Nat.mul_le_mul_right _ hk
              rw [Nat.add_mul, Nat.one_mul] at this
              rw [if_pos (by omega)]
              exact hcell k j z a hz hb
            · rename_i hk
              have hk1 : off * i.size ≤ k * i.size := Nat.mul_le_mul_right _ (by omega)
              split at hz
              · rename_i hk2
                rw [List.getElem?_take] at hz
                split at hz
                · rename_i hk3
                  have h5 : (k - off + 1) * i.size ≤ m * i.size := Nat.mul_le_mul_right _ (by omega)
                  rw [Nat.add_mul, Nat.one_mul] at h5
                  have h6 : k * i.size = (k - off) * i.size + off * i.size := by rw [← Nat.add_mul]; congr 1; omega
                  rw [if_neg (by omega), if_pos (by omega)]
                  obtain ⟨y, a1, a2, a3⟩ := hnR _ j z a hz hb
                  refine ⟨y, ?_, a2, ?_⟩
                  · rw [show k * i.size + j - off * i.size = (k - off) * i.size + j by omega, List.getElem?_take, if_pos (by omega)]; exact a1
                  · unfold RC; rw [if_pos c4]; exact a3
                · cases hz
              · rename_i hk2
                have h5 : (off + m) * i.size ≤ k * i.size := Nat.mul_le_mul_right _ (by omega)
                rw [Nat.add_mul] at h5
                rw [if_neg (by omega), if_neg (by omega)]
                exact hcell k j z a hz hb
      · cases hs
    · cases hs
theorem bytesOf_at : ∀ {ys : List AV} {l : List UInt8}, bytesOf ys = some l → l.length = ys.length ∧ ∀ (k : Nat) (y : AV), ys[k]? = some y → ∃ n, y = .v (.int .u8 n) ∧ l[k]? = some (UInt8.ofNat n.toNat) := by
  intro ys
  induction ys with
  | nil => intro l h; cases h; exact ⟨rfl, fun k y q => by simp at q⟩
  | cons a ys ih =>
    intro l h
    simp only [bytesOf] at h
    split at h
    · rename_i b m hb hm
      cases h
      obtain ⟨h1, h2⟩ := ih hm
      refine ⟨by simp [h1], fun k y q => ?_⟩
      cases k with
      | zero =>
        simp at q; subst q
        unfold byteOf at hb
        split at hb
        · cases hb; exact ⟨_, rfl, rfl⟩
        · cases hb
      | succ k => simp at q; obtain ⟨n, e1, e2⟩ := h2 k y q; exact ⟨n, e1, by simpa using e2⟩
    · cases h
/-- Bytes as a string. -/
theorem ok_b2s (h : Inv Gl F own B w0 σ act w) {o : Oper} {s d e : TypeId} {x : Operand} (ho : o.op = .convert s d x) (hs1 : P.underlying s = some (.slice e)) (he : P.underlying e = some (.int .u8)) (hd : P.underlying d = some .string)
    {p : Prop} {r : AV} {h' : List AObj} (hs : step Gl σ (.b2s (cOpd x)) = some (p, r, h')) (hp : p) : Ok1 P Gl B w0 σ act w o r h' := by
  have hex := h.ev x
  simp only [step] at hs
  cases hy : elemsOf σ.h 1 (σ.val Gl (cOpd x)) with
  | none => rw [hy] at hs; cases hs
  | some ys =>
    rw [hy] at hs
    simp only at hs
    cases hb : bytesOf ys with
    | none => rw [hb] at hs; cases hs
    | some l =>
      rw [hb] at hs
      obtain ⟨_, h2⟩ := Prod.mk.inj (Option.some.inj hs)
      obtain ⟨rfl, rfl⟩ := Prod.mk.inj h2
      obtain ⟨⟨A, c, news, ex, hA, hAc, hnl, hncell, hn1, hnR⟩, hycl⟩ := src_sound h hex (by omega) hy
      obtain ⟨hl, hat⟩ := bytesOf_at hb
      have hrun : (Conv.bytesToString (.slice A ys.length c)).run P w = .ok (.string ⟨l.toArray⟩) w := by
        cases A with
        | none =>
          have := hA rfl
          subst this
          have : l = [] := List.eq_nil_of_length_eq_zero (by simpa using hl)
          subst this; rfl
        | some ad =>
          have hnat : ∀ k, k < ys.length → ∃ n, news[k]? = some (.int .u8 n) ∧ l[k]? = some (UInt8.ofNat n.toNat) := fun k hk => by
            obtain ⟨n, e1, e2⟩ := hat k ys[k] (List.getElem?_eq_getElem hk)
            obtain ⟨y, a1, _, a3⟩ := hnR k 0 ys[k] (.v (.int .u8 n)) (List.getElem?_eq_getElem hk) (by rw [e1]; rfl)
            have : y = .int .u8 n := by cases a3; rfl
            subst this
            exact ⟨n, by simpa using a1, e2⟩
          have key : ∃ ns : List Int, news = ns.map (Value.int .u8) ∧ l = ns.map (fun n => UInt8.ofNat n.toNat) := by
            refine ⟨news.map (fun v => match v with | .int _ n => n | _ => 0), ?_, ?_⟩
            · apply List.ext_getElem?
              intro k
              rw [List.getElem?_map, List.getElem?_map]
              rcases Nat.lt_or_ge k ys.length with hk | hk
              · obtain ⟨n, e1, _⟩ := hnat k hk
                rw [e1]; rfl
              · rw [List.getElem?_eq_none (by omega)]; rfl
            · apply List.ext_getElem?
              intro k
              rw [List.getElem?_map, List.getElem?_map]
              rcases Nat.lt_or_ge k ys.length with hk | hk
              · obtain ⟨n, e1, e2⟩ := hnat k hk
                rw [e1, e2]; rfl
              · rw [List.getElem?_eq_none (by omega), List.getElem?_eq_none (by omega)]; rfl
          obtain ⟨ns, e1, e2⟩ := key
          have hlen : news.length = ys.length := by simpa using hnl
          have hload : (loadCells ad ys.length).run P w = .ok (ns.map (Value.int .u8)).toArray w := by
            have := run_firstCells_some (P := P) w 1 ys.length ad ys.length c news hnl (hncell ad rfl)
            rw [← e1]
            simpa [Builtin.firstCells] using this
          rw [run_bytesToString w ad ys.length c ns hload, e2]
          congr 2
          have fold : ∀ (ns : List Int) (s : ByteArray), ns.foldl (fun r n => r.push (UInt8.ofNat n.toNat)) s = ⟨s.data ++ (ns.map fun n => UInt8.ofNat n.toNat).toArray⟩ := by
            intro ns
            induction ns with
            | nil => intro s; simp
            | cons n ns ih => intro s; rw [List.foldl_cons, ih]; simp [ByteArray.push]
          rw [fold]
          have e0 : ByteArray.empty.data = #[] := rfl
          rw [e0, Array.empty_append]
      refine ⟨_, _, w, F, own, ?_, .inl rfl, h, .pure (.v _)⟩
      unfold execOp
      simp only [ho, ex, Sem.run_bind, run_convert_bytes_string w s d e A ys.length c hs1 he hd, hrun, Result.andThen_ok, Sem.run_pure]
/-- A string as bytes. -/
theorem ok_s2b (h : Inv Gl F own B w0 σ act w) {o : Oper} {s d e : TypeId} {x : Operand} (ho : o.op = .convert s d x) (hs1 : P.underlying s = some .string) (hd : P.underlying d = some (.slice e)) (he : P.underlying e = some (.int .u8))
    {p : Prop} {r : AV} {h' : List AObj} (hs : step Gl σ (.s2b e (cOpd x)) = some (p, r, h')) (hp : p) : Ok1 P Gl B w0 σ act w o r h' := by
  have hex := h.ev x
  simp only [step] at hs
  split at hs
  · rename_i b hv
    rw [hv] at hex
    have ex := hex.v_inv
    obtain ⟨rfl, h2⟩ := Prod.mk.inj (Option.some.inj hs)
    obtain ⟨rfl, rfl⟩ := Prod.mk.inj h2
    have hcap := grownCap_ge w b.size 0 e
    have hcm := grownCap_le_maxLen w b.size 0 e (by simp only [maxLen]; omega)
    have hl : (bytesAV b).length = b.size := by simp [bytesAV]
    have hdr : Inv Gl F own B w0 σ act w.drew := h.same rfl rfl rfl rfl
    have hcs : (Lib.bytesCells w e b).size = grownCap w b.size 0 e := by simp [Lib.bytesCells]; omega
    have hnew := hdr.new (Lib.bytesCells w e b) ⟨e, 1, 0, true, bytesAV b⟩ (grownCap w b.size 0 e) (by simp) rfl (by simp only [hl]; exact hcap) hcm (fun k y q => by
      simp only [bytesAV, List.getElem?_map] at q
      cases hc : b.data.toList[k]? with
      | none => rw [hc] at q; cases q
      | some c => rw [hc] at q; cases q; rfl) (by rw [hcs, Nat.mul_one]) (fun k j y a q q' => by
      simp only [bytesAV, List.getElem?_map] at q
      cases hc : b.data.toList[k]? with
      | none => rw [hc] at q; cases q
      | some c =>
        rw [hc] at q; cases q
        match j, q' with
        | 0, q' =>
          cases q'
          have hk : k < b.data.size := by have := (List.getElem?_eq_some_iff.1 hc).1; simpa using this
          refine ⟨.int .u8 c.toNat, ?_, rfl, RP.v _⟩
          rw [Nat.mul_one, Nat.add_zero, Lib.bytesCells, Array.getElem?_append_left (by simpa using hk)]
          have hc' : b.data[k]? = some c := by simpa using hc
          rw [Array.getElem?_map, hc']; rfl
        | j + 1, q' => simp [AV.cells] at q')
    have hmark := hnew.mark (w' := Lib.bytesWorld w e b) (g := w.heap.size) rfl rfl rfl (fun k hk => ?_) ?_ (Nat.le_trans h.room h.below.size) (fun r => r own.length _ own_last rfl)
    · refine ⟨_, .slice (some ⟨w.heap.size, 0, none⟩) b.size (grownCap w b.size 0 e), _, F, _, ?_, .inl rfl, hmark, ?_⟩
      · unfold execOp
        simp only [ho, ex, Sem.run_bind, Lib.run_convert_string_bytes w s d e b hs1 hd he, Result.andThen_ok, Sem.run_pure]
      · rw [← h.hl, ← hl]
        refine .row _ _ _ _ _ _ _ own_last (by simp) ⟨_, _, rfl, by rw [hl]; exact hcap, fun _ => rfl⟩ (fun _ => ⟨rfl, by simp, fun _ => ⟨_, Nat.le_of_eq (Nat.zero_add _), ?_⟩⟩) (by first | omega | assumption | (simp; done) | (simp; omega) | (dsimp only; omega))
        simp [hl]
    · rcases Nat.lt_or_ge k w.heap.size with q | q
      · rw [Lib.bytesWorld_at_old w e b k q]; exact (Below.heap_alloc w.drew _ k q).symm
      · rw [Array.getElem?_eq_none (by rw [Lib.bytesWorld_size]; omega), Array.getElem?_eq_none (by simp; omega)]
    · exact ⟨_, _, _, _, heap_alloc_new w.drew _, Lib.bytesWorld_at_new w e b, fun j hj q => by omega, by rw [Lib.bytesWorld_size]; simp⟩
  · cases hs
theorem set_last {l : List AObj} {a b : AObj} : (l ++ [a]).set l.length b = l ++ [b] := by
  rw [List.set_append_right _ _ (Nat.le_refl _)]; simp
/-- An array that lies in a variable: it stays as it is. -/
theorem ok_boxz (h : Inv Gl F own B w0 σ act w) {o : Oper} {t : TypeId} {x : Operand} (ho : o.op = .box t x) {sz : Nat} {k : IntKind} (h0 : 0 < sz)
    {p : Prop} {r : AV} {h' : List AObj} (hs : step Gl σ (.boxz t sz k (cOpd x)) = some (p, r, h')) (hp : p) : Ok1 P Gl B w0 σ act w o r h' := by
  have he := h.ev x
  simp only [step] at hs
  split at hs
  · rename_i cs hv
    split at hs
    · rename_i hc
      obtain ⟨c1, c2, c3⟩ := hc
      obtain ⟨_, h2⟩ := Prod.mk.inj (Option.some.inj hs)
      obtain ⟨rfl, rfl⟩ := Prod.mk.inj h2
      rw [hv] at he
      obtain ⟨xs, hx, hl, h1, hR⟩ := he.agg_inv
      have hst : stCells false (.agg cs) = some cs := by
        show (if cs.all (st1 false) = true then some cs else none) = some cs
        rw [if_pos]
        refine List.all_eq_true.2 fun a ha => ?_
        obtain ⟨z, rfl⟩ := allV_v (List.all_eq_true.1 c3 a ha)
        obtain ⟨j, hj, hz⟩ := List.mem_iff_getElem.1 ha
        have q := hR j xs[j] (.v z) (Array.getElem?_eq_getElem (by omega)) (by rw [List.getElem?_eq_getElem hj, hz])
        have := q.v_inv
        have q1 := h1 j xs[j] (Array.getElem?_eq_getElem (by omega))
        rw [this] at q1
        exact q1
      have hb : Ok1 P Gl B w0 σ act w o (.ptr σ.h.length 1 0 0) (σ.h ++ [⟨t, sz, 0, false, [.agg cs]⟩]) := by
        refine ok_box (p := True) h ho h0 ?_ trivial
        simp only [step, hv, hst]
        rw [if_pos c1]
      obtain ⟨nx, v, w', F', own', b1, b2, b3, b4⟩ := hb
      have hlast : (σ.h ++ [(⟨t, sz, 0, false, [.agg cs]⟩ : AObj)])[σ.h.length]? = some ⟨t, sz, 0, false, [.agg cs]⟩ := by simp
      have i1 := b3.toPr hlast (by simpa [AV.cells] using c3)
      have i1 : Inv Gl F' own' B w0 ⟨σ.t, σ.h ++ [⟨t, sz, 0, true, [.agg cs]⟩]⟩ act w' := by rw [set_last] at i1; exact i1
      obtain ⟨F2, f1, f2, _⟩ := i1.freeze1 (id := σ.h.length) (ob := ⟨t, sz, 0, true, [.agg cs]⟩) (by simp)
      rw [set_last] at f2
      exact ⟨nx, v, w', F2, own', b1, b2, f2, b4.mono f1 (Le.refl _)⟩
    · cases hs
  · cases hs
/-- A function that has captured what it needs. -/
theorem ok_clo (h : Inv Gl F own B w0 σ act w) {o : Oper} {f : FuncId} {cs : Array Operand} (ho : o.op = .makeFunc (.func f) #[] cs)
    {p : Prop} {r : AV} {h' : List AObj} (hs : step Gl σ (.clo f (cs.toList.map cOpd)) = some (p, r, h')) (hp : p) : Ok1 P Gl B w0 σ act w o r h' := by
  simp only [step] at hs
  obtain ⟨_, h2⟩ := Prod.mk.inj (Option.some.inj hs)
  obtain ⟨rfl, rfl⟩ := Prod.mk.inj h2
  have run : (execOp act.eval o).run P w = .ok (.value (.func (.func f) #[] (cs.map act.eval))) w := by
    unfold execOp
    simp only [ho]
    simp [Instr.makeFunc]
  refine Ok1.mk h run (.clo f _ _ (by simp) fun j x a p q => ?_)
  have hj : j < cs.size := by have := (Array.getElem?_eq_some_iff.1 p).1; simpa using this
  rw [Array.getElem?_map, Array.getElem?_eq_getElem hj] at p
  cases p
  simp [List.getElem?_eq_getElem, hj] at q
  subst q
  exact h.ev cs[j]
end
end Abs
end Go.Proofs.YtnhgeocdffhkjaaDoor
