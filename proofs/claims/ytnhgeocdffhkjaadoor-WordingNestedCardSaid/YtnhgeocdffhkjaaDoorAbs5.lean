/- The abstract machine: append. -/
import Derived.Test.YtnhgeocdffhkjaaDoorAbs4
import Derived.Lib.AppendStr
namespace Go.Proofs.YtnhgeocdffhkjaaDoor
namespace Abs
open Go.RowKit
set_option linter.unusedVariables false
set_option linter.unusedSimpArgs false

section
variable {P : Program} {Gl : Nat → Option (List AV)} {F : Addr → Option Value} {own : List Ent} {B : Nat} {w0 : W0} {σ : St} {act : Act} {w w' : World}

theorem Le.set {id : Nat} {e e' : Ent} (he : own[id]? = some e) (hle : e' = e ∨ (e.G < e'.G ∧ 0 < e.sz ∧ 0 < e'.sz)) : Le own (own.set id e') := fun k f hf => by
  by_cases hk : id = k
  · subst hk
    rw [he] at hf
    cases hf
    exact ⟨e', by rw [List.getElem?_set_self (List.getElem?_eq_some_iff.1 he).1], hle⟩
  · exact ⟨f, by rw [List.getElem?_set_ne hk]; exact hf, .inl rfl⟩

/-- One block of the call's own has turned. -/
theorem Inv.upd (h : Inv Gl F own B w0 σ act w) {id : Nat} {e e' : Ent} {ob ob' : AObj} (he : own[id]? = some e) (hob : σ.h[id]? = some ob) (hle : e' = e ∨ (e.G < e'.G ∧ 0 < e.sz ∧ 0 < e'.sz)) (hF : ∀ a x, F a = some x → w'.cell? a = some x)
    (hoth : ∀ (id' : Nat) (f : Ent) (g : Nat), id' ≠ id → own[id']? = some f → f.g = some g → w'.heap[g]? = w.heap[g]? ∧ e'.g ≠ some g) (hO' : ObjR F (own.set id e') w' e' ob') (hb : Below B w0.w w') (hbase : ∀ g, e'.g = some g → B ≤ g)
    (hpw : ∀ g, g < w.heap.size → NoOwn own g → w'.heap[g]? = w.heap[g]?) (hpe : ∀ g, e'.g = some g → e.g = some g ∨ w.heap.size ≤ g) :
    Inv Gl F (own.set id e') B w0 ⟨σ.t, σ.h.set id ob'⟩ act w' := by
  have hlt : id < own.length := (List.getElem?_eq_some_iff.1 he).1
  have hlt' : id < σ.h.length := (List.getElem?_eq_some_iff.1 hob).1
  have hLe : Le own (own.set id e') := Le.set he hle
  have get : ∀ (k : Nat) (f : Ent), (own.set id e')[k]? = some f → (k = id ∧ f = e') ∨ (k ≠ id ∧ own[k]? = some f) := fun k f hf => by
    by_cases hk : id = k
    · subst hk; rw [List.getElem?_set_self hlt] at hf; cases hf; exact .inl ⟨rfl, rfl⟩
    · rw [List.getElem?_set_ne hk] at hf; exact .inr ⟨fun q => hk q.symm, hf⟩
  refine h.turn (fun _ _ q => q) hLe hF (by simp [h.hl]) (fun k f o' p q => ?_) (fun i j f f' g p q r s => ?_) hb (fun k f g p q => ?_) (hpw := hpw) (hpo := fun k f g p q => by
    rcases get k f p with ⟨rfl, rfl⟩ | ⟨hk, hf⟩
    · rcases hpe g q with r | r
      · exact .inl fun n => n k e he r
      · exact .inr r
    · exact .inl fun n => n k f hf q)
  · have q' : (σ.h.set id ob')[k]? = some o' := q
    rcases get k f p with ⟨rfl, rfl⟩ | ⟨hk, hf⟩
    · rw [List.getElem?_set_self hlt'] at q'; cases q'; exact hO'
    · rw [List.getElem?_set_ne (fun q => hk q.symm)] at q'
      have hO := h.objs k f o' hf q'
      exact hO.mono (fun _ _ r => r) hLe (fun g hg => (hoth k f g hk hf hg).1) (fun g j hg hj => hO.fz hg hj)
  · rcases get i f p with ⟨rfl, rfl⟩ | ⟨hi, hf⟩ <;> rcases get j f' q with ⟨rfl, rfl⟩ | ⟨hj, hf'⟩
    · rfl
    · exact absurd r (hoth j f' g hj hf' s).2
    · exact absurd s (hoth i f g hi hf r).2
    · exact h.inj i j f f' g hf hf' r s
  · rcases get k f p with ⟨rfl, rfl⟩ | ⟨hk, hf⟩
    · exact hbase g q
    · exact h.base k f g hf q

/-- A ghost row: nil. -/
theorem Inv.newNil (h : Inv Gl F own B w0 σ act w) (ty sz : Nat) (pr : Bool) (hsz : 0 < sz) : Inv Gl F (own ++ [⟨none, 0, sz, 0⟩]) B w0 ⟨σ.t, σ.h ++ [⟨ty, sz, 0, pr, []⟩]⟩ act w := by
  have get : ∀ (k : Nat) (f : Ent), (own ++ [(⟨none, 0, sz, 0⟩ : Ent)])[k]? = some f → (k = own.length ∧ f = ⟨none, 0, sz, 0⟩) ∨ (k < own.length ∧ own[k]? = some f) := fun k f hf => by
    rcases Nat.lt_or_ge k own.length with hk | hk
    · rw [List.getElem?_append_left hk] at hf; exact .inr ⟨hk, hf⟩
    · rw [List.getElem?_append_right hk] at hf
      have h0 : k - own.length = 0 := by
        rcases Nat.eq_zero_or_pos (k - own.length) with h0 | h0
        · exact h0
        · rw [List.getElem?_eq_none (by simp; omega)] at hf; cases hf
      rw [h0] at hf
      simp at hf
      exact .inl ⟨by omega, hf.symm⟩
  refine h.turn (fun _ _ q => q) (Le.snoc _ _) h.sub (by simp [h.hl]) (fun k f o' p q => ?_) (fun i j f f' g p q r s => ?_) h.below (fun k f g p q => ?_) (hpo := snoc_own fun g q => by cases q)
  · have q' : (σ.h ++ [(⟨ty, sz, 0, pr, []⟩ : AObj)])[k]? = some o' := q
    rcases get k f p with ⟨rfl, rfl⟩ | ⟨hk, hf⟩
    · rw [h.hl, List.getElem?_append_right (Nat.le_refl _)] at q'
      simp at q'
      subst q'
      exact ObjC.r ⟨rfl, rfl, hsz, Nat.le_refl _, by simp [maxLen], by simp, fun i x hx => by simp at hx, rfl⟩
    · rw [List.getElem?_append_left (by rw [← h.hl]; exact hk)] at q'
      have hO := h.objs k f o' hf q'
      exact hO.mono (fun _ _ r => r) (Le.snoc _ _) (fun g hg => rfl) (fun g j hg hj => hO.fz hg hj)
  · rcases get i f p with ⟨rfl, rfl⟩ | ⟨hi, hf⟩
    · cases r
    · rcases get j f' q with ⟨rfl, rfl⟩ | ⟨hj, hf'⟩
      · cases s
      · exact h.inj i j f f' g hf hf' r s
  · rcases get k f p with ⟨rfl, rfl⟩ | ⟨hk, hf⟩
    · cases q
    · exact h.base k f g hf q

/-- The source of an append. -/
structure Src (F : Addr → Option Value) (w : World) (sz : Nat) (x : Value) (ys : List AV) : Prop where
  ex : ∃ (A : Option Addr) (c : Nat) (news : List Value), x = .slice A ys.length c ∧ (A = none → ys = []) ∧ (A = none → c = 0) ∧ news.length = ys.length * sz ∧ (∀ ad, A = some ad → ∀ (j : Nat) (u : Value), news[j]? = some u → w.cell? (ad.add j) = some u) ∧ (∀ u ∈ news, u.oneCell' = true) ∧
    (∀ (i j : Nat) (e a : AV), ys[i]? = some e → e.cells[j]? = some a → ∃ y, news[i * sz + j]? = some y ∧ y.oneCell' = true ∧ RP F y a)
  cl : ∀ (i : Nat) (e : AV), ys[i]? = some e → e.cells.length = sz

theorem src_sound (h : Inv Gl F own B w0 σ act w) {x : Value} {a : AV} (hR : R F own x a) {sz : Nat} (hsz : 0 < sz) {ys : List AV} (hs : elemsOf σ.h sz a = some ys) : Src F w sz x ys := by
  have idx : ∀ (k n : Nat), k < n * sz → k / sz < n ∧ k % sz < sz ∧ k / sz * sz + k % sz = k := fun k n hk =>
    ⟨(Nat.div_lt_iff_lt_mul hsz).2 hk, Nat.mod_lt _ hsz, by rw [Nat.mul_comm]; exact Nat.div_add_mod k sz⟩
  have lt_of : ∀ (i j n : Nat), i < n → j < sz → i * sz + j < n * sz := fun i j n hi hj => by
    have : (i + 1) * sz ≤ n * sz := Nat.mul_le_mul_right _ hi
    rw [Nat.add_mul, Nat.one_mul] at this; omega
  unfold elemsOf at hs
  split at hs
  · rename_i sz' xs
    split at hs
    · rename_i e
      subst e
      cases hs
      have hq := hR.list_inv
      cases hq with
      | nil => exact ⟨⟨none, 0, [], rfl, fun _ => rfl, fun _ => rfl, by simp, (fun ad q => by cases q), (fun u q => by simp at q), (fun i j e a q => by simp at q)⟩, fun i e q => by simp at q⟩
      | list ad n cap sz xs cv hn hc hz hF hR' =>
        have hnews : ∀ (k : Nat) (u : Value), ((List.range (ys.length * sz')).map cv)[k]? = some u → k < ys.length * sz' ∧ u = cv k := fun k u hu => by
          have hk : k < ys.length * sz' := by have := (List.getElem?_eq_some_iff.1 hu).1; simpa using this
          simp [List.getElem?_eq_getElem, hk] at hu
          exact ⟨hk, hu.symm⟩
        have cell : ∀ k, k < ys.length * sz' → F (ad.add k) = some (cv k) ∧ (cv k).oneCell' = true := fun k hk => by
          obtain ⟨k1, k2, k3⟩ := idx k _ hk
          have e1 : ys[k / sz']? = some ys[k / sz'] := List.getElem?_eq_getElem k1
          have hl := hz _ _ e1
          have e2 : (ys[k / sz']).cells[k % sz']? = some ((ys[k / sz']).cells[k % sz']'(by omega)) := List.getElem?_eq_getElem (by omega)
          have := hF _ _ _ _ e1 e2
          rw [k3] at this
          exact this
        refine ⟨⟨some ad, cap, (List.range (ys.length * sz')).map cv, by rw [hn], (fun q => by cases q), (fun q => by cases q), by simp, ?_, ?_, ?_⟩, hz⟩
        · rintro ad' rfl' j u hu
          cases rfl'
          obtain ⟨hj, rfl⟩ := hnews j u hu
          exact h.sub _ _ (cell j hj).1
        · intro u hu
          obtain ⟨j, hj, rfl⟩ := List.mem_iff_getElem.1 hu
          obtain ⟨hj', e⟩ := hnews j _ (List.getElem?_eq_getElem hj)
          rw [e]; exact (cell j hj').2
        · intro i j e a q q'
          have hi : i < ys.length := (List.getElem?_eq_some_iff.1 q).1
          have hj : j < sz' := by rw [← hz i e q]; exact (List.getElem?_eq_some_iff.1 q').1
          have hlt := lt_of i j _ hi hj
          refine ⟨cv (i * sz' + j), ?_, (cell _ hlt).2, hR' i j e a q q'⟩
          simp [List.getElem?_eq_getElem, hlt]
    · cases hs
  · cases hs
    have := hR.v_inv
    subst this
    exact ⟨⟨none, 0, [], rfl, fun _ => rfl, fun _ => rfl, by simp, (fun ad q => by cases q), (fun u q => by simp at q), (fun i j e a q => by simp at q)⟩, fun i e q => by simp at q⟩
  · rename_i id G sz' off len
    obtain ⟨e, he1, hG, hst, hx⟩ := hR.row_inv
    obtain ⟨ob, hob, hO⟩ := h.own_obj he1
    have hO := hO.of_e (hR.row_sz he1)
    rw [hob] at hs
    simp only at hs
    split at hs
    · rename_i hc
      obtain ⟨c1, c2, c3, c4⟩ := hc
      subst c2
      cases hs
      obtain ⟨q1, q2, qe⟩ := hx (by rw [hO.1, c1])
      by_cases hex : 0 < len ∨ off = 0
      case neg =>
        obtain ⟨a, cap, hx0, _, ha'⟩ := hst
        have hl0 : len = 0 := by omega
        subst hl0
        have := ha' (by omega)
        cases a with
        | none => cases this
        | some ad => exact ⟨⟨some ad, cap, [], by rw [hx0]; simp, (fun q => by cases q), (fun q => by cases q), by simp, (fun ad' q j u hu => by simp at hu), (fun u q => by simp at q), (fun i j e a q => by simp at q)⟩, fun i e q => by simp at q⟩
      obtain ⟨cp, qc, q3⟩ := qe hex
      have hcpl : len ≤ cp := by obtain ⟨_, _, e1, e2, _⟩ := hst; rw [q3] at e1; injection e1 with _ _ e1; omega
      have hcl := hO.2.2.2.2.2.2.1
      have hlen : ((ob.es.drop off).take len).length = len := by simp; omega
      have hel : ∀ (i : Nat) (y : AV), ((ob.es.drop off).take len)[i]? = some y → i < len ∧ ob.es[off + i]? = some y := fun i y hy => by
        rw [List.getElem?_take] at hy
        split at hy
        · rw [List.getElem?_drop] at hy; exact ⟨by assumption, hy⟩
        · cases hy
      have hcl' : ∀ (i : Nat) (y : AV), ((ob.es.drop off).take len)[i]? = some y → y.cells.length = sz' := fun i y hy => by rw [← c3]; exact hcl _ _ (hel i y hy).2
      refine ⟨?_, hcl'⟩
      rw [hlen]
      cases hg : e.g with
      | none =>
        have hcap : e.cap = 0 := by have := hO.2.2.2.2.2.2.2; rw [hg] at this; exact this
        have hG0 : e.G = 0 := by have := hO.2.2.2.1; omega
        have hlen0 : len = 0 := by omega
        subst hlen0
        rw [hg] at q3
        exact ⟨none, _, [], q3, (fun _ => by simp), (fun _ => by omega), by simp, (fun ad q => by cases q), (fun u q => by simp at q), (fun i j e a q => by simp at q)⟩
      | some g =>
        rw [hg] at q3
        obtain ⟨cs, fr, hblk, _, hcsz, hcell⟩ := hO.blkF hg
        rw [c3] at hcsz hcell
        have hcap : e.G ≤ e.cap := hO.2.2.2.1
        have hle : (off + len) * sz' ≤ cs.size := by rw [hcsz]; exact Nat.mul_le_mul_right _ (by omega)
        rw [Nat.add_mul] at hle
        have hn : ∀ (j : Nat), j < len * sz' → ((cs.toList.drop (off * sz')).take (len * sz'))[j]? = cs[off * sz' + j]? := fun j hj => by
          rw [List.getElem?_take, if_pos hj, List.getElem?_drop]; simp
        have hnl : ((cs.toList.drop (off * sz')).take (len * sz')).length = len * sz' := by simp; omega
        refine ⟨some ⟨g, off * sz', none⟩, _, (cs.toList.drop (off * sz')).take (len * sz'), q3, (fun q => by cases q), (fun q => by cases q), hnl, ?_, ?_, ?_⟩
        · rintro ad' rfl' j u hu
          cases rfl'
          have hj : j < len * sz' := by rw [← hnl]; exact (List.getElem?_eq_some_iff.1 hu).1
          rw [hn j hj] at hu
          rw [Addr.add_lit, cell_of_row w g _ cs ob.ty fr hblk]; exact hu
        · intro u hu
          obtain ⟨j, hju⟩ := List.mem_iff_getElem?.1 hu
          have hj := (List.getElem?_eq_some_iff.1 hju).1
          rw [hnl] at hj
          rw [hn j hj] at hju
          obtain ⟨k1, k2, k3⟩ := idx j _ hj
          have e1 : ob.es[off + j / sz']? = some (ob.es[off + j / sz']'(by omega)) := List.getElem?_eq_getElem (by omega)
          have hl := hcl _ _ e1
          rw [c3] at hl
          have e2 := List.getElem?_eq_getElem (l := (ob.es[off + j / sz']'(by omega)).cells) (i := j % sz') (by omega)
          obtain ⟨y, a1, a2, _⟩ := hcell _ _ _ _ e1 e2
          rw [Nat.add_mul, Nat.add_assoc, k3, hju] at a1
          cases a1
          exact a2
        · intro i j y a q q'
          obtain ⟨hi, q0⟩ := hel i y q
          have hj : j < sz' := by rw [← hcl' i y q]; exact (List.getElem?_eq_some_iff.1 q').1
          obtain ⟨v, a1, a2, a3⟩ := hcell _ _ _ _ q0 q'
          refine ⟨v, ?_, a2, ?_⟩
          · rw [hn _ (lt_of i j _ hi hj), ← a1, Nat.add_mul, Nat.add_assoc]
          · unfold RC at a3; rw [if_pos c4] at a3; exact a3
    · cases hs
  · cases hs

/-- What is in a new block behind an append. -/
theorem grown_cells {sz m n : Nat} {olds news : List Value} {es ys : List AV} {zs : Array Value} (hn : es.length = n) (hm : ys.length = m) (ho : olds.length = n * sz) (hl : news.length = m * sz)
    (hO : ∀ (i j : Nat) (e a : AV), es[i]? = some e → e.cells[j]? = some a → ∃ y, olds[i * sz + j]? = some y ∧ y.oneCell' = true ∧ RP F y a) (hce : ∀ (i : Nat) (e : AV), es[i]? = some e → e.cells.length = sz)
    (hN : ∀ (i j : Nat) (e a : AV), ys[i]? = some e → e.cells[j]? = some a → ∃ y, news[i * sz + j]? = some y ∧ y.oneCell' = true ∧ RP F y a) (hcy : ∀ (i : Nat) (e : AV), ys[i]? = some e → e.cells.length = sz) :
    (∀ (i : Nat) (e : AV), (es ++ ys)[i]? = some e → e.cells.length = sz) ∧
    ∀ (i j : Nat) (e a : AV), (es ++ ys)[i]? = some e → e.cells[j]? = some a → ∃ y, (olds.toArray ++ news.toArray ++ zs)[i * sz + j]? = some y ∧ y.oneCell' = true ∧ RP F y a := by
  have lt_of : ∀ (i j n : Nat), i < n → j < sz → i * sz + j < n * sz := fun i j n hi hj => by
    have : (i + 1) * sz ≤ n * sz := Nat.mul_le_mul_right _ hi
    rw [Nat.add_mul, Nat.one_mul] at this; omega
  refine ⟨fun i e q => ?_, fun i j e a q q' => ?_⟩
  · rcases Nat.lt_or_ge i es.length with hi | hi
    · rw [List.getElem?_append_left hi] at q; exact hce i e q
    · rw [List.getElem?_append_right hi] at q; exact hcy _ e q
  · rcases Nat.lt_or_ge i es.length with hi | hi
    · rw [List.getElem?_append_left hi] at q
      have hj : j < sz := by rw [← hce i e q]; exact (List.getElem?_eq_some_iff.1 q').1
      obtain ⟨y, a1, a2, a3⟩ := hO i j e a q q'
      have hlt := lt_of i j n (by omega) hj
      refine ⟨y, ?_, a2, a3⟩
      rw [Array.getElem?_append_left (by simp; omega), Array.getElem?_append_left (by simp; omega)]
      simpa using a1
    · rw [List.getElem?_append_right hi] at q
      have hj : j < sz := by rw [← hcy _ e q]; exact (List.getElem?_eq_some_iff.1 q').1
      have hi2 : i - es.length < m := by rw [← hm]; exact (List.getElem?_eq_some_iff.1 q).1
      obtain ⟨y, a1, a2, a3⟩ := hN _ j e a q q'
      have hlt := lt_of (i - es.length) j m hi2 hj
      have heq : i * sz + j = n * sz + ((i - es.length) * sz + j) := by
        rw [← Nat.add_assoc, ← Nat.add_mul]; congr 2; omega
      refine ⟨y, ?_, a2, a3⟩
      rw [Array.getElem?_append_left (by simp; omega), Array.getElem?_append_right (by simp; omega)]
      rw [← a1]
      simp
      congr 1
      omega

/-- What appending a value does: what is appended are so many cells. -/
def AppRuns (P : Program) (w : World) (t tx ty et : TypeId) (i : TypeInfo) (z x : Value) (n : Nat) (news : List Value) : Prop :=
  (n = 0 → ∀ (a : Option Addr) (m cap : Nat), m ≤ cap → (Builtin.append_ #[t, tx] ty #[.slice a m cap, x]).run P w = .ok (.slice a m cap) w) ∧
  (0 < n → n * i.bytes ≤ maxB → n ≤ 4611686018427387904 → (Builtin.append_ #[t, tx] ty #[.slice none 0 0, x]).run P w = .ok (.slice (some ⟨w.heap.size, 0, none⟩) n (grownCap w n 0 et)) (w.drew.alloc (.cells (news.toArray ++ Builtin.zeroCells z.cells (grownCap w n 0 et - n)) et))) ∧
  (0 < n → ∀ (g len cp : Nat) (cur : Array Value) (fr : Nat × Nat), w.heap[g]? = some (.cells cur et fr) → NoFz fr cur.size → len + n ≤ cp → len * i.size + news.length ≤ cur.size → (Builtin.append_ #[t, tx] ty #[.slice (some ⟨g, 0, none⟩) len cp, x]).run P w = .ok (.slice (some ⟨g, 0, none⟩) (len + n) cp) (w.setRow g (cur.toList.take (len * i.size) ++ news ++ cur.toList.drop (len * i.size + news.length)).toArray)) ∧
  (0 < n → ∀ (g len cp : Nat) (olds : List Value), olds.length = len * i.size → (∀ j v, olds[j]? = some v → w.cell? ((⟨g, 0, none⟩ : Addr).add j) = some v) → cp < len + n → len + n ≤ 4611686018427387904 → Builtin.nextslicecap (len + n) cp * i.bytes ≤ 281474976710656 → (Builtin.append_ #[t, tx] ty #[.slice (some ⟨g, 0, none⟩) len cp, x]).run P w = .ok (.slice (some ⟨w.heap.size, 0, none⟩) (len + n) (grownCap w (len + n) cp et)) (w.drew.alloc (.cells (olds.toArray ++ news.toArray ++ Builtin.zeroCells z.cells (grownCap w (len + n) cp et - (len + n))) et)))
theorem appRuns_slice {t ty et : TypeId} {i : TypeInfo} {z : Value} (ht : P.underlying t = some (.slice et)) (hi : P.info? et = some i) (hz : i.zero = some z) (A : Option Addr) (n c : Nat) (news : List Value) (hA : A = none → n = 0) (hnl : news.length = n * i.size) (hncell : ∀ ad, A = some ad → ∀ j v, news[j]? = some v → w.cell? (ad.add j) = some v) (hn1 : ∀ u ∈ news, u.oneCell' = true) : AppRuns P w t t ty et i z (.slice A n c) n news := by
  refine ⟨fun hn a m cap hle => ?_, fun hpos hb hl => ?_, fun hpos g len cp cur fr hg hnf hroom hfit => ?_, fun hpos g len cp olds hlo holds hcp hl hfit => ?_⟩
  · subst hn
    cases A with
    | none => cases a <;> simp [Builtin.append_, run_underlying ht, sizeOf, typeInfo, hi, Builtin.lenOf, Builtin.firstCells, hle, storeCells]
    | some ad => cases a <;> simp [Builtin.append_, run_underlying ht, sizeOf, typeInfo, hi, Builtin.lenOf, Builtin.firstCells, loadCells, loadCellsFrom, hle, storeCells]
  · cases A with
    | none => have := hA rfl; omega
    | some ad => exact run_append_nil w t ty et i z ht hi hz ad n c news hnl (hncell ad rfl) hpos (by omega) (by unfold maxB at hb; omega)
  · cases A with
    | none => have := hA rfl; omega
    | some ad =>
      have hf := run_firstCells_some (P := P) w i.size n ad n c news hnl (hncell ad rfl)
      have hst := run_storeCells_nf P g (len * i.size) et fr news 0 cur w hg hnf (by simpa using hfit) hn1
      simp only [Nat.add_zero] at hst
      simp [Builtin.append_, run_underlying ht, sizeOf, typeInfo, hi, Builtin.lenOf, hroom, hf, Addr.add_lit, hst]
  · cases A with
    | none => have := hA rfl; omega
    | some ad => exact run_append_grow (P := P) w t ty et i z ht hi hz ⟨g, 0, none⟩ len cp olds hlo holds ad n c news hnl (hncell ad rfl) hcp (by omega) hfit
theorem appRuns_string {t u ty et : TypeId} {i : TypeInfo} {z : Value} (ht : P.underlying t = some (.slice et)) (hu : P.underlying u = some .string) (hi : P.info? et = some i) (hz : i.zero = some z) (hs1 : i.size = 1) (s : ByteArray) : AppRuns P w t u ty et i z (.string s) s.size (Lib.strCells s) := by
  refine ⟨fun hn a m cap hle => ?_, fun hpos hb hl => ?_, fun hpos g len cp cur fr hg hnf hroom hfit => ?_, fun hpos g len cp olds hlo holds hcp hl hfit => ?_⟩
  · have hf := Lib.run_firstCells_string (P := P) w i.size s
    have h0 : Lib.strCells s = [] := List.eq_nil_of_length_eq_zero (by rw [Lib.strCells_length]; exact hn)
    rw [hn, h0] at hf
    cases a <;> simp [Builtin.append_, run_underlying ht, run_underlying hu, sizeOf, typeInfo, hi, Builtin.lenOf, hn, hf, hle, storeCells]
  · have hr := run_append_nil_string (P := P) w t u ty et i z ht hu hi hz s hpos (by omega) (by unfold maxB at hb; omega)
    have e1 : (s.data.map fun b => Value.int .u8 b.toNat) = (Lib.strCells s).toArray := by
      apply Array.ext'
      simp [Lib.strCells]
    rw [e1] at hr
    exact hr
  · have hf := Lib.run_firstCells_string (P := P) w i.size s
    have hst := run_storeCells_nf P g (len * i.size) et fr (Lib.strCells s) 0 cur w hg hnf (by simpa using hfit) (Lib.strCells_oneCell s)
    simp only [Nat.add_zero] at hst
    simp [Builtin.append_, run_underlying ht, run_underlying hu, sizeOf, typeInfo, hi, Builtin.lenOf, hroom, hf, Addr.add_lit, hst]
  · exact Lib.run_append_grow_string (P := P) w t u ty et i z ht hu hi hz ⟨g, 0, none⟩ len cp olds hlo holds s hcp (by omega) hfit

/-- An append, whatever it appends. -/
theorem app_core (h : Inv Gl F own B w0 σ act w) {o : Oper} {t tx et : TypeId} {s x : Operand} (ho : o.op = .call { callee := .builtin .append, args := #[s, x], argTypes := #[t, tx] }) {i : TypeInfo} {z : Value} (hzs : z.cells.size = i.size) (h0 : 0 < i.size)
    {ys : List AV} {news : List Value} (hnl : news.length = ys.length * i.size) (hn1 : ∀ u ∈ news, u.oneCell' = true) (hnR : ∀ (k j : Nat) (e a : AV), ys[k]? = some e → e.cells[j]? = some a → ∃ y, news[k * i.size + j]? = some y ∧ y.oneCell' = true ∧ RP F y a) (hycl : ∀ (k : Nat) (e : AV), ys[k]? = some e → e.cells.length = i.size)
    (HA : AppRuns P w t tx o.type et i z (act.eval x) ys.length news)
    {p : Prop} {r : AV} {h' : List AObj} (hs : appY σ.h et i.size i.bytes (σ.val Gl (cOpd s)) ys = some (p, r, h')) (hp : p) : Ok1 P Gl B w0 σ act w o r h' := by
  have hes := h.ev s
  obtain ⟨HE, HN, HR, HG⟩ := HA
  have run : ∀ v w', (Builtin.append_ #[t, tx] o.type #[act.eval s, act.eval x]).run P w = .ok v w' → (execOp act.eval o).run P w = .ok (.value v) w' := by
    intro v w' hr
    unfold execOp
    simp only [ho, resolve, invoke, builtin, Sem.run_bind, Sem.run_pure, Result.andThen_ok, List.map_toArray, List.map_cons, List.map_nil, hr]
  have empty : ∀ (a : Option Addr) (n cap : Nat), ys = [] → act.eval s = .slice a n cap → n ≤ cap → (execOp act.eval o).run P w = .ok (.value (.slice a n cap)) w := by
    intro a n cap hy0 hv hle
    refine run _ _ ?_
    rw [hv]
    exact HE (by rw [hy0]; rfl) a n cap hle
  have fresh : act.eval s = .slice none 0 0 → 0 < ys.length → ys.length * i.bytes ≤ maxB → ys.length ≤ 4611686018427387904 →
      (execOp act.eval o).run P w = .ok (.value (.slice (some ⟨w.heap.size, 0, none⟩) ys.length (grownCap w ys.length 0 et))) (w.drew.alloc (.cells (news.toArray ++ Builtin.zeroCells z.cells (grownCap w ys.length 0 et - ys.length)) et)) := by
    intro hv hpos hb hl
    refine run _ _ ?_
    rw [hv]
    exact HN hpos hb hl
  unfold appY at hs
  refine (fun (q : Ok1 P Gl B w0 σ act w o r h') => q) ?_
  · skip
    have hdr : Inv Gl F own B w0 σ act w.drew := h.same rfl rfl rfl rfl
    have hcapge := grownCap_ge w ys.length 0 et
    have hcells0 := grown_cells (F := F) (zs := Builtin.zeroCells z.cells (grownCap w ys.length 0 et - ys.length)) (n := 0) (es := []) (olds := []) rfl rfl (by simp) hnl (fun i j e a q => by simp at q) (fun i e q => by simp at q) hnR hycl
    simp only [List.nil_append, Array.empty_append] at hcells0
    split at hs
    · rename_i hv
      rw [hv] at hes
      have hsv := hes.v_inv
      obtain ⟨rfl, h2⟩ := Prod.mk.inj (Option.some.inj hs)
      obtain ⟨rfl, rfl⟩ := Prod.mk.inj h2
      obtain ⟨p1, p2⟩ := hp
      rcases Nat.eq_zero_or_pos ys.length with hy0 | hy0
      · have hy0' : ys = [] := List.eq_nil_of_length_eq_zero hy0
        refine ⟨_, _, w, F, own ++ [⟨none, 0, i.size, 0⟩], empty none 0 0 hy0' hsv (Nat.le_refl _), .inl rfl, ?_, ?_⟩
        · subst hy0'; exact h.newNil et i.size true h0
        · subst hy0'
          rw [← h.hl]
          exact .row _ _ _ _ _ _ _ own_last (by simp) ⟨_, _, rfl, by simp, fun q => by simp at q⟩ (fun _ => ⟨rfl, by simp, fun _ => ⟨_, Nat.le_of_eq (Nat.zero_add _), by simp⟩⟩) (by first | omega | assumption | (simp; done) | (simp; omega) | (dsimp only; omega))
      · have hcm := grownCap_le_maxLen w ys.length 0 et (by simp only [maxLen]; omega)
        refine ⟨_, _, _, F, _, fresh hsv hy0 p1 p2, .inl rfl, hdr.new _ ⟨et, i.size, 0, true, ys⟩ (grownCap w ys.length 0 et) h0 rfl hcapge hcm hycl ?_ (fun k j e a q q' => ?_), ?_⟩
        · simp only [Array.size_append, List.size_toArray, size_zeroCells, hzs, hnl, ← Nat.add_mul]
          congr 1; omega
        · obtain ⟨y, a1, a2, a3⟩ := hcells0.2 k j e a q q'
          exact ⟨y, a1, a2, a3⟩
        · rw [← h.hl]
          refine .row _ _ _ _ _ _ _ own_last (by simp) ⟨_, _, rfl, hcapge, fun _ => rfl⟩ (fun _ => ⟨rfl, by simp, fun _ => ⟨_, Nat.le_of_eq (Nat.zero_add _), ?_⟩⟩) (by first | omega | assumption | (simp; done) | (simp; omega) | (dsimp only; omega))
          simp
    · rename_i id G sz' off len hv
      rw [hv] at hes
      obtain ⟨e, he1, hG, hst, hx⟩ := hes.row_inv
      obtain ⟨ob, hob, hO⟩ := h.own_obj he1
      have hO := hO.of_e (hes.row_sz he1)
      rw [hob] at hs
      simp only at hs
      split at hs
      · rename_i hc
        obtain ⟨c1, rfl, c3, c4, rfl, c6, c7⟩ := hc
        obtain ⟨rfl, h2⟩ := Prod.mk.inj (Option.some.inj hs)
        obtain ⟨rfl, rfl⟩ := Prod.mk.inj h2
        obtain ⟨rfl, p1, p2⟩ := hp
        obtain ⟨q1, q2, qe⟩ := hx (by rw [hO.1, c1])
        obtain ⟨cp, qc, q3⟩ := qe (.inr rfl)
        simp only [Nat.zero_mul, Nat.zero_add] at q3 qc
        have hcpl : len ≤ cp := by obtain ⟨_, _, e1, e2, _⟩ := hst; rw [q3] at e1; injection e1 with _ _ e1; omega
        have hcap : e.G ≤ e.cap := hO.2.2.2.1
        have heG : e.G = len := by rw [hO.1, c1]
        have hcl := hO.2.2.2.2.2.2.1
        have hidlt : id < own.length := (List.getElem?_eq_some_iff.1 he1).1
        rcases Nat.eq_zero_or_pos ys.length with hy0 | hy0
        · have hy0' : ys = [] := List.eq_nil_of_length_eq_zero hy0
          refine ⟨_, _, w, F, own, empty _ _ _ hy0' q3 (by omega), .inl rfl, ?_, ?_⟩
          · subst hy0'
            simp only [List.append_nil]
            have : σ.h.set id { ob with es := ob.es } = σ.h := by
              apply List.ext_getElem?
              intro k
              rw [List.getElem?_set]
              split
              · rename_i hk; subst hk; split
                · rw [hob]
                · rename_i hn; rw [List.getElem?_eq_none (by omega)]
              · rfl
            rw [this]; exact h
          · subst hy0'
            rw [← q3]
            simpa using hes
        · have hlt : e.G < (⟨some w.heap.size, len + ys.length, e.sz, grownCap w (len + ys.length) cp et⟩ : Ent).G := by simp only; omega
          cases hg : e.g with
          | none =>
            rw [hg] at q3
            have hcap0 : e.cap = 0 := by have := hO.2.2.2.2.2.2.2; rw [hg] at this; exact this
            have hl0 : len = 0 := by omega
            subst hl0
            have hsv : act.eval s = .slice none 0 0 := by rw [q3, show cp = 0 by omega]; rfl
            have hes0 : ob.es = [] := List.eq_nil_of_length_eq_zero c1
            have hcm := grownCap_le_maxLen w ys.length 0 et (by simp only [maxLen]; omega)
            have hnew := heap_alloc_new w.drew (.cells (news.toArray ++ Builtin.zeroCells z.cells (grownCap w ys.length 0 et - ys.length)) et)
            have hfz0 : ob.fz = 0 := by have := hO.2.2.2.2.2.1; omega
            refine ⟨_, _, _, F, own.set id ⟨some w.heap.size, ys.length, i.size, grownCap w ys.length 0 et⟩, fresh hsv hy0 (by simpa using p1) (by omega), .inl rfl, ?_, ?_⟩
            · refine hdr.upd he1 hob (.inr ⟨by simp only; omega, by have := hO.2.1; have := hO.2.2.1; omega, by have := hO.2.1; have := hO.2.2.1; simp only; omega⟩) (fun a x q => ?_) (fun k f g hk hf hg' => ⟨Below.heap_alloc _ _ _ (hdr.own_lt hf hg'), ?_⟩) ?_ (hdr.below.alloc (Nat.le_trans h.room h.below.size) _) (fun g q => ?_) (fun g hg' _ => Below.heap_alloc _ _ _ hg') (fun g q => by cases q; exact .inr (Nat.le_refl _))
              · rw [World.cell?_alloc_lt _ _ _ (hdr.F_lt q)]; exact hdr.sub a x q
              · intro q; cases q; have := h.own_lt hf hg'; omega
              · refine ObjC.r ⟨by simp [hes0], by simp [c4], by simp [c4, h0], hcapge, ⟨hcm, fun q => by have q : ob.pr = false := q; rw [c6] at q; cases q⟩, by simp [hfz0], fun k y hy => ?_, ?_⟩
                · simp only [hes0, List.nil_append] at hy; rw [c4]; exact hycl k y hy
                · refine ⟨_, ⟨_, by rw [c3]; exact hnew, .inl (noFz0 _)⟩, ?_, fun k j y a q q' => ?_, fun j _ => ?_⟩
                  · simp only [Array.size_append, List.size_toArray, size_zeroCells, hzs, hnl, ← Nat.add_mul, c4]
                    congr 1; omega
                  · simp only [hes0, List.nil_append] at q
                    obtain ⟨y', a1, a2, a3⟩ := hcells0.2 k j y a q q'
                    refine ⟨y', by rw [c4]; exact a1, a2, ?_⟩
                    unfold RC; rw [if_pos c6]; exact a3
                  · rcases hF : F ⟨w.heap.size, j, none⟩ with _ | y'
                    · rfl
                    · have := h.F_lt hF; simp at this
              · cases q; exact Nat.le_trans h.room h.below.size
            · simp only [Nat.zero_add]
              refine .row _ _ _ _ _ _ ⟨some w.heap.size, ys.length, i.size, grownCap w ys.length 0 et⟩ (by rw [List.getElem?_set_self hidlt]) (by simp) ⟨_, _, rfl, hcapge, fun _ => rfl⟩ (fun _ => ⟨rfl, by simp, fun _ => ⟨_, Nat.le_of_eq (Nat.zero_add _), by simp⟩⟩) (by first | omega | assumption | (simp; done) | (simp; omega) | (dsimp only; omega))
          | some g =>
            rw [hg] at q3
            simp only [Option.map_some] at q3
            obtain ⟨cur, fr, hblk, hnf, hcsz, hcell⟩ := hO.blk hg (.inl c7)
            rw [c4] at hcsz hcell
            have hlesz : len * i.size ≤ cur.size := by rw [hcsz]; exact Nat.mul_le_mul_right _ (by omega)
            have holds_l : (cur.toList.take (len * i.size)).length = len * i.size := by simp; omega
            have hOld : ∀ (k j : Nat) (y a : AV), ob.es[k]? = some y → y.cells[j]? = some a → ∃ v, (cur.toList.take (len * i.size))[k * i.size + j]? = some v ∧ v.oneCell' = true ∧ RP F v a := fun k j y a q q' => by
              obtain ⟨v, a1, a2, a3⟩ := hcell k j y a q q'
              have hk : k < len := by rw [← c1]; exact (List.getElem?_eq_some_iff.1 q).1
              have hj : j < i.size := by have := hcl k y q; rw [c4] at this; rw [← this]; exact (List.getElem?_eq_some_iff.1 q').1
              have hlt' : k * i.size + j < len * i.size := by
                have : (k + 1) * i.size ≤ len * i.size := Nat.mul_le_mul_right _ hk
                rw [Nat.add_mul, Nat.one_mul] at this; omega
              refine ⟨v, by rw [List.getElem?_take, if_pos hlt']; simpa using a1, a2, ?_⟩
              unfold RC at a3; rw [if_pos c6] at a3; exact a3
            have hcl2 : ∀ (k : Nat) (y : AV), ob.es[k]? = some y → y.cells.length = i.size := fun k y q => by rw [← c4]; exact hcl k y q
            · skip
              by_cases hroom : len + ys.length ≤ cp
              · have hfit : len * i.size + news.length ≤ cur.size := by rw [hnl, hcsz, ← Nat.add_mul]; exact Nat.mul_le_mul_right _ (Nat.le_trans hroom qc)
                have hr := HR hy0 g len cp cur fr (by rw [← c3]; exact hblk) hnf hroom hfit
                have hr' := run _ _ (by rw [q3]; exact hr)
                generalize hcs' : (cur.toList.take (len * i.size) ++ news ++ cur.toList.drop (len * i.size + news.length)).toArray = cs' at hr'
                have hcs2 : cs' = (cur.toList.take (len * i.size)).toArray ++ news.toArray ++ (cur.toList.drop (len * i.size + news.length)).toArray := by rw [← hcs']; simp
                have hcells := grown_cells (F := F) (zs := (cur.toList.drop (len * i.size + news.length)).toArray) (n := len) (es := ob.es) c1 rfl holds_l hnl hOld hcl2 hnR hycl
                rw [← hcs2] at hcells
                refine ⟨_, _, _, F, own.set id ⟨some g, len + ys.length, i.size, e.cap⟩, hr', .inl rfl, ?_, ?_⟩
                · refine h.upd he1 hob (.inr ⟨by simp only; omega, by have := hO.2.1; have := hO.2.2.1; omega, by have := hO.2.1; have := hO.2.2.1; simp only; omega⟩) (fun a x q => ?_) (fun k f g' hk hf hg' => ?_) ?_ ?_ (fun g' q => ?_) (fun k _ hk => setRow_other w g k cs' fun q => hk id e he1 (by rw [hg, q])) (fun g' q => by cases q; exact .inl hg)
                  · have hc := h.sub a x q
                    by_cases hab : a.block = g
                    · obtain ⟨b, off, spot⟩ := a
                      simp only at hab
                      subst hab
                      cases spot with
                      | some sp => simp [World.cell?, hblk] at hc
                      | none =>
                        rw [cell_setRow_same w b off cur cs' ob.ty fr hblk]
                        rcases Nat.lt_or_ge off (ob.fz * ob.sz) with hlt' | hge
                        · have hfzl : ob.fz * ob.sz ≤ len * i.size := by rw [c4]; exact Nat.mul_le_mul_right _ (by have := hO.2.2.2.2.2.1; omega)
                          rw [cell_of_row w b off cur ob.ty fr hblk] at hc
                          rw [← hcs', List.getElem?_toArray, splice_at _ _ _ (by simpa using hfit), if_pos (by omega)]
                          simpa using hc
                        · rw [hO.fz hg hge] at q; cases q
                    · rw [World.cell?_of_block (w := w) (setRow_other w g a.block cs' hab)]; exact hc
                  · have hne : g' ≠ g := fun q => hk (h.inj k id f e g' hf he1 hg' (by rw [q]; exact hg))
                    exact ⟨setRow_other w g g' cs' hne, fun q => hne (by cases q; rfl)⟩
                  · refine ObjC.r ⟨by simp [c1], by simp [c4], by simp [c4, h0], Nat.le_trans hroom qc, ⟨hO.2.2.2.2.1.1, fun q => by have q : ob.pr = false := q; rw [c6] at q; cases q⟩, by have := hO.2.2.2.2.2.1; simp; omega, fun k y hy => by rw [c4]; exact hcells.1 k y hy, ?_⟩
                    refine ⟨cs', ⟨fr, setRow_heap w g cur cs' ob.ty fr hblk, .inl ?_⟩, ?_, fun k j y a q q' => ?_, fun j hj => ?_⟩
                    · have : cs'.size = cur.size := by
                        rw [← hcs']
                        simp
                        omega
                      rw [this]; exact hnf
                    · rw [← hcs', c4, ← hcsz]
                      simp
                      omega
                    · obtain ⟨v, a1, a2, a3⟩ := hcells.2 k j y a q q'
                      refine ⟨v, by rw [c4]; exact a1, a2, ?_⟩
                      unfold RC; rw [if_pos c6]; exact a3
                    · exact hO.fz hg hj
                  · refine h.below.trans ⟨rfl, rfl, rfl, by simp, fun k hk => setRow_other w g k cs' (fun e' => ?_)⟩
                    subst e'
                    have := h.base id e k he1 hg
                    omega
                  · cases q; exact h.base id e g he1 hg
                · refine .row _ _ _ _ _ _ ⟨some g, len + ys.length, i.size, e.cap⟩ (by rw [List.getElem?_set_self hidlt]) (by simp) ⟨_, _, rfl, hroom, fun _ => rfl⟩ (fun _ => ⟨rfl, by simp, fun _ => ⟨_, by simpa using qc, by simp⟩⟩) (by have := hO.2.1; have := hO.2.2.1; first | omega | (simp only; omega))
              · have hr := HG hy0 g len cp (cur.toList.take (len * i.size)) holds_l (fun j v q => by
                    rw [List.getElem?_take] at q
                    split at q
                    · rw [Addr.add_lit, Nat.zero_add, cell_of_row w g j cur ob.ty fr hblk]; simpa using q
                    · cases q) (by omega) (by omega) (growslice_fits (by omega) (by unfold maxB at p1; exact p1))
                have hr' := run _ _ (by rw [q3]; exact hr)
                have hge2 := grownCap_ge w (len + ys.length) cp et
                have hcm := grownCap_le_maxLen w (len + ys.length) cp et (by simp only [maxLen]; omega)
                have hcells := grown_cells (F := F) (zs := Builtin.zeroCells z.cells (grownCap w (len + ys.length) cp et - (len + ys.length))) (n := len) (es := ob.es) c1 rfl holds_l hnl hOld hcl2 hnR hycl
                generalize hcs' : (cur.toList.take (len * i.size)).toArray ++ news.toArray ++ Builtin.zeroCells z.cells (grownCap w (len + ys.length) cp et - (len + ys.length)) = cs' at hr' hcells
                have hnew := heap_alloc_new w.drew (.cells cs' et)
                refine ⟨_, _, _, F, own.set id ⟨some w.heap.size, len + ys.length, i.size, grownCap w (len + ys.length) cp et⟩, hr', .inl rfl, ?_, ?_⟩
                · refine hdr.upd he1 hob (.inr ⟨by simp only; omega, by have := hO.2.1; have := hO.2.2.1; omega, by have := hO.2.1; have := hO.2.2.1; simp only; omega⟩) (fun a x q => ?_) (fun k f g' hk hf hg' => ⟨Below.heap_alloc _ _ _ (hdr.own_lt hf hg'), ?_⟩) ?_ (hdr.below.alloc (Nat.le_trans h.room h.below.size) _) (fun g' q => ?_) (fun g hg' _ => Below.heap_alloc _ _ _ hg') (fun g q => by cases q; exact .inr (Nat.le_refl _))
                  · rw [World.cell?_alloc_lt _ _ _ (hdr.F_lt q)]; exact hdr.sub a x q
                  · intro q; cases q; have := h.own_lt hf hg'; omega
                  · refine ObjC.r ⟨by simp [c1], by simp [c4], by simp [c4, h0], hge2, ⟨hcm, fun q => by have q : ob.pr = false := q; rw [c6] at q; cases q⟩, by have := hO.2.2.2.2.2.1; simp; omega, fun k y hy => by rw [c4]; exact hcells.1 k y hy, ?_⟩
                    refine ⟨cs', ⟨_, by rw [c3]; exact hnew, .inl (noFz0 _)⟩, ?_, fun k j y a q q' => ?_, fun j _ => ?_⟩
                    · rw [← hcs', c4]
                      simp only [Array.size_append, List.size_toArray, size_zeroCells, hzs, hnl, holds_l, ← Nat.add_mul]
                      congr 1; omega
                    · obtain ⟨v, a1, a2, a3⟩ := hcells.2 k j y a q q'
                      refine ⟨v, by rw [c4]; exact a1, a2, ?_⟩
                      unfold RC; rw [if_pos c6]; exact a3
                    · rcases hF : F ⟨w.heap.size, j, none⟩ with _ | y'
                      · rfl
                      · have := h.F_lt hF; simp at this
                  · cases q; exact Nat.le_trans h.room h.below.size
                · refine .row _ _ _ _ _ _ ⟨some w.heap.size, len + ys.length, i.size, grownCap w (len + ys.length) cp et⟩ (by rw [List.getElem?_set_self hidlt]) (by simp) ⟨_, _, rfl, hge2, fun _ => rfl⟩ (fun _ => ⟨rfl, by simp, fun _ => ⟨_, Nat.le_of_eq (Nat.zero_add _), by simp⟩⟩) (by have := hO.2.1; have := hO.2.2.1; first | omega | (simp only; omega))
      · cases hs
    · rename_i id G sz' len hv
      rw [hv] at hes
      obtain ⟨e, he1, hG, hst, hx⟩ := hes.crow_inv
      obtain ⟨ob, hob, hO⟩ := h.own_obj he1
      have hO := hO.of_e (hes.crow_sz he1)
      rw [hob] at hs
      simp only at hs
      split at hs
      case isFalse => cases hs
      rename_i hc
      obtain ⟨c1, rfl, c4, c6⟩ := hc
      obtain ⟨q1, q2, q3⟩ := hx (by rw [hO.1, c1])
      have hcap : e.G ≤ e.cap := hO.2.2.2.1
      have heG : e.G = G := by rw [hO.1, c1]
      have hcl := hO.2.2.2.2.2.2.1
      split at hs
      · rename_i hy0
        have hy0' : ys = [] := List.isEmpty_iff.1 hy0
        obtain ⟨_, h2⟩ := Prod.mk.inj (Option.some.inj hs)
        obtain ⟨rfl, rfl⟩ := Prod.mk.inj h2
        obtain ⟨a, hst1, hst2⟩ := hst
        refine ⟨_, _, w, F, own, empty _ _ _ hy0' hst1 (Nat.le_refl _), .inl rfl, h, ?_⟩
        rw [← hst1]
        exact .row _ _ _ _ _ _ e he1 hG ⟨_, _, hst1, Nat.le_refl _, fun q => hst2 (by omega)⟩ (fun _ => ⟨q1, by omega, fun _ => ⟨len, by omega, by rw [q3]; simp⟩⟩) (by have := hO.2.1; have := hO.2.2.1; omega)
      · rename_i hy0
        have hy1 : 0 < ys.length := by
          cases ys with
          | nil => exact absurd rfl hy0
          | cons y ys => simp
        obtain ⟨rfl, h2⟩ := Prod.mk.inj (Option.some.inj hs)
        obtain ⟨rfl, rfl⟩ := Prod.mk.inj h2
        obtain ⟨p1, p2⟩ := hp
        have htk : (ob.es.take len).length = len := by rw [List.length_take, c1]; omega
        have hcl2 : ∀ (k : Nat) (y : AV), (ob.es.take len)[k]? = some y → y.cells.length = i.size := fun k y q => by
          rw [List.getElem?_take] at q
          split at q
          · rw [← c4]; exact hcl k y q
          · cases q
        have hcm := grownCap_le_maxLen w (len + ys.length) len et (by simp only [maxLen]; omega)
        have hge2 := grownCap_ge w (len + ys.length) len et
        have fin : ∀ (olds : List Value), olds.length = len * i.size → (∀ (k j : Nat) (y a : AV), (ob.es.take len)[k]? = some y → y.cells[j]? = some a → ∃ v, olds[k * i.size + j]? = some v ∧ v.oneCell' = true ∧ RP F v a) →
            (execOp act.eval o).run P w = .ok (.value (.slice (some ⟨w.heap.size, 0, none⟩) (len + ys.length) (grownCap w (len + ys.length) len et))) (w.drew.alloc (.cells (olds.toArray ++ news.toArray ++ Builtin.zeroCells z.cells (grownCap w (len + ys.length) len et - (len + ys.length))) et)) →
            Ok1 P Gl B w0 σ act w o (.row σ.h.length (len + ys.length) i.size 0 (len + ys.length)) (σ.h ++ [⟨et, i.size, 0, true, ob.es.take len ++ ys⟩]) := by
          intro olds holds hOld hr
          have hcells := grown_cells (F := F) (zs := Builtin.zeroCells z.cells (grownCap w (len + ys.length) len et - (len + ys.length))) (n := len) (es := ob.es.take len) htk rfl holds hnl hOld hcl2 hnR hycl
          refine ⟨_, _, _, F, _, hr, .inl rfl, hdr.new _ ⟨et, i.size, 0, true, ob.es.take len ++ ys⟩ (grownCap w (len + ys.length) len et) h0 rfl (by simp only [List.length_append, htk]; exact hge2) hcm hcells.1 ?_ (fun k j e a q q' => ?_), ?_⟩
          · simp only [Array.size_append, List.size_toArray, size_zeroCells, hzs, hnl, holds, ← Nat.add_mul]
            congr 1; omega
          · obtain ⟨y, a1, a2, a3⟩ := hcells.2 k j e a q q'
            exact ⟨y, a1, a2, a3⟩
          · rw [← h.hl]
            refine .row _ _ _ _ _ _ _ own_last (by simp [htk]) ⟨_, _, rfl, hge2, fun _ => rfl⟩ (fun _ => ⟨rfl, by simp [htk], fun _ => ⟨_, Nat.le_of_eq (Nat.zero_add _), ?_⟩⟩) (by first | omega | assumption | (simp; done) | (simp; omega) | (dsimp only; omega))
            simp
        · skip
          cases hg : e.g with
          | none =>
            have hcap0 : e.cap = 0 := by have := hO.2.2.2.2.2.2.2; rw [hg] at this; exact this
            have hl0 : len = 0 := by omega
            subst hl0
            rw [hg] at q3
            refine fin [] (by simp) (fun k j y a q => by simp at q) ?_
            have := fresh (by rw [q3]; rfl) hy1 (by simpa using p1) (by omega)
            simpa using this
          | some g =>
            rw [hg] at q3
            simp only [Option.map_some] at q3
            obtain ⟨cur, fr, hblk, _, hcsz, hcell⟩ := hO.blkF hg
            rw [c4] at hcsz hcell
            have hlesz : len * i.size ≤ cur.size := by rw [hcsz]; exact Nat.mul_le_mul_right _ (by omega)
            have holds_l : (cur.toList.take (len * i.size)).length = len * i.size := by simp; omega
            have hr := HG hy1 g len len (cur.toList.take (len * i.size)) holds_l (fun j v q => by
                rw [List.getElem?_take] at q
                split at q
                · rw [Addr.add_lit, Nat.zero_add, cell_of_row w g j cur ob.ty fr hblk]; simpa using q
                · cases q) (by omega) (by omega) (growslice_fits (by omega) (by unfold maxB at p1; exact p1))
            refine fin (cur.toList.take (len * i.size)) holds_l (fun k j y a q q' => ?_) (run _ _ (by rw [q3]; exact hr))
            rw [List.getElem?_take] at q
            split at q
            case isFalse => cases q
            rename_i hk
            obtain ⟨v, a1, a2, a3⟩ := hcell k j y a q q'
            have hj : j < i.size := by have := hcl k y q; rw [c4] at this; rw [← this]; exact (List.getElem?_eq_some_iff.1 q').1
            have hlt' : k * i.size + j < len * i.size := by
              have : (k + 1) * i.size ≤ len * i.size := Nat.mul_le_mul_right _ hk
              rw [Nat.add_mul, Nat.one_mul] at this; omega
            refine ⟨v, by rw [List.getElem?_take, if_pos hlt']; simpa using a1, a2, ?_⟩
            unfold RC at a3; rw [if_pos c6] at a3; exact a3
    · cases hs
theorem ok_app (h : Inv Gl F own B w0 σ act w) {o : Oper} {t et : TypeId} {s x : Operand} (ho : o.op = .call { callee := .builtin .append, args := #[s, x], argTypes := #[t, t] }) {i : TypeInfo} {z : Value} (ht : P.underlying t = some (.slice et)) (hi : P.info? et = some i) (hz : i.zero = some z) (hzs : z.cells.size = i.size) (h0 : 0 < i.size)
    {p : Prop} {r : AV} {h' : List AObj} (hs : step Gl σ (.app et i.size i.bytes (cOpd s) (cOpd x)) = some (p, r, h')) (hp : p) : Ok1 P Gl B w0 σ act w o r h' := by
  have hex := h.ev x
  simp only [step] at hs
  cases hy : elemsOf σ.h i.size (σ.val Gl (cOpd x)) with
  | none => rw [hy] at hs; cases hs
  | some ys =>
    rw [hy] at hs
    obtain ⟨⟨A, c, news, ex, hA, hAc, hnl, hncell, hn1, hnR⟩, hycl⟩ := src_sound h hex h0 hy
    exact app_core h ho hzs h0 hnl hn1 hnR hycl (by rw [ex]; exact appRuns_slice ht hi hz A _ c news (fun q => by have := hA q; rw [this]; rfl) hnl hncell hn1) hs hp
/-- A string's bytes, appended. -/
theorem ok_apps (h : Inv Gl F own B w0 σ act w) {o : Oper} {t u et : TypeId} {s x : Operand} (ho : o.op = .call { callee := .builtin .append, args := #[s, x], argTypes := #[t, u] }) {i : TypeInfo} {z : Value} (ht : P.underlying t = some (.slice et)) (hu : P.underlying u = some .string) (hi : P.info? et = some i) (hz : i.zero = some z) (hzs : z.cells.size = i.size) (h1 : i.size = 1)
    {p : Prop} {r : AV} {h' : List AObj} (hs : step Gl σ (.apps et i.bytes (cOpd s) (cOpd x)) = some (p, r, h')) (hp : p) : Ok1 P Gl B w0 σ act w o r h' := by
  have hex := h.ev x
  simp only [step] at hs
  split at hs
  · rename_i b hv
    rw [hv] at hex
    have ex := hex.v_inv
    have hl : (bytesAV b).length = b.size := by simp [bytesAV]
    have hat : ∀ (k : Nat) (e : AV), (bytesAV b)[k]? = some e → ∃ c, b.data.toList[k]? = some c ∧ e = .v (.int .u8 c.toNat) := fun k e q => by
      unfold bytesAV at q
      rw [List.getElem?_map] at q
      cases hc : b.data.toList[k]? with
      | none => rw [hc] at q; cases q
      | some c => rw [hc] at q; cases q; exact ⟨c, rfl, rfl⟩
    refine app_core h ho (ys := bytesAV b) (news := Lib.strCells b) hzs (by omega) (by rw [Lib.strCells_length, hl, h1, Nat.mul_one]) (Lib.strCells_oneCell b) (fun k j e a q q' => ?_) (fun k e q => ?_) (by rw [ex, hl]; exact appRuns_string ht hu hi hz h1 b) (by rw [h1]; exact hs) hp
    · obtain ⟨c, hc, rfl⟩ := hat k e q
      match j, q' with
      | 0, q' =>
        cases q'
        refine ⟨.int .u8 c.toNat, ?_, rfl, .v _⟩
        rw [h1, Nat.mul_one, Nat.add_zero]
        simp only [Lib.strCells, List.getElem?_map, hc]; rfl
      | j + 1, q' => simp [AV.cells] at q'
    · obtain ⟨c, hc, rfl⟩ := hat k e q
      rw [h1]; rfl
  · cases hs

end
end Abs
end Go.Proofs.YtnhgeocdffhkjaaDoor
