/- Package-level tables of plain structs: from what the row lists to the cells. -/
import Derived.Test.YtnhgeocdffhkjaaDoorAbsR
import Derived.Lib.LaidTab
import Derived.LaidSub
namespace Go.Proofs.YtnhgeocdffhkjaaDoor
namespace Abs
open Go.RowKit
set_option linter.unusedVariables false
set_option linter.unusedSimpArgs false
/-- Pieces, one behind the other. -/
def offOk : Nat → List (Nat × List Value) → Option (List Value)
  | _, [] => some []
  | o, (p, vs) :: r => if p = o then match offOk (o + vs.length) r with
      | some ws => some (vs ++ ws)
      | none => none
    else none
theorem offOk_part (cs : List Value) : ∀ (l : List (Nat × List Value)) (o : Nat) (vs : List Value), offOk o l = some vs → (∀ q ∈ l, (cs.drop q.1).take q.2.length = q.2) → (cs.drop o).take vs.length = vs
  | [], o, vs, h, _ => by cases h; simp
  | (p, ws) :: r, o, vs, h, hq => by
    simp only [offOk] at h
    split at h
    · rename_i hp
      subst hp
      split at h
      · rename_i us hu
        cases h
        have h1 := hq (p, ws) (by simp)
        have h2 := offOk_part cs r (p + ws.length) us hu fun q hq' => hq q (List.mem_cons_of_mem _ hq')
        simp only at h1
        rw [List.length_append, List.take_add, h1, List.drop_drop, h2]
      · cases h
    · cases h
/-- The cells that a plain datum says. -/
def cellsD (P : Program) : Nat → TypeId → DataW Unit → Option (List Value)
  | 0, _, _ => none
  | n + 1, t, D => match P.underlying t with
    | some .bool => match D with
      | .lit (.bool b) => some [.bool b]
      | _ => none
    | some (.int k) => match D with
      | .lit (.int k' z) => if k' = k then some [.int k z] else none
      | _ => none
    | some .string => match D with
      | .lit (.string bs) => some [.string ⟨⟨bs⟩⟩]
      | _ => none
    | some (.struct fs) => match D with
      | .agg ds => if fs.toList.length = ds.length then match (fs.toList.zip ds).mapM (fun q => match cellsD P n q.1.type q.2 with | some vs => if vs.length = P.cellsOf q.1.type then some (q.1.offset, vs) else none | none => none) with
          | some l => match offOk 0 l with
            | some vs => if vs.length = P.cellsOf t then some vs else none
            | none => none
          | none => none
        else none
      | _ => none
    | some (.array m e) => match D with
      | .agg ds => if m = ds.length then match ((List.range m).zip ds).mapM (fun q => match cellsD P n e q.2 with | some vs => if vs.length = P.cellsOf e then some (q.1 * P.cellsOf e, vs) else none | none => none) with
          | some l => match offOk 0 l with
            | some vs => if vs.length = P.cellsOf t then some vs else none
            | none => none
          | none => none
        else none
      | _ => none
    | _ => none
theorem mapM_mem {α β : Type} {f : α → Option β} : ∀ {l : List α} {r : List β}, l.mapM f = some r → ∀ b ∈ r, ∃ (i : Nat) (a : α), l[i]? = some a ∧ f a = some b
  | [], r, h, b, hb => by simp at h; subst h; simp at hb
  | x :: l, r, h, b, hb => by
    simp only [List.mapM_cons, Option.bind_eq_bind, Option.bind_eq_some_iff, Option.pure_def, Option.some.injEq] at h
    obtain ⟨c, hc, r', hr', rfl⟩ := h
    rcases List.mem_cons.1 hb with rfl | hb
    · exact ⟨0, x, rfl, hc⟩
    · obtain ⟨i, a, h1, h2⟩ := mapM_mem hr' b hb
      exact ⟨i + 1, a, by simpa using h1, h2⟩
/-- What reads as a plain datum holds its cells. -/
theorem cellsD_ok {P : Program} {w : World} {base : Nat} {sp : Nat → Bool} {held : Bool} {enc : TypeId × Value → Unit} : ∀ (n : Nat) (t : TypeId) (D : DataW Unit) (vs : List Value) (fuel : Nat) (cs : List Value) (p : List MemPlace),
    cellsD P n t D = some vs → DataW.trod enc P w base sp held fuel t cs = some (D, p) → cs = vs
  | 0, t, D, vs, fuel, cs, p, h, _ => by cases h
  | n + 1, t, D, vs, 0, cs, p, h, ht => by cases ht
  | n + 1, t, D, vs, fuel + 1, cs, p, h, ht => by
    have ih := cellsD_ok (P := P) (w := w) (base := base) (sp := sp) (held := held) (enc := enc) n
    simp only [cellsD] at h
    split at h
    · rename_i hu
      split at h
      · rename_i b
        cases h
        simp only [DataW.trod, hu] at ht
        split at ht <;> first
          | (simp only [Option.some.injEq, Prod.mk.injEq, DataW.lit.injEq, Lit.bool.injEq] at ht; obtain ⟨rfl, _⟩ := ht; rfl)
          | simp_all
      · cases h
    · rename_i k hu
      split at h
      · rename_i k' z
        split at h
        · rename_i hk
          subst hk
          cases h
          obtain ⟨z', hc, he, _⟩ := DataW.trod_int hu ht
          have e := (Prod.mk.inj he).1
          simp only [DataW.lit.injEq, Lit.int.injEq, true_and] at e
          rw [hc, e]
        · cases h
      · cases h
    · rename_i hu
      split at h
      · rename_i bs
        cases h
        simp only [DataW.trod, hu] at ht
        split at ht <;> first
          | (split at ht <;> first
              | (simp only [Option.some.injEq, Prod.mk.injEq, DataW.lit.injEq, Lit.string.injEq] at ht; obtain ⟨rfl, _⟩ := ht; rfl)
              | cases ht)
          | simp_all
      · cases h
    · rename_i fs hu
      split at h
      · rename_i ds
        split at h
        · rename_i hlen
          split at h
          · rename_i l hl
            split at h
            · rename_i us hus
              split at h
              · rename_i hsz
                cases h
                simp only [DataW.trod, hu] at ht
                split at ht
                · rename_i hcl
                  obtain ⟨xs, hm, hx⟩ := Option.map_eq_some_iff.1 ht
                  simp only [Prod.mk.injEq, DataW.agg.injEq] at hx
                  have hxs := hx.1
                  have := offOk_part cs l 0 vs hus fun q hq => by
                    obtain ⟨i, a, h1, h2⟩ := mapM_mem hl q hq
                    obtain ⟨f, d⟩ := a
                    obtain ⟨g1, g2⟩ := List.getElem?_zip_eq_some.1 h1
                    simp only at h2
                    split at h2
                    · rename_i ws hws
                      split at h2
                      · rename_i hwl
                        cases h2
                        obtain ⟨b, hb, hf⟩ := Lib.mapM_at hm i f g1
                        have hbd : b.1 = d := by
                          have : (xs.map (·.1))[i]? = some b.1 := by simp [hb]
                          rw [hxs, g2] at this
                          exact (Option.some.inj this).symm
                        obtain ⟨b1, b2⟩ := b
                        simp only at hbd
                        subst hbd
                        have := ih f.type b1 ws fuel _ _ hws hf
                        simp only
                        rw [hwl]; exact this
                      · cases h2
                    · cases h2
                  rw [List.drop_zero, List.take_of_length_le (by omega)] at this
                  exact this
                · cases ht
              · cases h
            · cases h
          · cases h
        · cases h
      · cases h
    · rename_i m e hu
      split at h
      · rename_i ds
        split at h
        · rename_i hlen
          split at h
          · rename_i l hl
            split at h
            · rename_i us hus
              split at h
              · rename_i hsz
                cases h
                simp only [DataW.trod, hu] at ht
                split at ht
                · rename_i hcl
                  obtain ⟨xs, hm, hx⟩ := Option.map_eq_some_iff.1 ht
                  simp only [Prod.mk.injEq, DataW.agg.injEq] at hx
                  have hxs := hx.1
                  have := offOk_part cs l 0 vs hus fun q hq => by
                    obtain ⟨i, a, h1, h2⟩ := mapM_mem hl q hq
                    obtain ⟨f, d⟩ := a
                    obtain ⟨g1, g2⟩ := List.getElem?_zip_eq_some.1 h1
                    simp only at h2
                    split at h2
                    · rename_i ws hws
                      split at h2
                      · rename_i hwl
                        cases h2
                        obtain ⟨b, hb, hf⟩ := Lib.mapM_at hm i f g1
                        have hbd : b.1 = d := by
                          have : (xs.map (·.1))[i]? = some b.1 := by simp [hb]
                          rw [hxs, g2] at this
                          exact (Option.some.inj this).symm
                        obtain ⟨b1, b2⟩ := b
                        simp only at hbd
                        subst hbd
                        have := ih e b1 ws fuel _ _ hws hf
                        simp only
                        rw [hwl]; exact this
                      · cases h2
                    · cases h2
                  rw [List.drop_zero, List.take_of_length_le (by omega)] at this
                  exact this
                · cases ht
              · cases h
            · cases h
          · cases h
        · cases h
      · cases h
    · cases h
/-- The variable's cells, where the list begins with it. -/
theorem var_of_head {P : Program} {W : World} {name : String} {D : DataW Unit} {rest : List (String × DataW Unit)} {g n : Nat} {t : TypeId} {vs : List Value} (hg : P.globalNamed name = some g) (hty : (P.globals[g]?).map (·.type) = some t) (hc : cellsD P n t D = some vs) (h : laidMet P ((name, D) :: rest) W) : W.var? P name = some vs.toArray := by
  obtain ⟨ps, ⟨g', t', cs, fuel, p, q, hg', ht', hvar, hd, _, _⟩, _⟩ := h
  obtain rfl := Option.some.inj (hg.symm.trans hg')
  obtain rfl := Option.some.inj (hty.symm.trans ht')
  rw [hvar, ← cellsD_ok n t D vs fuel cs.toList p hc hd]
/-- A table of plain cells, as the machine reads it. -/
theorem lptr_of_var {P : Program} {W : World} {name : String} {g : Nat} {vs : List Value} (hg : P.globalNamed name = some g) (hv : W.var? P name = some vs.toArray) (h1 : vs.all (·.oneCell') = true) : RP (snap W) (.pointer (some ⟨g, 0, none⟩)) (.lptr (vs.map .v)) := by
  have cell : ∀ i (x : Value), vs[i]? = some x → snap W ⟨g, i, none⟩ = some x := fun i x hx => by
    have := World.var?_cell hg hv i
    show W.cell? ⟨g, i, none⟩ = some x
    rw [this]; simpa using hx
  refine RP.lptr _ _ (fun j => vs.getD j undef) (fun j a hj => ?_) (fun j a hj => ?_)
  · rw [List.getElem?_map] at hj
    rcases q : vs[j]? with _ | z
    · rw [q] at hj; cases hj
    · have e : vs.getD j undef = z := by rw [List.getD_eq_getElem?_getD, q]; rfl
      refine ⟨?_, ?_⟩
      · have : (Addr.add ⟨g, 0, none⟩ j : Addr) = ⟨g, j, none⟩ := by simp [Addr.add]; intro h; exact h.symm
        rw [this, e]; exact cell j z q
      · rw [e]; exact List.all_eq_true.1 h1 z (List.mem_of_getElem? q)
  · rw [List.getElem?_map] at hj
    rcases q : vs[j]? with _ | z
    · rw [q] at hj; cases hj
    · rw [q] at hj
      simp only [Option.map_some, Option.some.injEq] at hj
      subst hj
      have e : vs.getD j undef = z := by rw [List.getD_eq_getElem?_getD, q]; rfl
      rw [e]; exact .v _
theorem glw_of_var {P : Program} {W : World} {name : String} {g : Nat} {vs : List Value} (hg : P.globalNamed name = some g) (hv : W.var? P name = some vs.toArray) (h0 : 0 < vs.length) : g < W.heap.size ∧ ∃ us ty fr, W.heap[g]? = some (.cells us ty fr) ∧ us.size = vs.length := by
  have c := World.var?_cell hg hv 0
  have hlt : g < W.heap.size := by
    have : vs.toArray[0]? = some vs[0] := by simp [h0]
    rw [this] at c
    exact World.block_lt_of_cell? W _ c
  refine ⟨hlt, ?_⟩
  unfold World.var? at hv
  rw [hg] at hv
  simp only [Option.bind_some] at hv
  split at hv
  · rename_i us ty fr hb
    obtain rfl := Option.some.inj hv
    exact ⟨_, ty, fr, hb, by simp⟩
  · cases hv
theorem calls_trueG {P : Program} {Gl : Nat → Option (List AV)} {w : World} {f : Nat} {xs : Array Value} {l : List AV} (hP : Pure P Gl f l (.v (.bool true))) (hg : GlOk Gl (snap w)) (hw : GlW Gl w.heap.size w) (hxs : RPL (snap w) xs l) : Calls P f xs w fun e w' => e = .returned (.bool true) ∧ Below w.heap.size w w' := by
  refine (hP w (snap w) xs (fun _ _ h => h) hg hw hxs).mono ?_
  rintro e w' ⟨v, F', rfl, _, _, _, hR, hb⟩
  cases hR
  exact ⟨rfl, hb⟩
end Abs
end Go.Proofs.YtnhgeocdffhkjaaDoor
