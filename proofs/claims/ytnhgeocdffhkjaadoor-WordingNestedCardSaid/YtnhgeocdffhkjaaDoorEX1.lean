/- The abstract machine, run: what is decided is so. -/
import Derived.Test.YtnhgeocdffhkjaaDoorEX0
namespace Go.Proofs.YtnhgeocdffhkjaaDoor
namespace Abs
open Go.RowKit
set_option linter.unusedVariables false
set_option linter.unusedSimpArgs false

theorem blt_lt {a b : Nat} (h : Nat.blt a b = true) : a < b := Nat.le_of_ble_eq_true h
theorem inNat_ok {n : Int} {len : Nat} (h : inNat n len = true) : 0 ≤ n ∧ n < len := by
  cases n with
  | ofNat m => have := blt_lt h; exact ⟨Int.natCast_nonneg m, by simpa using this⟩
  | negSucc m => cases h
theorem ltI_eq (a b : Int) : ltI a b = decide (a < b) := by
  cases a with
  | ofNat a => cases b with
    | ofNat b =>
      show Nat.blt a b = _
      rw [Bool.eq_iff_iff, decide_eq_true_eq]
      exact ⟨fun h => by have := blt_lt h; show (a : Int) < (b : Int); omega, fun h => Nat.ble_eq_true_of_le (by have h : (a : Int) < (b : Int) := h; show a + 1 ≤ b; omega)⟩
    | negSucc b =>
      show false = _
      rw [Bool.eq_iff_iff, decide_eq_true_eq]
      exact ⟨fun h => (by cases h), fun h => (by have h : (a : Int) < Int.negSucc b := h; omega)⟩
  | negSucc a => cases b with
    | ofNat b =>
      show true = _
      rw [Bool.eq_iff_iff, decide_eq_true_eq]
      exact ⟨fun _ => by show Int.negSucc a < (b : Int); omega, fun _ => rfl⟩
    | negSucc b =>
      show Nat.blt b a = _
      rw [Bool.eq_iff_iff, decide_eq_true_eq]
      exact ⟨fun h => by have := blt_lt h; omega, fun h => Nat.ble_eq_true_of_le (by show b + 1 ≤ a; omega)⟩
theorem eqI_eq (a b : Int) : eqI a b = (a == b) := by
  rw [Bool.eq_iff_iff, beq_iff_eq]
  cases a with
  | ofNat a => cases b with
    | ofNat b => show Nat.beq a b = true ↔ _; rw [Nat.beq_eq]; exact ⟨fun h => by rw [h], fun h => by cases h; rfl⟩
    | negSucc b => exact ⟨fun h => (by cases h), fun h => (by cases h)⟩
  | negSucc a => cases b with
    | ofNat b => exact ⟨fun h => (by cases h), fun h => (by cases h)⟩
    | negSucc b => show Nat.beq a b = true ↔ _; rw [Nat.beq_eq]; exact ⟨fun h => by rw [h], fun h => by cases h; rfl⟩
theorem wrapB_eq (k : IntKind) (n : Int) : wrapB k n = k.wrap n := by
  unfold wrapB
  split
  · split
    · rename_i m h; have := blt_lt h; exact (wrap64 (by show _ ≤ (m : Int); omega) (by show (m : Int) ≤ _; omega)).symm
    · rfl
  · split
    · rename_i m h; have := blt_lt h; exact (wrap64 (by omega) (by omega)).symm
    · rfl
  · split
    · rename_i m h; have := blt_lt h; exact (wrap8 (by show _ ≤ (m : Int); omega) (by show (m : Int) ≤ _; omega)).symm
    · rfl
  · rfl
theorem bytesB_eq : ∀ (a b : List UInt8), bytesB a b = (a == b)
  | [], [] => rfl
  | [], _ :: _ => rfl
  | _ :: _, [] => rfl
  | a :: as, b :: bs => by
    rw [List.cons_beq_cons, ← bytesB_eq as bs]
    show (if Nat.beq a.toNat b.toNat = true then bytesB as bs else false) = _
    by_cases h : a = b
    · subst h; simp
    · have : Nat.beq a.toNat b.toNat = false := by
        rw [Bool.eq_false_iff]
        intro q
        rw [Nat.beq_eq] at q
        exact h (UInt8.toNat_inj.1 q)
      rw [this]; simp [h]
theorem sameS_eq (a b : ByteArray) : sameS a b = (a.toList == b.toList) := by
  unfold sameS
  rw [bytesB_eq, ByteArray.toList_eq, ByteArray.toList_eq]
theorem nlt_eq (a b : Int) : (not (ltI b a)) = decide (a ≤ b) := by
  rw [ltI_eq]
  by_cases h : a ≤ b
  · rw [decide_eq_true h, decide_eq_false (by omega)]; rfl
  · rw [decide_eq_false h, decide_eq_true (by omega)]; rfl
theorem binB_ok {op : BinOp} {a b r : Value} (h : binB op a b = some r) : ∃ p, binV op a b = some (p, r) ∧ p := by
  unfold binB at h
  split at h
  iterate 3
    · split at h
      · rename_i hk; subst hk; cases h; exact ⟨True, by simp only [binV, if_true, wrapB_eq], trivial⟩
      · cases h
  · split at h
    · rename_i hk; subst hk
      split at h
      · cases h
      · rename_i hz; cases h
        exact ⟨_, by simp only [binV, if_true, wrapB_eq]; rfl, by rw [eqI_eq] at hz; simpa using hz⟩
    · cases h
  · split at h
    · rename_i hk; subst hk
      split at h
      · cases h
      · rename_i hz; cases h
        exact ⟨_, by simp only [binV, if_true]; rfl, by rw [eqI_eq] at hz; simpa using hz⟩
    · cases h
  iterate 6
    · split at h
      · rename_i hk; subst hk; cases h; exact ⟨True, by first | (simp only [binV, if_true, eqI_eq, nlt_eq, bne]; done) | (simp only [binV, if_true, ltI_eq]; done), trivial⟩
      · cases h
  · split at h
    · rename_i hf; cases h; exact ⟨_, rfl, Nat.le_of_ble_eq_true hf⟩
    · cases h
  · cases h; exact ⟨True, by simp only [binV, sameS_eq], trivial⟩
  · cases h; exact ⟨True, by simp only [binV, sameS_eq], trivial⟩
  · cases h
theorem cutG_ok {n : Nat} {lo hi : Option AV} {p : Prop} {l u : Int} (hg : cutG n lo hi = true) (hc : cutB n lo hi = some (p, l, u)) : p := by
  have e : p = (0 ≤ l ∧ l ≤ u ∧ u ≤ n) := by
    unfold cutB at hc
    split at hc
    · cases hc; rfl
    · cases hc
  unfold cutG at hg
  rw [hc] at hg
  simp only [Bool.and_eq_true, nlt_eq, decide_eq_true_eq] at hg
  rw [e]
  exact ⟨hg.1.1, hg.1.2, hg.2⟩
theorem cutN_ok {n : Nat} {lo hi : Option AV} {α : Type} {f : Prop × Int × Int → α} {q : α} (hg : cutG n lo hi = true) (hc : (cutB n lo hi).map f = some q) : ∃ p l u, p ∧ q = f (p, l, u) := by
  rw [Option.map_eq_some_iff] at hc
  obtain ⟨⟨p, l, u⟩, h1, rfl⟩ := hc
  exact ⟨p, l, u, cutG_ok hg h1, rfl⟩
theorem mulB {m b c : Nat} (h : m * b ≤ c) : (m : Int) * (b : Int) ≤ (c : Int) := by
  have := Int.ofNat_le.2 h
  rw [Int.natCast_mul] at this
  exact this
theorem fitB_ok {n b : Nat} (h : fitB n b = true) : n * b ≤ maxB ∧ n ≤ 4611686018427387904 := by
  unfold fitB at h
  rw [Bool.and_eq_true] at h
  exact ⟨Nat.le_of_ble_eq_true h.1, Nat.le_of_ble_eq_true h.2⟩
theorem appG_ok {h : List AObj} {ty sz bytes : Nat} {a : AV} {ys : List AV} {p : Prop} {r : AV} {h' : List AObj} (hg : appG h bytes a ys.length ys.isEmpty = true) (hs : appY h ty sz bytes a ys = some (p, r, h')) : p := by
  unfold appY at hs
  split at hs
  · cases hs; exact fitB_ok hg
  · rename_i id G sz' off len
    split at hs
    · split at hs
      · cases hs
        simp only [appG, Bool.and_eq_true] at hg
        have := fitB_ok hg.2
        exact ⟨Nat.eq_of_beq_eq_true hg.1, this.1, this.2⟩
      · cases hs
    · cases hs
  · rename_i id G sz' len
    split at hs
    · split at hs
      · split at hs
        · cases hs; trivial
        · rename_i he
          cases hs
          simp only [appG, Bool.or_eq_true] at hg
          rcases hg with q | q
          · exact absurd q he
          · exact fitB_ok q
      · cases hs
    · cases hs
  · cases hs
section
variable {Gl : Nat → Option (List AV)} {σ : St}
theorem gB_ok {i : I} {p : Prop} {a : AV} {h' : List AObj} (hg : gB Gl σ i = true) (hb : ∀ op x y, i ≠ .bin op x y) (hs : step Gl σ i = some (p, a, h')) : p := by
  have triv : ∀ {α : Type} {o : Option α} {f : α → Prop × AV × List AObj}, (∀ x, (f x).1 = True) → o.map f = some (p, a, h') → p := fun hf h => by
    rw [Option.map_eq_some_iff] at h
    obtain ⟨x, _, e⟩ := h
    have := hf x
    rw [e] at this
    simp only at this
    rw [this]; trivial
  cases i with
  | bin op x y => exact absurd rfl (hb op x y)
  | call f as => cases hg
  | nilq neg x =>
    simp only [step] at hs
    simp only [gB] at hg
    split at hs
    · rename_i sz xs hv
      rw [hv] at hg
      cases hs
      intro q
      subst q
      cases hg
    · cases hs; trivial
    · rename_i id G sz off len hv
      rw [hv] at hg
      cases hs
      exact blt_lt hg
    · cases hs
  | iaddr sz x n =>
    simp only [step] at hs
    simp only [gB] at hg
    split at hs
    · rename_i sz' xs k m h1 h2
      rw [h1, h2] at hg
      split at hs
      · cases hs; exact inNat_ok hg
      · cases hs
    · rename_i id G sz' off len k m h1 h2
      rw [h1, h2] at hg
      split at hs
      · cases hs; exact inNat_ok hg
      · cases hs
    · cases hs
  | load sz ag x =>
    simp only [step] at hs
    simp only [gB] at hg
    split at hs
    · split at hs
      · split at hs
        · cases hs; trivial
        · cases hs
      · exact triv (fun _ => rfl) hs
    · rename_i id G j o hv
      rw [hv] at hg
      split at hs
      · rename_i ob ho
        simp only [ho, Bool.and_eq_true] at hg
        split at hs
        · split at hs
          · rename_i hag
            cases hs
            rw [if_pos hag] at hg
            exact ⟨Nat.le_of_ble_eq_true hg.1, blt_lt hg.2⟩
          · rename_i hag
            cases hs
            rw [if_neg hag] at hg
            exact ⟨blt_lt hg.1, blt_lt hg.2⟩
        · cases hs
      · cases hs
    · cases hs
  | store sz x y =>
    simp only [step] at hs
    simp only [gB] at hg
    split at hs
    · rename_i id G j o hv
      rw [hv] at hg
      split at hs
      · rename_i ob ho
        simp only [ho] at hg
        split at hs
        · split at hs
          · rename_i cs hcs
            simp only [hcs, Bool.and_eq_true] at hg
            split at hs
            · cases hs; exact ⟨Nat.le_of_ble_eq_true hg.1.1, blt_lt hg.1.2, Nat.le_of_ble_eq_true hg.2⟩
            · cases hs
          · rename_i hcs
            simp only [hcs] at hg
            split at hs
            · rename_i b oc hb' hoc
              simp only [hoc, Bool.and_eq_true] at hg
              split at hs
              · split at hs
                · cases hs; exact ⟨Nat.le_of_ble_eq_true hg.1.1, blt_lt hg.1.2, Nat.le_of_ble_eq_true hg.2⟩
                · cases hs
              · cases hs
            · cases hs
        · cases hs
      · cases hs
    · cases hs
  | slice sz x lo hi =>
    simp only [step] at hs
    simp only [gB] at hg
    split at hs
    · rename_i sz' xs hv
      rw [hv] at hg
      split at hs
      · obtain ⟨p', l, u, hp, e⟩ := cutN_ok hg hs; cases e; exact hp
      · cases hs
    · rename_i hv
      rw [hv] at hg
      obtain ⟨p', l, u, hp, e⟩ := cutN_ok hg hs; cases e; exact hp
    · rename_i id G sz' off len hv
      rw [hv] at hg
      split at hs
      · obtain ⟨p', l, u, hp, e⟩ := cutN_ok hg hs; cases e; exact hp
      · cases hs
    · cases hs
  | slice3 sz x hi mx =>
    simp only [step] at hs
    simp only [gB] at hg
    split at hs
    · rename_i id G sz' off len k n k' m h1 h2 h3
      rw [h1, h2, h3] at hg
      split at hs
      · cases hs
        simp only [Bool.and_eq_true, nlt_eq, decide_eq_true_eq, eqI_eq, beq_iff_eq] at hg
        exact ⟨hg.1.1, hg.1.2, hg.2⟩
      · cases hs
    · cases hs
  | sslice x lo hi =>
    simp only [step] at hs
    simp only [gB] at hg
    split at hs
    · rename_i s hv
      rw [hv] at hg
      obtain ⟨p', l, u, hp, e⟩ := cutN_ok hg hs; cases e; exact hp
    · cases hs
  | idx x n =>
    simp only [step] at hs
    simp only [gB] at hg
    split at hs
    · rename_i s k m h1 h2
      rw [h1, h2] at hg
      cases hs; exact inNat_ok hg
    · cases hs
  | aidx sz ag n x m =>
    simp only [step] at hs
    simp only [gB] at hg
    split at hs
    · rename_i cs k m h1 h2
      rw [h1, h2] at hg
      simp only [Bool.and_eq_true, Bool.or_eq_true] at hg
      split at hs
      · split at hs
        · cases hs; exact inNat_ok hg.1
        · rename_i hag
          cases hs
          rcases hg.2 with q | q
          · exact absurd q hag
          · exact ⟨inNat_ok hg.1, blt_lt q⟩
      · cases hs
    · cases hs
  | app ty sz bytes s x =>
    simp only [step] at hs
    simp only [gB] at hg
    split at hs
    · rename_i ys hy
      rw [hy] at hg
      exact appG_ok hg hs
    · cases hs
  | apps ty bytes s x =>
    simp only [step] at hs
    simp only [gB] at hg
    split at hs
    · rename_i b hv
      rw [hv] at hg
      exact appG_ok hg hs
    · cases hs
  | s2b ty x =>
    simp only [step] at hs
    simp only [gB] at hg
    split at hs
    · rename_i b hv
      rw [hv] at hg
      cases hs; exact Nat.le_of_ble_eq_true hg
    · cases hs
  | mk ty sz bytes zero n =>
    simp only [step] at hs
    simp only [gB] at hg
    split at hs
    · rename_i m hv
      rw [hv] at hg
      cases hs
      cases m with
      | ofNat m =>
        have := fitB_ok hg
        exact ⟨Int.natCast_nonneg m, mulB this.1, by show (m : Int) ≤ _; have := this.2; omega⟩
      | negSucc m => cases hg
    · cases hs
  | mk2 ty sz bytes zero l c =>
    simp only [step] at hs
    simp only [gB] at hg
    split at hs
    · rename_i l c h1 h2
      rw [h1, h2] at hg
      cases hs
      cases l with
      | negSucc l => cases hg
      | ofNat l => cases c with
        | negSucc c => cases hg
        | ofNat c =>
          simp only [Bool.and_eq_true] at hg
          have := fitB_ok hg.2
          have h0 := Nat.le_of_ble_eq_true hg.1
          exact ⟨Int.natCast_nonneg l, by show (l : Int) ≤ (c : Int); omega, mulB this.1, by show (c : Int) ≤ _; have := this.2; omega⟩
    · cases hs
  | aaddr bsz st n x m =>
    simp only [step] at hs
    simp only [gB] at hg
    split at hs
    · rename_i id G j o k m h1 h2
      rw [h2] at hg
      split at hs
      · split at hs
        · cases hs; exact inNat_ok hg
        · split at hs
          · cases hs; exact inNat_ok hg
          · cases hs
      · cases hs
    · rename_i cs k m h1 h2
      rw [h2] at hg
      cases hs; exact inNat_ok hg
    · cases hs
  | aslice bsz n x lo hi =>
    simp only [step] at hs
    simp only [gB] at hg
    split at hs
    · rename_i id G j o hv
      rw [hv] at hg
      split at hs
      · rename_i ob ho
        simp only [ho, Bool.and_eq_true] at hg
        split at hs
        · obtain ⟨p', l, u, hp, e⟩ := cutN_ok hg.1.1.1 hs; cases e; exact ⟨hp, Nat.le_of_ble_eq_true hg.1.1.2⟩
        · split at hs
          · obtain ⟨p', l, u, hp, e⟩ := cutN_ok hg.1.1.1 hs; cases e; exact ⟨hp, Nat.le_of_ble_eq_true hg.1.2, blt_lt hg.2⟩
          · cases hs
      · cases hs
    · cases hs
  | aslf n x lo hi =>
    simp only [step] at hs
    simp only [gB] at hg
    split at hs
    · rename_i id G j o hv
      rw [hv] at hg
      split at hs
      · rename_i ob ho
        simp only [ho, Bool.and_eq_true] at hg
        split at hs
        · obtain ⟨p', l, u, hp, e⟩ := cutN_ok hg.1.1 hs; cases e; exact ⟨hp, Nat.le_of_ble_eq_true hg.1.2, blt_lt hg.2⟩
        · cases hs
      · cases hs
    · cases hs
  | copy sz d s =>
    simp only [step] at hs
    simp only [gB] at hg
    split at hs
    · split at hs
      · rename_i id G sz' off len hv
        rw [hv] at hg
        split at hs
        · rename_i ob ho
          simp only [ho] at hg
          split at hs
          · cases hs; exact Nat.le_of_ble_eq_true hg
          · cases hs
        · cases hs
      · cases hs
    · cases hs
  | aeq neg fs x y =>
    simp only [step] at hs
    split at hs
    · exact triv (fun _ => rfl) hs
    · cases hs
  | un op x =>
    simp only [step] at hs
    split at hs
    · exact triv (fun _ => rfl) hs
    · cases hs
  | fld off sz ag x =>
    simp only [step] at hs
    split at hs
    · split at hs
      · split at hs
        · cases hs; trivial
        · cases hs
      · exact triv (fun _ => rfl) hs
    · cases hs
  | ext j x =>
    simp only [step] at hs
    split at hs
    · exact triv (fun _ => rfl) hs
    · cases hs
  | b2s x =>
    simp only [step] at hs
    split at hs
    · exact triv (fun _ => rfl) hs
    · cases hs
  | build z ps =>
    simp only [step] at hs
    exact triv (fun _ => rfl) hs
  | _ =>
    simp only [step] at hs
    repeat' split at hs
    all_goals first
      | (cases hs; trivial)
      | (cases hs; done)
/-- A step that is no call. -/
theorem exS_ok {i : I} {a : AV} {h' : List AObj} (h : exS Gl σ i = some (a, h')) : ∃ p, step Gl σ i = some (p, a, h') ∧ p := by
  have gen : ∀ {i : I}, (∀ op x y, i ≠ .bin op x y) → (match step Gl σ i with
      | some (_, a, h') => if gB Gl σ i = true then some (a, h') else none
      | none => none) = some (a, h') → ∃ p, step Gl σ i = some (p, a, h') ∧ p := fun hb h => by
    split at h
    · rename_i p a0 h0 hs
      split at h
      · rename_i hg; cases h; exact ⟨p, hs, gB_ok hg hb hs⟩
      · cases h
    · cases h
  cases i with
  | bin op x y =>
    simp only [exS] at h
    split at h
    · rename_i va vb h1 h2
      split at h
      · rename_i r hr
        cases h
        obtain ⟨p, e, hp⟩ := binB_ok hr
        exact ⟨p, by simp only [step, h1, h2, e, Option.map_some], hp⟩
      · cases h
    · cases h
  | conv k x =>
    simp only [exS] at h
    split at h
    · rename_i k' n h1
      cases h
      exact ⟨True, by simp only [step, h1, wrapB_eq], trivial⟩
    · cases h
  | _ => exact gen (fun _ _ _ q => by cases q) h

theorem freeze_at : ∀ (ids : List Nat) (h : List AObj) (id : Nat), id ∉ ids → (freeze h ids)[id]? = h[id]? := by
  intro ids
  induction ids with
  | nil => intro h id _; rfl
  | cons j ids ih =>
    intro h id hn
    simp only [List.mem_cons, not_or] at hn
    show (freeze (match h[j]? with | some o => h.set j { o with fz := o.es.length } | none => h) ids)[id]? = _
    rw [ih _ id hn.2]
    split
    · rw [List.getElem?_set_ne (fun e => hn.1 e.symm)]
    · rfl
theorem fz_len : ∀ (ids : List Nat) (h : List AObj), (freeze h ids).length = h.length := by
  intro ids
  induction ids with
  | nil => intro h; rfl
  | cons j ids ih =>
    intro h
    show (freeze (match h[j]? with | some o => h.set j { o with fz := o.es.length } | none => h) ids).length = _
    rw [ih]
    split
    · simp
    · rfl
/-- Blocks outside those told stay as they are. -/
def Tch (h h' : List AObj) (ids : List Nat) : Prop := h.length ≤ h'.length ∧ ∀ id, id < h.length → id ∉ ids → h'[id]? = h[id]?
theorem Tch.refl (h : List AObj) (ids : List Nat) : Tch h h ids := ⟨Nat.le_refl _, fun _ _ _ => rfl⟩
theorem Tch.app (h l : List AObj) (ids : List Nat) : Tch h (h ++ l) ids := ⟨by simp, fun id hid _ => List.getElem?_append_left hid⟩
theorem Tch.set {h : List AObj} {id : Nat} {o : AObj} {ids : List Nat} (hi : id ∈ ids) : Tch h (h.set id o) ids := ⟨by simp, fun j _ hn => List.getElem?_set_ne fun e => hn (by rw [← e]; exact hi)⟩
theorem Tch.frz (h : List AObj) {l ids : List Nat} (hl : ∀ id ∈ l, id ∈ ids) : Tch h (freeze h l) ids := ⟨by rw [fz_len]; exact Nat.le_refl _, fun j _ hn => freeze_at l h j fun q => hn (hl j q)⟩
theorem Tch.trans {h h1 h2 : List AObj} {ids : List Nat} (a : Tch h h1 ids) (b : Tch h1 h2 ids) : Tch h h2 ids := ⟨Nat.le_trans a.1 b.1, fun j hj hn => by rw [b.2 j (Nat.lt_of_lt_of_le hj a.1) hn, a.2 j hj hn]⟩
theorem appY_tch {h : List AObj} {ty sz bytes : Nat} {a : AV} {ys : List AV} {p : Prop} {r : AV} {h' : List AObj} {ids : List Nat} (hi : ∀ id G sz off len, a = .row id G sz off len → id ∈ ids) (hs : appY h ty sz bytes a ys = some (p, r, h')) : Tch h h' ids := by
  unfold appY at hs
  split at hs
  · cases hs; exact .app _ _ _
  · split at hs
    · split at hs
      · cases hs; exact .set (hi _ _ _ _ _ rfl)
      · cases hs
    · cases hs
  · split at hs
    · split at hs
      · split at hs
        · cases hs; exact .refl _ _
        · cases hs; exact .app _ _ _
      · cases hs
    · cases hs
  · cases hs
theorem tI_ok {i : I} {p : Prop} {a : AV} {h' : List AObj} (hs : step Gl σ i = some (p, a, h')) : Tch σ.h h' (tI Gl σ i) := by
  have same : ∀ {α : Type} {o : Option α} {f : α → Prop × AV × List AObj}, (∀ x, (f x).2.2 = σ.h) → o.map f = some (p, a, h') → h' = σ.h := fun hf h => by
    rw [Option.map_eq_some_iff] at h
    obtain ⟨x, _, e⟩ := h
    have := hf x
    rw [e] at this
    exact this
  have rfl' : h' = σ.h → Tch σ.h h' (tI Gl σ i) := fun e => by rw [e]; exact .refl _ _
  cases i with
  | app ty sz bytes s x =>
    simp only [step] at hs
    split at hs
    · exact appY_tch (fun id G sz off len e => by simp only [tI, e]; simp) hs
    · cases hs
  | apps ty bytes s x =>
    simp only [step] at hs
    split at hs
    · exact appY_tch (fun id G sz off len e => by simp only [tI, e]; simp) hs
    · cases hs
  | store sz x y =>
    simp only [step] at hs
    split at hs
    · rename_i id G j o hv
      have ht : tI Gl σ (.store sz x y) = id :: rowsA (σ.val Gl y) := by simp only [tI, hv]
      rw [ht]
      split at hs
      · split at hs
        · split at hs
          · split at hs
            · cases hs; exact .set (by simp)
            · cases hs
          · split at hs
            · split at hs
              · split at hs
                · cases hs; exact (Tch.frz σ.h (fun id q => List.mem_cons_of_mem _ q)).trans (.set (by simp))
                · cases hs
              · cases hs
            · cases hs
        · cases hs
      · cases hs
    · cases hs
  | bslice ty sz xs =>
    simp only [step] at hs
    split at hs
    · split at hs
      · cases hs
        exact (Tch.frz σ.h (fun id q => q)).trans (.app _ _ _)
      · cases hs
    · cases hs
  | aslf n x lo hi =>
    simp only [step] at hs
    split at hs
    · rename_i id G j o hv
      have ht : tI Gl σ (.aslf n x lo hi) = [id] := by simp only [tI, hv]
      rw [ht]
      split at hs
      · split at hs
        · rw [Option.map_eq_some_iff] at hs
          obtain ⟨⟨q, l, u⟩, _, e⟩ := hs
          cases e; exact .set (by simp)
        · cases hs
      · cases hs
    · cases hs
  | copy sz d s =>
    simp only [step] at hs
    split at hs
    · split at hs
      · rename_i id G sz' off len hv
        have ht : tI Gl σ (.copy sz d s) = [id] := by simp only [tI, hv]
        rw [ht]
        split at hs
        · split at hs
          · cases hs; exact .set (by simp)
          · cases hs
        · cases hs
      · cases hs
    · cases hs
  | mput kt m k v =>
    simp only [step] at hs
    split at hs
    · rename_i id hv
      have ht : tI Gl σ (.mput kt m k v) = [id] := by simp only [tI, hv]
      rw [ht]
      split at hs
      · split at hs
        · split at hs
          · cases hs; exact .set (by simp)
          · cases hs; exact .set (by simp)
        · cases hs
      · cases hs
    · cases hs
  | bin op x y =>
    simp only [step] at hs
    split at hs
    · exact rfl' (same (fun _ => rfl) hs)
    · cases hs
  | aeq neg fs x y =>
    simp only [step] at hs
    split at hs
    · exact rfl' (same (fun _ => rfl) hs)
    · cases hs
  | un op x =>
    simp only [step] at hs
    split at hs
    · exact rfl' (same (fun _ => rfl) hs)
    · cases hs
  | fld off sz ag x =>
    simp only [step] at hs
    split at hs
    · split at hs
      · split at hs
        · cases hs; exact .refl _ _
        · cases hs
      · exact rfl' (same (fun _ => rfl) hs)
    · cases hs
  | ext j x =>
    simp only [step] at hs
    split at hs
    · exact rfl' (same (fun _ => rfl) hs)
    · cases hs
  | load sz ag x =>
    simp only [step] at hs
    split at hs
    · split at hs
      · split at hs
        · cases hs; exact .refl _ _
        · cases hs
      · exact rfl' (same (fun _ => rfl) hs)
    · split at hs
      · split at hs
        · split at hs
          · cases hs; exact .refl _ _
          · cases hs; exact .refl _ _
        · cases hs
      · cases hs
    · cases hs
  | b2s x =>
    simp only [step] at hs
    split at hs
    · exact rfl' (same (fun _ => rfl) hs)
    · cases hs
  | build z ps =>
    simp only [step] at hs
    exact rfl' (same (fun _ => rfl) hs)
  | slice sz x lo hi =>
    simp only [step] at hs
    split at hs
    · split at hs
      · exact rfl' (same (fun _ => rfl) hs)
      · cases hs
    · exact rfl' (same (fun _ => rfl) hs)
    · split at hs
      · exact rfl' (same (fun _ => rfl) hs)
      · cases hs
    · cases hs
  | sslice x lo hi =>
    simp only [step] at hs
    split at hs
    · exact rfl' (same (fun _ => rfl) hs)
    · cases hs
  | aslice bsz n x lo hi =>
    simp only [step] at hs
    split at hs
    · split at hs
      · split at hs
        · exact rfl' (same (fun _ => rfl) hs)
        · split at hs
          · exact rfl' (same (fun _ => rfl) hs)
          · cases hs
      · cases hs
    · cases hs
  | call f as => cases hs
  | _ =>
    simp only [step] at hs
    repeat' split at hs
    all_goals first
      | (cases hs; exact .refl _ _)
      | (cases hs; exact .app _ _ _)
      | (cases hs; done)
end
end Abs
end Go.Proofs.YtnhgeocdffhkjaaDoor
