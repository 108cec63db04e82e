/- Maps of the call's own: a new one. -/
import Derived.Test.YtnhgeocdffhkjaaDoorAbsE
namespace Go.Proofs.YtnhgeocdffhkjaaDoor
namespace Abs
open Go.RowKit
set_option linter.unusedVariables false
set_option linter.unusedSimpArgs false
section
variable {Gl : Nat → Option (List AV)} {F : Addr → Option Value} {own : List Ent} {B : Nat} {w0 : W0} {σ : St} {act : Act} {w : World}
theorem Inv.newMap (h : Inv Gl F own B w0 σ act w) (ty : Nat) : Inv Gl F (own ++ [⟨some w.heap.size, 0, 0, 0⟩]) B w0 ⟨σ.t, σ.h ++ [⟨ty, 0, 0, true, []⟩]⟩ act (w.alloc (.map #[] 0)) := by
  have hnew := heap_alloc_new w (.map #[] 0)
  refine h.turn (fun _ _ q => q) (Le.snoc _ _) (fun a x q => ?_) (by simp [h.hl]) (fun id e o' p q => ?_) (fun i j e e' g p q r s => ?_) (h.below.alloc (Nat.le_trans h.room h.below.size) _) (fun id e g p q => ?_) (hpw := fun g hg _ => Below.heap_alloc _ _ _ hg) (hpo := snoc_own fun g q => by cases q; exact Nat.le_refl _)
  · rw [World.cell?_alloc_lt _ _ _ (h.F_lt q)]; exact h.sub a x q
  · rcases Nat.lt_or_ge id own.length with hid | hid
    · rw [List.getElem?_append_left hid] at p
      rw [List.getElem?_append_left (by rw [← h.hl]; exact hid)] at q
      have k := h.objs id e o' p q
      exact k.mono (fun _ _ r => r) (Le.snoc _ _) (fun g hg => Below.heap_alloc _ _ _ (k.lt hg)) (fun g j hg hj => k.fz hg hj)
    · rw [List.getElem?_append_right hid] at p
      rw [List.getElem?_append_right (by rw [← h.hl]; exact hid), ← h.hl] at q
      have h0 : id - own.length = 0 := by
        rcases Nat.eq_zero_or_pos (id - own.length) with h0 | h0
        · exact h0
        · rw [List.getElem?_eq_none (by simp; omega)] at p; cases p
      rw [h0] at p q
      simp at p q
      subst p q
      refine .inr ⟨rfl, rfl, rfl, w.heap.size, rfl, #[], 0, hnew, rfl, fun i en x p q => by simp at p, fun j => ?_⟩
      rcases hF : F ⟨w.heap.size, j, none⟩ with _ | y
      · rfl
      · have := h.F_lt hF; simp at this
  · have key : ∀ (i : Nat) (e : Ent), (own ++ [(⟨some w.heap.size, 0, 0, 0⟩ : Ent)])[i]? = some e → e.g = some g → (i < own.length ∧ own[i]? = some e ∧ g < w.heap.size) ∨ (i = own.length ∧ g = w.heap.size) := by
      intro i e p r
      rcases Nat.lt_or_ge i own.length with hid | hid
      · rw [List.getElem?_append_left hid] at p
        exact .inl ⟨hid, p, h.own_lt p r⟩
      · rw [List.getElem?_append_right hid] at p
        have h0 : i - own.length = 0 := by
          rcases Nat.eq_zero_or_pos (i - own.length) with h0 | h0
          · exact h0
          · rw [List.getElem?_eq_none (by simp; omega)] at p; cases p
        rw [h0] at p
        simp at p
        subst p
        simp at r
        exact .inr ⟨by omega, r.symm⟩
    rcases key i e p r with ⟨a1, a2, a3⟩ | ⟨a1, a2⟩ <;> rcases key j e' q s with ⟨b1, b2, b3⟩ | ⟨b1, b2⟩
    · exact h.inj i j e e' g a2 b2 r s
    · omega
    · omega
    · omega
  · rcases Nat.lt_or_ge id own.length with hid | hid
    · rw [List.getElem?_append_left hid] at p
      exact h.base id e g p q
    · rw [List.getElem?_append_right hid] at p
      have h0 : id - own.length = 0 := by
        rcases Nat.eq_zero_or_pos (id - own.length) with h0 | h0
        · exact h0
        · rw [List.getElem?_eq_none (by simp; omega)] at p; cases p
      rw [h0] at p
      simp at p
      subst p
      simp at q
      subst q
      exact Nat.le_trans h.room h.below.size
/-- A map's entries turn. -/
theorem Inv.putMap (h : Inv Gl F own B w0 σ act w) {w' : World} {id : Nat} {e : Ent} {ob ob' : AObj} {g : Nat} (he : own[id]? = some e) (hob : σ.h[id]? = some ob) (hg : e.g = some g) (h0 : ob.sz = 0) (hsz : ob'.sz = 0) (hpr : ob'.pr = true)
    (hoth : ∀ k, k ≠ g → w'.heap[k]? = w.heap[k]?) (hblk : ∃ (es : Array MapEntry) (clock : Nat), w'.heap[g]? = some (.map es clock) ∧ es.size = ob'.es.length ∧ ∀ (i : Nat) (en : MapEntry) (x : AV), es[i]? = some en → ob'.es[i]? = some x → EntR F en x)
    (h1 : w'.os = w.os) (h2 : w'.tape = w.tape) (h3 : w'.output = w.output) (h4 : w'.heap.size = w.heap.size) : Inv Gl F own B w0 ⟨σ.t, σ.h.set id ob'⟩ act w' := by
  have hidlt : id < σ.h.length := (List.getElem?_eq_some_iff.1 hob).1
  rcases h.objs id e ob he hob with ⟨q, _⟩ | ⟨_, m1, m2, g', m3, es0, clock0, m4, m5, m6, m7⟩
  · omega
  rw [hg] at m3
  cases m3
  have hB := h.base id e g he hg
  refine h.turn (fun _ _ q => q) (Le.refl _) (fun a x q => ?_) (by simp [h.hl]) (fun k f o' p q => ?_) h.inj ?_ h.base (hpw := fun k _ hk => hoth k fun q => hk id e he (by rw [hg, q]))
  · have hc := h.sub a x q
    by_cases hab : a.block = g
    · exfalso
      unfold World.cell? at hc
      rw [hab, m4] at hc
      simp at hc
    · rw [World.cell?_of_block (w := w) (hoth _ hab)]; exact hc
  · have q' : (σ.h.set id ob')[k]? = some o' := q
    by_cases hk : k = id
    · subst hk
      rw [he] at p
      cases p
      rw [List.getElem?_set_self hidlt] at q'
      cases q'
      obtain ⟨es, clock, b1, b2, b3⟩ := hblk
      exact .inr ⟨hsz, m1, hpr, g, hg, es, clock, b1, b2, b3, m7⟩
    · rw [List.getElem?_set_ne (fun e => hk e.symm)] at q'
      have hO := h.objs k f o' p q'
      refine hO.mono (fun _ _ r => r) (Le.refl _) (fun g' hg' => hoth g' (fun e' => ?_)) (fun g' j hg' hj => hO.fz hg' hj)
      subst e'
      exact hk (h.inj k id f e _ p he hg' hg)
  · exact ⟨h1.trans h.below.os, h2.trans h.below.tape, h3.trans h.below.output, by rw [h4]; exact h.below.size, fun k hk => by rw [hoth k (by omega)]; exact h.below.block k hk⟩
end
end Abs
end Go.Proofs.YtnhgeocdffhkjaaDoor
