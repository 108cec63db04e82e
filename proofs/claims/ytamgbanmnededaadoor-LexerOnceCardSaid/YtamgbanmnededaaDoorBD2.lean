/- strings.Builder's String as the typed machine takes it. -/
import Derived.Test.YtamgbanmnededaaDoorBD1
namespace Go.Proofs.YtamgbanmnededaaDoor
namespace Abs
open Go.RowKit
set_option linter.unusedVariables false
set_option linter.unusedSimpArgs false
theorem fzw_same (w : World) (g n : Nat) {cs : Array Value} {ty : TypeId} {fr : Nat × Nat} (h : w.heap[g]? = some (.cells cs ty fr)) : ∃ fr', (w.freeze ⟨g, 0, none⟩ n).heap[g]? = some (.cells cs ty fr') := by
  unfold World.freeze
  by_cases hn : n = 0
  · rw [if_pos hn]; exact ⟨fr, h⟩
  · rw [if_neg hn]
    obtain ⟨lo, hi⟩ := fr
    refine ⟨if lo == hi then (0, 0 + n) else (min lo 0, max hi (0 + n)), ?_⟩
    show (w.heap.modify g _)[g]? = _
    rw [Array.getElem?_modify, if_pos rfl, h]; rfl
theorem fzw_other (w : World) (g n k : Nat) (hk : k ≠ g) : (w.freeze ⟨g, 0, none⟩ n).heap[k]? = w.heap[k]? := by
  unfold World.freeze
  by_cases hn : n = 0
  · rw [if_pos hn]
  · rw [if_neg hn]
    show (w.heap.modify g _)[k]? = _
    rw [Array.getElem?_modify, if_neg (fun q => hk q.symm)]
theorem fzw_rest (w : World) (g n : Nat) : (w.freeze ⟨g, 0, none⟩ n).os = w.os ∧ (w.freeze ⟨g, 0, none⟩ n).tape = w.tape ∧ (w.freeze ⟨g, 0, none⟩ n).output = w.output ∧ (w.freeze ⟨g, 0, none⟩ n).heap.size = w.heap.size := by
  unfold World.freeze
  by_cases hn : n = 0
  · rw [if_pos hn]; exact ⟨rfl, rfl, rfl, rfl⟩
  · rw [if_neg hn]; exact ⟨rfl, rfl, rfl, Array.size_modify⟩
theorem okhStr {GX : GXT} (tB : Nat) (cs : List SC) : HOk Tryd.prog (gx GX) (iStr tB cs) := by
  refine ⟨by kernel_rfl, fun x y hy H ρ av hS => ?_⟩
  obtain rfl : (bsI (bytesX cs x), x) = y := Option.some.inj hy
  intro F own B w0 t act w xs hI hxs
  obtain ⟨O0, O1, E0, E1, g, c0, c1, rest, cur, fr, y0, y1, hO0, hO1, hE0, hE1, hg, rfl, b1, b2, b3, b4, hes, hsz, hblk, hnf, hcs, d0, d1, hy0, hR1, rfl, hr0, hr1, hall⟩ := found hS hI hxs
  have hcell1 : w.cell? ⟨g, 1, none⟩ = some y1 := by rw [Lib.cell_of_heap hblk]; exact d1
  obtain ⟨e1, he1, hG, hst, hx⟩ := hR1.row_inv
  rw [hE1] at he1; cases he1
  have hrow : (emb (shIn tB cs) x).h[1]? = some (.row 5 (.int .u8) false (bytesX cs x)) := rfl
  obtain ⟨O1', hO1', r1, r2, r3, r4, r5⟩ := hS.h.hr 1 _ hrow
  rw [hO1] at hO1'; cases hO1'
  have r6 : All2 Wp O1.es (List.map (fun z : Int => AV.v (.int .u8 z)) (bytesX cs x)) := r5
  have hlen1 : O1.es.length = (bytesX cs x).length := by have := r6.1; rw [List.length_map] at this; exact this
  obtain ⟨x1, x2, x3⟩ := hx (by rw [hr1.1, hlen1])
  obtain ⟨cp, q1, q2⟩ := x3 (.inr rfl)
  obtain ⟨a0, cap0, s1, s2, _⟩ := hst
  have hcp : (bytesX cs x).length ≤ cp := by rw [s1] at q2; cases q2; exact s2
  have hes1 : (emb (shSt tB cs) (bsI (bytesX cs x), x)).h = (emb (shIn tB cs) x).h.set 1 (.row 5 (.int .u8) true (bytesX cs x)) := rfl
  have fin : ∀ (O' : AObj) (s : ByteArray), O'.ty = O1.ty → O'.sz = O1.sz → O'.pr = O1.pr → O'.es = O1.es → O'.fz = O1.es.length → s = bsI (bytesX cs x) →
      ∃ ρ' rs, Sim ρ' (emb (shSt tB cs) (bsI (bytesX cs x), x)) ⟨rs, H.set (ρ.getD 1 0) O'⟩ ∧ oneT rs = .v (.string s) ∧ Frm H ρ ρ' (H.set (ρ.getD 1 0) O') := by
    intro O' s p1 p2 p3 p4 p5 p6
    have u := Upd.set hS.h (o' := .row 5 (.int .u8) true (bytesX cs x)) (O' := O') hrow ⟨rfl, rfl, rfl⟩ ⟨by rw [p1]; exact r1, by rw [p2]; exact r2, by rw [p3]; exact r3, by rw [p5, hlen1]; rfl, by rw [p4]; exact r5⟩
    refine ⟨ρ, [.v (.string s)], ⟨.cons ?_ .nil, by rw [hes1]; exact u.hs⟩, rfl, (Frm.refl H ρ).upd hS.h.rl u⟩
    show Wp (.v (.string s)) (Ty.enc .str (bsI (bytesX cs x)))
    rw [p6]; exact .refl _
  have hset : H.set (ρ.getD 1 0) O1 = H := by
    apply List.ext_getElem?
    intro k
    by_cases hk : ρ.getD 1 0 = k
    · subst hk; rw [List.getElem?_set_self (List.getElem?_eq_some_iff.1 hO1).1]; exact hO1.symm
    · rw [List.getElem?_set_ne hk]
  have fin0 : bytesX cs x = [] → ∀ (e : Ending) (w' : World), (e = .returned (.string ⟨#[]⟩) ∧ Below w.heap.size w w') → ∃ v res h' F' own', e = .returned v ∧ Inv (gx GX) F' own' B w0 ⟨t, h'⟩ act w' ∧ R F' own' v res ∧ ∃ ρ' rs, Sim ρ' (emb (shSt tB cs) (bsI (bytesX cs x), x)) ⟨rs, h'⟩ ∧ oneT rs = res ∧ Frm H ρ ρ' h' := by
    rintro hb e w' ⟨rfl, hbel⟩
    have h0 : O1.es.length = 0 := by rw [hlen1, hb]; rfl
    obtain ⟨ρ', rs, f1, f2, f3⟩ := fin O1 ⟨#[]⟩ rfl rfl rfl rfl (by rw [r4]; simp [h0]) (by rw [hb]; rfl)
    rw [hset] at f1 f3
    exact ⟨_, .v (.string ⟨#[]⟩), H, F, own, rfl, hI.beyond hbel, .pure (.v _), ρ', rs, f1, f2, f3⟩
  by_cases hb : bytesX cs x = []
  · have hl0 : (bytesX cs x).length = 0 := by rw [hb]; rfl
    cases hg1 : E1.g with
    | none =>
      rw [hg1, hl0] at q2
      exact (str_nil g cp w (by rw [hcell1, q2]; rfl)).mono (fin0 hb)
    | some g1 =>
      rw [hg1, hl0] at q2
      have q2 : y1 = .slice (some ⟨g1, 0, none⟩) 0 cp := by rw [q2]; simp
      by_cases hc0 : cp = 0
      · subst hc0
        obtain ⟨cur1, fr1, k1, _⟩ := hr1.blkF hg1
        exact (str_noroom g g1 w (World.block_lt_of_cell? w _ hcell1) (O1.ty, cur1.size) (by simp [World.shape?, k1]) (by rw [hcell1, q2])).mono (fin0 hb)
      · exact (str_room g g1 cp w hc0 (by rw [hcell1, q2])).mono (fin0 hb)
  · have hpos : 0 < (bytesX cs x).length := List.length_pos_iff.2 hb
    cases hg1 : E1.g with
    | none =>
      have := hr1.2.2.2.2.2.2.2
      rw [hg1] at this
      have : E1.cap = 0 := this
      omega
    | some g1 =>
      rw [hg1] at q2
      have q2 : y1 = .slice (some ⟨g1, 0, none⟩) (bytesX cs x).length cp := by rw [q2]; simp
      obtain ⟨cur1, fr1, k1, _, k2, k3⟩ := hr1.blkF hg1
      have hsz1 : O1.sz = 1 := r2
      have hcap := hr1.2.2.2.2.1.1
      have hGc := hr1.2.2.2.1
      rw [hr1.1, hlen1] at hGc
      have hmx : (bytesX cs x).length ≤ 9223372036854775807 := by unfold maxLen at hcap; omega
      refine (str_some g g1 cp cur1.size (bytesX cs x) w hb (by rw [hcell1, q2]) hcp hmx (by simp [World.shape?, k1, r1]) (by rw [k2, hsz1]; omega) ?_).mono ?_
      · intro j z hz
        have hj : j < (bytesX cs x).length := (List.getElem?_eq_some_iff.1 hz).1
        have ha := List.getElem?_eq_getElem (show j < O1.es.length by omega)
        have hw := r6.2 j O1.es[j] (.v (.int .u8 z)) ha (by rw [List.getElem?_map, hz]; rfl)
        have hv : O1.es[j] = .v (.int .u8 z) := hw.v_inv
        rw [hv] at ha
        obtain ⟨y, a1, _, a3⟩ := k3 j 0 _ (.v (.int .u8 z)) ha rfl
        have hy : y = .int .u8 z := a3.r.v_inv
        rw [hsz1, Nat.mul_one, Nat.add_zero, hy] at a1
        have ead : (Addr.add ⟨g1, 0, none⟩ j : Addr) = ⟨g1, j, none⟩ := by simp [Addr.add]; intro h; exact h.symm
        rw [ead, Lib.cell_of_heap k1]; exact a1
      · rintro e w' ⟨rfl, rfl⟩
        obtain ⟨F', hF, hI2, _⟩ := hI.freeze1 hO1
        have hI3 := hI2.same (w' := w.drew) rfl rfl rfl rfl
        obtain ⟨z1, z2, z3, z4⟩ := fzw_rest w.drew g1 (bytesX cs x).length
        have hI4 := hI3.shut (w' := w.drew.freeze ⟨g1, 0, none⟩ (bytesX cs x).length) hE1 (by
          show (H.set (ρ.getD 1 0) _)[ρ.getD 1 0]? = _
          rw [List.getElem?_set_self (List.getElem?_eq_some_iff.1 hO1).1]) hg1 rfl (by show 0 < O1.es.length; omega) z1 z2 z3 (fun k hk => fzw_other _ _ _ _ hk) (by
          have k1 : w.drew.heap[g1]? = some (.cells cur1 O1.ty fr1) := k1
          obtain ⟨fr', hf⟩ := fzw_same w.drew g1 (bytesX cs x).length k1
          exact ⟨cur1, O1.ty, fr1, fr', k1, hf, z4.symm⟩)
        obtain ⟨ρ', rs, f1, f2, f3⟩ := fin { O1 with fz := O1.es.length } ⟨((bytesX cs x).map fun n => UInt8.ofNat n.toNat).toArray⟩ rfl rfl rfl rfl rfl rfl
        exact ⟨_, _, _, F', own, rfl, hI4, .pure (.v _), ρ', rs, f1, f2, f3⟩
end Abs
end Go.Proofs.YtamgbanmnededaaDoor
