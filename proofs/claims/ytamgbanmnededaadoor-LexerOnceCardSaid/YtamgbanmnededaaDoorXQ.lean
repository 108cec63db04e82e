/- Package-level tables: from their cells to the machine's facts; from a contract with tables to the call. -/
import Derived.Test.YtamgbanmnededaaDoorXK
import Derived.Test.YtamgbanmnededaaDoorXP
namespace Go.Proofs.YtamgbanmnededaaDoor
namespace Abs
open Go.RowKit
set_option linter.unusedVariables false
set_option linter.unusedSimpArgs false
theorem lptr_ints {F : Addr → Option Value} {g : Nat} {k : IntKind} {zs : List Int} (h : ∀ i, i < zs.length → F ⟨g, i, none⟩ = some (.int k (zs.getD i 0))) : RP F (.pointer (some ⟨g, 0, none⟩)) (.lptr (zs.map fun z => .v (.int k z))) := by
  refine RP.lptr _ _ (fun j => .int k (zs.getD j 0)) (fun j a hj => ?_) (fun j a hj => ?_)
  · have hl : j < zs.length := by
      rcases Nat.lt_or_ge j zs.length with q | q
      · exact q
      · rw [List.getElem?_eq_none (by simpa using q)] at hj; cases hj
    refine ⟨?_, rfl⟩
    have : (Addr.add ⟨g, 0, none⟩ j : Addr) = ⟨g, j, none⟩ := by simp [Addr.add]; intro h; exact h.symm
    rw [this]; exact h j hl
  · rw [List.getElem?_map] at hj
    rcases q : zs[j]? with _ | z
    · rw [q] at hj; cases hj
    · rw [q] at hj
      simp only [Option.map_some, Option.some.injEq] at hj
      subst hj
      have : zs.getD j 0 = z := by rw [List.getD_eq_getElem?_getD, q]; rfl
      rw [this]; exact .v _
/-- From a contract to the call, tables let in. -/
theorem calls_trueG {P : Program} {Gl : Nat → Option (List AV)} {w : World} {f : Nat} {xs : Array Value} {l : List AV} (hP : Pure P Gl f l (.v (.bool true))) (hg : GlOk Gl (snap w)) (hw : GlW Gl w.heap.size w) (hxs : RPL (snap w) xs l) : Calls P f xs w fun e w' => e = .returned (.bool true) ∧ Below w.heap.size w w' := by
  refine (hP w (snap w) xs (fun _ _ h => h) hg hw hxs).mono ?_
  rintro e w' ⟨v, F', rfl, _, _, _, hR, hb⟩
  cases hR
  exact ⟨rfl, hb⟩
end Abs
end Go.Proofs.YtamgbanmnededaaDoor
