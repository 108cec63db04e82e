/- A deck made of a list that came in. -/
import Derived.Test.YtnidojfnpmhjkaaDoorDeck
import Derived.OpenShut
namespace Go.Proofs.YtnidojfnpmhjkaaDoor
set_option linter.unusedVariables false
set_option linter.unusedSimpArgs false
open Go.RowKit

/-- A slice of integers that came in: nil, or a row of cells. -/
def IsRow (k : IntKind) (w : World) (a : Option Addr) (len cap : Nat) (zs : List Int) : Prop :=
  (a = none ∧ len = 0 ∧ cap = 0 ∧ zs = []) ∨
  ∃ x, a = some x ∧ len ≤ cap ∧ cap ≤ maxLen ∧ zs.length = cap ∧ (∀ i, i < zs.length → w.cell? (x.add i) = some (.int k (zs.getD i 0))) ∧ ∀ n ∈ zs, (Lit.int k n).wf = true

theorem IsRow.deck {w0 : World} {a : Option Addr} {len cap : Nat} {zs : List Int} (h : IsRow .i64 w0 a len cap zs) :
    ∀ (w : World) (t : TypeId), w0.heap.size ≤ w.heap.size → (∀ k, k < w0.heap.size → w.heap[k]? = w0.heap[k]?) → DeckOk (w.alloc (.cells #[.slice a len cap, .int .i64 0] t)) w.heap.size := by
  intro w t hz hk
  have hlen : len ≤ 9223372036854775807 := by
    rcases h with ⟨_, rfl, _, _⟩ | ⟨_, _, h1, h2, _⟩
    · omega
    · unfold maxLen at h2; omega
  refine ⟨a, len, cap, 0, fun k => zs.getD k 0, by simp [go_sem], by simp [go_sem], by simp [go_sem], hlen, fun k hlt => ?_⟩
  rcases h with ⟨_, rfl, _, _⟩ | ⟨x, rfl, h1, h2, h3, h4, _⟩
  · omega
  · obtain ⟨b, off, rfl, hc⟩ := ints_at h4 (by omega)
    have hcell := hc k (by omega)
    have hb : b < w0.heap.size := lt_of_cell hcell
    refine ⟨b, off, rfl, by omega, ?_⟩
    have e : (w.alloc (.cells #[.slice (some ⟨b, off, none⟩) len cap, .int .i64 0] t)).cell? ⟨b, off + k, none⟩ = w0.cell? ⟨b, off + k, none⟩ :=
      World.cell?_of_block (w := w0) (by rw [Below.heap_alloc _ _ _ (by simp; omega)]; exact hk b hb)
    rw [e]; exact hcell
end Go.Proofs.YtnidojfnpmhjkaaDoor
