/- Walks of the calendar's small functions: what each computes. -/
import Derived.Test.YtnidojfnpmhjkaaDoorRows
import Derived.Test.YtnidojfnpmhjkaaDoorPlain
import Derived.WalkKit
import Derived.Handy
import Derived.Outline
import Derived.Lib.Hide
import Derived.Deep.QuietTactic
import Derived.BigQuiet
namespace Go.Proofs.YtnidojfnpmhjkaaDoor
set_option linter.unusedVariables false
set_option linter.unusedSimpArgs false
open Go.RowKit

theorem ret_int {k : IntKind} {a b : Int} (h : a = b) : Ending.returned (.int k a) = .returned (.int k b) := by rw [h]

theorem ret_two {k l : IntKind} {a b c d : Int} (h : a = b) (i : c = d) : Ending.returned (.tuple #[.int k a, .int l c]) = .returned (.tuple #[.int k b, .int l d]) := by rw [h, i]

/-- The table of the months' lengths lies in the first variable. -/
def Tab (w : World) : Prop := ∀ k, k < 12 → w.cell? ⟨0, k, none⟩ = some (.int .i64 (Cal.tab.getD k 0))

theorem Tab.below {B : Nat} {w w' : World} (h : Tab w) (hb : Below B w w') (h0 : 0 < B) : Tab w' := fun k hk => (hb.cell (p := ⟨0, k, none⟩) h0).trans (h k hk)
theorem Tab.alloc {w : World} (h : Tab w) (h0 : 0 < w.heap.size) (o : Obj) : Tab (w.alloc o) := h.below ((Below.refl _ _).alloc (Nat.le_refl _) _) h0

theorem Tab.drewN {w : World} (h : Tab w) (n : Nat) : Tab (w.drewN n) := h
theorem quiet_same {P : Program} {f : FuncId} {args : Array Value} {w : World} {n : Nat} {v : Value}
    (h : Calls P f args (w.drewN n) fun e w' => e = .returned v ∧ w.drewN n = w') : Calls P f args (w.drewN n) fun e w'' => e = .returned v ∧ ∃ m, w'' = w.drewN m :=
  h.mono fun _ _ ⟨he, hm⟩ => ⟨he, n, hm.symm⟩

theorem yearLength_any (y : Int) (w : World) (h0 : 0 ≤ y) : Calls Tryd.prog 42 #[.int .i64 y] w fun e w' => e = .returned (.int .i64 (Cal.yl y)) ∧ w = w' := by
  by_cases h : y % 4 = 0
  · have hb : ((y % 4 : Int) == 0) = true := by simp [h]
    have hv := Lib.hid (show Cal.yl y = 366 by simp [Cal.yl, h])
    clear h
    go_enter Tryd.func42, Tryd.ntmps42
    go_wp2
    go_ret
    exact ⟨ret_int hv.out.symm, rfl⟩
  · have hb : ((y % 4 : Int) == 0) = false := by simp [h]
    have hv := Lib.hid (show Cal.yl y = 365 by simp [Cal.yl, h])
    clear h
    go_enter Tryd.func42, Tryd.ntmps42
    go_wp2
    go_ret
    exact ⟨ret_int hv.out.symm, rfl⟩

theorem length_any (y m : Int) (w : World) (hT : Tab w) (h0 : 0 ≤ y) (h1 : 1 ≤ m) (h2 : m ≤ 12) : Calls Tryd.prog 41 #[.int .i64 y, .int .i64 m] w fun e w' => e = .returned (.int .i64 (Cal.len y m)) ∧ w = w' := by
  have hc := hT (m.toNat - 1) (by omega)
  have hq : Cal.tab.getD (m - 1).toNat 0 = Cal.tab.getD (m.toNat - 1) 0 := by rw [show (m - 1).toNat = m.toNat - 1 by omega]
  clear hT
  by_cases hm : m = 2
  · by_cases h : y % 4 = 0
    · have hb : ((y % 4 : Int) == 0) = true := by simp [h]
      have hv := Lib.hid (show Cal.len y m = 29 by simp [Cal.len, h, hm])
      subst hm
      clear h hc hq
      go_enter Tryd.func41, Tryd.ntmps41
      go_wp2
      go_ret
      exact ⟨ret_int hv.out.symm, rfl⟩
    · have hb : ((y % 4 : Int) == 0) = false := by simp [h]
      have hv := Lib.hid (show Cal.len y m = Cal.tab.getD (m.toNat - 1) 0 by rw [← hq]; simp [Cal.len, h])
      clear hq
      subst hm
      clear h
      have hc : w.cell? ⟨0, 1, none⟩ = some (.int .i64 (Cal.tab.getD (Int.toNat 2 - 1) 0)) := hc
      generalize Cal.tab.getD (Int.toNat 2 - 1) 0 = q at *
      go_enter Tryd.func41, Tryd.ntmps41
      go_wp2
      go_ret
      exact ⟨ret_int hv.out.symm, rfl⟩
  · have hb : (m == 2) = false := by simp [hm]
    have hv := Lib.hid (show Cal.len y m = Cal.tab.getD (m.toNat - 1) 0 by rw [← hq]; simp [Cal.len, hm])
    clear hm hq
    generalize Cal.tab.getD (m.toNat - 1) 0 = q at *
    go_enter Tryd.func41, Tryd.ntmps41
    go_wp2
    go_ret
    exact ⟨ret_int hv.out.symm, rfl⟩
end Go.Proofs.YtnidojfnpmhjkaaDoor
