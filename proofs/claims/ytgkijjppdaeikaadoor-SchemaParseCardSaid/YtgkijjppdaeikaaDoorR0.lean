/- schema.read, walked by hand. -/
import Derived.Test.YtgkijjppdaeikaaDoorShelf
import Derived.Deep.RegionHeld3
import Derived.WalkKit
import Derived.Below
namespace Go.Proofs.YtgkijjppdaeikaaDoor
set_option linter.unusedVariables false
set_option linter.unusedSimpArgs false
open Go.RowKit
def AG (nm wv : Value) (k lo hi : Int) : Value := .agg #[nm, .int .i64 k, wv, .int .i64 lo, .int .i64 hi]
set_option maxRecDepth 100000 in
theorem read_yes (nm wv : Value) (k lo hi : Int) (s : ByteArray) (w : World) (h1 : (k == 1) = false) (h2 : (k == 2) = false) (hy : (s.toList == [121, 101, 115]) = true) :
    Calls Tryd.prog 37 #[.agg #[nm, .int .i64 k, wv, .int .i64 lo, .int .i64 hi], .string s] w fun e w' => e = .returned (.tuple #[.int .i64 1, .bool true]) ∧ Below w.heap.size w w' := by
  go_enter Tryd.func37, Tryd.ntmps37
  go_wp2
  go_ret2
  exact ⟨rfl, Below.alloc (Below.refl _ _) (Nat.le_refl _) _⟩
set_option maxRecDepth 100000 in
theorem read_no (nm wv : Value) (k lo hi : Int) (s : ByteArray) (w : World) (h1 : (k == 1) = false) (h2 : (k == 2) = false) (hy : (s.toList == [121, 101, 115]) = false) :
    Calls Tryd.prog 37 #[.agg #[nm, .int .i64 k, wv, .int .i64 lo, .int .i64 hi], .string s] w fun e w' => e = .returned (.tuple #[.int .i64 0, .bool (s.toList == [110, 111])]) ∧ Below w.heap.size w w' := by
  go_enter Tryd.func37, Tryd.ntmps37
  go_wp2
  go_ret2
  exact ⟨rfl, Below.alloc (Below.refl _ _) (Nat.le_refl _) _⟩
set_option maxRecDepth 100000 in
theorem read_num (nm wv : Value) (lo hi n : Int) (s : ByteArray) (w : World)
    (hI : ∀ w', Below w.heap.size w w' → Calls Tryd.prog 55 #[.string s] w' fun e w'' => e = .returned (.tuple #[.int .i64 n, .nilIface]) ∧ Below w'.heap.size w' w'') :
    Calls Tryd.prog 37 #[.agg #[nm, .int .i64 2, wv, .int .i64 lo, .int .i64 hi], .string s] w fun e w' => e = .returned (.tuple #[.int .i64 n, .bool true]) ∧ Below w.heap.size w w' := by
  go_enter Tryd.func37, Tryd.ntmps37
  have hI' := hI _ (Below.alloc (Below.refl w.heap.size w) (Nat.le_refl _) (.cells #[nm, .int .i64 2, wv, .int .i64 lo, .int .i64 hi] 27))
  go_wp2_with fail
  refine hI'.mono ?_
  rintro e w1 ⟨rfl, hb1⟩
  go_wp2
  go_region_held3 (fun _ => True) (trivial) (fail)
  go_wp2
  go_ret2
  exact ⟨rfl, ((Below.alloc (Below.refl _ _) (Nat.le_refl _) _).trans (hb1.mono (Below.alloc (Below.refl w.heap.size w) (Nat.le_refl _) _).size)).drew⟩
set_option maxRecDepth 100000 in
theorem read_err (nm wv : Value) (lo hi n : Int) (s : ByteArray) (w : World)
    (hI : ∀ w', Below w.heap.size w w' → Calls Tryd.prog 55 #[.string s] w' fun e w'' => (∃ t p, e = .returned (.tuple #[.int .i64 n, .iface t (.pointer (some p))])) ∧ Below w'.heap.size w' w'') :
    Calls Tryd.prog 37 #[.agg #[nm, .int .i64 2, wv, .int .i64 lo, .int .i64 hi], .string s] w fun e w' => e = .returned (.tuple #[.int .i64 n, .bool false]) ∧ Below w.heap.size w w' := by
  go_enter Tryd.func37, Tryd.ntmps37
  have hI' := hI _ (Below.alloc (Below.refl w.heap.size w) (Nat.le_refl _) (.cells #[nm, .int .i64 2, wv, .int .i64 lo, .int .i64 hi] 27))
  go_wp2_with fail
  refine hI'.mono ?_
  rintro e w1 ⟨⟨t, p, rfl⟩, hb1⟩
  go_wp2
  go_region_held3 (fun _ => True) (trivial) (fail)
  go_wp2
  go_ret2
  exact ⟨rfl, ((Below.alloc (Below.refl _ _) (Nat.le_refl _) _).trans (hb1.mono (Below.alloc (Below.refl w.heap.size w) (Nat.le_refl _) _).size)).drew⟩
set_option maxRecDepth 100000 in
theorem read_word (nm wv : Value) (lo hi n : Int) (s : ByteArray) (w : World)
    (hI : ∀ w', Below w.heap.size w w' → Calls Tryd.prog 54 #[wv, .string s] w' fun e w'' => e = .returned (.int .i64 n) ∧ Below w'.heap.size w' w'') (hw : wv.oneCell' = true) :
    Calls Tryd.prog 37 #[.agg #[nm, .int .i64 1, wv, .int .i64 lo, .int .i64 hi], .string s] w fun e w' => e = .returned (.tuple #[.int .i64 n, .bool (decide (0 ≤ n))]) ∧ Below w.heap.size w w' := by
  go_enter Tryd.func37, Tryd.ntmps37
  have hI' := hI _ (Below.alloc (Below.refl w.heap.size w) (Nat.le_refl _) (.cells #[nm, .int .i64 1, wv, .int .i64 lo, .int .i64 hi] 27))
  go_wp2_with fail
  refine hI'.mono ?_
  rintro e w1 ⟨rfl, hb1⟩
  go_wp2
  go_ret2
  exact ⟨rfl, (Below.alloc (Below.refl _ _) (Nat.le_refl _) _).trans (hb1.mono (Below.alloc (Below.refl w.heap.size w) (Nat.le_refl _) _).size)⟩
end Go.Proofs.YtgkijjppdaeikaaDoor
