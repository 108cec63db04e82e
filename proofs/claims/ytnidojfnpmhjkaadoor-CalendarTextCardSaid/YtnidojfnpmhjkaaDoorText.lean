/- Plain: the text of an hour: which bytes may stand where, the numbers in it, the hour that it denotes. No program in sight. -/
import Derived.Test.YtnidojfnpmhjkaaDoorPlain
import Derived.PlainAid
namespace Go.Proofs.YtnidojfnpmhjkaaDoor.Cal
set_option linter.unusedVariables false
set_option linter.unusedSimpArgs false
open Go.PlainAid

/-- May the byte c stand at the offset i? -/
def fits (c : Int) (i : Nat) : Bool := if i = 4 ∨ i = 7 then c == 45 else if i = 10 then c == 84 else decide (48 ≤ c) && decide (c ≤ 57)
/-- The number of n digits from the offset a on. -/
def num (s : ByteArray) (a : Nat) : Nat → Int
  | 0 => 0
  | n + 1 => num s a n * 10 + (bt s (a + n) - 48)
/-- Are the n bytes from a on digits? -/
def Digs (s : ByteArray) (a n : Nat) : Prop := ∀ i, i < n → 48 ≤ bt s (a + i) ∧ bt s (a + i) ≤ 57
theorem num_bd (s : ByteArray) (a : Nat) : ∀ n, n ≤ 4 → Digs s a n → 0 ≤ num s a n ∧ num s a n < 10 ^ n
  | 0, _, _ => by simp [num]
  | n + 1, h, hd => by
    have ih := num_bd s a n (by omega) (fun i hi => hd i (by omega))
    have := hd n (by omega)
    rw [num, Int.pow_succ]
    omega
theorem num_le (s : ByteArray) (a n : Nat) (h : n ≤ 4) (hd : Digs s a n) : 0 ≤ num s a n ∧ num s a n ≤ 9999 := by
  have := num_bd s a n h hd
  have : (10 : Int) ^ n ≤ 10000 := by
    have h5 : n = 0 ∨ n = 1 ∨ n = 2 ∨ n = 3 ∨ n = 4 := by omega
    rcases h5 with rfl | rfl | rfl | rfl | rfl <;> decide
  omega
theorem bt_extract (s : ByteArray) (a b k : Nat) (hb : b ≤ s.size) (hk : a + k < b) : bt (s.extract a b) k = bt s (a + k) := by
  unfold bt
  have h1 : k < (s.extract a b).size := by rw [ByteArray.size_extract]; omega
  have h2 : a + k < s.size := by omega
  rw [dif_pos h1, dif_pos h2]
  congr 2
  exact ByteArray.getElem_extract ..
theorem num_extract (s : ByteArray) (a b : Nat) (hb : b ≤ s.size) : ∀ n, a + n ≤ b → num (s.extract a b) 0 n = num s a n
  | 0, _ => rfl
  | n + 1, h => by
    rw [num, num, num_extract s a b hb n (by omega), Nat.zero_add, bt_extract s a b n hb (by omega)]
/-- Is it the text of a day, or of an hour of a day? -/
def okText (s : ByteArray) : Bool := (decide (s.size = 10) || decide (s.size = 13)) && (List.range s.size).all fun i => fits (bt s i) i
theorem okText_iff {s : ByteArray} : okText s = true ↔ (s.size = 10 ∨ s.size = 13) ∧ ∀ i, i < s.size → fits (bt s i) i = true := by
  simp [okText]
/-- The hour of the day in a text. -/
def hh (s : ByteArray) : Int := if s.size = 13 then num s 11 2 else 0
def pv (s : ByteArray) : Int := if okText s then hv (num s 0 4) (num s 5 2) (num s 8 2) (hh s) else 0
def pe (s : ByteArray) : Int := if okText s then he (num s 0 4) (num s 5 2) (num s 8 2) (hh s) else 5
theorem p_bad {s : ByteArray} (h : ¬ ((s.size = 10 ∨ s.size = 13) ∧ ∀ i, i < s.size → fits (bt s i) i = true)) : pv s = 0 ∧ pe s = 5 := by
  have : okText s = false := by rw [← Bool.not_eq_true, okText_iff]; exact h
  simp [pv, pe, this]
theorem p_good {s : ByteArray} (h : (s.size = 10 ∨ s.size = 13) ∧ ∀ i, i < s.size → fits (bt s i) i = true) :
    pv s = hv (num s 0 4) (num s 5 2) (num s 8 2) (hh s) ∧ pe s = he (num s 0 4) (num s 5 2) (num s 8 2) (hh s) := by
  have : okText s = true := okText_iff.2 h
  simp [pv, pe, this]
theorem fits_dig {c : Int} {i : Nat} (h : fits c i = true) (h4 : i ≠ 4) (h7 : i ≠ 7) (h10 : i ≠ 10) : 48 ≤ c ∧ c ≤ 57 := by
  simpa [fits, h4, h7, h10] using h
theorem dig_fits {c : Int} {i : Nat} (h : 48 ≤ c ∧ c ≤ 57) (h4 : i ≠ 4) (h7 : i ≠ 7) (h10 : i ≠ 10) : fits c i = true := by
  simpa [fits, h4, h7, h10] using h
theorem fits_digs {s : ByteArray} (h : ∀ i, i < s.size → fits (bt s i) i = true) (a n : Nat) (hn : a + n ≤ s.size) (hd : ∀ i, i < n → a + i ≠ 4 ∧ a + i ≠ 7 ∧ a + i ≠ 10) : Digs s a n :=
  fun i hi => fits_dig (h (a + i) (by omega)) (hd i hi).1 (hd i hi).2.1 (hd i hi).2.2
end Go.Proofs.YtnidojfnpmhjkaaDoor.Cal
