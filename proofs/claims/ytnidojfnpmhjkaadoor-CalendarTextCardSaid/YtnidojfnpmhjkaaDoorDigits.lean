/- The walk of the reference's digits. -/
import Derived.Test.YtnidojfnpmhjkaaDoorCivil
import Derived.Laws.IdiomStrings
namespace Go.Proofs.YtnidojfnpmhjkaaDoor
set_option linter.unusedVariables false
set_option linter.unusedSimpArgs false
open Go.RowKit
namespace Cal
/-- The byte of a digit. -/
def dig (m : Int) : UInt8 := UInt8.ofNat (48 + m % 10).toNat
theorem dig_toNat (m : Int) : ((dig m).toNat : Int) = 48 + m % 10 := by
  have h : (48 + m % 10).toNat < 256 := by omega
  unfold dig
  rw [UInt8.toNat_ofNat_of_lt' h]
  omega
/-- The last j digits of n. -/
def dgs (n : Int) : Nat → ByteArray
  | 0 => ⟨#[]⟩
  | j + 1 => ⟨#[dig (n / 10 ^ j)]⟩ ++ dgs n j
theorem dgs_size (n : Int) : ∀ j, (dgs n j).size = j
  | 0 => rfl
  | j + 1 => by rw [dgs, ByteArray.size_append, dgs_size n j]; show 1 + j = j + 1; omega
theorem div_pow (n : Int) (j : Nat) : n / 10 ^ (j + 1) = n / 10 ^ j / 10 := by rw [Int.pow_succ, Int.ediv_ediv_of_nonneg (by exact Int.le_of_lt (Int.pow_pos (by decide)))]
theorem div_zero4 (n : Int) (k : Nat) (h0 : 0 ≤ n) (h : n < 10 ^ k) : n / 10 ^ k = 0 := Int.ediv_eq_zero_of_lt h0 h
end Cal
theorem conv_dig (m : Int) (w : World) (m0 : 0 ≤ m) : (convert 34 9 (.slice (some ⟨w.heap.size, 0, none⟩) 1 1)).run Tryd.prog (w.alloc (.cells #[.int .u8 (48 + m % 10)] 5)) = .ok (.string ⟨#[Cal.dig m]⟩) (w.alloc (.cells #[.int .u8 (48 + m % 10)] 5)) :=
  run_convert_bytes_back (P := Tryd.prog) (w.alloc (.cells #[.int .u8 (48 + m % 10)] 5)) 34 9 5 ⟨w.heap.size, 0, none⟩ 1 [Cal.dig m] Tryd.underlying34 Tryd.underlying5 Tryd.underlying9 (fun j hj => by
    obtain rfl : j = 0 := by simp at hj; omega
    simp only [List.getElem_cons_zero, Cal.dig_toNat]
    simp [go_sem, Addr.add])

set_option maxRecDepth 100000 in
set_option maxHeartbeats 1000000 in
theorem digits_any (n : Int) (k : Nat) (w : World) (h0 : 0 ≤ n) (h1 : n ≤ 9999) (hk : k ≤ 4) (hn : n < 10 ^ k) :
    Calls Tryd.prog 48 #[.int .i64 n, .int .i64 k] w fun e w' => e = .returned (.string (Cal.dgs n k)) ∧ Below w.heap.size w w' := by
  have HN := Lib.hid (Cal.div_zero4 n k h0 hn)
  clear hn
  go_enter Tryd.func48, Tryd.ntmps48
  go_wp2
  go_loopw [0, 5] (fun x s wr => ∃ j : Nat, ∃ m : Int, j ≤ k ∧ x = .int .i64 m ∧ 0 ≤ m ∧ m ≤ 9999 ∧ Hid (m = n / 10 ^ j) ∧ (∃ t, s = .string t ∧ t.size ≤ j ∧ j ≤ t.size ∧ Hid (t = Cal.dgs n j)) ∧ Hid (Below w.heap.size w wr)) (fun _ s _ => k - (match s with | .string t => t.size | _ => 0))
  case atStart => exact ⟨0, n, by omega, rfl, h0, h1, by simp [Hid], ⟨_, rfl, Nat.le_refl _, Nat.le_refl _, rfl⟩, Below.refl _ _⟩
  case round =>
    obtain ⟨j, m, hj, rfl, m0, m1, HM, ⟨t, rfl, t0, t1, HT⟩, HB⟩ := hrel
    by_cases hlt : j < k
    · have hcv := conv_dig m wr m0
      have HT' : Hid ((⟨#[Cal.dig m]⟩ ++ t : ByteArray) = Cal.dgs n (j + 1)) := by show _ = _; rw [Cal.dgs, HT.out, HM.out]
      have HM' : Hid (m / 10 = n / 10 ^ (j + 1)) := by show _ = _; rw [Cal.div_pow, HM.out]
      have HS := Lib.hid (show (⟨#[Cal.dig m]⟩ ++ t : ByteArray).size = t.size + 1 by rw [ByteArray.size_append]; show 1 + t.size = _; omega)
      have hz : w.heap.size ≤ wr.heap.size := HB.out.size
      have HB' := Lib.hid (HB.out.alloc hz (.cells #[.int .u8 (48 + m % 10)] 5))
      by_cases hm : 0 < m
      · go_wp2
        go_roundw
        case rel => exact ⟨j + 1, m / 10, by omega, rfl, by omega, by omega, HM', ⟨_, rfl, by rw [HS.out]; omega, by rw [HS.out]; omega, HT'⟩, HB'⟩
        case measure => simp only [HS.out]; omega
      · have d1 : decide (0 < m) = false := decide_eq_false hm
        have d2 : decide (t.size < k) = true := decide_eq_true (by omega)
        go_wp2
        go_roundw
        case rel => exact ⟨j + 1, m / 10, by omega, rfl, by omega, by omega, HM', ⟨_, rfl, by rw [HS.out]; omega, by rw [HS.out]; omega, HT'⟩, HB'⟩
        case measure => simp only [HS.out]; omega
    · have hjk : j = k := by omega
      have hm0 : m = 0 := by rw [HM.out, hjk]; exact HN.out
      have HT' := Lib.hid (show t = Cal.dgs n k by rw [HT.out, hjk])
      have d1 : decide (0 < m) = false := decide_eq_false (by omega)
      have d2 : decide (t.size < k) = false := decide_eq_false (by omega)
      clear hjk hm0
      go_wp2
      go_ret
      exact ⟨congrArg (fun x => Ending.returned (.string x)) HT'.out, HB.out⟩
end Go.Proofs.YtnidojfnpmhjkaaDoor
