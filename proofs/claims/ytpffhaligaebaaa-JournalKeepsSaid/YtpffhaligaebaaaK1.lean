/- The models of the journal's functions, and what they compute. -/
import Derived.Test.YtpffhaligaebaaaK0
namespace Go.Proofs.Ytpffhaligaebaaa
namespace Abs
open Go.RowKit
set_option linter.unusedVariables false
set_option linter.unusedSimpArgs false
theorem short_m (xs : List Int) : m7 xs = some (xs.take 300, ()) := by
  unfold m7
  rw [cutOk_t (by omega) (by simp [iMin, lenI]; omega) (by simp [iMin, lenI]; omega)]
  simp only [cond_true, cutL_zero, iMin, lenI]
  congr 2
  by_cases h : xs.length ≤ 300
  · rw [show (min (xs.length : Int) 300).toNat = xs.length by omega, List.take_of_length_le h, List.take_of_length_le (Nat.le_refl _)]
  · rw [show (min (xs.length : Int) 300).toNat = 300 by omega]
theorem ck_m (xs : List Int) (hl : xs.length ≤ 1000000) : m14 xs = some (cks xs, ()) := by
  refine loop_to (fun k => (cks (xs.take k), xs, lenI xs, (k : Int), ())) xs.length (fun k hk => ?_) ?_
  · simp only [iLt_t (show (k : Int) < lenI xs by simp [lenI]; omega), bnd_t (show (0 : Int) ≤ k by omega) (show (k : Int) < lenI xs by simp [lenI]; omega), cond_true, atI_nat]
    rw [iAdd64 (by omega) (by omega), cks_snoc hk]
    rfl
  · simp only [iLt_f (show lenI xs ≤ ((xs.length : Nat) : Int) by simp [lenI]), cond_false, List.take_length]
theorem frame_m (xs : List Int) (h0 : 0 < xs.length) (hl : xs.length ≤ 8192) : m8 xs = some (frame xs, 0, ()) := by
  unfold m8
  simp only [iEq_f (show lenI xs ≠ 0 by show (xs.length : Int) ≠ 0; omega), iLt_f (show lenI xs ≤ 8192 by simp [lenI]; omega), cond_false, ck_m xs (by omega), Option.bind_some, iLe_t (show (0 : Int) ≤ 8 by omega), iLe_t (show (0 : Int) ≤ 24 by omega), iLe_t (show (0 : Int) ≤ 16 by omega), cond_true]
  rw [fits_t (by simp; omega) (by simp; omega)]
  simp only [cond_true]
  congr 2
  unfold frame fr6
  congr 1
  have e1 : IntKind.wrap .u8 (iShr .i64 (lenI xs) 8) = (xs.length : Int) / 256 % 256 := sh8 _
  have e2 : IntKind.wrap .u8 (lenI xs) = (xs.length : Int) % 256 := by show IntKind.u8.wrap (xs.length : Int) = _; rw [IntKind.wrap_u8]
  have e3 : IntKind.wrap .u8 (iShr .u32 (cks xs) 24) = cks xs / 16777216 % 256 := sh24 _
  have e4 : IntKind.wrap .u8 (iShr .u32 (cks xs) 16) = cks xs / 65536 % 256 := sh16 _
  have e5 : IntKind.wrap .u8 (iShr .u32 (cks xs) 8) = cks xs / 256 % 256 := sh8u _
  have e6 : IntKind.wrap .u8 (cks xs) = cks xs % 256 := by rw [IntKind.wrap_u8]
  rw [e1, e2, e3, e4, e5, e6]
theorem copied_m (d : DS0) (hl : d.1.length ≤ 1000000) : m25 d = some (d, ()) := by
  unfold m25
  rw [fits_t (by omega) (by omega)]
  rfl
theorem copied1_m (d : DS0) (hl : d.1.length ≤ 1000000) : m25_1 d = some (d.2.1, d.2.2.1, d.2.2.2.1, d.2.2.2.2.1, d.1, ()) := by
  unfold m25_1
  rw [fits_t (by omega) (by omega)]
  rfl
theorem write_ok (xs : List Int) (wr ca tor : Int) (ys : List Int) (hl : xs.length ≤ 500000) (hl' : ys.length ≤ 500000) (h0 : 0 ≤ wr) (h1 : wr ≤ 1099511627775) (hc : wr + 1 ≠ ca) : m17 (xs, wr, ca, tor, false, ()) ys = some ((xs ++ ys, wr + 1, ca, tor, false, ()), 0, ()) := by
  unfold m17
  rw [copied1_m _ (show xs.length ≤ 1000000 by omega)]
  simp only [Option.bind_some, cond_false]
  rw [iAdd64 (by omega) (by omega), iNe_t hc, fits_t (by omega) (by omega)]
  rfl
theorem write_cut (xs : List Int) (wr tor : Int) (ys : List Int) (hl : xs.length ≤ 500000) (hl' : ys.length ≤ 500000) (h0 : 0 ≤ wr) (h1 : wr ≤ 1099511627775) (ht : 0 ≤ tor) : m17 (xs, wr, wr + 1, tor, false, ()) ys = some ((xs ++ ys.take tor.toNat, wr + 1, wr + 1, tor, true, ()), 18, ()) := by
  unfold m17
  rw [copied1_m _ (show xs.length ≤ 1000000 by omega)]
  simp only [Option.bind_some, cond_false]
  have em : iMin (iMax tor 0) (lenI ys) = min tor ys.length := by simp only [iMin, iMax, lenI]; omega
  rw [iAdd64 (by omega) (by omega), iNe_f rfl, em, cutOk_t (by omega) (by omega) (by omega)]
  have ec : cutL 0 (min tor (ys.length : Int)) ys = ys.take tor.toNat := by
    rw [cutL_zero]
    by_cases h : tor ≤ ys.length
    · rw [show min tor (ys.length : Int) = tor by omega]
    · rw [show min tor (ys.length : Int) = ys.length by omega, List.take_of_length_le (by omega), List.take_of_length_le (by omega)]
  have hlt : (ys.take tor.toNat).length ≤ 500000 := by rw [List.length_take]; omega
  rw [ec, fits_t (n := xs.length + (ys.take tor.toNat).length) (by omega) (by omega)]
  rfl
theorem append_ok (xs : List Int) (wr ca tor : Int) (ys : List Int) (hl : xs.length ≤ 100000) (h0' : 0 < ys.length) (hl' : ys.length ≤ 8192) (h0 : 0 ≤ wr) (h1 : wr ≤ 1099511627775) (hc : wr + 1 ≠ ca) : m10 (xs, wr, ca, tor, false, ()) ys = some ((xs ++ frame ys, wr + 1, ca, tor, false, ()), 0, ()) := by
  unfold m10
  rw [frame_m ys h0' hl']
  simp only [Option.bind_some, iNe_f, cond_false]
  rw [write_ok xs wr ca tor (frame ys) (by omega) (by rw [frame_len]; omega) h0 h1 hc]
  rfl
theorem append_cut (xs : List Int) (wr tor : Int) (ys : List Int) (hl : xs.length ≤ 100000) (h0' : 0 < ys.length) (hl' : ys.length ≤ 8192) (h0 : 0 ≤ wr) (h1 : wr ≤ 1099511627775) (ht : 0 ≤ tor) : m10 (xs, wr, wr + 1, tor, false, ()) ys = some ((xs ++ (frame ys).take tor.toNat, wr + 1, wr + 1, tor, true, ()), 18, ()) := by
  unfold m10
  rw [frame_m ys h0' hl']
  simp only [Option.bind_some, iNe_f, cond_false]
  rw [write_cut xs wr tor (frame ys) (by omega) (by rw [frame_len]; omega) h0 h1 ht]
  rfl
theorem cut_m (d : DS0) (a b : Int) (hl : d.1.length ≤ 1000000) : m24 d a b = some ((d.1, d.2.1, a, b, d.2.2.2.2.1, ()), ()) := by
  unfold m24
  rw [copied_m _ hl]
  rfl
theorem first_m (xs : List Int) (hl : xs.length ≤ 1000000) (hb : Byt xs) : m27 xs = some (fstO xs, ()) := by
  have h0 := hb.at 0
  have h1 := hb.at 1
  have eN : iOr .i64 (iShl .i64 (IntKind.wrap .i64 (atI xs 0 0)) 8) (IntKind.wrap .i64 (atI xs 1 0)) = recN xs := n_or (xs.getD 0 0) (xs.getD 1 0) h0 h1
  have hN0 : 0 ≤ recN xs := by unfold recN; omega
  have hN1 : recN xs ≤ 65535 := by unfold recN; omega
  unfold m27
  rw [eN]
  by_cases h6 : xs.length < 6
  · rw [iLt_t (show lenI xs < 6 by simp [lenI]; omega)]
    have : fstO xs = none := if_pos (.inl h6)
    rw [this]; rfl
  · have b : ∀ k : Int, 0 ≤ k → k ≤ 5 → bnd k (lenI xs) = true := fun k hk hk' => bnd_t hk (by simp [lenI]; omega)
    rw [iLt_f (show (6 : Int) ≤ lenI xs by simp [lenI]; omega), b 0 (by omega) (by omega), b 1 (by omega) (by omega), b 2 (by omega) (by omega), b 3 (by omega) (by omega), b 4 (by omega) (by omega), b 5 (by omega) (by omega)]
    simp only [cond_false, cond_true, iLe_t (show (0 : Int) ≤ 8 by omega), iLe_t (show (0 : Int) ≤ 24 by omega), iLe_t (show (0 : Int) ≤ 16 by omega)]
    have es : iSub .i64 (lenI xs) 6 = (xs.length : Int) - 6 := iSub64 (by simp only [lenI]; omega) (by simp only [lenI]; omega)
    by_cases hc : recN xs = 0 ∨ 8192 < recN xs ∨ (xs.length : Int) - 6 < recN xs
    · have ec : cond (cond (iEq (recN xs) 0) true (iLt 8192 (recN xs))) true (iLt (iSub .i64 (lenI xs) 6) (recN xs)) = true := by
        rw [es]
        rcases hc with h | h | h
        · rw [iEq_t h]; rfl
        · rw [iLt_t h]; cases iEq (recN xs) 0 <;> rfl
        · rw [iLt_t h]; cases (cond (iEq (recN xs) 0) true (iLt 8192 (recN xs))) <;> rfl
      rw [ec]
      have : fstO xs = none := if_pos (.inr hc)
      rw [this]; rfl
    · have hc' : recN xs ≠ 0 ∧ recN xs ≤ 8192 ∧ recN xs ≤ (xs.length : Int) - 6 := by omega
      have ec : cond (cond (iEq (recN xs) 0) true (iLt 8192 (recN xs))) true (iLt (iSub .i64 (lenI xs) 6) (recN xs)) = false := by
        rw [es, iEq_f hc'.1, iLt_f hc'.2.1, iLt_f hc'.2.2]; rfl
      have ea : iAdd .i64 6 (recN xs) = 6 + recN xs := iAdd64 (by omega) (by omega)
      have ecut : cutL 6 (6 + recN xs) xs = (xs.drop 6).take (recN xs).toNat := by
        unfold cutL
        rw [show (6 + recN xs).toNat = 6 + (recN xs).toNat by omega, show (6 : Int).toNat = 6 from rfl, List.drop_take, Nat.add_sub_cancel_left]
      have hlc : ((xs.drop 6).take (recN xs).toNat).length ≤ 1000000 := by rw [List.length_take, List.length_drop]; omega
      rw [ec, ea, cutOk_t (by omega) (by omega) (by omega), ecut, ck_m _ hlc]
      simp only [cond_false, cond_true, Option.bind_some]
      have e4 : iOr .u32 (iOr .u32 (iOr .u32 (iShl .u32 (IntKind.wrap .u32 (atI xs 2 0)) 24) (iShl .u32 (IntKind.wrap .u32 (atI xs 3 0)) 16)) (iShl .u32 (IntKind.wrap .u32 (atI xs 4 0)) 8)) (IntKind.wrap .u32 (atI xs 5 0)) = sum4 xs := sum_or (xs.getD 2 0) (xs.getD 3 0) (xs.getD 4 0) (xs.getD 5 0) (hb.at 2) (hb.at 3) (hb.at 4) (hb.at 5)
      rw [e4]
      have ef : fstO xs = if cks ((xs.drop 6).take (recN xs).toNat) = sum4 xs then some ((xs.drop 6).take (recN xs).toNat) else none := if_neg (by omega)
      rw [ef]
      by_cases hs : cks ((xs.drop 6).take (recN xs).toNat) = sum4 xs
      · rw [iNe_f hs, if_pos hs]; rfl
      · rw [iNe_t hs, if_neg hs]; rfl
end Abs
end Go.Proofs.Ytpffhaligaebaaa
