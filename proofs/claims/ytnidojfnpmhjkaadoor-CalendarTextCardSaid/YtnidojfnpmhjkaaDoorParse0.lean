/- The walks of calendar.fits, number and Parse. -/
import Derived.Test.YtnidojfnpmhjkaaDoorText
import Derived.Test.YtnidojfnpmhjkaaDoorHour
import Derived.StillTailTactics
import Derived.WalkSpells
import Derived.Deep.RegionHeld3
namespace Go.Proofs.YtnidojfnpmhjkaaDoor
set_option linter.unusedVariables false
set_option linter.unusedSimpArgs false
open Go.RowKit Go.PlainAid

theorem ret_bool {a b : Bool} (h : a = b) : Ending.returned (.bool a) = .returned (.bool b) := by rw [h]

theorem fits_at4 (c : Int) (i : Nat) (w : World) (h : i = 4) : Calls Tryd.prog 45 #[.int .u8 c, .int .i64 i] w fun e w' => e = .returned (.bool (Cal.fits c i)) ∧ w = w' := by
  subst h
  have HV := Lib.hid (show Cal.fits c 4 = (c == 45) by simp [Cal.fits])
  go_enter Tryd.func45, Tryd.ntmps45
  go_wp2
  all_goals go_ret
  all_goals exact ⟨ret_bool HV.out.symm, rfl⟩

theorem fits_at7 (c : Int) (i : Nat) (w : World) (h : i = 7) : Calls Tryd.prog 45 #[.int .u8 c, .int .i64 i] w fun e w' => e = .returned (.bool (Cal.fits c i)) ∧ w = w' := by
  subst h
  have HV := Lib.hid (show Cal.fits c 7 = (c == 45) by simp [Cal.fits])
  go_enter Tryd.func45, Tryd.ntmps45
  go_wp2
  all_goals go_ret
  all_goals exact ⟨ret_bool HV.out.symm, rfl⟩

theorem fits_at10 (c : Int) (i : Nat) (w : World) (h : i = 10) : Calls Tryd.prog 45 #[.int .u8 c, .int .i64 i] w fun e w' => e = .returned (.bool (Cal.fits c i)) ∧ w = w' := by
  subst h
  have HV := Lib.hid (show Cal.fits c 10 = (c == 84) by simp [Cal.fits])
  go_enter Tryd.func45, Tryd.ntmps45
  go_wp2
  all_goals go_ret
  all_goals exact ⟨ret_bool HV.out.symm, rfl⟩

theorem fits_low (c : Int) (i : Nat) (w : World) (h4 : i ≠ 4) (h7 : i ≠ 7) (h10 : i ≠ 10) (hc : c < 48) : Calls Tryd.prog 45 #[.int .u8 c, .int .i64 i] w fun e w' => e = .returned (.bool (Cal.fits c i)) ∧ w = w' := by
  have _ : ((i : Int) == 4) = false := beq_eq_false_iff_ne.2 (by omega)
  have _ : ((i : Int) == 7) = false := beq_eq_false_iff_ne.2 (by omega)
  have _ : ((i : Int) == 10) = false := beq_eq_false_iff_ne.2 (by omega)
  have HV := Lib.hid (show Cal.fits c i = false by simp [Cal.fits, h4, h7, h10]; omega)
  go_enter Tryd.func45, Tryd.ntmps45
  go_wp2
  all_goals go_ret
  all_goals exact ⟨ret_bool HV.out.symm, rfl⟩

theorem fits_high (c : Int) (i : Nat) (w : World) (h4 : i ≠ 4) (h7 : i ≠ 7) (h10 : i ≠ 10) (hc : 57 < c) : Calls Tryd.prog 45 #[.int .u8 c, .int .i64 i] w fun e w' => e = .returned (.bool (Cal.fits c i)) ∧ w = w' := by
  have _ : ((i : Int) == 4) = false := beq_eq_false_iff_ne.2 (by omega)
  have _ : ((i : Int) == 7) = false := beq_eq_false_iff_ne.2 (by omega)
  have _ : ((i : Int) == 10) = false := beq_eq_false_iff_ne.2 (by omega)
  have _ : decide (c ≤ 57) = false := decide_eq_false (by omega)
  have HV := Lib.hid (show Cal.fits c i = false by simp [Cal.fits, h4, h7, h10]; omega)
  go_enter Tryd.func45, Tryd.ntmps45
  go_wp2
  all_goals go_ret
  all_goals exact ⟨ret_bool HV.out.symm, rfl⟩

theorem fits_dig (c : Int) (i : Nat) (w : World) (h4 : i ≠ 4) (h7 : i ≠ 7) (h10 : i ≠ 10) (hc : 48 ≤ c) (hd : c ≤ 57) : Calls Tryd.prog 45 #[.int .u8 c, .int .i64 i] w fun e w' => e = .returned (.bool (Cal.fits c i)) ∧ w = w' := by
  have _ : ((i : Int) == 4) = false := beq_eq_false_iff_ne.2 (by omega)
  have _ : ((i : Int) == 7) = false := beq_eq_false_iff_ne.2 (by omega)
  have _ : ((i : Int) == 10) = false := beq_eq_false_iff_ne.2 (by omega)
  have HV := Lib.hid (show Cal.fits c i = true by simp [Cal.fits, h4, h7, h10]; omega)
  go_enter Tryd.func45, Tryd.ntmps45
  go_wp2
  all_goals go_ret
  all_goals exact ⟨ret_bool HV.out.symm, rfl⟩

theorem fits_any (c : Int) (i : Nat) (w : World) : Calls Tryd.prog 45 #[.int .u8 c, .int .i64 i] w fun e w' => e = .returned (.bool (Cal.fits c i)) ∧ w = w' := by
  by_cases h4 : i = 4
  · exact fits_at4 c i w h4
  by_cases h7 : i = 7
  · exact fits_at7 c i w h7
  by_cases h10 : i = 10
  · exact fits_at10 c i w h10
  rcases Int.lt_or_le c 48 with h | h
  · exact fits_low c i w h4 h7 h10 h
  rcases Int.lt_or_le 57 c with k | k
  · exact fits_high c i w h4 h7 h10 k
  · exact fits_dig c i w h4 h7 h10 h k

theorem number_any (t : ByteArray) (w : World) (hs : t.size ≤ 4) (hd : Cal.Digs t 0 t.size) : Calls Tryd.prog 46 #[.string t] w fun e w' => e = .returned (.int .i64 (Cal.num t 0 t.size)) ∧ w' = w := by
  have HD := Lib.hid hd
  clear hd
  go_enter Tryd.func46, Tryd.ntmps46
  go_wp2
  go_loop [3, 7] (fun n i => ∃ k : Nat, k ≤ t.size ∧ i = .int .i64 k ∧ n = .int .i64 (Cal.num t 0 k)) (fun _ i => t.size - (intOf i).toNat)
  case atStart => exact ⟨0, Nat.zero_le _, rfl, rfl⟩
  case round =>
    obtain ⟨k, hk, rfl, rfl⟩ := hrel
    have hb := Cal.num_le t 0 k (by omega) (fun i hi => HD.out i (by omega))
    have hg := get_bt t
    by_cases hlt : k < t.size
    · have h1 := HD.out k hlt
      have HN := Lib.hid (show Cal.num t 0 (k + 1) = Cal.num t 0 k * 10 + (bt t k - 48) by rw [Cal.num, Nat.zero_add])
      rw [Nat.zero_add] at h1
      go_wp2
      go_round
      case rel => exact ⟨k + 1, by omega, by go_num, by rw [HN.out]⟩
      case measure => simp [intOf]; omega
    · have HE := Lib.hid (show k = t.size by omega)
      go_wp2
      go_ret
      exact ⟨ret_int (by rw [HE.out]), rfl⟩

theorem _root_.Go.Calls.same {P : Program} {f : FuncId} {args : Array Value} {w : World} {v : Value} (h : Calls P f args w fun e w' => e = .returned v ∧ w' = w) : Calls P f args w fun e w' => e = .returned v ∧ w = w' := h.mono fun _ _ ⟨a, b⟩ => ⟨a, b.symm⟩
theorem number_part (s : ByteArray) (a b : Nat) (w : World) (hb : b ≤ s.size) (hab : a ≤ b) (h4 : b - a ≤ 4) (hd : Cal.Digs s a (b - a)) : Calls Tryd.prog 46 #[.string (s.extract a b)] w fun e w' => e = .returned (.int .i64 (Cal.num s a (b - a))) ∧ w' = w := by
  have hz : (s.extract a b).size = b - a := by rw [ByteArray.size_extract]; omega
  have h := number_any (s.extract a b) w (by omega) (fun i hi => by rw [Nat.zero_add, Cal.bt_extract s a b i hb (by omega)]; exact hd i (by omega))
  rw [hz, Cal.num_extract s a b hb (b - a) (by omega)] at h
  exact h

theorem parse_len (s : ByteArray) (w : World) (h1 : s.size ≠ 10) (h2 : s.size ≠ 13) : Calls Tryd.prog 16 #[.string s] w fun e w' => e = .returned (.tuple #[.int .i64 (Cal.pv s), .int .i64 (Cal.pe s)]) ∧ Below w.heap.size w w' := by
  have _ : ((s.size : Int) != 10) = true := bne_iff_ne.2 (by omega)
  have _ : ((s.size : Int) != 13) = true := bne_iff_ne.2 (by omega)
  have HV := Lib.hid (Cal.p_bad (s := s) (by omega))
  go_enter Tryd.func16, Tryd.ntmps16
  go_wp2
  go_ret2
  exact ⟨ret_two HV.out.1.symm HV.out.2.symm, (by repeat' (first | (with_reducible exact Below.refl _ _) | (with_reducible assumption) | (with_reducible refine below_drewN ?_ _) | (with_reducible refine Below.alloc ?_ ?_ _) | (with_reducible refine Below.drew ?_) | (with_reducible refine Below.setCell ?_ ?_ _) | go_size))⟩

set_option maxHeartbeats 1000000 in
set_option maxRecDepth 100000 in
theorem parse_10 (s : ByteArray) (w : World) (hT : Tab w) (hB : 0 < w.heap.size) (h1 : s.size = 10) : Calls Tryd.prog 16 #[.string s] w fun e w' => e = .returned (.tuple #[.int .i64 (Cal.pv s), .int .i64 (Cal.pe s)]) ∧ Below w.heap.size w w' := by
  have _ : ((s.size : Int) != 10) = false := by rw [bne_eq_false_iff_eq]; omega
  have _ : ((s.size : Int) != 13) = true := bne_iff_ne.2 (by omega)
  have _ : ((s.size : Int) == 13) = false := beq_eq_false_iff_ne.2 (by omega)
  have h1a : 10 ≤ s.size := by omega
  have h1b : s.size ≤ 10 := by omega
  have H1 := Lib.hid h1
  clear h1
  go_enter Tryd.func16, Tryd.ntmps16
  go_wp2
  go_loop [16] (fun i => ∃ k : Nat, k ≤ s.size ∧ i = .int .i64 k ∧ Hid (∀ j, j < k → Cal.fits (bt s j) j = true)) (fun i => s.size - (intOf i).toNat)
  case atStart => exact ⟨0, Nat.zero_le _, rfl, fun j hj => by omega⟩
  case round =>
    obtain ⟨k, hk, rfl, HF⟩ := hrel
    have hg := get_bt s
    by_cases hlt : k < s.size
    · by_cases hf : Cal.fits (bt s k) k = true
      · have HC := Lib.hid (fun w => fits_any (bt s k) k w)
        have HF' : Hid (∀ j, j < k + 1 → Cal.fits (bt s j) j = true) := fun j hj => (Nat.lt_succ_iff_lt_or_eq.1 hj).elim (HF.out j) (fun e => e ▸ hf)
        go_wp2_with (go_at_call 45; refine (HC.out _).mono ?_; rintro e w' ⟨rfl, rfl⟩)
        go_round
        case rel => exact ⟨k + 1, by omega, by go_num, HF'⟩
        case measure => simp [intOf]; omega
      · have HC := Lib.hid (fun w => fits_any (bt s k) k w)
        have HV := Lib.hid (Cal.p_bad (s := s) (fun h => hf (h.2 k hlt)))
        have hf' : Cal.fits (bt s k) k = false := by simpa using hf
        clear hf
        go_wp2_with (go_at_call 45; refine (HC.out _).mono ?_; rintro e w' ⟨rfl, rfl⟩)
        go_ret2
        exact ⟨ret_two HV.out.1.symm HV.out.2.symm, (by repeat' (first | (with_reducible exact Below.refl _ _) | (with_reducible assumption) | (with_reducible refine below_drewN ?_ _) | (with_reducible refine Below.alloc ?_ ?_ _) | (with_reducible refine Below.drew ?_) | (with_reducible refine Below.setCell ?_ ?_ _) | go_size))⟩
    · have hall : ∀ j, j < s.size → Cal.fits (bt s j) j = true := fun j hj => HF.out j (by omega)
      have HV := Lib.hid (Cal.p_good (s := s) ⟨by omega, hall⟩)
      have HD1 := Lib.hid (Cal.fits_digs hall 0 4 (by omega) (by omega))
      have HD2 := Lib.hid (Cal.fits_digs hall 5 2 (by omega) (by omega))
      have HD3 := Lib.hid (Cal.fits_digs hall 8 2 (by omega) (by omega))
      
      have HH := Lib.hid (show Cal.hh s = 0 by simp only [Cal.hh, H1.out]; rfl)
      clear hall HF hg
      go_wp2
      have f4 : (4 : Int) ≤ (s.size : Int) := by omega
      have f7 : (7 : Int) ≤ (s.size : Int) := by omega
      have f10 : (10 : Int) ≤ (s.size : Int) := by omega
      have HN1 := Lib.hid (fun w => (number_part s 0 4 w (by omega) (by omega) (by omega) HD1.out).same)
      have HN2 := Lib.hid (fun w => (number_part s 5 7 w (by omega) (by omega) (by omega) HD2.out).same)
      have HN3 := Lib.hid (fun w => (number_part s 8 10 w (by omega) (by omega) (by omega) HD3.out).same)
      have HC := Lib.hid (fun h w hT hB => hour_any (Cal.num s 0 4) (Cal.num s 5 2) (Cal.num s 8 2) h w hT hB)
      have hT' : Tab w.drew := hT
      have hB' : 0 < w.drew.heap.size := hB
      go_region_held3 (fun _ => True) (trivial) (first | (go_at_call 46; ((with_reducible refine (HN1.out _).mono ?_); rintro e w' ⟨rfl, rfl⟩)) | (go_at_call 46; ((with_reducible refine (HN2.out _).mono ?_); rintro e w' ⟨rfl, rfl⟩)) | (go_at_call 46; ((with_reducible refine (HN3.out _).mono ?_); rintro e w' ⟨rfl, rfl⟩)) | (go_at_call 13; ((with_reducible refine (HC.out _ _ hT' hB').mono ?_); rintro e w' ⟨rfl, hb⟩)))
      go_wp2
      go_ret2
      exact ⟨ret_two (by rw [HV.out.1, HH.out]) (by rw [HV.out.2, HH.out]), ((Below.refl _ _).drew).trans hb⟩

set_option maxHeartbeats 1000000 in
set_option maxRecDepth 100000 in
theorem parse_13 (s : ByteArray) (w : World) (hT : Tab w) (hB : 0 < w.heap.size) (h1 : s.size = 13) : Calls Tryd.prog 16 #[.string s] w fun e w' => e = .returned (.tuple #[.int .i64 (Cal.pv s), .int .i64 (Cal.pe s)]) ∧ Below w.heap.size w w' := by
  have _ : ((s.size : Int) != 13) = false := by rw [bne_eq_false_iff_eq]; omega
  have _ : ((s.size : Int) != 10) = true := bne_iff_ne.2 (by omega)
  have _ : ((s.size : Int) == 13) = true := beq_iff_eq.2 (by omega)
  have h1a : 13 ≤ s.size := by omega
  have h1b : s.size ≤ 13 := by omega
  have H1 := Lib.hid h1
  clear h1
  go_enter Tryd.func16, Tryd.ntmps16
  go_wp2
  go_loop [16] (fun i => ∃ k : Nat, k ≤ s.size ∧ i = .int .i64 k ∧ Hid (∀ j, j < k → Cal.fits (bt s j) j = true)) (fun i => s.size - (intOf i).toNat)
  case atStart => exact ⟨0, Nat.zero_le _, rfl, fun j hj => by omega⟩
  case round =>
    obtain ⟨k, hk, rfl, HF⟩ := hrel
    have hg := get_bt s
    by_cases hlt : k < s.size
    · by_cases hf : Cal.fits (bt s k) k = true
      · have HC := Lib.hid (fun w => fits_any (bt s k) k w)
        have HF' : Hid (∀ j, j < k + 1 → Cal.fits (bt s j) j = true) := fun j hj => (Nat.lt_succ_iff_lt_or_eq.1 hj).elim (HF.out j) (fun e => e ▸ hf)
        go_wp2_with (go_at_call 45; refine (HC.out _).mono ?_; rintro e w' ⟨rfl, rfl⟩)
        go_round
        case rel => exact ⟨k + 1, by omega, by go_num, HF'⟩
        case measure => simp [intOf]; omega
      · have HC := Lib.hid (fun w => fits_any (bt s k) k w)
        have HV := Lib.hid (Cal.p_bad (s := s) (fun h => hf (h.2 k hlt)))
        have hf' : Cal.fits (bt s k) k = false := by simpa using hf
        clear hf
        go_wp2_with (go_at_call 45; refine (HC.out _).mono ?_; rintro e w' ⟨rfl, rfl⟩)
        go_ret2
        exact ⟨ret_two HV.out.1.symm HV.out.2.symm, (by repeat' (first | (with_reducible exact Below.refl _ _) | (with_reducible assumption) | (with_reducible refine below_drewN ?_ _) | (with_reducible refine Below.alloc ?_ ?_ _) | (with_reducible refine Below.drew ?_) | (with_reducible refine Below.setCell ?_ ?_ _) | go_size))⟩
    · have hall : ∀ j, j < s.size → Cal.fits (bt s j) j = true := fun j hj => HF.out j (by omega)
      have HV := Lib.hid (Cal.p_good (s := s) ⟨by omega, hall⟩)
      have HD1 := Lib.hid (Cal.fits_digs hall 0 4 (by omega) (by omega))
      have HD2 := Lib.hid (Cal.fits_digs hall 5 2 (by omega) (by omega))
      have HD3 := Lib.hid (Cal.fits_digs hall 8 2 (by omega) (by omega))
      have HD4 := Lib.hid (Cal.fits_digs hall 11 (s.size - 11) (by omega) (by omega))
      have HH := Lib.hid (show Cal.hh s = Cal.num s 11 (s.size - 11) by simp only [Cal.hh, H1.out]; rfl)
      clear hall HF hg
      go_wp2_with (go_at_call 46; refine (number_part s 11 s.size _ (by omega) (by omega) (by omega) HD4.out).same.mono ?_; rintro e w' ⟨rfl, rfl⟩)
      go_wp2
      have f4 : (4 : Int) ≤ (s.size : Int) := by omega
      have f7 : (7 : Int) ≤ (s.size : Int) := by omega
      have f10 : (10 : Int) ≤ (s.size : Int) := by omega
      have HN1 := Lib.hid (fun w => (number_part s 0 4 w (by omega) (by omega) (by omega) HD1.out).same)
      have HN2 := Lib.hid (fun w => (number_part s 5 7 w (by omega) (by omega) (by omega) HD2.out).same)
      have HN3 := Lib.hid (fun w => (number_part s 8 10 w (by omega) (by omega) (by omega) HD3.out).same)
      have HC := Lib.hid (fun h w hT hB => hour_any (Cal.num s 0 4) (Cal.num s 5 2) (Cal.num s 8 2) h w hT hB)
      have hT' : Tab w.drew := hT
      have hB' : 0 < w.drew.heap.size := hB
      go_region_held3 (fun _ => True) (trivial) (first | (go_at_call 46; ((with_reducible refine (HN1.out _).mono ?_); rintro e w' ⟨rfl, rfl⟩)) | (go_at_call 46; ((with_reducible refine (HN2.out _).mono ?_); rintro e w' ⟨rfl, rfl⟩)) | (go_at_call 46; ((with_reducible refine (HN3.out _).mono ?_); rintro e w' ⟨rfl, rfl⟩)) | (go_at_call 13; ((with_reducible refine (HC.out _ _ hT' hB').mono ?_); rintro e w' ⟨rfl, hb⟩)))
      go_wp2
      go_ret2
      exact ⟨ret_two (by rw [HV.out.1, HH.out]) (by rw [HV.out.2, HH.out]), ((Below.refl _ _).drew).trans hb⟩

theorem parse_any (s : ByteArray) (w : World) (hT : Tab w) (hB : 0 < w.heap.size) : Calls Tryd.prog 16 #[.string s] w fun e w' => e = .returned (.tuple #[.int .i64 (Cal.pv s), .int .i64 (Cal.pe s)]) ∧ Below w.heap.size w w' := by
  by_cases h : s.size = 10
  · exact parse_10 s w hT hB h
  by_cases k : s.size = 13
  · exact parse_13 s w hT hB k
  · exact parse_len s w h k

theorem awake_any (w : World) (hT : Tab w) (hB : 0 < w.heap.size) : Calls Tryd.prog 15 #[] w fun e w' => e = .returned (.bool true) ∧ Below w.heap.size w w' := by
  have HV := Lib.hid (show Cal.pv ⟨#[50, 48, 48, 48, 45, 48, 50, 45, 50, 57, 84, 48, 53]⟩ = 1421 ∧ Cal.pe ⟨#[50, 48, 48, 48, 45, 48, 50, 45, 50, 57, 84, 48, 53]⟩ = 0 by decide +kernel)
  have HC := Lib.hid (parse_any ⟨#[50, 48, 48, 48, 45, 48, 50, 45, 50, 57, 84, 48, 53]⟩ w hT hB)
  rw [HV.out.1, HV.out.2] at HC
  go_enter Tryd.func15, Tryd.ntmps15
  go_wp2_with (go_at_call 16; refine HC.out.mono ?_; rintro e w' ⟨rfl, hb⟩)
  go_ret
  exact ⟨rfl, hb⟩
end Go.Proofs.YtnidojfnpmhjkaaDoor
