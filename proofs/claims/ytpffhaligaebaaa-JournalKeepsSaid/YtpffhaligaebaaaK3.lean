/- The law JournalKeeps on its model. -/
import Derived.Test.YtpffhaligaebaaaK2
namespace Go.Proofs.Ytpffhaligaebaaa
namespace Abs
open Go.RowKit
set_option linter.unusedVariables false
set_option linter.unusedSimpArgs false
theorem byt_7 : Byt [7] := fun x hx => by simp at hx; omega
theorem awake_m : m16 = some (true, ()) := by
  unfold m16
  have hb3 : Byt ((frame [7]).take 3) := (byt_7.frame).take 3
  have hr : recs ((frame [7]).take 3) = ([], 0) := by
    have := recs_frames [] ((frame [7]).take 3) (by simp) (fstO_cut [7] 3 (by simp) (by simp))
    simpa using this
  have e1 : lenI ((frame [7]).take 3) = 3 := by show (((frame [7]).take 3).length : Int) = 3; rw [l3]; rfl
  have e2 : lenI (frame [7]) = 7 := by show ((frame [7]).length : Int) = 7; rw [l7]; rfl
  have a1 : atI (frame [7]) 1 0 = 1 := rfl
  have a6 : atI (frame [7]) 6 0 = 7 := rfl
  rw [cut_m _ _ _ (by simp)]
  simp only [Option.bind_some]
  have ha := append_cut [] 0 3 [7] (by simp) (by simp) (by simp) (by omega) (by omega) (by omega)
  rw [show (0 : Int) + 1 = 1 from rfl] at ha
  rw [ha]
  simp only [Option.bind_some, List.nil_append, show (3 : Int).toNat = 3 from rfl]
  rw [records_m _ (by rw [l3]; omega) hb3, frame_m [7] (by simp) (by simp)]
  simp only [Option.bind_some, hr, e1, e2, a1, a6]
  rw [bnd_t (show (0 : Int) ≤ 1 by omega) (show (1 : Int) < 7 by omega), bnd_t (show (0 : Int) ≤ 6 by omega) (show (6 : Int) < 7 by omega)]
  simp only [iEq_t, lenI, List.length_nil, Int.natCast_zero, Int.cast_ofNat_Int, cond_true, Bool.true_or]
  rw [ck_m [] (by simp)]
  rfl
theorem fl_len {rs : List (List Int)} (h : ∀ x ∈ rs, 0 < x.length ∧ x.length ≤ 41 ∧ Byt x) {k : Nat} (hk : k ≤ rs.length) (h6 : rs.length ≤ 6) : (fl rs k).length ≤ 282 := by
  have := (fl_ok h k hk).1; omega
theorem recs_fl {rs : List (List Int)} (h : ∀ x ∈ rs, 0 < x.length ∧ x.length ≤ 41 ∧ Byt x) {k : Nat} (hk : k ≤ rs.length) (ts : List Int) (ht : fstO ts = none) : recs (fl rs k ++ ts) = (rs.take k, (fl rs k).length) :=
  recs_frames (rs.take k) ts (fun x hx => by have := h x (List.mem_of_mem_take hx); omega) ht
theorem recs_fl0 {rs : List (List Int)} (h : ∀ x ∈ rs, 0 < x.length ∧ x.length ≤ 41 ∧ Byt x) {k : Nat} (hk : k ≤ rs.length) : recs (fl rs k) = (rs.take k, (fl rs k).length) := by
  have := recs_fl h hk [] (if_pos (.inl (by simp)))
  simpa using this
/-- The disk behind a restart goes on. -/
theorem keeps_on {rs : List (List Int)} (h : ∀ x ∈ rs, 0 < x.length ∧ x.length ≤ 41 ∧ Byt x) (h6 : rs.length ≤ 6) {k : Nat} (hk : k ≤ rs.length) (wr : Int) (h0 : 0 ≤ wr) (h1 : wr ≤ 100) (after : List Int) (ha : Byt after) :
    m10 (fl rs k, wr, 0, 0, false, ()) ([9] ++ after.take 300) = some ((fl rs k ++ frame ([9] ++ after.take 300), wr + 1, 0, 0, false, ()), 0, ()) ∧ m19 (fl rs k ++ frame ([9] ++ after.take 300)) = some (rs.take k ++ [[9] ++ after.take 300], ((fl rs k ++ frame ([9] ++ after.take 300)).length : Int), ()) := by
  have hl := fl_len h hk h6
  have hx : ([9] ++ after.take 300).length ≤ 301 := by simp only [List.length_append, List.length_take, List.length_cons, List.length_nil]; omega
  have hx0 : 0 < ([9] ++ after.take 300).length := by simp
  have hb : Byt ([9] ++ after.take 300) := Byt.app (fun x hx => by simp at hx; omega) (ha.take 300)
  refine ⟨append_ok _ _ _ _ _ (by omega) hx0 (by omega) h0 (by omega) (by omega), ?_⟩
  have hr : recs (fl rs k ++ frame ([9] ++ after.take 300)) = (rs.take k ++ [[9] ++ after.take 300], (fl rs k ++ frame ([9] ++ after.take 300)).length) := by
    have := recs_frames (rs.take k ++ [[9] ++ after.take 300]) [] (fun x hx' => by
      rcases List.mem_append.1 hx' with q | q
      · have := h x (List.mem_of_mem_take q); omega
      · simp only [List.mem_singleton] at q; subst q; omega) (if_pos (.inl (by simp)))
    simpa [fl, List.flatMap_append] using this
  rw [records_m _ (by rw [List.length_append, frame_len]; omega) (Byt.app (fl_ok h k hk).2 hb.frame), hr]
theorem keeps_m (raw : List (List Int)) (at' torn : Int) (after : List Int) (hraw : ∀ x ∈ raw, Byt x) (hat : 0 ≤ at' ∧ at' ≤ 255) (ht : 0 ≤ torn ∧ torn ≤ 65535) (ha : Byt after) : m6 raw at' torn after = some (true, ()) := by
  unfold m6
  rw [lawRecords_m]
  simp only [Option.bind_some]
  obtain ⟨h6, hrs⟩ := rcs_ok hraw
  generalize rcs raw = rs at h6 hrs
  by_cases hz : rs.length = 0
  · rw [iEq_t (show lenI rs = 0 by show (rs.length : Int) = 0; omega), awake_m]
    rfl
  · have hz' : lenI rs ≠ 0 := by show (rs.length : Int) ≠ 0; omega
    rw [iEq_f hz', iNe_t hz', iNe_t (show (60 : Int) ≠ 0 by omega)]
    simp only [cond_false, cond_true]
    -- the number of the record, and how much of it is stored
    obtain ⟨k, hk, ek⟩ : ∃ k : Nat, k < rs.length ∧ iRem (IntKind.wrap .i64 at') (lenI rs) = (k : Int) := by
      have ew : IntKind.wrap .i64 at' = at' := wrap64 (by omega) (by omega)
      have e1 : iRem (IntKind.wrap .i64 at') (lenI rs) = at' % (rs.length : Int) := by
        rw [ew]; show at'.tmod (rs.length : Int) = _; exact Int.tmod_eq_emod_of_nonneg hat.1
      have h1 := Int.emod_nonneg at' (show (rs.length : Int) ≠ 0 by omega)
      have h2 := Int.emod_lt_of_pos at' (show (0 : Int) < rs.length by omega)
      exact ⟨(at' % (rs.length : Int)).toNat, by omega, by rw [e1]; omega⟩
    obtain ⟨n, hn, en⟩ : ∃ n : Nat, n < 60 ∧ iRem (IntKind.wrap .i64 torn) 60 = (n : Int) := by
      have ew : IntKind.wrap .i64 torn = torn := wrap64 (by omega) (by omega)
      have e1 : iRem (IntKind.wrap .i64 torn) 60 = torn % 60 := by
        rw [ew]; show torn.tmod 60 = _; exact Int.tmod_eq_emod_of_nonneg ht.1
      exact ⟨(torn % 60).toNat, by omega, by rw [e1]; omega⟩
    rw [ek, en, iAdd64 (by omega) (by omega), cut_m _ _ _ (by simp)]
    simp only [Option.bind_some]
    have hkl : rs.getD k [] = rs[k] := by simp [List.getD, hk]
    have hrk := hrs rs[k] (List.getElem_mem _)
    have app : ∀ j, j < k → m10 (fl rs j, (j : Int), (k : Int) + 1, (n : Int), false, ()) (rs.getD j []) = some ((fl rs (j + 1), (j : Int) + 1, (k : Int) + 1, (n : Int), false, ()), 0, ()) := fun j hj => by
      have hjl : rs.getD j [] = rs[j] := by simp [List.getD, show j < rs.length by omega]
      have hrj := hrs (rs[j]'(by omega)) (List.getElem_mem _)
      have := fl_len hrs (show j ≤ rs.length by omega) h6
      rw [hjl, append_ok _ _ _ _ _ (by omega) hrj.1 (by omega) (by omega) (by omega) (by omega), fl_succ (show j < rs.length by omega)]
    have appk : m10 (fl rs k, (k : Int), (k : Int) + 1, (n : Int), false, ()) (rs.getD k []) = some ((fl rs k ++ (frame rs[k]).take n, (k : Int) + 1, (k : Int) + 1, (n : Int), true, ()), 18, ()) := by
      have := fl_len hrs (show k ≤ rs.length by omega) h6
      rw [hkl, append_cut _ _ _ _ (by omega) hrk.1 (by omega) (by omega) (by omega) (by omega), Int.toNat_natCast]
    refine loop_to (fun j => (after, rs, (k : Int), (n : Int), (j : Int), (if j ≤ k then fl rs j else fl rs k ++ (frame rs[k]).take n), (j : Int), (k : Int) + 1, (n : Int), decide (k < j), ())) (k + 1) (fun j hj => ?_) ?_
    · have b := bnd_t (show (0 : Int) ≤ j by omega) (show (j : Int) < lenI rs by show (j : Int) < rs.length; omega)
      simp only [iLe_t (show (j : Int) ≤ k by omega), b, cond_true, atI_nat, if_pos (show j ≤ k by omega), show decide (k < j) = false from decide_eq_false (by omega)]
      rcases Nat.lt_or_ge j k with hjk | hjk
      · rw [app j hjk]
        simp only [Option.bind_some, iEq_t, iLt_t (show (j : Int) < k by omega), iNe_f, cond_false]
        rw [iAdd64 (by omega) (by omega), if_pos (show j + 1 ≤ k by omega), show decide (k < j + 1) = false from decide_eq_false (by omega)]
        rfl
      · have : j = k := by omega
        subst this
        rw [appk]
        simp only [Option.bind_some, iEq_f (show (18 : Int) ≠ 0 by omega), iLt_f (show (j : Int) ≤ j by omega), iNe_t (show (18 : Int) ≠ 0 by omega), iNe_f (show (18 : Int) = 18 from rfl), cond_true, cond_false]
        rw [iAdd64 (by omega) (by omega), if_neg (show ¬ j + 1 ≤ j by omega), show decide (j < j + 1) = true from decide_eq_true (by omega)]
        rfl
    · simp only [iLe_f (show (k : Int) < ((k + 1 : Nat) : Int) by omega), cond_false, if_neg (show ¬ k + 1 ≤ k by omega), show decide (k < k + 1) = true from decide_eq_true (by omega)]
      have hfk := fl_ok hrs k (by omega)
      have hfl : (frame rs[k]).length = 6 + rs[k].length := frame_len _
      have hbt : Byt (fl rs k ++ (frame rs[k]).take n) := Byt.app hfk.2 ((Byt.frame hrk.2.2).take n)
      have hlt : (fl rs k ++ (frame rs[k]).take n).length ≤ 1000000 := by rw [List.length_append, List.length_take]; omega
      rw [restart_m _ _ _ _ _ hlt hbt]
      simp only [Option.bind_some, cutOk_t (show (0 : Int) ≤ 0 by omega) (show (0 : Int) ≤ k by omega) (show (k : Int) ≤ rs.length by omega), bnd_t (show (0 : Int) ≤ k by omega) (show (k : Int) < lenI rs by show (k : Int) < rs.length; omega), cond_true, atI_nat, hkl, short_m]
      have eln : iAdd .i64 (lenI rs[k]) 6 = (rs[k].length : Int) + 6 := iAdd64 (by simp only [lenI]; omega) (by simp only [lenI]; omega)
      rw [eln]
      have hlx : ([9] ++ after.take 300).length ≤ 301 := by simp only [List.length_append, List.length_take, List.length_cons, List.length_nil]; omega
      have fin : ∀ (k' : Nat) (hk' : k' ≤ rs.length), recs (fl rs k ++ (frame rs[k]).take n) = (rs.take k', (fl rs k').length) → (fl rs k ++ (frame rs[k]).take n).take (fl rs k').length = fl rs k' → (m19 (fl rs k') = some (rs.take k', ((fl rs k').length : Int), ())) := by
        intro k' hk' h1 h2
        have := fl_len hrs hk' h6
        rw [records_m _ (by omega) (fl_ok hrs k' hk').2, recs_fl0 hrs hk']
      have lists : ∀ (k' : Nat), m21 (rs.take k') (rs.take k') = some (true, ()) := fun k' => sameLists_m _ (by rw [List.length_take]; omega) (fun x hx => by have := hrs x (List.mem_of_mem_take hx); omega)
      have lists2 : ∀ (k' : Nat), m21 (rs.take k' ++ [[9] ++ after.take 300]) (rs.take k' ++ [[9] ++ after.take 300]) = some (true, ()) := fun k' => sameLists_m _ (by rw [List.length_append, List.length_take]; simp only [List.length_cons, List.length_nil]; omega) (fun x hx => by
        rcases List.mem_append.1 hx with q | q
        · have := hrs x (List.mem_of_mem_take q); omega
        · simp only [List.mem_singleton] at q; subst q; omega)
      have f1 : fits (List.length ([9] : List Int) + List.length (after.take 300)) 1 = true := fits_t (by simp only [List.length_append] at hlx; omega) (by simp only [List.length_append] at hlx; omega)
      by_cases hcase : rs[k].length + 6 ≤ n
      · have hts : (frame rs[k]).take n = frame rs[k] := List.take_of_length_le (by omega)
        have e0 : fl rs k ++ (frame rs[k]).take n = fl rs (k + 1) := by rw [hts, fl_succ hk]
        have hr : recs (fl rs k ++ (frame rs[k]).take n) = (rs.take (k + 1), (fl rs (k + 1)).length) := by rw [e0]; exact recs_fl0 hrs (by omega)
        have e2 : (fl rs k ++ (frame rs[k]).take n).take (fl rs (k + 1)).length = fl rs (k + 1) := by rw [e0, List.take_length]
        obtain ⟨on1, on2⟩ := keeps_on hrs h6 (show k + 1 ≤ rs.length by omega) ((k : Int) + 1) (by omega) (by omega) after ha
        have ecut : cutL 0 (iAdd .i64 (k : Int) 1) rs = rs.take (k + 1) := by rw [iAdd64 (by omega) (by omega), cutL_zero]; rfl
        have eadd : iAdd .i64 (k : Int) 1 = ((k + 1 : Nat) : Int) := iAdd64 (by omega) (by omega)
        rw [hr]
        simp only [e2, show ((k + 1 : Nat) : Int) = (k : Int) + 1 from rfl, fin (k + 1) (by omega) hr e2, Option.bind_some, iLe_t (show (rs[k].length : Int) + 6 ≤ n by omega), cond_true, ecut, lists, Bool.not_true, iNe_f (show ((fl rs (k + 1)).length : Int) = lenI (fl rs (k + 1)) from rfl), cond_false, f1, on1, on2, iEq_t, List.nil_append, lists2, awake_m]
        rw [cutOk_t (by omega) (by rw [eadd]; omega) (by rw [eadd]; omega), fits_t (by rw [List.length_take]; simp only [List.length_nil]; omega) (by rw [List.length_take]; simp only [List.length_nil]; omega), fits_t (by rw [List.length_take]; simp only [List.length_cons, List.length_nil]; omega) (by rw [List.length_take]; simp only [List.length_cons, List.length_nil]; omega)]
        rfl
      · have hts : fstO ((frame rs[k]).take n) = none := fstO_cut _ _ (by omega) (by omega)
        have hr : recs (fl rs k ++ (frame rs[k]).take n) = (rs.take k, (fl rs k).length) := recs_fl hrs (by omega) _ hts
        have e2 : (fl rs k ++ (frame rs[k]).take n).take (fl rs k).length = fl rs k := List.take_left
        obtain ⟨on1, on2⟩ := keeps_on hrs h6 (show k ≤ rs.length by omega) ((k : Int) + 1) (by omega) (by omega) after ha
        have ecut : cutL 0 (k : Int) rs = rs.take k := by rw [cutL_zero]; rfl
        rw [hr]
        simp only [e2, show ((k + 1 : Nat) : Int) = (k : Int) + 1 from rfl, fin k (by omega) hr e2, Option.bind_some, iLe_f (show (n : Int) < (rs[k].length : Int) + 6 by omega), cond_true, ecut, lists, Bool.not_true, iNe_f (show ((fl rs k).length : Int) = lenI (fl rs k) from rfl), cond_false, f1, on1, on2, iEq_t, List.nil_append, lists2, awake_m]
        rw [fits_t (by rw [List.length_take]; simp only [List.length_nil]; omega) (by rw [List.length_take]; simp only [List.length_nil]; omega), fits_t (by rw [List.length_take]; simp only [List.length_cons, List.length_nil]; omega) (by rw [List.length_take]; simp only [List.length_cons, List.length_nil]; omega)]
        rfl
end Abs
end Go.Proofs.Ytpffhaligaebaaa
