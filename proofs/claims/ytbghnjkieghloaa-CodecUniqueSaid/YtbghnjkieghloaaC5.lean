/- Codec: bordereaux as they are written. -/
import Derived.Test.YtbghnjkieghloaaC4
namespace Go.Proofs.Ytbghnjkieghloaa
namespace Abs
set_option linter.unusedVariables false
set_option linter.unusedSimpArgs false
/-- A row's numbers. -/
def rowN (r : DS6) : List Int := [r.1, r.2.1, r.2.2.1.1, r.2.2.1.2.1, r.2.2.1.2.2.2.1, r.2.2.1.2.2.2.2.1]
def bordN (y : DS7) : List Int := [y.1, y.2.1, y.2.2.1, lenI y.2.2.2.1]
/-- What EncodeBordereau answers. -/
def encB (y : DS7) : List Int × Int × Unit :=
  if 64 < List.length (α := DS6) y.2.2.2.1 then ([], 4, ()) else if List.all (α := DS6) y.2.2.2.1 (fun r => decide (r.2.2.1.2.2.1 = y.2.1)) = true then encodeS (bordN y ++ List.flatMap (α := DS6) rowN y.2.2.2.1) else ([], 20, ())
theorem rows_len (rs : List DS6) : (rs.flatMap rowN).length = 6 * rs.length := by
  induction rs with
  | nil => rfl
  | cons r rs ih => simp only [List.flatMap_cons, List.length_append, List.length_cons, ih]; simp [rowN]; omega
theorem encB_m (y : DS7) : m26 y = some (encB y) := by
  obtain ⟨a, b, c, rs, u⟩ := y
  change List DS6 at rs
  cases u
  unfold m26 encB
  dsimp only
  by_cases hl : 64 < rs.length
  · rw [iLt_t (by rw [lenI_eq]; omega), if_pos hl]; rfl
  rw [iLt_f (by rw [lenI_eq]; omega), if_neg hl]
  simp only [cond_false]
  refine loop_goal (fun o => o = some (if rs.all (fun r => decide (r.2.2.1.2.2.1 = b)) = true then encodeS (bordN (a, b, c, rs, ()) ++ rs.flatMap rowN) else ([], 20, ()))) (fun s => ∃ k : Nat, k ≤ rs.length ∧ (∀ r ∈ rs.take k, r.2.2.1.2.2.1 = b) ∧ s = (rs, lenI rs, (k : Int), a, b, c, rs, bordN (a, b, c, rs, ()) ++ (rs.take k).flatMap rowN, ())) (fun s => rs.length - s.2.2.1.toNat) ?_ _ ⟨0, by omega, by simp, by simp [bordN]⟩
  rintro _ ⟨k, hk, hv, rfl⟩
  dsimp only
  have hlen := rows_len (rs.take k)
  rw [List.length_take] at hlen
  have hb4 : (bordN (a, b, c, rs, ())).length = 4 := rfl
  by_cases hkl : k < rs.length
  · rw [iLt_t (by rw [lenI_eq]; omega), bnd_t (by omega) (by rw [lenI_eq]; omega), atI_get _ hkl]
    simp only [cond_true]
    by_cases hx : rs[k].2.2.1.2.2.1 = b
    · left
      have ht : rs.take (k + 1) = rs.take k ++ [rs[k]] := by rw [List.take_append_getElem]
      refine ⟨(rs, lenI rs, ((k + 1 : Nat) : Int), a, b, c, rs, bordN (a, b, c, rs, ()) ++ (rs.take (k + 1)).flatMap rowN, ()), ?_, ⟨k + 1, by omega, fun r hm => ?_, rfl⟩, by show rs.length - (k + 1) < rs.length - k; omega⟩
      · have he : (rs.take (k + 1)).flatMap rowN = (rs.take k).flatMap rowN ++ rowN rs[k] := by rw [ht, List.flatMap_append]; simp only [List.flatMap_cons, List.flatMap_nil, List.append_nil]
        rw [iNe_f hx, fits_t (by simp only [List.length_append, hlen, hb4, List.length_cons, List.length_nil]; omega) (by simp only [List.length_append, hlen, hb4, List.length_cons, List.length_nil]; omega), iAdd64 (by omega) (by omega), he, ← List.append_assoc]; rfl
      · rw [ht] at hm
        rcases List.mem_append.1 hm with q | q
        · exact hv r q
        · simp at q; rw [q]; exact hx
    · right
      refine ⟨([], 20, ()), ?_, ?_⟩
      · rw [iNe_t hx]; rfl
      · rw [if_neg]
        intro q
        exact hx (of_decide_eq_true (List.all_eq_true.1 q rs[k] (List.getElem_mem _)))
  · right
    have hkk : k = rs.length := by omega
    subst hkk
    rw [List.take_length] at hv hlen ⊢
    rw [iLt_f (by rw [lenI_eq]; omega), encode_m _ (by simp only [List.length_append, hb4]; omega)]
    refine ⟨_, rfl, ?_⟩
    rw [if_pos (List.all_eq_true.2 fun r hr => decide_eq_true (hv r hr))]
theorem encB_r (y : DS7) : m27 y = some (encB y) := by
  obtain ⟨a, b, c, rs, u⟩ := y
  change List DS6 at rs
  cases u
  unfold m27 encB
  dsimp only
  by_cases hl : 64 < rs.length
  · rw [iLt_t (by rw [lenI_eq]; omega), if_pos hl]; rfl
  rw [iLt_f (by rw [lenI_eq]; omega), if_neg hl]
  simp only [cond_false]
  refine loop_goal (fun o => o = some (if rs.all (fun r => decide (r.2.2.1.2.2.1 = b)) = true then encodeS (bordN (a, b, c, rs, ()) ++ rs.flatMap rowN) else ([], 20, ()))) (fun s => ∃ k : Nat, k ≤ rs.length ∧ (∀ r ∈ rs.take k, r.2.2.1.2.2.1 = b) ∧ s = (rs, lenI rs, (k : Int), a, b, c, rs, bordN (a, b, c, rs, ()) ++ (rs.take k).flatMap rowN, ())) (fun s => rs.length - s.2.2.1.toNat) ?_ _ ⟨0, by omega, by simp, by simp [bordN]⟩
  rintro _ ⟨k, hk, hv, rfl⟩
  dsimp only
  have hlen := rows_len (rs.take k)
  rw [List.length_take] at hlen
  have hb4 : (bordN (a, b, c, rs, ())).length = 4 := rfl
  by_cases hkl : k < rs.length
  · rw [iLt_t (by rw [lenI_eq]; omega), bnd_t (by omega) (by rw [lenI_eq]; omega), atI_get _ hkl]
    simp only [cond_true]
    by_cases hx : rs[k].2.2.1.2.2.1 = b
    · left
      have ht : rs.take (k + 1) = rs.take k ++ [rs[k]] := by rw [List.take_append_getElem]
      refine ⟨(rs, lenI rs, ((k + 1 : Nat) : Int), a, b, c, rs, bordN (a, b, c, rs, ()) ++ (rs.take (k + 1)).flatMap rowN, ()), ?_, ⟨k + 1, by omega, fun r hm => ?_, rfl⟩, by show rs.length - (k + 1) < rs.length - k; omega⟩
      · have he : (rs.take (k + 1)).flatMap rowN = (rs.take k).flatMap rowN ++ rowN rs[k] := by rw [ht, List.flatMap_append]; simp only [List.flatMap_cons, List.flatMap_nil, List.append_nil]
        rw [iNe_f hx, fits_t (by simp only [List.length_append, hlen, hb4, List.length_cons, List.length_nil]; omega) (by simp only [List.length_append, hlen, hb4, List.length_cons, List.length_nil]; omega), iAdd64 (by omega) (by omega), he, ← List.append_assoc]; rfl
      · rw [ht] at hm
        rcases List.mem_append.1 hm with q | q
        · exact hv r q
        · simp at q; rw [q]; exact hx
    · right
      refine ⟨([], 20, ()), ?_, ?_⟩
      · rw [iNe_t hx]; rfl
      · rw [if_neg]
        intro q
        exact hx (of_decide_eq_true (List.all_eq_true.1 q rs[k] (List.getElem_mem _)))
  · right
    have hkk : k = rs.length := by omega
    subst hkk
    rw [List.take_length] at hv hlen ⊢
    rw [iLt_f (by rw [lenI_eq]; omega), encode_r _ (by simp only [List.length_append, hb4]; omega)]
    refine ⟨_, rfl, ?_⟩
    rw [if_pos (List.all_eq_true.2 fun r hr => decide_eq_true (hv r hr))]
end Abs
end Go.Proofs.Ytbghnjkieghloaa
