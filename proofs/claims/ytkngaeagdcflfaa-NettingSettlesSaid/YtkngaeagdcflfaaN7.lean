/- Netting: the laws about arbitrary debts and positions. -/
import Derived.Test.YtkngaeagdcflfaaN6
namespace Go.Proofs.Ytkngaeagdcflfaa
namespace Abs
set_option linter.unusedVariables false
set_option linter.unusedSimpArgs false
theorem awake_m : m8 = some (true, ()) := by
  unfold m8
  rw [offset_m, payments_m, show offE [(1, 2, 10, ()), (2, 1, 4, ()), (1, 2, 1, ())] = ([(1, 2, 7, ())], 0, ()) by decide +kernel, show payE [(-7), 5, (-3), 5] = ([(0, 1, 5, ()), (2, 3, 3, ()), (0, 3, 2, ())], 0, ()) by decide +kernel]
  simp only [Option.bind_some]
  rw [same_m _ _ (by simp), same_m _ _ (by simp)]
  rfl
theorem off_len (l : List DS0) : (offE l).1.length ≤ 256 := by
  unfold offE
  split
  · simp
  · split
    · exact Fq_len l 256
    · simp
theorem pay_len (f : Nat) : ∀ (l : List Int) (xs : List DS0), (payRun f l xs).length ≤ xs.length + f := by
  induction f with
  | zero => intro l xs; exact Nat.le_refl _
  | succ f ih =>
    intro l xs
    unfold payRun
    split
    · omega
    · refine Nat.le_trans (ih _ _) ?_
      simp only [List.length_append, List.length_singleton]; omega
theorem payE_len (l : List Int) : (payE l).1.length ≤ 17 := by
  unfold payE
  split
  · simp
  · split
    · simp
    · split
      · simp
      · have := pay_len 17 l []; simpa using this
theorem posE_len (l : List DS0) : (posE l).1.length ≤ 16 := by
  unfold posE
  split
  · simp
  · split
    · simp [posL_len]
    · simp
theorem new_m (l : List Int) : m10 l = some (l, 0, ()) := rfl
theorem law_offset (raw : List DS0) (deck : List Int) (hd : DeckOk deck 0) : m3 raw deck = some (true, ()) := by
  unfold m3
  by_cases h : 200 < raw.length
  · rw [iLt_t (by simp only [lenI]; omega), awake_m]; rfl
  · rw [iLt_f (by simp only [lenI]; omega), new_m]
    simp only [cond_false, Option.bind_some]
    obtain ⟨a', ds, e, h1, h2⟩ := made_ok hd
    rw [e]
    simp only [Option.bind_some, offset_m, offset_r, validate_m, validate_r, awake_m]
    rw [same_m _ _ (by have := off_len raw; omega), same_m _ _ (by have := off_len ds; omega), made_val h1 h2]
    simp [iEq]
theorem law_positions (raw : List DS0) (deck : List Int) (hd : DeckOk deck 0) : m5 raw deck = some (true, ()) := by
  unfold m5
  by_cases h : 200 < raw.length
  · rw [iLt_t (by simp only [lenI]; omega), awake_m]; rfl
  · rw [iLt_f (by simp only [lenI]; omega), new_m]
    simp only [cond_false, Option.bind_some]
    obtain ⟨a', ds, e, h1, h2⟩ := made_ok hd
    rw [e]
    simp only [Option.bind_some, positions_m, positions_r, awake_m]
    rw [sameI_m _ _ (by have := posE_len raw; omega), sameI_m _ _ (by have := posE_len ds; omega)]
    simp [iEq]
/-- The positions of debts that are made. -/
theorem made_bd {ds : List DS0} (h : ∀ d ∈ ds, mkD d) (p : Nat) : -(ds.length * 268435456 : Int) ≤ posAt ds p ∧ posAt ds p ≤ ds.length * 268435456 := by
  induction ds with
  | nil => simp [posAt]
  | cons d l ih =>
    have h1 := h d (by simp)
    have h2 := ih fun x hx => h x (by simp [hx])
    have e : posAt (d :: l) p = eff d p + posAt l p := by simp [posAt]
    rw [e]
    have : -268435456 ≤ eff d p ∧ eff d p ≤ 268435456 := by
      unfold mkD at h1
      unfold eff; split <;> split <;> omega
    simp only [List.length_cons]
    omega
theorem made_pos {ds : List DS0} (h1 : ds.length ≤ 30) (h2 : ∀ d ∈ ds, mkD d) : posE ds = (posL ds, 0, ()) := by
  unfold posE
  rw [if_neg (by rw [made_val h1 h2]; simp), if_pos]
  rw [List.all_eq_true]
  intro x hx
  obtain ⟨p, hp, rfl⟩ := List.getElem_of_mem hx
  rw [posL_get]
  have := made_bd h2 p
  exact decide_eq_true (by omega)
theorem law_payments (raw : List Int) (deck : List Int) (hd : DeckOk deck 0) : m4 raw deck = some (true, ()) := by
  unfold m4
  by_cases h : 100 < raw.length
  · rw [iLt_t (by simp only [lenI]; omega), awake_m]; rfl
  · rw [iLt_f (by simp only [lenI]; omega), new_m]
    simp only [cond_false, Option.bind_some]
    obtain ⟨a', ds, e, h1, h2⟩ := made_ok hd
    rw [e]
    simp only [Option.bind_some, positions_r, awake_m, payments_m, payments_r]
    rw [made_pos h1 h2]
    simp only
    rw [same_m _ _ (by have := payE_len raw; omega), same_m _ _ (by have := payE_len (posL ds); omega)]
    simp [iEq, iNe]
end Abs
end Go.Proofs.Ytkngaeagdcflfaa
