/- Codec: the readers, the writers of many numbers. -/
import Derived.Test.YtbghnjkieghloaaC3
namespace Go.Proofs.Ytbghnjkieghloaa
namespace Abs
set_option linter.unusedVariables false
set_option linter.unusedSimpArgs false
theorem num_used (bs : List Int) (h : (numS bs).2.2.1 = 0) : (numS bs).2.1 = ((tw bs + 1 : Nat) : Int) ∧ tw bs + 1 ≤ bs.length := by
  have hle := tw_le bs
  revert h
  unfold numS
  split
  · intro h; cases h
  · split
    · intro h; cases h
    · split
      · intro h; cases h
      · intro _; refine ⟨rfl, ?_⟩; omega
/-- What a reader's next answers. -/
def nextS (bs : List Int) (e : Int) : Int × List Int × Int × Unit :=
  if e ≠ 0 then (0, bs, e, ()) else if (numS bs).2.2.1 ≠ 0 then (0, bs, (numS bs).2.2.1, ()) else ((numS bs).1, bs.drop (tw bs + 1), 0, ())
theorem next_m (bs : List Int) (e : Int) (hB : Byt bs) (hl : bs.length ≤ 140737488356000) : m44 bs e = some (nextS bs e) := by
  unfold m44 nextS
  by_cases he : e = 0
  · subst he
    rw [iNe_f rfl, dec_m bs hB hl, if_neg (by simp)]
    simp only [cond_false, Option.bind_some]
    by_cases hn : (numS bs).2.2.1 = 0
    · obtain ⟨q1, q2⟩ := num_used bs hn
      rw [iNe_f hn, if_neg (by simpa using hn), q1]
      simp only [cond_false]
      rw [cutOk_t (by omega) (by omega) (by omega)]
      simp only [cond_true]
      congr 3
      show (bs.take (bs.length)).drop (tw bs + 1) = _
      rw [List.take_length]
    · rw [iNe_t hn, if_pos hn]; rfl
  · rw [iNe_t he, if_pos he]; rfl
theorem next_r (bs : List Int) (e : Int) (hB : Byt bs) (hl : bs.length ≤ 140737488356000) : m47 bs e = some (nextS bs e) := by
  unfold m47 nextS
  by_cases he : e = 0
  · subst he
    rw [iNe_f rfl, dec_r bs hB hl, if_neg (by simp)]
    simp only [cond_false, Option.bind_some]
    by_cases hn : (numS bs).2.2.1 = 0
    · obtain ⟨q1, q2⟩ := num_used bs hn
      rw [iNe_f hn, if_neg (by simpa using hn), q1]
      simp only [cond_false]
      rw [cutOk_t (by omega) (by omega) (by omega)]
      simp only [cond_true]
      congr 3
      show (bs.take (bs.length)).drop (tw bs + 1) = _
      rw [List.take_length]
    · rw [iNe_t hn, if_pos hn]; rfl
  · rw [iNe_t he, if_pos he]; rfl
theorem encode_r (xs : List Int) (hl : xs.length ≤ 10000) : m43 xs = some (encodeS xs) := by
  unfold m43
  refine loop_goal (fun o => o = some (encodeS xs)) (fun s => ∃ k : Nat, k ≤ xs.length ∧ (∀ x ∈ xs.take k, vAmt x = true) ∧ s = (xs, lenI xs, (k : Int), encNs (xs.take k), ())) (fun s => xs.length - s.2.2.1.toNat) ?_ _ ⟨0, by omega, by simp, by simp [encNs]⟩
  rintro _ ⟨k, hk, hv, rfl⟩
  dsimp only
  have hlen := encNs_len _ hv
  have hlen : (encNs (xs.take k)).length ≤ 7 * k := by rw [List.length_take] at hlen; omega
  by_cases hkl : k < xs.length
  · rw [iLt_t (by rw [lenI_eq]; omega), bnd_t (by omega) (by rw [lenI_eq]; omega), atI_get _ hkl, number_r _ _ (by simp)]
    simp only [cond_true, Option.bind_some]
    unfold appN
    cases hx : vAmt xs[k] with
    | false =>
      right
      refine ⟨([], 1, ()), rfl, ?_⟩
      unfold encodeS
      rw [if_neg]
      intro q
      rw [List.all_eq_true.1 q xs[k] (List.getElem_mem _)] at hx; cases hx
    | true =>
      left
      have h7 := enc7 hx
      have ht : xs.take (k + 1) = xs.take k ++ [xs[k]] := by rw [List.take_append_getElem]
      refine ⟨(xs, lenI xs, ((k + 1 : Nat) : Int), encNs (xs.take (k + 1)), ()), ?_, ⟨k + 1, by omega, fun x hm => ?_, rfl⟩, by show xs.length - (k + 1) < xs.length - k; omega⟩
      · simp only [if_true, List.nil_append]
        have he : encNs (xs.take (k + 1)) = encNs (xs.take k) ++ enc (zz xs[k]) := by rw [ht]; unfold encNs; rw [List.flatMap_append]; simp only [List.flatMap_cons, List.flatMap_nil, List.append_nil]
        rw [iNe_f rfl, fits_t (by omega) (by omega), iAdd64 (by omega) (by omega), he]; rfl
      · rw [ht] at hm
        rcases List.mem_append.1 hm with q | q
        · exact hv x q
        · simp at q; rw [q]; exact hx
  · right
    have hkk : k = xs.length := by omega
    subst hkk
    rw [List.take_length] at hv ⊢
    rw [iLt_f (by rw [lenI_eq]; omega)]
    refine ⟨(encNs xs, 0, ()), rfl, ?_⟩
    unfold encodeS
    rw [if_pos (List.all_eq_true.2 hv)]
end Abs
end Go.Proofs.Ytbghnjkieghloaa
