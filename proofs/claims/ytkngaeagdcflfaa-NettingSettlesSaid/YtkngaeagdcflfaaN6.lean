/- Netting: payments. -/
import Derived.Test.YtkngaeagdcflfaaN5
namespace Go.Proofs.Ytkngaeagdcflfaa
namespace Abs
set_option linter.unusedVariables false
set_option linter.unusedSimpArgs false
theorem cond_t {α : Type} {b : Bool} {x y : α} (h : b = true) : cond b x y = x := by rw [h]; rfl

theorem least_m (l : List Int) (hl : l.length ≤ 100) : m26 l () = some ((least l : Int), ()) := by
  unfold m26
  refine Eq.trans (loop_to (fun k => (l, (), (leastN l k : Int), (l.length : Int), (k : Int), ())) l.length ?hs ?he) rfl
  case hs =>
    intro k hk
    have h1 := leastN_lt l k
    have h2 : leastN l k < l.length := by omega
    dsimp only
    simp (disch := omega) only [iLt_t, bnd_t, lenI, atI_get, cond_true, m27, Option.bind_some, iAdd64, leastN, getD_get]
    by_cases h : l[k] < l[leastN l k]
    · rw [iLt_t h, if_pos h]; rfl
    · rw [iLt_f (by omega), if_neg h]; rfl
  case he =>
    dsimp only
    simp (disch := omega) only [iLt_f, cond_false]
    rfl

theorem most_m (l : List Int) (hl : l.length ≤ 100) : m26_1 l () = some ((most l : Int), ()) := by
  unfold m26_1
  refine Eq.trans (loop_to (fun k => (l, (), (mostN l k : Int), (l.length : Int), (k : Int), ())) l.length ?hs ?he) rfl
  case hs =>
    intro k hk
    have h1 := mostN_lt l k
    have h2 : mostN l k < l.length := by omega
    dsimp only
    simp (disch := omega) only [iLt_t, bnd_t, lenI, atI_get, cond_true, m28, Option.bind_some, iAdd64, mostN, getD_get]
    by_cases h : l[mostN l k] < l[k]
    · rw [iLt_t h, if_pos h]; rfl
    · rw [iLt_f (by omega), if_neg h]; rfl
  case he =>
    dsimp only
    simp (disch := omega) only [iLt_f, cond_false]
    rfl

theorem sum_bd {l : List Int} (h : l.all vAmt = true) : -(l.length * 17592186044416 : Int) ≤ l.sum ∧ l.sum ≤ l.length * 17592186044416 := by
  induction l with
  | nil => simp
  | cons x l ih =>
    simp only [List.all_cons, Bool.and_eq_true] at h
    have := ih h.2
    have hx := of_decide_eq_true h.1
    simp only [List.sum_cons, List.length_cons]; omega
theorem sum_take {l : List Int} {k : Nat} (hk : k < l.length) : (l.take (k + 1)).sum = (l.take k).sum + l[k] := by
  rw [List.take_succ_eq_append_getElem hk, List.sum_append]
  simp only [List.sum_cons, List.sum_nil]; omega
theorem all_take {l : List Int} {k : Nat} (hk : k < l.length) : (l.take (k + 1)).all vAmt = ((l.take k).all vAmt && vAmt l[k]) := by
  rw [List.take_succ_eq_append_getElem hk, List.all_append]
  simp only [List.all_cons, List.all_nil, Bool.and_true]
theorem not_all {l : List Int} {k : Nat} (hk : k < l.length) (h : vAmt l[k] = false) : l.all vAmt = false := by
  rw [Bool.eq_false_iff]
  intro q
  have := List.all_eq_true.1 q l[k] (List.getElem_mem _)
  rw [h] at this; cases this
theorem cpy_pad (p : List Int) (h : p.length ≤ 16) : cpy (List.replicate 16 0) (Int.toNat 0) (Int.toNat (((16 : Nat) : Int) - 0)) p = p ++ List.replicate (16 - p.length) 0 := by
  show List.take 0 _ ++ p.take 16 ++ List.drop (0 + (p.take 16).length) _ = _
  rw [List.take_zero, List.nil_append, List.take_of_length_le h, Nat.zero_add, List.drop_replicate]
theorem run_out {f : Nat} {l : List Int} {xs : List DS0} (hf : nz l < f) (h : min (-(l.getD (least l) 0)) (l.getD (most l) 0) ≤ 0) : payRun f l xs = xs := by
  cases f with
  | zero => omega
  | succ f => unfold payRun; rw [if_pos h]
theorem run_go {f : Nat} {l : List Int} {xs : List DS0} (hf : nz l < f) (h : ¬ min (-(l.getD (least l) 0)) (l.getD (most l) 0) ≤ 0) : payRun f l xs = payRun (f - 1) (nextL l) (xs ++ [payD l]) := by
  cases f with
  | zero => omega
  | succ f => show payRun (f + 1) l xs = payRun f _ _; rw [payRun, if_neg h]; rfl
theorem least_lt (l : List Int) : least l < l.length ∨ least l = 0 := leastN_lt l l.length
theorem most_lt (l : List Int) : most l < l.length ∨ most l = 0 := mostN_lt l l.length
theorem pad_in {p : List Int} (m : Nat) (hs : p.sum = 0) (hb : p.all vAmt = true) : PayIn (p ++ List.replicate m 0) (p ++ List.replicate m 0) [] := by
  refine PayIn.start (by simp [hs]) ?_
  rw [List.all_append, hb, Bool.true_and, List.all_eq_true]
  intro x hx
  rw [List.mem_replicate] at hx
  rw [hx.2]; rfl
theorem payments_m (p : List Int) : m17 p = some (payE p) := by
  unfold m17 payE
  by_cases h16 : 16 < p.length
  · rw [if_pos h16, iLt_t (by simp only [lenI]; omega)]; rfl
  rw [if_neg h16, iLt_f (by simp only [lenI]; omega)]
  simp only [cond_false]
  refine loop_goal (fun o => o = some _) (fun s : (List Int) × Int × (List Int) × Int × Int × Unit => ∃ k : Nat, k ≤ p.length ∧ s = (p, (p.take k).sum, p, (p.length : Int), (k : Int), ()) ∧ (p.take k).all vAmt = true) (fun s => (s.2.2.2.1 - s.2.2.2.2.1).toNat) ?_ _ ⟨0, by omega, rfl, rfl⟩
  rintro s ⟨k, hk, rfl, hall⟩
  dsimp only
  by_cases hkn : k < p.length
  · have hs := sum_bd hall
    have hlk : (p.take k).length = k := by simp; omega
    rw [hlk] at hs
    simp (disch := omega) only [iLt_t, bnd_t, lenI, atI_get, cond_true, valid_m, Option.bind_some]
    cases hv : vAmt p[k] with
    | true =>
      left
      have hx := of_decide_eq_true hv
      refine ⟨_, rfl, ⟨k + 1, by omega, ?_, by rw [all_take hkn, hall, hv]; rfl⟩, ?_⟩
      · rw [sum_take hkn]
        simp (disch := omega) only [iAdd64]
        rfl
      · simp (disch := omega) only [iAdd64]; omega
    | false =>
      right
      refine ⟨_, rfl, ?_⟩
      rw [if_pos (not_all hkn hv)]
  · right
    have hkp : k = p.length := by omega
    subst hkp
    rw [List.take_length] at hall ⊢
    simp (disch := omega) only [iLt_f, cond_false]
    rw [if_neg (by rw [hall]; simp)]
    by_cases hs : p.sum = 0
    case neg => rw [iNe_t hs, if_pos hs]; exact ⟨_, rfl, rfl⟩
    rw [iNe_f hs, if_neg (by simpa using hs)]
    simp only [cond_false]
    have hle : p.length ≤ 16 := by omega
    have hPI := pad_in (16 - p.length) hs hall
    have hlen : (p ++ List.replicate (16 - p.length) (0 : Int)).length = 16 := by simp; omega
    have hnz := nz_le (p ++ List.replicate (16 - p.length) (0 : Int))
    refine ⟨(payRun 17 p [], 0, ()), ?_, rfl⟩
    apply map_inr
    refine (cond_t rfl).trans ((cond_t rfl).trans ?_)
    rw [cpy_pad p hle, ← run_pad (16 - p.length) 17 p [] hs]
    generalize p ++ List.replicate (16 - p.length) (0 : Int) = P at hPI hlen hnz
    refine loop_goal (fun o => o = some _) (fun s : (List Int) × (List DS0) × Unit => PayIn P s.1 s.2.1 ∧ ∃ f, nz s.1 < f ∧ payRun f s.1 s.2.1 = payRun 17 P []) (fun s => nz s.1) ?_ _ ⟨hPI, 17, by simp only; omega, rfl⟩
    rintro ⟨l, xs, u⟩ ⟨hin, f, hf, hrun⟩
    simp only at hin hf hrun
    have hll : l.length = 16 := by rw [hin.len]; exact hlen
    have hsub : List.take (Int.toNat (((16 : Nat) : Int) - 0)) (List.drop (Int.toNat 0) l) = l := by
      show List.take 16 (List.drop 0 l) = l
      rw [List.drop_zero, List.take_of_length_le (by omega)]
    have hleN : leN 16 l = true := decide_eq_true (by omega)
    have hlt := least_lt l
    have hmt := most_lt l
    have b1 := hin.bd (least l)
    have b2 := hin.bd (most l)
    have hcnt := hin.cnt
    have en : ∀ n : Nat, 0 + n * 1 = n := fun n => by omega
    dsimp only
    have hc0 : (iEq 0 0 || iLt 0 ((16 : Nat) : Int)) = true := rfl
    simp only [hsub, hleN, Bool.and_true, Bool.true_and, hc0, cond_true]
    rw [least_m l (by omega)]
    simp only [Option.bind_some]
    rw [most_m l (by omega)]
    simp (disch := omega) only [Option.bind_some, bnd_t, cond_true, Int.toNat_natCast, en, inB_t, iNeg64]
    simp only [iMin]
    by_cases hp : min (-(l.getD (least l) 0)) (l.getD (most l) 0) ≤ 0
    · right
      rw [iLe_t hp]
      exact ⟨_, rfl, by rw [← hrun, run_out hf hp]⟩
    · left
      obtain ⟨l1, l2, hne, n1, n2, _, _, hdec, _, _⟩ := one_pay hin.sum hp
      have hin' := hin.next hp
      have g2 : (l.set (least l) (l.getD (least l) 0 + min (-(l.getD (least l) 0)) (l.getD (most l) 0))).getD (most l) 0 = l.getD (most l) 0 := by
        rw [getD_set l1, if_neg (fun q => hne q.symm)]
      rw [iLe_f (by omega)]
      simp (disch := omega) only [cond_false, iAdd64, List.length_set, inB_t, cond_true, g2, iSub64, List.length_singleton]
      rw [inB_t (by rw [List.length_set]; omega), fits_t (by omega) (by omega)]
      refine ⟨(nextL l, xs ++ [payD l], ()), rfl, ⟨hin', f - 1, by simp only; omega, ?_⟩, hdec⟩
      simp only
      rw [← run_go hf hp]; exact hrun
theorem payments_r (p : List Int) : m18 p = some (payE p) := by
  unfold m18 payE
  by_cases h16 : 16 < p.length
  · rw [if_pos h16, iLt_t (by simp only [lenI]; omega)]; rfl
  rw [if_neg h16, iLt_f (by simp only [lenI]; omega)]
  simp only [cond_false]
  refine loop_goal (fun o => o = some _) (fun s : (List Int) × Int × (List Int) × Int × Int × Unit => ∃ k : Nat, k ≤ p.length ∧ s = (p, (p.take k).sum, p, (p.length : Int), (k : Int), ()) ∧ (p.take k).all vAmt = true) (fun s => (s.2.2.2.1 - s.2.2.2.2.1).toNat) ?_ _ ⟨0, by omega, rfl, rfl⟩
  rintro s ⟨k, hk, rfl, hall⟩
  dsimp only
  by_cases hkn : k < p.length
  · have hs := sum_bd hall
    have hlk : (p.take k).length = k := by simp; omega
    rw [hlk] at hs
    simp (disch := omega) only [iLt_t, bnd_t, lenI, atI_get, cond_true, valid_r, Option.bind_some]
    cases hv : vAmt p[k] with
    | true =>
      left
      have hx := of_decide_eq_true hv
      refine ⟨_, rfl, ⟨k + 1, by omega, ?_, by rw [all_take hkn, hall, hv]; rfl⟩, ?_⟩
      · rw [sum_take hkn]
        simp (disch := omega) only [iAdd64]
        rfl
      · simp (disch := omega) only [iAdd64]; omega
    | false =>
      right
      refine ⟨_, rfl, ?_⟩
      rw [if_pos (not_all hkn hv)]
  · right
    have hkp : k = p.length := by omega
    subst hkp
    rw [List.take_length] at hall ⊢
    simp (disch := omega) only [iLt_f, cond_false]
    rw [if_neg (by rw [hall]; simp)]
    by_cases hs : p.sum = 0
    case neg => rw [iNe_t hs, if_pos hs]; exact ⟨_, rfl, rfl⟩
    rw [iNe_f hs, if_neg (by simpa using hs)]
    simp only [cond_false]
    have hle : p.length ≤ 16 := by omega
    have hPI := PayIn.start hs hall
    have hnz := nz_le p
    refine ⟨(payRun 17 p [], 0, ()), ?_, rfl⟩
    apply map_inr
    rw [fits_t (by simp only [List.length_nil]; omega) (by simp only [List.length_nil]; omega), List.nil_append]
    simp only [cond_true]
    refine loop_goal (fun o => o = some _) (fun s : (List Int) × (List DS0) × Unit => PayIn p s.1 s.2.1 ∧ ∃ f, nz s.1 < f ∧ payRun f s.1 s.2.1 = payRun 17 p []) (fun s => nz s.1) ?_ _ ⟨hPI, 17, by simp only; omega, rfl⟩
    rintro ⟨l, xs, u⟩ ⟨hin, f, hf, hrun⟩
    simp only at hin hf hrun
    have hll : l.length ≤ 16 := by rw [hin.len]; exact hle
    have hlt := least_lt l
    have hmt := most_lt l
    have b1 := hin.bd (least l)
    have b2 := hin.bd (most l)
    have hcnt := hin.cnt
    have hnzp := nz_le p
    obtain ⟨e1, e2, e3, e4⟩ := ends hin.sum
    dsimp only
    have inner : ∀ (o : Option (((List Int) × (List DS0) × Unit) ⊕ ((List DS0) × Int × Unit))), (o = some (if min (-(l.getD (least l) 0)) (l.getD (most l) 0) ≤ 0 then .inr (xs, 0, ()) else .inl (nextL l, xs ++ [payD l], ()))) → ((∃ s', o = some (.inl s') ∧ (PayIn p s'.1 s'.2.1 ∧ ∃ f, nz s'.1 < f ∧ payRun f s'.1 s'.2.1 = payRun 17 p []) ∧ nz s'.1 < nz l) ∨ ∃ r, o = some (.inr r) ∧ some r = some (payRun 17 p [], 0, ())) := by
      intro o ho
      subst ho
      by_cases hp : min (-(l.getD (least l) 0)) (l.getD (most l) 0) ≤ 0
      · right
        rw [if_pos hp]
        exact ⟨_, rfl, by rw [← hrun, run_out hf hp]⟩
      · left
        rw [if_neg hp]
        have hdec := (one_pay hin.sum hp).2.2.2.2.2.2.2.1
        refine ⟨_, rfl, ⟨hin.next hp, f - 1, by simp only; omega, ?_⟩, hdec⟩
        rw [← run_go hf hp]; exact hrun
    refine inner _ ?_
    refine Eq.trans (loop_to (fun k => ((leastN l k : Int), (mostN l k : Int), (l.length : Int), (k : Int), l, xs, ())) l.length ?hs ?he) rfl
    case hs =>
      intro k hk
      have h1 := leastN_lt l k
      have h2 := mostN_lt l k
      dsimp only
      simp (disch := omega) only [iLt_t, bnd_t, lenI, inB_t, cond_true, Int.toNat_natCast, iAdd64, leastN, mostN]
      by_cases q1 : l.getD k 0 < l.getD (leastN l k) 0 <;> by_cases q2 : l.getD (mostN l k) 0 < l.getD k 0
      · rw [iLt_t q1, iLt_t q2, if_pos q1, if_pos q2]; rfl
      · rw [iLt_t q1, iLt_f (by omega), if_pos q1, if_neg q2]; rfl
      · rw [iLt_f (by omega), iLt_t q2, if_neg q1, if_pos q2]; rfl
      · rw [iLt_f (by omega), iLt_f (by omega), if_neg q1, if_neg q2]; rfl
    case he =>
      show _ = some (Sum.inr _)
      dsimp only
      rw [iLt_f (by omega)]
      simp only [cond_false]
      apply map_inr
      have hL : leastN l l.length = least l := rfl
      have hM : mostN l l.length = most l := rfl
      simp only [hL, hM]
      by_cases hz : l.length = 0
      · have hnil : l = [] := List.length_eq_zero_iff.1 hz
        subst hnil
        rfl
      · have l1 : least l < l.length := by omega
        have l2 : most l < l.length := by omega
        simp (disch := omega) only [bnd_t, lenI, Bool.true_or, cond_true, Int.toNat_natCast, inB_t, iEq_f, cond_false, iNeg64]
        by_cases hm : l.getD (most l) 0 = 0
        · rw [iEq_t hm, if_pos (by omega)]; rfl
        · have hp : ¬ min (-(l.getD (least l) 0)) (l.getD (most l) 0) ≤ 0 := by omega
          obtain ⟨_, _, hne, n1, n2, _, _, _, _, _⟩ := one_pay hin.sum hp
          have g2 : (l.set (least l) (l.getD (least l) 0 + min (-(l.getD (least l) 0)) (l.getD (most l) 0))).getD (most l) 0 = l.getD (most l) 0 := by
            rw [getD_set l1, if_neg (fun q => hne q.symm)]
          rw [iEq_f hm, if_neg hp]
          simp only [iMin, cond_false]
          simp (disch := omega) only [iAdd64, List.length_set, bnd_t, inB_t, cond_true, g2, iSub64, List.length_singleton]
          rw [inB_t (by rw [List.length_set]; omega), fits_t (by omega) (by omega)]
          rfl
end Abs
end Go.Proofs.Ytkngaeagdcflfaa
