/- Netting: the payments settle the debts. -/
import Derived.Test.YtkngaeagdcflfaaN7
namespace Go.Proofs.Ytkngaeagdcflfaa
namespace Abs
set_option linter.unusedVariables false
set_option linter.unusedSimpArgs false
theorem eff_sum {d : DS0} (h : okD d = true) : ((List.range 16).map fun p => eff d p).sum = 0 := by
  simp only [okD, decide_eq_true_eq] at h
  obtain ⟨a, ha⟩ : ∃ a : Nat, d.1 = (a : Int) := ⟨d.1.toNat, by omega⟩
  obtain ⟨b, hb⟩ : ∃ b : Nat, d.2.1 = (b : Int) := ⟨d.2.1.toNat, by omega⟩
  have ha' : a < 16 := by omega
  have hb' : b < 16 := by omega
  have key : ∀ n, ((List.range n).map fun p => eff d p).sum = (if b < n then d.2.2.1 else 0) - (if a < n then d.2.2.1 else 0) := by
    intro n
    induction n with
    | zero => rfl
    | succ n ih =>
      rw [List.range_succ, List.map_append, List.sum_append, ih]
      simp only [List.map_cons, List.map_nil, List.sum_cons, List.sum_nil]
      unfold eff
      rw [ha, hb]
      have e1 : ((b : Int) = (n : Int)) ↔ b = n := by omega
      have e2 : ((a : Int) = (n : Int)) ↔ a = n := by omega
      simp only [e1, e2]
      by_cases c1 : b = n <;> by_cases c2 : a = n <;> by_cases c3 : b < n <;> by_cases c4 : a < n <;> simp [c1, c2, c3, c4] <;> first | omega | (split <;> split <;> omega) | (split <;> omega) | skip
  rw [key 16, if_pos hb', if_pos ha']; omega
theorem pos_sum {l : List DS0} (h : ∀ d ∈ l, okD d = true) : (posL l).sum = 0 := by
  unfold posL
  induction l with
  | nil => rfl
  | cons d l ih =>
    have e : ∀ p, posAt (d :: l) p = eff d p + posAt l p := fun p => by simp [posAt]
    have : ∀ (r : List Nat), (r.map (posAt (d :: l))).sum = (r.map fun p => eff d p).sum + (r.map (posAt l)).sum := by
      intro r
      induction r with
      | nil => rfl
      | cons x r ihr => simp only [List.map_cons, List.sum_cons, ihr, e]; omega
    rw [this, eff_sum (h d (by simp)), ih fun x hx => h x (by simp [hx])]; rfl
theorem nz_take {l : List Int} {k : Nat} (hk : k < l.length) : nz (l.take (k + 1)) = nz (l.take k) + (if l[k] = 0 then 0 else 1) := by
  unfold nz
  rw [List.take_succ_eq_append_getElem hk, List.countP_append]
  by_cases h : l[k] = 0 <;> simp [h]
theorem law_settles (deck : List Int) (hd : DeckOk deck 0) : m7 deck = some (true, ()) := by
  unfold m7
  rw [new_m]
  simp only [Option.bind_some]
  obtain ⟨a', ds, e, h1, h2⟩ := made_ok hd
  have hok : ∀ d ∈ ds, okD d = true := fun d hm => mkD_ok (h2 d hm)
  have hs := pos_sum hok
  have hl := posL_len ds
  have hbd : ∀ x ∈ posL ds, -8053063680 ≤ x ∧ x ≤ 8053063680 := fun x hx => by
    obtain ⟨p, hp, rfl⟩ := List.getElem_of_mem hx
    rw [posL_get]
    have := made_bd h2 p
    omega
  have hall : (posL ds).all vAmt = true := List.all_eq_true.2 fun x hx => decide_eq_true (by have := hbd x hx; omega)
  have hpay : payE (posL ds) = (payRun 17 (posL ds) [], 0, ()) := by
    unfold payE
    rw [if_neg (by omega), if_neg (by rw [hall]; simp), if_neg (by rw [hs]; simp)]
  have hP := pay_ok 17 (posL ds) (posL ds) [] (PayIn.start hs hall) (by have := nz_le (posL ds); omega)
  have hlen := pay_len 17 (posL ds) []
  generalize hxs : payRun 17 (posL ds) [] = xs at hpay hP hlen
  have hvx : valE xs = 0 := by
    unfold valE
    rw [if_neg (by simp only [List.length_nil] at hlen; omega), if_pos]
    rw [List.all_eq_true]
    intro d hm
    obtain ⟨i, j, e1, e2, l1, l2, h0, p1, p2, hb⟩ := hP.ea d hm
    rw [hl] at l1 l2
    refine decide_eq_true ⟨by omega, by omega, by omega, by omega, fun q => ?_, by omega, hb⟩
    have : i = j := by omega
    rw [this] at p1; omega
  have hpx : posL xs = posL ds := by
    apply List.ext_getElem
    · rw [posL_len, posL_len]
    · intro p q1 q2
      rw [posL_get]
      have := hP.at_ p
      rw [getD_get _ q2] at this
      exact this.symm
  have hpe : posE xs = (posL ds, 0, ()) := by
    unfold posE
    rw [if_neg (by rw [hvx]; simp), hpx, if_pos hall]
  rw [e]
  simp only [Option.bind_some, positions_m, payments_m, made_pos h1 h2, hpay, hpe]
  rw [sameI_m _ _ (by omega)]
  simp only [Option.bind_some, iNe_f, cond_false, decide_true, Bool.not_true]
  rw [iNe_f (by simp only [lenI]; omega)]
  simp only [cond_false]
  generalize hp : posL ds = p at hP hs hl hbd hall
  clear hpay hpe hpx hvx
  have hsb : ∀ k : Nat, -(k * 8053063680 : Int) ≤ (p.take k).sum ∧ (p.take k).sum ≤ k * 8053063680 := by
    intro k
    induction k with
    | zero => simp
    | succ k ih =>
      rcases Nat.lt_or_ge k p.length with q | q
      · rw [sum_take q]
        have := hbd p[k] (List.getElem_mem _)
        omega
      · have e1 : p.take (k + 1) = p.take k := by rw [List.take_of_length_le (by omega), List.take_of_length_le (by omega)]
        rw [e1]; omega
  have hcnt := hP.cnt
  have hnz := nz_le p
  refine Eq.trans (loop_to (fun k => (p, xs, (nz (p.take k) : Int), (p.take k).sum, p, (p.length : Int), (k : Int), ())) p.length ?hs ?he) rfl
  case hs =>
    intro k hk
    have hb := hsb k
    have hx := hbd p[k] (List.getElem_mem _)
    have hn := nz_le (p.take k)
    have hlk : (p.take k).length = k := by simp; omega
    dsimp only
    simp (disch := omega) only [iLt_t, bnd_t, lenI, atI_get, cond_true, iAdd64]
    rw [sum_take hk, nz_take hk]
    by_cases hz : p[k] = 0
    · rw [iNe_f hz, if_pos hz]; rfl
    · rw [iNe_t hz, if_neg hz]; rfl
  case he =>
    dsimp only
    simp (disch := omega) only [iLt_f, cond_false, List.take_length]
    apply map_inr
    refine Eq.trans (loop_to (fun k => (p, xs, (nz p : Int), p.sum, xs, (xs.length : Int), (k : Int), ())) xs.length ?hs2 ?he2) rfl
    case hs2 =>
      intro k hk
      obtain ⟨i, j, e1, e2, l1, l2, h0, p1, p2, hb⟩ := hP.ea xs[k] (List.getElem_mem _)
      rw [getD_get _ l1] at p1
      rw [getD_get _ l2] at p2
      dsimp only
      simp (disch := omega) only [iLt_t, bnd_t, lenI, atI_get, cond_true, e1, e2, iLe_f, cond_false, Bool.true_or, iAdd64]
      rfl
    case he2 =>
      dsimp only
      simp (disch := omega) only [iLt_f, cond_false, lenI, iEq_t, cond_true, iSub64, awake_m, Option.bind_some]
      rw [iLe_t (by simp only [iMax]; omega)]
      rfl
end Abs
end Go.Proofs.Ytkngaeagdcflfaa
