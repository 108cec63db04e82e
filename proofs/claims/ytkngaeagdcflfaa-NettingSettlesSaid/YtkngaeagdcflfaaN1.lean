/- Netting: validation. -/
import Derived.Test.YtkngaeagdcflfaaXL
import Derived.Test.YtkngaeagdcflfaaModels
namespace Go.Proofs.Ytkngaeagdcflfaa
namespace Abs
set_option linter.unusedVariables false
set_option linter.unusedSimpArgs false
def vAmt (a : Int) : Bool := decide (-17592186044416 ≤ a ∧ a ≤ 17592186044416)
theorem valid_m (a : Int) : m24 a = some (vAmt a, ()) := by
  unfold m24 vAmt iLe; by_cases h : -17592186044416 ≤ a <;> simp [h]
theorem valid_r (a : Int) : m25 a = some (vAmt a, ()) := by
  unfold m25 vAmt iLe; by_cases h : -17592186044416 ≤ a <;> simp [h]
/-- A debt that is in order. -/
def okD (d : DS0) : Bool := decide (0 ≤ d.1 ∧ d.1 ≤ 15 ∧ 0 ≤ d.2.1 ∧ d.2.1 ≤ 15 ∧ d.1 ≠ d.2.1 ∧ 0 ≤ d.2.2.1 ∧ d.2.2.1 ≤ 17592186044416)
def valE (l : List DS0) : Int := if 65536 < l.length then 4 else if l.all okD then 0 else 1
theorem validate_m (l : List DS0) : m14 l = some (valE l, ()) := by
  unfold m14 valE
  by_cases h : 65536 < l.length
  · rw [if_pos h, iLt_t (by simp only [lenI]; omega)]; rfl
  · rw [if_neg h, iLt_f (by simp only [lenI]; omega)]
    refine Eq.trans (loop_all l (fun k => (l, (l.length : Int), (k : Int), ())) okD ((1 : Int), ()) ((0 : Int), ()) ?hs ?hf ?he) ?fin
    case fin => split <;> rfl
    case hs =>
      intro k hk hok
      simp only [okD, decide_eq_true_eq] at hok
      dsimp only
      simp (disch := omega) only [iLt_t, iLt_f, iEq_f, bnd_t, lenI, atI_get, iAdd64, cond_true, cond_false, valid_m, Option.bind_some]
      rw [show vAmt l[k].2.2.1 = true from decide_eq_true (by omega)]
      rfl
    case hf =>
      intro k hk hok
      simp only [okD, decide_eq_false_iff_not] at hok
      dsimp only
      simp (disch := omega) only [iLt_t, iLt_f, bnd_t, lenI, atI_get, iAdd64, cond_true, valid_m, Option.bind_some, cond_or]
      rw [cond_if, if_pos]
      simp [vAmt, iLt, iEq]
      omega
    case he =>
      dsimp only
      simp (disch := omega) only [iLt_f, lenI, cond_false]
theorem validate_r (l : List DS0) : m15 l = some (valE l, ()) := by
  unfold m15 valE
  by_cases h : 65536 < l.length
  · rw [if_pos h, iLt_t (by simp only [lenI]; omega)]; rfl
  · rw [if_neg h, iLt_f (by simp only [lenI]; omega)]
    refine Eq.trans (loop_all l (fun k => (l, (l.length : Int), (k : Int), ())) okD ((1 : Int), ()) ((0 : Int), ()) ?hs ?hf ?he) ?fin
    case fin => split <;> rfl
    case hs =>
      intro k hk hok
      simp only [okD, decide_eq_true_eq] at hok
      dsimp only
      simp (disch := omega) only [iLt_t, iLt_f, iEq_f, bnd_t, lenI, atI_get, iAdd64, cond_true, cond_false]
      rfl
    case hf =>
      intro k hk hok
      simp only [okD, decide_eq_false_iff_not] at hok
      dsimp only
      simp (disch := omega) only [iLt_t, bnd_t, lenI, atI_get, iAdd64, cond_true]
      rw [cond_if, if_pos]
      simp [iLt, iEq]
      omega
    case he =>
      dsimp only
      simp (disch := omega) only [iLt_f, lenI, cond_false]
end Abs
end Go.Proofs.Ytkngaeagdcflfaa
