/- Netting: positions. -/
import Derived.Test.YtkngaeagdcflfaaN2
namespace Go.Proofs.Ytkngaeagdcflfaa
namespace Abs
set_option linter.unusedVariables false
set_option linter.unusedSimpArgs false
def eff (d : DS0) (p : Nat) : Int := (if d.2.1 = (p : Int) then d.2.2.1 else 0) - (if d.1 = (p : Int) then d.2.2.1 else 0)
def posAt (l : List DS0) (p : Nat) : Int := (l.map fun d => eff d p).sum
def posL (l : List DS0) : List Int := (List.range 16).map (posAt l)
theorem posAt_app (l : List DS0) (d : DS0) (p : Nat) : posAt (l ++ [d]) p = posAt l p + eff d p := by simp [posAt]
theorem posAt_bd {l : List DS0} (h : ∀ d ∈ l, okD d = true) (p : Nat) : -(l.length * 17592186044416 : Int) ≤ posAt l p ∧ posAt l p ≤ l.length * 17592186044416 := by
  induction l with
  | nil => simp [posAt]
  | cons d l ih =>
    have h1 := h d (by simp)
    have h2 := ih fun x hx => h x (by simp [hx])
    have e : posAt (d :: l) p = eff d p + posAt l p := by simp [posAt]
    rw [e]
    have : -17592186044416 ≤ eff d p ∧ eff d p ≤ 17592186044416 := by
      simp only [okD, decide_eq_true_eq] at h1
      unfold eff; split <;> split <;> omega
    simp only [List.length_cons]
    omega
theorem posL_len (l : List DS0) : (posL l).length = 16 := by simp [posL]
theorem posL_get (l : List DS0) {p : Nat} (h : p < (posL l).length) : (posL l)[p] = posAt l p := by simp [posL]
theorem posL_step {l : List DS0} {d : DS0} (h : okD d = true) : ((posL l).set d.1.toNat (posAt l d.1.toNat - d.2.2.1)).set d.2.1.toNat (posAt l d.2.1.toNat + d.2.2.1) = posL (l ++ [d]) := by
  simp only [okD, decide_eq_true_eq] at h
  apply List.ext_getElem
  · simp [posL_len]
  · intro p h1 h2
    have hp : p < 16 := by simpa [posL_len] using h2
    rw [posL_get, posAt_app, List.getElem_set, List.getElem_set, posL_get _ (by simpa [posL_len] using hp)]
    have a' : (d.2.1.toNat = p) ↔ (d.2.1 = (p : Int)) := by omega
    have b' : (d.1.toNat = p) ↔ (d.1 = (p : Int)) := by omega
    have c' : ¬ (d.2.1 = (p : Int) ∧ d.1 = (p : Int)) := by omega
    unfold eff
    simp only [a', b']
    by_cases hA : d.2.1 = (p : Int)
    · have hB : ¬ d.1 = (p : Int) := fun q => c' ⟨hA, q⟩
      simp only [if_pos hA, if_neg hB, hA, Int.toNat_natCast, if_true]; omega
    · by_cases hB : d.1 = (p : Int)
      · simp only [if_neg hA, if_pos hB, hB, Int.toNat_natCast, if_true]; omega
      · simp only [if_neg hA, if_neg hB]; omega
theorem posL_step' {l : List DS0} {d : DS0} (h : okD d = true) : ((posL l).set d.2.1.toNat (posAt l d.2.1.toNat + d.2.2.1)).set d.1.toNat (posAt l d.1.toNat - d.2.2.1) = posL (l ++ [d]) := by
  rw [← posL_step h, List.set_comm]
  simp only [okD, decide_eq_true_eq] at h
  omega
def posE (l : List DS0) : List Int × Int × Unit := if valE l ≠ 0 then ([], valE l, ()) else if (posL l).all vAmt then (posL l, 0, ()) else ([], 3, ())
theorem val_all {l : List DS0} (h : valE l = 0) : l.length ≤ 65536 ∧ ∀ d ∈ l, okD d = true := by
  unfold valE at h
  split at h
  · cases h
  · split at h
    · rename_i h1 h2; exact ⟨by omega, fun d hd => List.all_eq_true.1 h2 d hd⟩
    · cases h
theorem positions_m (l : List DS0) : m19 l = some (posE l) := by
  unfold m19 posE
  rw [validate_m]
  simp only [Option.bind_some]
  by_cases hv : valE l = 0
  case neg => rw [iNe_t hv, if_pos hv]; rfl
  rw [iNe_f hv, if_neg (by simpa using hv), fitsI_t (by omega) (by omega) (by omega)]
  simp only [cond_false, cond_true]
  obtain ⟨hl, hd⟩ := val_all hv
  refine Eq.trans (loop_to (fun k => (l, (l.length : Int), (k : Int), posL (l.take k), ())) l.length ?hs ?he) rfl
  case hs =>
    intro k hk
    have hx := hd l[k] (List.getElem_mem _)
    have hb := fun p => posAt_bd (fun d hm => hd d (List.mem_of_mem_take hm)) (l := l.take k) p
    have hlk : (l.take k).length = k := by simp; omega
    rw [hlk] at hb
    have hb1 := hb l[k].1.toNat
    have hb2 := hb l[k].2.1.toNat
    have hst := posL_step (l := l.take k) hx
    rw [← List.take_succ_eq_append_getElem hk] at hst
    simp only [okD, decide_eq_true_eq] at hx
    have g1 : ∀ p : Nat, p < 16 → (posL (l.take k)).getD p 0 = posAt (l.take k) p := fun p hp => by rw [getD_get _ (by rw [posL_len]; exact hp), posL_get]
    have g2 : ((posL (l.take k)).set l[k].1.toNat (posAt (l.take k) l[k].1.toNat - l[k].2.2.1)).getD l[k].2.1.toNat 0 = posAt (l.take k) l[k].2.1.toNat := by
      rw [getD_get _ (by rw [List.length_set, posL_len]; omega), List.getElem_set_ne (by omega), posL_get]
    dsimp only
    simp (disch := omega) only [iLt_t, bnd_t, lenI, atI_get, iAdd64, cond_true, posL_len, g1, iSub64]
    simp (disch := (first | omega | (rw [posL_len]; omega) | (rw [List.length_set, posL_len]; omega))) only [inB_t, cond_true, List.length_set, posL_len, bnd_t]
    rw [g2, hst]
    rfl
  case he =>
    dsimp only
    simp (disch := omega) only [iLt_f, lenI, cond_false, List.take_length, posL_len]
    have hb := fun p => posAt_bd hd p
    refine map_inr (Eq.trans (loop_all (posL l) (fun k => (16, (k : Int), posL l, ())) vAmt (([] : List Int), (3 : Int), ()) (posL l, (0 : Int), ()) ?hs ?hf ?he) ?fin)
    case fin => split <;> rfl
    case hs =>
      intro k hk hp
      have hk' : k < 16 := by simpa [posL_len] using hk
      dsimp only
      simp (disch := omega) only [iLt_t, bnd_t, lenI, cond_true, iAdd64, posL_len, Int.toNat_natCast, inB_t, valid_m, getD_get, hp, Option.bind_some, Bool.not_true, cond_false]
      rfl
    case hf =>
      intro k hk hp
      have hk' : k < 16 := by simpa [posL_len] using hk
      dsimp only
      simp (disch := omega) only [iLt_t, bnd_t, lenI, cond_true, iAdd64, posL_len, Int.toNat_natCast, inB_t, valid_m, getD_get, hp, Option.bind_some, Bool.not_false]
    case he =>
      dsimp only
      rw [posL_len]
      simp (disch := omega) only [iLt_f, cond_false]
theorem positions_r (l : List DS0) : m16 l = some (posE l) := by
  unfold m16 posE
  rw [validate_r]
  simp only [Option.bind_some]
  by_cases hv : valE l = 0
  case neg => rw [iNe_t hv, if_pos hv]; rfl
  rw [iNe_f hv, if_neg (by simpa using hv), fitsI_t (by omega) (by omega) (by omega)]
  simp only [cond_false, cond_true]
  obtain ⟨hl, hd⟩ := val_all hv
  refine Eq.trans (loop_to (fun k => (l, (l.length : Int), (k : Int), posL (l.take k), ())) l.length ?hs ?he) rfl
  case hs =>
    intro k hk
    have hx := hd l[k] (List.getElem_mem _)
    have hb := fun p => posAt_bd (fun d hm => hd d (List.mem_of_mem_take hm)) (l := l.take k) p
    have hlk : (l.take k).length = k := by simp; omega
    rw [hlk] at hb
    have hb1 := hb l[k].1.toNat
    have hb2 := hb l[k].2.1.toNat
    have hst := posL_step' (l := l.take k) hx
    rw [← List.take_succ_eq_append_getElem hk] at hst
    simp only [okD, decide_eq_true_eq] at hx
    have g1 : ∀ p : Nat, p < 16 → (posL (l.take k)).getD p 0 = posAt (l.take k) p := fun p hp => by rw [getD_get _ (by rw [posL_len]; exact hp), posL_get]
    have g2 : ((posL (l.take k)).set l[k].2.1.toNat (posAt (l.take k) l[k].2.1.toNat + l[k].2.2.1)).getD l[k].1.toNat 0 = posAt (l.take k) l[k].1.toNat := by
      rw [getD_get _ (by rw [List.length_set, posL_len]; omega), List.getElem_set_ne (by omega), posL_get]
    dsimp only
    simp (disch := omega) only [iLt_t, bnd_t, lenI, atI_get, iAdd64, cond_true, posL_len, g1, iSub64]
    simp (disch := (first | omega | (rw [posL_len]; omega) | (rw [List.length_set, posL_len]; omega))) only [inB_t, cond_true, List.length_set, posL_len, bnd_t]
    rw [g2, hst]
    rfl
  case he =>
    dsimp only
    simp (disch := omega) only [iLt_f, lenI, cond_false, List.take_length, posL_len]
    have hb := fun p => posAt_bd hd p
    refine map_inr (Eq.trans (loop_all (posL l) (fun k => (16, (k : Int), posL l, ())) vAmt (([] : List Int), (3 : Int), ()) (posL l, (0 : Int), ()) ?hs ?hf ?he) ?fin)
    case fin => split <;> rfl
    case hs =>
      intro k hk hp
      have hk' : k < 16 := by simpa [posL_len] using hk
      dsimp only
      simp (disch := omega) only [iLt_t, bnd_t, lenI, cond_true, iAdd64, posL_len, Int.toNat_natCast, inB_t, valid_r, getD_get, hp, Option.bind_some, Bool.not_true, cond_false]
      rfl
    case hf =>
      intro k hk hp
      have hk' : k < 16 := by simpa [posL_len] using hk
      dsimp only
      simp (disch := omega) only [iLt_t, bnd_t, lenI, cond_true, iAdd64, posL_len, Int.toNat_natCast, inB_t, valid_r, getD_get, hp, Option.bind_some, Bool.not_false]
    case he =>
      dsimp only
      rw [posL_len]
      simp (disch := omega) only [iLt_f, cond_false]
end Abs
end Go.Proofs.Ytkngaeagdcflfaa
