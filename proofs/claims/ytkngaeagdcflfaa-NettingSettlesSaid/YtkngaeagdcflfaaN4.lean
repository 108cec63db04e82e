/- Netting: offset debts. -/
import Derived.Test.YtkngaeagdcflfaaN3
namespace Go.Proofs.Ytkngaeagdcflfaa
namespace Abs
set_option linter.unusedVariables false
set_option linter.unusedSimpArgs false
def Mq (l : List DS0) (q : Nat) : Int := (l.map fun d => if d.1.toNat * 16 + d.2.1.toNat = q then d.2.2.1 else 0).sum
def mtx (l : List DS0) : List Int := (List.range 256).map (Mq l)
theorem Mq_app (l : List DS0) (d : DS0) (q : Nat) : Mq (l ++ [d]) q = Mq l q + (if d.1.toNat * 16 + d.2.1.toNat = q then d.2.2.1 else 0) := by simp [Mq]
theorem Mq_bd {l : List DS0} (h : ∀ d ∈ l, okD d = true) (q : Nat) : 0 ≤ Mq l q ∧ Mq l q ≤ l.length * 17592186044416 := by
  induction l with
  | nil => simp [Mq]
  | cons d l ih =>
    have h1 := h d (by simp)
    have h2 := ih fun x hx => h x (by simp [hx])
    have e : Mq (d :: l) q = (if d.1.toNat * 16 + d.2.1.toNat = q then d.2.2.1 else 0) + Mq l q := by simp [Mq]
    rw [e]
    have : 0 ≤ (if d.1.toNat * 16 + d.2.1.toNat = q then d.2.2.1 else 0) ∧ (if d.1.toNat * 16 + d.2.1.toNat = q then d.2.2.1 else 0) ≤ 17592186044416 := by
      simp only [okD, decide_eq_true_eq] at h1
      split <;> omega
    simp only [List.length_cons]
    omega
theorem mtx_len (l : List DS0) : (mtx l).length = 256 := by simp [mtx]
theorem mtx_get (l : List DS0) {q : Nat} (h : q < 256) : (mtx l).getD q 0 = Mq l q := by
  rw [getD_get _ (by rw [mtx_len]; exact h)]; simp [mtx]
theorem mtx_step {l : List DS0} {d : DS0} (h : okD d = true) : (mtx l).set (d.1.toNat * 16 + d.2.1.toNat) (Mq l (d.1.toNat * 16 + d.2.1.toNat) + d.2.2.1) = mtx (l ++ [d]) := by
  apply List.ext_getElem
  · simp [mtx_len]
  · intro q h1 h2
    have hq : q < 256 := by simpa [mtx_len] using h2
    rw [List.getElem_set]
    simp only [mtx, List.getElem_map, List.getElem_range, Mq_app]
    split
    · rename_i e; rw [e]
    · omega
theorem map_zero (n : Nat) : List.replicate n (0 : Int) = (List.range n).map (Mq []) := by
  apply List.ext_getElem (by simp)
  intro q h1 h2; simp [Mq]
theorem mtx_nil (l : List DS0) : List.replicate 256 (0 : Int) = mtx (l.take 0) := map_zero 256
def Nq (l : List DS0) (q : Nat) : Int := Mq l q - Mq l (16 * (q % 16) + q / 16)
def cellQ (l : List DS0) (q : Nat) : Option DS0 := if 0 < Nq l q then some (((q / 16 : Nat) : Int), ((q % 16 : Nat) : Int), Nq l q, ()) else none
def Fq (l : List DS0) (n : Nat) : List DS0 := (List.range n).filterMap (cellQ l)
theorem Fq_yes {l : List DS0} {i k : Nat} (hk : k < 16) (h : 0 < Nq l (16 * i + k)) : Fq l (16 * i + (k + 1)) = Fq l (16 * i + k) ++ [((i : Int), (k : Int), Nq l (16 * i + k), ())] := by
  have e1 : (16 * i + k) / 16 = i := by omega
  have e2 : (16 * i + k) % 16 = k := by omega
  show (List.range (16 * i + k + 1)).filterMap _ = _
  rw [List.range_succ, List.filterMap_append]
  simp [Fq, cellQ, h, e1, e2]
theorem Fq_no {l : List DS0} {i k : Nat} (h : ¬ 0 < Nq l (16 * i + k)) : Fq l (16 * i + (k + 1)) = Fq l (16 * i + k) := by
  show (List.range (16 * i + k + 1)).filterMap _ = _
  rw [List.range_succ, List.filterMap_append]
  simp [Fq, cellQ, h]
theorem Fq_len (l : List DS0) (n : Nat) : (Fq l n).length ≤ n := by
  have := List.length_filterMap_le (cellQ l) (List.range n)
  rw [List.length_range] at this
  exact this
def offE (l : List DS0) : List DS0 × Int × Unit := if valE l ≠ 0 then ([], valE l, ()) else if (List.range 256).all (fun q => decide (Nq l q ≤ 17592186044416)) then (Fq l 256, 0, ()) else ([], 3, ())

theorem offset_m (l : List DS0) : m11 l = some (offE l) := by
  unfold m11 offE
  rw [validate_m]
  simp only [Option.bind_some]
  by_cases hv : valE l = 0
  case neg => rw [iNe_t hv, if_pos hv]; rfl
  rw [iNe_f hv, if_neg (by simpa using hv)]
  simp only [cond_false]
  obtain ⟨hl, hd⟩ := val_all hv
  rw [mtx_nil l]
  refine Eq.trans (loop_to (fun k => (l, (l.length : Int), (k : Int), mtx (l.take k), ())) l.length ?hs ?he) rfl
  case hs =>
    intro k hk
    have hx := hd l[k] (List.getElem_mem _)
    have hb := fun p => Mq_bd (fun d hm => hd d (List.mem_of_mem_take hm)) (l := l.take k) p
    have hlk : (l.take k).length = k := by simp; omega
    rw [hlk] at hb
    have hb1 := hb (l[k].1.toNat * 16 + l[k].2.1.toNat)
    have hst := mtx_step (l := l.take k) hx
    rw [← List.take_succ_eq_append_getElem hk] at hst
    simp only [okD, decide_eq_true_eq] at hx
    have e : 0 + l[k].1.toNat * 16 + l[k].2.1.toNat * 1 = l[k].1.toNat * 16 + l[k].2.1.toNat := by omega
    have g1 : (mtx (l.take k)).getD (l[k].1.toNat * 16 + l[k].2.1.toNat) 0 = Mq (l.take k) (l[k].1.toNat * 16 + l[k].2.1.toNat) := mtx_get _ (by omega)
    have g2 : inB (l[k].1.toNat * 16 + l[k].2.1.toNat) (mtx (l.take k)) = true := inB_t (by rw [mtx_len]; omega)
    dsimp only
    simp (disch := omega) only [iLt_t, bnd_t, lenI, atI_get, iAdd64, cond_true, e, g1, g2, hst]
    rfl
  case he =>
    dsimp only
    simp (disch := omega) only [iLt_f, lenI, cond_false, List.take_length]
    have hb := fun p => Mq_bd hd p
    apply map_inr
    refine loop_goal (fun o => o = some _) (fun s : Int × (List Int) × (List DS0) × Unit => ∃ i : Nat, i ≤ 16 ∧ s = ((i : Int), mtx l, Fq l (16 * i), ()) ∧ ∀ q, q < 16 * i → Nq l q ≤ 17592186044416) (fun s => (16 - s.1).toNat) ?_ _ ⟨0, by omega, rfl, fun q hq => by omega⟩
    rintro s ⟨i, hi, rfl, hq⟩
    dsimp only
    by_cases hi' : i = 16
    · right
      subst hi'
      refine ⟨_, by simp (disch := omega) only [iLt_f, cond_false]; rfl, ?_⟩
      rw [if_pos (List.all_eq_true.2 fun q hm => decide_eq_true (hq q (by simpa using hm)))]
    · have hlt : i < 16 := by omega
      rw [iLt_t (by omega)]
      simp only [cond_true]
      suffices H : ∀ o : Option ((Int × (List Int) × (List DS0) × Unit) ⊕ ((List DS0) × Int × Unit)), ((o = some (.inl (((i + 1 : Nat) : Int), mtx l, Fq l (16 * (i + 1)), ())) ∧ ∀ q, q < 16 * (i + 1) → Nq l q ≤ 17592186044416) ∨ (o = some (.inr ([], 3, ())) ∧ ∃ q, q < 256 ∧ ¬ Nq l q ≤ 17592186044416)) → ((∃ s', o = some (.inl s') ∧ (∃ i : Nat, i ≤ 16 ∧ s' = ((i : Int), mtx l, Fq l (16 * i), ()) ∧ ∀ q, q < 16 * i → Nq l q ≤ 17592186044416) ∧ (16 - s'.1).toNat < (16 - (i : Int)).toNat) ∨ ∃ r, o = some (.inr r) ∧ some r = some (if ((List.range 256).all fun q => decide (Nq l q ≤ 17592186044416)) = true then (Fq l 256, 0, ()) else ([], 3, ()))) by
        refine H _ (loop_goal (fun o : Option ((Int × (List Int) × (List DS0) × Unit) ⊕ ((List DS0) × Int × Unit)) => (o = some (.inl (((i + 1 : Nat) : Int), mtx l, Fq l (16 * (i + 1)), ())) ∧ ∀ q, q < 16 * (i + 1) → Nq l q ≤ 17592186044416) ∨ (o = some (.inr ([], 3, ())) ∧ ∃ q, q < 256 ∧ ¬ Nq l q ≤ 17592186044416)) (fun s : Int × Int × Int × (List Int) × (List DS0) × Unit => ∃ k : Nat, k ≤ 16 ∧ s = ((i : Int), (i : Int), (k : Int), mtx l, Fq l (16 * i + k), ()) ∧ ∀ q, q < 16 * i + k → Nq l q ≤ 17592186044416) (fun s => (16 - s.2.2.1).toNat) ?_ _ ⟨0, by omega, rfl, hq⟩)
        rintro s ⟨k, hk, rfl, hqk⟩
        dsimp only
        by_cases hk' : k = 16
        · right
          subst hk'
          refine ⟨_, by simp (disch := omega) only [iLt_f, cond_false]; rfl, .inl ⟨?_, fun q h => hqk q (by omega)⟩⟩
          simp (disch := omega) only [iAdd64]
          rfl
        · have hkl : k < 16 := by omega
          have e1 : 0 + i * 16 + k * 1 = 16 * i + k := by omega
          have e2 : 0 + k * 16 + i * 1 = 16 * k + i := by omega
          have g1 := mtx_get l (q := 16 * i + k) (by omega)
          have g2 := mtx_get l (q := 16 * k + i) (by omega)
          have b1 : inB (16 * i + k) (mtx l) = true := inB_t (by rw [mtx_len]; omega)
          have b2 : inB (16 * k + i) (mtx l) = true := inB_t (by rw [mtx_len]; omega)
          have hb1 := hb (16 * i + k)
          have hb2 := hb (16 * k + i)
          have hN : Nq l (16 * i + k) = Mq l (16 * i + k) - Mq l (16 * k + i) := by
            unfold Nq
            rw [show (16 * i + k) % 16 = k by omega, show (16 * i + k) / 16 = i by omega]
          have hlen := Fq_len l (16 * i + k)
          have hnext : ∀ q, q < 16 * i + (k + 1) → Nq l (16 * i + k) ≤ 17592186044416 → Nq l q ≤ 17592186044416 := fun q hq h => by
            rcases Nat.lt_or_ge q (16 * i + k) with r | r
            · exact hqk q r
            · have : q = 16 * i + k := by omega
              rw [this]; exact h
          simp (disch := omega) only [iLt_t, bnd_t, cond_true, Int.toNat_natCast, e1, e2, b1, b2, g1, g2, iSub64, List.length_singleton, iAdd64]
          rw [← hN]
          have hfit : fits ((Fq l (16 * i + k)).length + 1) 24 = true := fits_t (by omega) (by omega)
          simp only [hfit, cond_true]
          rcases Int.lt_or_le 0 (Nq l (16 * i + k)) with hp | hp
          · rw [iLe_f hp, valid_m]
            simp only [cond_false, Option.bind_some]
            by_cases hm : Nq l (16 * i + k) ≤ 17592186044416
            · rw [show vAmt (Nq l (16 * i + k)) = true from decide_eq_true (by omega)]
              exact .inl ⟨_, rfl, ⟨k + 1, by omega, by rw [Fq_yes hkl hp]; rfl, fun q hq => hnext q hq hm⟩, by simp only; omega⟩
            · rw [show vAmt (Nq l (16 * i + k)) = false from decide_eq_false (by omega)]
              exact .inr ⟨_, rfl, .inr ⟨rfl, 16 * i + k, by omega, hm⟩⟩
          · rw [iLe_t hp]
            exact .inl ⟨_, rfl, ⟨k + 1, by omega, by rw [Fq_no (by omega)]; rfl, fun q hq => hnext q hq (by omega)⟩, by simp only; omega⟩
      intro o ho
      rcases ho with ⟨rfl, h⟩ | ⟨rfl, q, h1, h2⟩
      · exact .inl ⟨_, rfl, ⟨i + 1, by omega, rfl, h⟩, by simp only; omega⟩
      · refine .inr ⟨_, rfl, ?_⟩
        rw [if_neg]
        intro hall
        exact h2 (of_decide_eq_true (List.all_eq_true.1 hall q (by simpa using h1)))

theorem offset_r (l : List DS0) : m12 l = some (offE l) := by
  unfold m12 offE
  rw [validate_r]
  simp only [Option.bind_some]
  by_cases hv : valE l = 0
  case neg => rw [iNe_t hv, if_pos hv]; rfl
  rw [iNe_f hv, if_neg (by simpa using hv)]
  simp only [cond_false]
  obtain ⟨hl, hd⟩ := val_all hv
  rw [mtx_nil l]
  refine Eq.trans (loop_to (fun k => (l, (l.length : Int), (k : Int), mtx (l.take k), ())) l.length ?hs ?he) rfl
  case hs =>
    intro k hk
    have hx := hd l[k] (List.getElem_mem _)
    have hb := fun p => Mq_bd (fun d hm => hd d (List.mem_of_mem_take hm)) (l := l.take k) p
    have hlk : (l.take k).length = k := by simp; omega
    rw [hlk] at hb
    have hb1 := hb (l[k].1.toNat * 16 + l[k].2.1.toNat)
    have hst := mtx_step (l := l.take k) hx
    rw [← List.take_succ_eq_append_getElem hk] at hst
    simp only [okD, decide_eq_true_eq] at hx
    have e : 0 + l[k].1.toNat * 16 + l[k].2.1.toNat * 1 = l[k].1.toNat * 16 + l[k].2.1.toNat := by omega
    have g1 : (mtx (l.take k)).getD (l[k].1.toNat * 16 + l[k].2.1.toNat) 0 = Mq (l.take k) (l[k].1.toNat * 16 + l[k].2.1.toNat) := mtx_get _ (by omega)
    have g2 : inB (l[k].1.toNat * 16 + l[k].2.1.toNat) (mtx (l.take k)) = true := inB_t (by rw [mtx_len]; omega)
    dsimp only
    simp (disch := omega) only [iLt_t, bnd_t, lenI, atI_get, iAdd64, cond_true, e, g1, g2, hst]
    rfl
  case he =>
    dsimp only
    simp (disch := omega) only [iLt_f, lenI, cond_false, List.take_length]
    have hb := fun p => Mq_bd hd p
    apply map_inr
    refine loop_goal (fun o => o = some _) (fun s : Int × (List Int) × (List DS0) × Unit => ∃ i : Nat, i ≤ 16 ∧ s = ((i : Int), mtx l, Fq l (16 * i), ()) ∧ ∀ q, q < 16 * i → Nq l q ≤ 17592186044416) (fun s => (16 - s.1).toNat) ?_ _ ⟨0, by omega, rfl, fun q hq => by omega⟩
    rintro s ⟨i, hi, rfl, hq⟩
    dsimp only
    by_cases hi' : i = 16
    · right
      subst hi'
      refine ⟨_, by simp (disch := omega) only [iLt_f, cond_false]; rfl, ?_⟩
      rw [if_pos (List.all_eq_true.2 fun q hm => decide_eq_true (hq q (by simpa using hm)))]
    · have hlt : i < 16 := by omega
      rw [iLt_t (by omega)]
      simp only [cond_true]
      suffices H : ∀ o : Option ((Int × (List Int) × (List DS0) × Unit) ⊕ ((List DS0) × Int × Unit)), ((o = some (.inl (((i + 1 : Nat) : Int), mtx l, Fq l (16 * (i + 1)), ())) ∧ ∀ q, q < 16 * (i + 1) → Nq l q ≤ 17592186044416) ∨ (o = some (.inr ([], 3, ())) ∧ ∃ q, q < 256 ∧ ¬ Nq l q ≤ 17592186044416)) → ((∃ s', o = some (.inl s') ∧ (∃ i : Nat, i ≤ 16 ∧ s' = ((i : Int), mtx l, Fq l (16 * i), ()) ∧ ∀ q, q < 16 * i → Nq l q ≤ 17592186044416) ∧ (16 - s'.1).toNat < (16 - (i : Int)).toNat) ∨ ∃ r, o = some (.inr r) ∧ some r = some (if ((List.range 256).all fun q => decide (Nq l q ≤ 17592186044416)) = true then (Fq l 256, 0, ()) else ([], 3, ()))) by
        refine H _ (loop_goal (fun o : Option ((Int × (List Int) × (List DS0) × Unit) ⊕ ((List DS0) × Int × Unit)) => (o = some (.inl (((i + 1 : Nat) : Int), mtx l, Fq l (16 * (i + 1)), ())) ∧ ∀ q, q < 16 * (i + 1) → Nq l q ≤ 17592186044416) ∨ (o = some (.inr ([], 3, ())) ∧ ∃ q, q < 256 ∧ ¬ Nq l q ≤ 17592186044416)) (fun s : Int × Int × Int × (List Int) × (List DS0) × Unit => ∃ k : Nat, k ≤ 16 ∧ s = ((i : Int), (i : Int), (k : Int), mtx l, Fq l (16 * i + k), ()) ∧ ∀ q, q < 16 * i + k → Nq l q ≤ 17592186044416) (fun s => (16 - s.2.2.1).toNat) ?_ _ ⟨0, by omega, rfl, hq⟩)
        rintro s ⟨k, hk, rfl, hqk⟩
        dsimp only
        by_cases hk' : k = 16
        · right
          subst hk'
          refine ⟨_, by simp (disch := omega) only [iLt_f, cond_false]; rfl, .inl ⟨?_, fun q h => hqk q (by omega)⟩⟩
          simp (disch := omega) only [iAdd64]
          rfl
        · have hkl : k < 16 := by omega
          have e1 : 0 + i * 16 + k * 1 = 16 * i + k := by omega
          have e2 : 0 + k * 16 + i * 1 = 16 * k + i := by omega
          have g1 := mtx_get l (q := 16 * i + k) (by omega)
          have g2 := mtx_get l (q := 16 * k + i) (by omega)
          have b1 : inB (16 * i + k) (mtx l) = true := inB_t (by rw [mtx_len]; omega)
          have b2 : inB (16 * k + i) (mtx l) = true := inB_t (by rw [mtx_len]; omega)
          have hb1 := hb (16 * i + k)
          have hb2 := hb (16 * k + i)
          have hN : Nq l (16 * i + k) = Mq l (16 * i + k) - Mq l (16 * k + i) := by
            unfold Nq
            rw [show (16 * i + k) % 16 = k by omega, show (16 * i + k) / 16 = i by omega]
          have hlen := Fq_len l (16 * i + k)
          have hnext : ∀ q, q < 16 * i + (k + 1) → Nq l (16 * i + k) ≤ 17592186044416 → Nq l q ≤ 17592186044416 := fun q hq h => by
            rcases Nat.lt_or_ge q (16 * i + k) with r | r
            · exact hqk q r
            · have : q = 16 * i + k := by omega
              rw [this]; exact h
          simp (disch := omega) only [iLt_t, bnd_t, cond_true, Int.toNat_natCast, e1, e2, b1, b2, g1, g2, iSub64, List.length_singleton, iAdd64]
          rw [← hN]
          have hfit : fits ((Fq l (16 * i + k)).length + 1) 24 = true := fits_t (by omega) (by omega)
          simp only [hfit, cond_true]
          by_cases hm : Nq l (16 * i + k) ≤ 17592186044416
          · rw [iLt_f hm]
            simp only [cond_false]
            rcases Int.lt_or_le 0 (Nq l (16 * i + k)) with hp | hp
            · rw [iLt_t hp]
              exact .inl ⟨_, rfl, ⟨k + 1, by omega, by rw [Fq_yes hkl hp]; rfl, fun q hq => hnext q hq hm⟩, by simp only; omega⟩
            · rw [iLt_f hp]
              exact .inl ⟨_, rfl, ⟨k + 1, by omega, by rw [Fq_no (by omega)]; rfl, fun q hq => hnext q hq (by omega)⟩, by simp only; omega⟩
          · rw [iLt_t (by omega)]
            exact .inr ⟨_, rfl, .inr ⟨rfl, 16 * i + k, by omega, hm⟩⟩
      intro o ho
      rcases ho with ⟨rfl, h⟩ | ⟨rfl, q, h1, h2⟩
      · exact .inl ⟨_, rfl, ⟨i + 1, by omega, rfl, h⟩, by simp only; omega⟩
      · refine .inr ⟨_, rfl, ?_⟩
        rw [if_neg]
        intro hall
        exact h2 (of_decide_eq_true (List.all_eq_true.1 hall q (by simpa using h1)))
end Abs
end Go.Proofs.Ytkngaeagdcflfaa
