/- Netting: offsetting preserves the positions. -/
import Derived.Test.YtkngaeagdcflfaaN7
namespace Go.Proofs.Ytkngaeagdcflfaa
namespace Abs
set_option linter.unusedVariables false
set_option linter.unusedSimpArgs false
theorem perm_sum {l m : List Int} (h : l.Perm m) : l.sum = m.sum := by
  induction h with
  | nil => rfl
  | cons _ _ ih => simp [ih]
  | swap x y l => simp only [List.sum_cons]; omega
  | trans _ _ a b => rw [a, b]
def tr16 (q : Nat) : Nat := 16 * (q % 16) + q / 16
theorem tr_perm : ((List.range 256).map tr16).Perm (List.range 256) := by decide +kernel
theorem tr_sum (g : Nat → Int) : ((List.range 256).map fun q => g (tr16 q)).sum = ((List.range 256).map g).sum := by
  have := perm_sum (tr_perm.map g)
  rwa [List.map_map] at this
theorem sum_add (l : List Nat) (g h : Nat → Int) : (l.map fun q => g q + h q).sum = (l.map g).sum + (l.map h).sum := by
  induction l with
  | nil => rfl
  | cons x l ih => simp only [List.map_cons, List.sum_cons, ih]; omega
theorem sum_congr {l : List Nat} {g h : Nat → Int} (e : ∀ q ∈ l, g q = h q) : (l.map g).sum = (l.map h).sum := by
  induction l with
  | nil => rfl
  | cons x l ih => simp only [List.map_cons, List.sum_cons, e x (by simp), ih fun q hq => e q (by simp [hq])]
theorem sum_zero {l : List Nat} {g : Nat → Int} (e : ∀ q ∈ l, g q = 0) : (l.map g).sum = 0 := by
  induction l with
  | nil => rfl
  | cons x l ih => simp only [List.map_cons, List.sum_cons, e x (by simp), ih fun q hq => e q (by simp [hq])]; rfl
theorem sum_one : ∀ (n k : Nat) (g : Nat → Int), k < n → (∀ q, q ≠ k → g q = 0) → ((List.range n).map g).sum = g k := by
  intro n
  induction n with
  | zero => intro k g hk; omega
  | succ n ih =>
    intro k g hk h
    rw [List.range_succ, List.map_append, List.sum_append]
    simp only [List.map_cons, List.map_nil, List.sum_cons, List.sum_nil]
    by_cases hkn : k = n
    · subst hkn
      rw [sum_zero fun q hq => h q (by have := List.mem_range.1 hq; omega)]; omega
    · rw [ih k g (by omega) h, h n (fun q => hkn q.symm)]; omega
/-- What a cell of the matrix is to a party's position. -/
def cf (p q : Nat) : Int := (if q % 16 = p then 1 else 0) - (if q / 16 = p then 1 else 0)
theorem pos_mat {l : List DS0} (h : ∀ d ∈ l, okD d = true) (p : Nat) : posAt l p = ((List.range 256).map fun q => Mq l q * cf p q).sum := by
  induction l with
  | nil => rw [sum_zero fun q _ => by simp [Mq]]; rfl
  | cons d l ih =>
    have h1 := h d (by simp)
    have e : posAt (d :: l) p = eff d p + posAt l p := by simp [posAt]
    have em : ∀ q, Mq (d :: l) q * cf p q = (if d.1.toNat * 16 + d.2.1.toNat = q then d.2.2.1 else 0) * cf p q + Mq l q * cf p q := fun q => by
      have : Mq (d :: l) q = (if d.1.toNat * 16 + d.2.1.toNat = q then d.2.2.1 else 0) + Mq l q := by simp [Mq]
      rw [this, Int.add_mul]
    rw [e, ih fun x hx => h x (by simp [hx]), sum_congr fun q _ => em q, sum_add]
    simp only [okD, decide_eq_true_eq] at h1
    have s1 := sum_one 256 (d.1.toNat * 16 + d.2.1.toNat) (fun q => (if d.1.toNat * 16 + d.2.1.toNat = q then d.2.2.1 else 0) * cf p q) (by omega) (fun q hq => by rw [if_neg (fun r => hq r.symm), Int.zero_mul])
    simp only [if_true] at s1
    rw [s1]
    have hm : (d.1.toNat * 16 + d.2.1.toNat) % 16 = d.2.1.toNat := by omega
    have hd : (d.1.toNat * 16 + d.2.1.toNat) / 16 = d.1.toNat := by omega
    have a' : (d.2.1.toNat = p) ↔ (d.2.1 = (p : Int)) := by omega
    have b' : (d.1.toNat = p) ↔ (d.1 = (p : Int)) := by omega
    unfold eff cf
    rw [hm, hd]
    simp only [a', b']
    split <;> split <;> omega
theorem cf_tr {p q : Nat} (hq : q < 256) : cf p (tr16 q) = -cf p q := by
  unfold cf tr16
  rw [show (16 * (q % 16) + q / 16) % 16 = q / 16 by omega, show (16 * (q % 16) + q / 16) / 16 = q % 16 by omega]; omega
theorem N_tr {l : List DS0} {q : Nat} (hq : q < 256) : Nq l (tr16 q) = -Nq l q := by
  unfold Nq
  have : 16 * (tr16 q % 16) + tr16 q / 16 = q := by unfold tr16; omega
  rw [this]
  show Mq l (tr16 q) - Mq l q = -(Mq l q - Mq l (tr16 q))
  omega
theorem pos_F (l : List DS0) (p : Nat) : ∀ n, posAt (Fq l n) p = ((List.range n).map fun q => (if 0 < Nq l q then Nq l q else 0) * cf p q).sum := by
  intro n
  induction n with
  | zero => rfl
  | succ n ih =>
    have e : Fq l (n + 1) = Fq l n ++ (cellQ l n).toList := by
      unfold Fq
      rw [List.range_succ, List.filterMap_append]
      cases h : cellQ l n <;> simp [h]
    rw [List.range_succ, List.map_append, List.sum_append, ← ih, e]
    simp only [List.map_cons, List.map_nil, List.sum_cons, List.sum_nil]
    unfold cellQ
    by_cases h : 0 < Nq l n
    · rw [if_pos h, if_pos h]
      simp only [Option.toList_some]
      rw [posAt_app]
      have : eff (((n / 16 : Nat) : Int), ((n % 16 : Nat) : Int), Nq l n, ()) p = Nq l n * cf p n := by
        unfold eff cf
        have a' : (((n % 16 : Nat) : Int) = (p : Int)) ↔ (n % 16 = p) := by omega
        have b' : (((n / 16 : Nat) : Int) = (p : Int)) ↔ (n / 16 = p) := by omega
        simp only [a', b']
        split <;> split <;> omega
      rw [this]; omega
    · rw [if_neg h, if_neg h]
      simp only [Option.toList_none, List.append_nil]
      omega
theorem keeps_pos {l : List DS0} (h : ∀ d ∈ l, okD d = true) (p : Nat) : posAt (Fq l 256) p = posAt l p := by
  rw [pos_mat h, pos_F]
  have t1 := tr_sum fun q => (if 0 < Nq l q then Nq l q else 0) * cf p q
  have t2 := tr_sum fun q => Mq l q * cf p q
  have s1 := sum_add (List.range 256) (fun q => (if 0 < Nq l q then Nq l q else 0) * cf p q) (fun q => (if 0 < Nq l (tr16 q) then Nq l (tr16 q) else 0) * cf p (tr16 q))
  have s2 := sum_add (List.range 256) (fun q => Mq l q * cf p q) (fun q => Mq l (tr16 q) * cf p (tr16 q))
  have e : ((List.range 256).map fun q => (if 0 < Nq l q then Nq l q else 0) * cf p q + (if 0 < Nq l (tr16 q) then Nq l (tr16 q) else 0) * cf p (tr16 q)).sum = ((List.range 256).map fun q => Mq l q * cf p q + Mq l (tr16 q) * cf p (tr16 q)).sum := by
    apply sum_congr
    intro q hq
    have hq := List.mem_range.1 hq
    rw [cf_tr hq, N_tr hq]
    have hN : Nq l q = Mq l q - Mq l (tr16 q) := rfl
    have hc : cf p q = 1 ∨ cf p q = 0 ∨ cf p q = -1 := by unfold cf; split <;> split <;> omega
    rcases hc with c | c | c <;> rw [c] <;> split <;> split <;> omega
  omega
theorem F_at {l : List DS0} {x : DS0} (hx : x ∈ Fq l 256) : ∃ q, q < 256 ∧ 0 < Nq l q ∧ x = (((q / 16 : Nat) : Int), ((q % 16 : Nat) : Int), Nq l q, ()) := by
  unfold Fq at hx
  obtain ⟨q, hq, he⟩ := List.mem_filterMap.1 hx
  unfold cellQ at he
  split at he
  · rename_i h; cases he; exact ⟨q, List.mem_range.1 hq, h, rfl⟩
  · cases he
theorem F_val {l : List DS0} (hm : ∀ q, q < 256 → Nq l q ≤ 17592186044416) : valE (Fq l 256) = 0 := by
  unfold valE
  have := Fq_len l 256
  rw [if_neg (by omega), if_pos]
  rw [List.all_eq_true]
  intro x hx
  obtain ⟨q, hq, h0, rfl⟩ := F_at hx
  have := hm q hq
  refine decide_eq_true ⟨by simp only; omega, by simp only; omega, by simp only; omega, by simp only; omega, fun e => ?_, by simp only; omega, this⟩
  have e : q / 16 = q % 16 := by simp only at e; omega
  have : Nq l q = 0 := by
    unfold Nq
    rw [show 16 * (q % 16) + q / 16 = q by omega]; omega
  omega
theorem F_pairs (l : List DS0) : (Fq l 256).Pairwise fun y x => ¬ (x.1 = y.1 ∧ x.2.1 = y.2.1) ∧ ¬ (x.1 = y.2.1 ∧ x.2.1 = y.1) := by
  unfold Fq
  rw [List.pairwise_filterMap]
  refine List.Pairwise.imp_of_mem ?_ (List.pairwise_lt_range (n := 256))
  intro a b ha hb hab y hy x hx
  have ha := List.mem_range.1 ha
  have hb := List.mem_range.1 hb
  unfold cellQ at hy hx
  split at hy
  · rename_i na
    split at hx
    · rename_i nb
      cases hy; cases hx
      refine ⟨fun e => ?_, fun e => ?_⟩
      · simp only at e; omega
      · simp only at e
        have hbt : b = tr16 a := by unfold tr16; omega
        have := N_tr (l := l) ha
        rw [← hbt] at this; omega
    · cases hx
  · cases hy
theorem made_M {ds : List DS0} (h : ∀ d ∈ ds, mkD d) (q : Nat) : 0 ≤ Mq ds q ∧ Mq ds q ≤ ds.length * 268435456 := by
  induction ds with
  | nil => simp [Mq]
  | cons d l ih =>
    have h1 := h d (by simp)
    have h2 := ih fun x hx => h x (by simp [hx])
    have e : Mq (d :: l) q = (if d.1.toNat * 16 + d.2.1.toNat = q then d.2.2.1 else 0) + Mq l q := by simp [Mq]
    rw [e]
    unfold mkD at h1
    simp only [List.length_cons]
    split <;> omega
theorem made_off {ds : List DS0} (h1 : ds.length ≤ 30) (h2 : ∀ d ∈ ds, mkD d) : offE ds = (Fq ds 256, 0, ()) ∧ ∀ q, q < 256 → Nq ds q ≤ 17592186044416 := by
  have hb : ∀ q, Nq ds q ≤ 17592186044416 := fun q => by
    have a := made_M h2 q
    have b := made_M h2 (16 * (q % 16) + q / 16)
    unfold Nq; omega
  refine ⟨?_, fun q _ => hb q⟩
  unfold offE
  rw [if_neg (by rw [made_val h1 h2]; simp), if_pos (List.all_eq_true.2 fun q _ => decide_eq_true (hb q))]
theorem law_preserves (deck : List Int) (hd : DeckOk deck 0) : m6 deck = some (true, ()) := by
  unfold m6
  rw [new_m]
  simp only [Option.bind_some]
  obtain ⟨a', ds, e, h1, h2⟩ := made_ok hd
  obtain ⟨o1, o2⟩ := made_off h1 h2
  have hv := F_val o2
  have hok : ∀ d ∈ ds, okD d = true := fun d hm => mkD_ok (h2 d hm)
  have hp : posL (Fq ds 256) = posL ds := by unfold posL; exact List.map_congr_left fun p _ => keeps_pos hok p
  have hpe : posE (Fq ds 256) = (posL ds, 0, ()) := by
    have := made_pos h1 h2
    unfold posE at this ⊢
    rw [if_neg (by rw [made_val h1 h2]; simp)] at this
    rw [if_neg (by rw [hv]; simp), hp]; exact this
  have hpw := List.pairwise_iff_getElem.1 (F_pairs ds)
  have hat : ∀ (k : Nat) (hk : k < (Fq ds 256).length), 0 < (Fq ds 256)[k].2.2.1 := fun k hk => by
    obtain ⟨q, _, h0, e⟩ := F_at (List.getElem_mem hk); rw [e]; exact h0
  have hfl := Fq_len ds 256
  rw [e]
  simp only [Option.bind_some, offset_m, positions_m, o1, made_pos h1 h2, hpe]
  rw [sameI_m _ _ (by rw [posL_len]; omega)]
  simp only [Option.bind_some, iNe_f, cond_false, decide_true, Bool.not_true]
  generalize hF : Fq ds 256 = L at hfl hat hpw
  refine Eq.trans (loop_to (fun k => (L, L, (L.length : Int), (k : Int), ())) L.length ?hs ?he) rfl
  case he =>
    dsimp only
    rw [iLt_f (by omega), awake_m]; rfl
  case hs =>
    intro k hk
    have hx := hat k hk
    dsimp only
    simp (disch := omega) only [iLt_t, bnd_t, lenI, atI_get, cond_true, iLe_f, cond_false, cutOk_t]
    have hcut : cutL 0 (k : Int) L = L.take k := rfl
    have hlk : (L.take k).length = k := by simp; omega
    rw [hcut, hlk]
    refine Eq.trans (loop_to (fun j => (L, L, (L.length : Int), (k : Int), L.take k, (k : Int), (j : Int), L[k].1, L[k].2.1, L[k].2.2.1, ())) k ?hs2 ?he2) rfl
    case he2 =>
      dsimp only
      simp (disch := omega) only [iLt_f, cond_false, iAdd64]
      rfl
    case hs2 =>
      intro j hj
      have hne := hpw j k (by omega) hk hj
      have hget : (L.take k)[j]'(by omega) = L[j] := by simp
      dsimp only
      simp (disch := omega) only [iLt_t, bnd_t, lenI, atI_get, cond_true, hlk, hget, iAdd64]
      have c1 : (cond (iEq L[k].1 L[j].1) (iEq L[k].2.1 L[j].2.1) false) = false := by
        rw [Bool.eq_false_iff]; intro q
        rw [cond_if] at q
        split at q
        · rename_i r; exact hne.1 ⟨by simpa [iEq] using r, by simpa [iEq] using q⟩
        · cases q
      have c2 : (cond (iEq L[k].1 L[j].2.1) (iEq L[k].2.1 L[j].1) false) = false := by
        rw [Bool.eq_false_iff]; intro q
        rw [cond_if] at q
        split at q
        · rename_i r; exact hne.2 ⟨by simpa [iEq] using r, by simpa [iEq] using q⟩
        · cases q
      rw [c1, c2]
      rfl
end Abs
end Go.Proofs.Ytkngaeagdcflfaa
