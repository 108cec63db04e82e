/- Schema: the laws on facts and their texts. -/
import Derived.Test.YtgkijjppdaeikaaDoorS5
namespace Go.Proofs.YtgkijjppdaeikaaDoor
namespace Abs
set_option linter.unusedVariables false
set_option linter.unusedSimpArgs false
theorem cat_assoc (a b c : ByteArray) : sCat (sCat a b) c = sCat a (sCat b c) := bl_inj (by simp only [bl_cat, List.append_assoc])
theorem fmt_r (s : DS1) (f : List Int) (hf : f.length ≤ 9223372036854775807) : m20 s f = some (fmtS s.1 f) := by
  obtain ⟨l, ⟨⟩⟩ := s
  refine T.eq ?_
  unfold m20 fmtS
  have hL := lenI_eq l
  have hLf := lenI_eq f
  refine T.callE (val_r _) ?_
  dsimp only
  refine T.cnd (fun c1 => T.ret ?_) (fun c1 => ?_) <;> simp only [iNe_T, iNe_F] at c1
  · rw [if_pos c1]
  rw [if_neg (by rw [c1]; simp)]
  refine T.callE (valid_r _ _ hf) ?_
  dsimp only
  refine T.cnd (fun c2 => T.ret ?_) (fun c2 => ?_) <;> simp only [not_T, not_F] at c2
  · rw [if_pos c2]
  rw [if_neg (by rw [c2]; simp)]
  obtain ⟨h0, h1, h2⟩ := valid_ok c2
  obtain ⟨v1, v2, v3⟩ := val_ok h0
  refine T.along l.length (fun i : Nat => (f, joinB (partsS l f i) SEP, (i : Int), l, ())) (fun i hi => ?_) ?_
  · dsimp only
    have hpl := parts_len l f i
    have ha := v3 _ (List.getElem_mem hi)
    have hn := name_sz ha.1
    have s61 : (bs [61]).size = 1 := rfl
    have s2 : (bs [59, 32]).size = 2 := rfl
    obtain ⟨b1, b2, hb⟩ := value_bd ha.2 (h2 i hi)
    have hz := join_sz SEP rfl i (partsS l f i) hpl (parts_sz c2 (by omega))
    have hz2 : (joinB (partsS l f i) SEP).size ≤ 20000000000 := by
      have : i * 2000000200 ≤ 6 * 2000000200 := Nat.mul_le_mul_right _ (by omega)
      omega
    have hj := join_snoc (partsS l f i) (partS l[i] (f.getD i 0)) SEP
    have hps : partsS l f (i + 1) = partsS l f i ++ [partS l[i] (f.getD i 0)] := by rw [parts_succ, getD_eq l i zA hi]
    rw [← hps] at hj
    have hy3 : (bs [121, 101, 115]).size = 3 := rfl
    have hn2 : (bs [110, 111]).size = 2 := rfl
    have hi1 : iAdd .i64 (i : Int) 1 = ((i + 1 : Nat) : Int) := by rw [iAdd64 (by omega) (by omega)]; rfl
    refine T.ct (by rw [iLt_T]; omega) ?_
    refine T.grd (by rw [bnd_T]; omega) ?_
    rw [at_get l i _ hi, atI_getD, hi1]
    generalize hv : f.getD i 0 = v at *
    generalize ha' : l[i] = a at *
    generalize hJ : joinB (partsS l f i) SEP = J at *
    have fin : ∀ r : ByteArray, r = joinB (partsS l f (i + 1)) SEP → T (some (Sum.inl (β := ByteArray × Int × Unit) (f, r, ((i + 1 : Nat) : Int), l, ()))) (LQ (fun s => s = (f, joinB (partsS l f (i + 1)) SEP, ((i + 1 : Nat) : Int), l, ())) (fun _ => 0) 1 (fun x => x = (joinB (partsS l f l.length) SEP, 0, ()))) := by
      intro r hr; rw [hr]; exact T.go rfl (by omega)
    have hval : valueS a v = if a.2.1 = 1 then atI a.2.2.1 v ByteArray.empty else if a.2.1 = 2 then itoaB v else if v = 1 then bs [121, 101, 115] else bs [110, 111] := rfl
    refine T.cnd (fun c3 => ?_) (fun c3 => ?_) <;> simp only [iLt_T, iLt_F] at c3
    · rw [if_neg (fun q => by rw [q] at hpl; simp at hpl; omega)] at hj
      have key : ∀ x : ByteArray, x = valueS a v → sCat (sCat (sCat (sCat J (bs [59, 32])) a.1) (bs [61])) x = joinB (partsS l f (i + 1)) SEP := by
        intro x hx; rw [hj, hx]; unfold partS; simp only [cat_assoc]; rfl
      refine T.grd (sFits_t (by omega)) (T.grd (sFits_t (by rw [cat_size]; omega)) (T.grd (sFits_t (by simp only [cat_size]; omega)) ?_))
      refine T.cnd (fun k1 => ?_) (fun k1 => ?_) <;> simp only [iEq_T, iEq_F] at k1
      · rw [if_pos k1] at hval
        have := b1 k1
        refine T.grd (by rw [bnd_T]; omega) (T.grd (by rw [bnd_T, lenI_eq]; omega) (T.grd (sFits_t (by simp only [cat_size, ← hval]; omega)) (fin _ (key _ hval.symm))))
      rw [if_neg k1] at hval
      refine T.cnd (fun k2 => ?_) (fun k2 => ?_) <;> simp only [iEq_T, iEq_F] at k2
      · rw [if_pos k2] at hval
        have := b2 k2
        refine T.grd (by rw [bnd_T]; omega) (T.callE (dec_m v (by omega)) ?_)
        exact T.grd (sFits_t (by simp only [cat_size, ← hval]; omega)) (fin _ (key _ hval.symm))
      rw [if_neg k2] at hval
      refine T.grd (by rw [bnd_T]; omega) ?_
      refine T.cnd (fun k3 => ?_) (fun k3 => ?_) <;> simp only [iEq_T, iEq_F] at k3
      · rw [if_pos k3] at hval
        exact T.grd (sFits_t (by simp only [cat_size]; omega)) (fin _ (key _ hval.symm))
      · rw [if_neg k3] at hval
        exact T.grd (sFits_t (by simp only [cat_size]; omega)) (fin _ (key _ hval.symm))
    · have hi0 : i = 0 := by omega
      subst hi0
      rw [if_pos (show partsS l f 0 = [] from rfl)] at hj
      have hJ0 : J = bs [] := by rw [← hJ]; rfl
      have hJs : J.size = 0 := by rw [hJ0]; rfl
      have key : ∀ x : ByteArray, x = valueS a v → sCat (sCat (sCat J a.1) (bs [61])) x = joinB (partsS l f (0 + 1)) SEP := by
        intro x hx; rw [hj, hx, hJ0]; unfold partS
        refine bl_inj ?_
        simp only [bl_cat]; rfl
      refine T.grd (sFits_t (by omega)) (T.grd (sFits_t (by simp only [cat_size]; omega)) ?_)
      refine T.cnd (fun k1 => ?_) (fun k1 => ?_) <;> simp only [iEq_T, iEq_F] at k1
      · rw [if_pos k1] at hval
        have := b1 k1
        refine T.grd (by rw [bnd_T]; omega) (T.grd (by rw [bnd_T, lenI_eq]; omega) (T.grd (sFits_t (by simp only [cat_size, ← hval]; omega)) (fin _ (key _ hval.symm))))
      rw [if_neg k1] at hval
      refine T.cnd (fun k2 => ?_) (fun k2 => ?_) <;> simp only [iEq_T, iEq_F] at k2
      · rw [if_pos k2] at hval
        have := b2 k2
        refine T.grd (by rw [bnd_T]; omega) (T.callE (dec_m v (by omega)) ?_)
        exact T.grd (sFits_t (by simp only [cat_size, ← hval]; omega)) (fin _ (key _ hval.symm))
      rw [if_neg k2] at hval
      refine T.grd (by rw [bnd_T]; omega) ?_
      refine T.cnd (fun k3 => ?_) (fun k3 => ?_) <;> simp only [iEq_T, iEq_F] at k3
      · rw [if_pos k3] at hval
        exact T.grd (sFits_t (by simp only [cat_size]; omega)) (fin _ (key _ hval.symm))
      · rw [if_neg k3] at hval
        exact T.grd (sFits_t (by simp only [cat_size]; omega)) (fin _ (key _ hval.symm))
  · dsimp only
    exact T.cf (by rw [iLt_F]; omega) (T.out rfl)
/-- Within. -/
theorem within_T (a n : Int) (ha : -9223372036854775808 ≤ a ∧ a ≤ 9223372036854775807) (hn : 0 < n) (hn2 : n ≤ 4611686018427387904) : T (m10 a n) (fun y => 0 ≤ y.1 ∧ y.1 < n) := by
  unfold m10
  refine T.grd (by rw [iNe_T]; omega) (T.grd (by rw [iNe_T]; omega) (T.ret ?_))
  have h1 : iRem a n = a.tmod n := rfl
  have h2 : a.tmod n < n := Int.tmod_lt_of_pos a hn
  have h3 : -n < a.tmod n := by have := Int.lt_tmod_of_pos a hn; omega
  dsimp only
  rw [h1, iAdd64 (by omega) (by omega)]
  have h4 : iRem (a.tmod n + n) n = (a.tmod n + n) % n := rem_pos (by omega)
  rw [h4]
  exact ⟨Int.emod_nonneg _ (by omega), Int.emod_lt_of_pos _ hn⟩
def sch : Nat → List DS0
  | 0 => ([((bs [112, 101, 114, 105, 108]), 1, ([(bs [102, 105, 114, 101]), (bs [102, 108, 111, 111, 100]), (bs [119, 105, 110, 100]), (bs [116, 104, 101, 102, 116])] : List ByteArray), 0, 0, ()), ((bs [115, 116, 111, 114, 101, 121, 115]), 2, ([] : List ByteArray), 1, 9, ()), ((bs [97, 108, 97, 114, 109]), 3, ([] : List ByteArray), 0, 0, ())] : List DS0)
  | 1 => ([((bs [110]), 2, ([] : List ByteArray), (-5), 20, ())] : List DS0)
  | 2 => ([((bs [97]), 3, ([] : List ByteArray), 0, 0, ()), ((bs [114, 111, 108, 101]), 1, ([(bs [99, 114, 101, 119]), (bs [103, 117, 101, 115, 116])] : List ByteArray), 0, 0, ()), ((bs [98]), 3, ([] : List ByteArray), 0, 0, ())] : List DS0)
  | 3 => ([((bs [110]), 2, ([] : List ByteArray), (-1000000000), 1000000000, ()), ((bs [116]), 3, ([] : List ByteArray), 0, 0, ())] : List DS0)
  | 4 => ([((bs [111, 110, 101]), 1, ([(bs [111, 110, 108, 121])] : List ByteArray), 0, 0, ()), ((bs [112, 101, 114, 105, 108]), 1, ([(bs [102, 105, 114, 101]), (bs [102, 108, 111, 111, 100]), (bs [119, 105, 110, 100]), (bs [116, 104, 101, 102, 116])] : List ByteArray), 0, 0, ()), ((bs [110]), 2, ([] : List ByteArray), 0, 6, ()), ((bs [116]), 3, ([] : List ByteArray), 0, 0, ())] : List DS0)
  | _ => ([((bs [116]), 3, ([] : List ByteArray), 0, 0, ())] : List DS0)
theorem sch_m (k : Int) (hk : -9223372036854775808 ≤ k ∧ k ≤ 9223372036854775807) : ∃ j : Nat, j < 6 ∧ m9 k = some ((sch j, ()), ()) := by
  obtain ⟨⟨v, _⟩, h1, h2, h3⟩ := within_T k 6 hk (by omega) (by omega)
  unfold m9
  rw [h1]
  dsimp only at h2 h3 ⊢
  refine ⟨v.toNat, by omega, ?_⟩
  have : v = 0 ∨ v = 1 ∨ v = 2 ∨ v = 3 ∨ v = 4 ∨ v = 5 := by omega
  rcases this with rfl | rfl | rfl | rfl | rfl | rfl <;> rfl
theorem sch_val : ∀ j : Nat, j < 6 → valS (sch j) = 0 := by
  intro j hj
  match j, hj with
  | 0, _ => exact (by kernel_rfl : valS (sch 0) = 0)
  | 1, _ => exact (by kernel_rfl : valS (sch 1) = 0)
  | 2, _ => exact (by kernel_rfl : valS (sch 2) = 0)
  | 3, _ => exact (by kernel_rfl : valS (sch 3) = 0)
  | 4, _ => exact (by kernel_rfl : valS (sch 4) = 0)
  | 5, _ => exact (by kernel_rfl : valS (sch 5) = 0)
theorem aw_valid : validS (sch 0) [1, 3, 0] = true := by kernel_rfl
theorem aw_text : joinB (partsS (sch 0) [1, 3, 0] 3) SEP = bs [112, 101, 114, 105, 108, 61, 102, 108, 111, 111, 100, 59, 32, 115, 116, 111, 114, 101, 121, 115, 61, 51, 59, 32, 97, 108, 97, 114, 109, 61, 110, 111] := by
  have e : itoaB 3 = bs [51] := by
    refine bl_inj ?_
    rw [itoa_bl, if_neg (by decide), show (3 : Int).toNat = 3 from rfl, decB_lo (by decide)]; rfl
  have p0 : partS ((sch 0).getD 0 zA) (([1, 3, 0] : List Int).getD 0 0) = bs [112, 101, 114, 105, 108, 61, 102, 108, 111, 111, 100] := by kernel_rfl
  have p1 : partS ((sch 0).getD 1 zA) (([1, 3, 0] : List Int).getD 1 0) = bs [115, 116, 111, 114, 101, 121, 115, 61, 51] := by
    show sCat (sCat (bs [115, 116, 111, 114, 101, 121, 115]) (bs [61])) (itoaB 3) = _
    rw [e]; rfl
  have p2 : partS ((sch 0).getD 2 zA) (([1, 3, 0] : List Int).getD 2 0) = bs [97, 108, 97, 114, 109, 61, 110, 111] := by kernel_rfl
  have : partsS (sch 0) [1, 3, 0] 3 = [bs [112, 101, 114, 105, 108, 61, 102, 108, 111, 111, 100], bs [115, 116, 111, 114, 101, 121, 115, 61, 51], bs [97, 108, 97, 114, 109, 61, 110, 111]] := by
    rw [parts_succ, parts_succ, parts_succ, p0, p1, p2]; rfl
  rw [this]; rfl
theorem aw_fmt : fmtS (sch 0) [1, 3, 0] = (bs [112, 101, 114, 105, 108, 61, 102, 108, 111, 111, 100, 59, 32, 115, 116, 111, 114, 101, 121, 115, 61, 51, 59, 32, 97, 108, 97, 114, 109, 61, 110, 111], 0, ()) := by
  unfold fmtS
  rw [if_neg (by rw [sch_val 0 (by decide)]; simp), if_neg (by rw [aw_valid]; simp)]
  rw [← aw_text]; rfl
theorem aw_count : m24 (sch 0, ()) = some (72, ()) := by
  refine T.eq ?_
  unfold m24
  refine T.callE (val_m (sch 0, ())) ?_
  refine T.cf (by rw [iNe_F]; exact sch_val 0 (by decide)) ?_
  refine T.loop (fun q => q = (1, sch 0, 3, 0, ()) ∨ q = (4, sch 0, 3, 1, ()) ∨ q = (36, sch 0, 3, 2, ()) ∨ q = (72, sch 0, 3, 3, ())) (fun q => 3 - q.2.2.2.1.toNat) (.inl rfl) ?_
  rintro _ (rfl | rfl | rfl | rfl)
  · exact ⟨_, rfl, .inr (.inl rfl), by decide⟩
  · exact ⟨_, rfl, .inr (.inr (.inl rfl)), by decide⟩
  · exact ⟨_, rfl, .inr (.inr (.inr rfl)), by decide⟩
  · exact ⟨_, rfl, rfl⟩
theorem awake_ok : m8 = some (true, ()) := by
  refine T.eq ?_
  unfold m8
  have e9 : m9 0 = some ((sch 0, ()), ()) := rfl
  rw [e9]
  refine T.bind (T.ret ?_)
  refine T.callE (fmt_m (sch 0, ()) [1, 3, 0] (by decide)) ?_
  rw [aw_fmt]
  refine T.ct (by rw [candF_T, sEq_T, iEq_T]; exact ⟨rfl, rfl⟩) ?_
  refine T.bind (T.ret ?_)
  refine T.callE aw_count (T.ret rfl)
/-- Facts that a deck gives. -/
theorem facts_T (l : List DS0) (h : valS l = 0) {L : List Int} (hd : DeckOk L 0) : T (m16 (l, ()) L 0) (fun y => validS l y.2.2.1 = true) := by
  unfold m16
  have hL := lenI_eq l
  obtain ⟨v1, v2, v3⟩ := val_ok h
  refine T.loop (fun q => ∃ (i : Nat) (K : List Int) (a : Int) (f : List Int), i ≤ l.length ∧ DeckOk K a ∧ f.length = i ∧ (List.range i).all (inD l f) = true ∧ q = ((i : Int), K, a, l, f, ())) (fun q => l.length - q.1.toNat) ⟨0, L, 0, [], by omega, hd, rfl, rfl, rfl⟩ ?_
  rintro _ ⟨i, K, a, f, hi, hk, hf, hg, rfl⟩
  dsimp only
  refine T.cnd (fun hc => ?_) (fun hc => ?_) <;> simp only [iLt_T, iLt_F] at hc
  · have hlt : i < l.length := by omega
    have hb := dom_bd (v3 _ (List.getElem_mem hlt)).2
    refine T.callE (dom_r l i hlt h) ?_
    dsimp only
    have ed : ∀ v : Int, (domS l[i]).1 ≤ v → v ≤ (domS l[i]).2 → (List.range (i + 1)).all (inD l (f ++ [v])) = true := by
      intro v a1 a2
      refine List.all_eq_true.2 fun j hj => ?_
      have hj := List.mem_range.1 hj
      rcases Nat.lt_or_ge j i with r | r
      · have := List.all_eq_true.1 hg j (List.mem_range.2 r)
        unfold inD at this ⊢
        rw [List.getD_eq_getElem?_getD (l := f ++ [v]), List.getElem?_append_left (by omega), ← List.getD_eq_getElem?_getD]
        exact this
      · obtain rfl : j = i := by omega
        unfold inD
        rw [decide_eq_true_eq, getD_eq l j zA hlt, List.getD_eq_getElem?_getD, List.getElem?_append_right (by omega), hf, Nat.sub_self]
        exact ⟨a1, a2⟩
    have add : ∀ (K' : List Int) (a' v : Int), DeckOk K' a' → (domS l[i]).1 ≤ v → v ≤ (domS l[i]).2 → T (cond (fits (List.length f + List.length ([v] : List Int)) 8) (some (Sum.inl (β := List Int × Int × List Int × Unit) (iAdd .i64 (i : Int) 1, K', a', l, f ++ [v], ()))) none) (LQ (fun q => ∃ (i : Nat) (K : List Int) (a : Int) (f : List Int), i ≤ l.length ∧ DeckOk K a ∧ f.length = i ∧ (List.range i).all (inD l f) = true ∧ q = ((i : Int), K, a, l, f, ())) (fun q => l.length - q.1.toNat) (l.length - (i : Int).toNat) (fun y => validS l y.2.2.1 = true)) := by
      intro K' a' v k1 k2 k3
      refine T.grd (by rw [fits_T, List.length_singleton]; omega) (T.go ⟨i + 1, K', a', f ++ [v], by omega, k1, by rw [List.length_append, List.length_singleton, hf], ed v k2 k3, ?_⟩ ?_)
      · rw [iAdd64 (by omega) (by omega)]; rfl
      · dsimp only; rw [iAdd64 (by omega) (by omega)]; omega
    rw [iSub64 (by omega) (by omega), iAdd64 (by omega) (by omega)]
    refine T.call (next_T hk (by omega) (by omega)) (fun y ⟨n1, n2, n3⟩ => ?_)
    refine T.call (next_T n1 (by omega) (by omega)) (fun z ⟨z1, z2, z3⟩ => ?_)
    refine T.cnd (fun _ => ?_) (fun _ => ?_)
    · exact add _ _ _ z1 (by omega) (by omega)
    refine T.cnd (fun _ => ?_) (fun _ => ?_)
    · exact add _ _ _ z1 (by omega) (by omega)
    refine T.cnd (fun _ => ?_) (fun _ => ?_)
    · refine T.call (next_T z1 (by omega) (by omega)) (fun u ⟨u1, u2, u3⟩ => ?_)
      rw [iSub64 (by omega) (by omega)]
      refine add _ _ _ u1 ?_ ?_
      · unfold iMin iMax; omega
      · unfold iMin iMax; omega
    · rw [iAdd64 (by omega) (by omega)]
      exact add _ _ _ z1 (by omega) (by omega)
  · obtain rfl : i = l.length := by omega
    refine T.out ?_
    dsimp only
    unfold validS
    rw [decide_eq_true h, decide_eq_true hf, hg]; rfl
end Abs
end Go.Proofs.YtgkijjppdaeikaaDoor
