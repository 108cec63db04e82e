/- Schema: decimals, texts of facts. -/
import Derived.Test.YtgkijjppdaeikaaDoorS4
namespace Go.Proofs.YtgkijjppdaeikaaDoor
namespace Abs
set_option linter.unusedVariables false
set_option linter.unusedSimpArgs false
def decB (u : Nat) : List Int := (Lib.decDigits u).map fun c => (c.toNat : Int)
theorem decB_lo {u : Nat} (h : u < 10) : decB u = [48 + (u : Int)] := by
  unfold decB; rw [Lib.decDigits, dif_pos h]
  show [((UInt8.ofNat (48 + u)).toNat : Int)] = _
  have : (UInt8.ofNat (48 + u)).toNat = 48 + u := by simp [UInt8.toNat_ofNat']; omega
  rw [this]; simp
theorem decB_hi {u : Nat} (h : 10 ≤ u) : decB u = decB (u / 10) ++ [48 + ((u % 10 : Nat) : Int)] := by
  unfold decB; rw [Lib.decDigits, dif_neg (by omega), List.map_append]
  congr 1
  show [((UInt8.ofNat (48 + u % 10)).toNat : Int)] = _
  have : (UInt8.ofNat (48 + u % 10)).toNat = 48 + u % 10 := by simp [UInt8.toNat_ofNat']; omega
  rw [this]; simp
theorem decB_len (u : Nat) : 1 ≤ (decB u).length ∧ (decB u).length ≤ u + 1 := by
  induction u using Nat.strongRecOn with
  | ind u ih =>
    by_cases h : u < 10
    · rw [decB_lo h]; simp
    · rw [decB_hi (by omega), List.length_append, List.length_singleton]
      have := ih (u / 10) (by omega); omega
theorem digits_m (n : Nat) (hn : n ≤ 10000000000) : T (m52 (n : Int) 1) (fun y => bytesI y.1 = decB n) := by
  unfold m52
  have hdl := decB_len n
  refine T.loop (fun q => ∃ (x : Nat) (s : ByteArray), x ≤ n ∧ (0 < x → decB x ++ bytesI s = decB n) ∧ (x = 0 → bytesI s = decB n ∨ (n = 0 ∧ s = bs [])) ∧ q = ((x : Int), 1, s, ())) (fun q => q.1.toNat + (1 - q.2.2.1.size)) ⟨n, bs [], by omega, fun _ => List.append_nil _, fun h => .inr ⟨h, rfl⟩, rfl⟩ ?_
  rintro _ ⟨x, s, hx, h1, h2, rfl⟩
  dsimp only
  have hb := bl_len s
  refine T.cnd (fun hc => ?_) (fun hc => ?_) <;> simp only [corT_T, corT_F, iLt_T, iLt_F, sLen_eq] at hc
  · have hs : s.size ≤ n + 1 := by
      by_cases q : 0 < x
      · have := congrArg List.length (h1 q); rw [List.length_append] at this; omega
      · rcases h2 (by omega) with r | ⟨_, r⟩
        · have := congrArg List.length r; omega
        · rw [r]; exact Nat.zero_le _
    have e : IntKind.wrap .u8 (iAdd .i64 48 (iRem (x : Int) 10)) = 48 + ((x % 10 : Nat) : Int) := by rw [rem_pos (by omega), iAdd64 (by omega) (by omega), wrap8 (by omega) (by omega)]; simp
    have e2 : iQuo .i64 (x : Int) 10 = ((x / 10 : Nat) : Int) := by unfold iQuo; rw [Int.tdiv_eq_ediv_of_nonneg (by omega), wrap64 (by omega) (by omega)]; simp
    rw [e, e2]
    refine T.grd rfl (T.grd (sFits_t (by have : (bsI [48 + ((x % 10 : Nat) : Int)]).size = 1 := rfl; omega)) (T.grd rfl ?_))
    have hcat := bl_cons (c := 48 + ((x % 10 : Nat) : Int)) (by omega) s
    refine T.go ⟨x / 10, _, by omega, fun q => ?_, fun q => .inl ?_, rfl⟩ ?_
    · rw [hcat, ← h1 (by omega), decB_hi (show 10 ≤ x by omega), List.append_assoc]; rfl
    · rw [hcat]
      by_cases q2 : 0 < x
      · rw [← h1 q2, decB_lo (show x < 10 by omega), show x % 10 = x by omega]; rfl
      · have hx0 : x = 0 := by omega
        subst hx0
        rcases h2 rfl with r | ⟨r1, r2⟩
        · rw [r] at hb; omega
        · subst r1 r2; rw [decB_lo (by omega)]; rfl
    · dsimp only; rw [cat_size]
      have : (bsI [48 + ((x % 10 : Nat) : Int)]).size = 1 := rfl
      omega
  · have hx0 : x = 0 := by omega
    subst hx0
    refine T.out ?_
    rcases h2 rfl with r | ⟨r1, r2⟩
    · exact r
    · subst r2; have : (bs []).size = 0 := rfl
      omega
theorem itoa_bl (n : Int) : bytesI (itoaB n) = if n < 0 then 45 :: decB n.natAbs else decB n.toNat := by
  unfold itoaB bytesI Lib.itoa decB
  by_cases h : n < 0
  · rw [if_pos h, if_pos h]; rfl
  · rw [if_neg h, if_neg h]
theorem itoa_sz (n : Int) : (itoaB n).size ≤ n.natAbs + 2 := by
  rw [← bl_len, itoa_bl]
  have h1 := decB_len n.natAbs
  have h2 := decB_len n.toNat
  split
  · rw [List.length_cons]; omega
  · omega
theorem dec_m (n : Int) (h : -10000000000 ≤ n ∧ n ≤ 10000000000) : m35 n = some (itoaB n, ()) := by
  refine T.eq ?_
  unfold m35
  have hi := itoa_bl n
  refine T.cnd (fun hc => ?_) (fun hc => ?_) <;> simp only [iLt_T, iLt_F] at hc
  · rw [if_pos hc] at hi
    have e : iNeg .i64 n = ((n.natAbs : Nat) : Int) := by unfold iNeg; rw [wrap64 (by omega) (by omega)]; omega
    rw [e]
    refine T.call (digits_m n.natAbs (by omega)) (fun y hy => ?_)
    have hs : y.1.size ≤ n.natAbs + 1 := by rw [← bl_len, hy]; exact (decB_len _).2
    refine T.grd (sFits_t (by have : (bs [45]).size = 1 := rfl; omega)) (T.ret ?_)
    congr 1
    refine bl_inj ?_
    rw [bl_cat, hy, hi]; rfl
  · rw [if_neg (by omega)] at hi
    rw [show n = ((n.toNat : Nat) : Int) by omega]
    refine T.call (digits_m n.toNat (by omega)) (fun y hy => T.ret ?_)
    congr 1
    refine bl_inj ?_
    rw [hy, show ((n.toNat : Nat) : Int) = n by omega, hi]
noncomputable def valueS (a : DS0) (v : Int) : ByteArray := if a.2.1 = 1 then atI a.2.2.1 v ByteArray.empty else if a.2.1 = 2 then itoaB v else if v = 1 then bs [121, 101, 115] else bs [110, 111]
noncomputable def partS (a : DS0) (v : Int) : ByteArray := sCat (sCat a.1 (bs [61])) (valueS a v)
/-- A value of an attribute's domain. -/
def InDom (a : DS0) (v : Int) : Prop := (domS a).1 ≤ v ∧ v ≤ (domS a).2
theorem value_bd {a : DS0} {v : Int} (h : attrS a = 0) (hv : InDom a v) : (a.2.1 = 1 → 0 ≤ v ∧ v < a.2.2.1.length) ∧ (a.2.1 = 2 → -1000000000 ≤ v ∧ v ≤ 1000000000) ∧ (valueS a v).size ≤ 2000000000 := by
  have hb := dom_bd h
  unfold InDom at hv
  refine ⟨fun k => ?_, fun k => ⟨by omega, by omega⟩, ?_⟩
  · unfold domS at hv; rw [if_pos k] at hv; dsimp only at hv; omega
  · unfold valueS
    rcases attr_ok h with ⟨k, h1, h2, h3⟩ | ⟨k, _⟩ | k
    · rw [if_pos k]
      unfold domS at hv; rw [if_pos k] at hv; dsimp only at hv
      have hm : atI a.2.2.1 v ByteArray.empty ∈ a.2.2.1 := by
        unfold atI; rw [getD_eq _ _ _ (by omega)]; exact List.getElem_mem _
      have := name_sz (h3 _ hm); omega
    · rw [if_neg (by omega), if_pos k]; have := itoa_sz v; omega
    · rw [if_neg (by omega), if_neg (by omega)]; split <;> decide
theorem value_m {a : DS0} {v : Int} (h : attrS a = 0) (hv : InDom a v) : m33 a v = some (valueS a v, ()) := by
  obtain ⟨b1, b2, _⟩ := value_bd h hv
  refine T.eq ?_
  unfold m33 valueS
  refine T.cnd (fun c1 => ?_) (fun c1 => ?_) <;> simp only [iEq_T, iEq_F] at c1
  · rw [if_pos c1]; have := b1 c1
    exact T.grd (by rw [bnd_T, lenI_eq]; omega) (T.ret rfl)
  rw [if_neg c1]
  refine T.cnd (fun c2 => ?_) (fun c2 => ?_) <;> simp only [iEq_T, iEq_F] at c2
  · rw [if_pos c2]; have := b2 c2
    refine T.callE (show mItoa v = some (itoaB v, ()) by unfold mItoa; rw [if_pos (by omega)]) (T.ret rfl)
  rw [if_neg c2]
  refine T.cnd (fun c3 => ?_) (fun c3 => ?_) <;> simp only [iEq_T, iEq_F] at c3
  · rw [if_pos c3]; exact T.ret rfl
  · rw [if_neg c3]; exact T.ret rfl
/-- Joined texts. -/
theorem join_snoc (xs : List ByteArray) (x sep : ByteArray) : joinB (xs ++ [x]) sep = if xs = [] then x else sCat (sCat (joinB xs sep) sep) x := by
  cases xs with
  | nil =>
    rw [if_pos rfl]
    unfold joinB
    show (⟨(Lib.join [x.data.toList] sep.data.toList).toArray⟩ : ByteArray) = x
    rw [Lib.join_one]
  | cons y xs =>
    rw [if_neg (by simp)]
    unfold joinB sCat
    rw [List.cons_append, List.map_cons, List.map_cons, Lib.join_cons, Lib.join_cons, List.map_append]
    unfold Lib.joinTail
    apply ByteArray.ext
    simp [ByteArray.data_append]
theorem join_nil (sep : ByteArray) : joinB [] sep = bs [] := rfl
theorem join_sz (sep : ByteArray) (hs : sep.size = 2) : ∀ (n : Nat) (xs : List ByteArray), xs.length = n → (∀ x ∈ xs, x.size ≤ 2000000100) → (joinB xs sep).size ≤ n * 2000000200 := by
  intro n
  induction n with
  | zero => intro xs h _; obtain rfl := List.length_eq_zero_iff.1 h; exact Nat.zero_le _
  | succ n ih =>
    intro xs hn h
    rcases List.eq_nil_or_concat xs with rfl | ⟨ys, x, rfl⟩
    · cases hn
    · rw [List.concat_eq_append] at hn h ⊢
      rw [List.length_append, List.length_singleton] at hn
      have h1 := ih ys (by omega) fun y hy => h y (by simp [hy])
      have h2 := h x (by simp)
      rw [join_snoc]
      split
      · omega
      · rw [cat_size, cat_size]; omega
def SEP : ByteArray := bs [59, 32]
noncomputable def partsS (l : List DS0) (f : List Int) (i : Nat) : List ByteArray := (List.range i).map fun j => partS (l.getD j zA) (f.getD j 0)
noncomputable def fmtS (l : List DS0) (f : List Int) : ByteArray × Int × Unit := if valS l ≠ 0 then (bs [], valS l, ()) else if validS l f = false then (bs [], 16, ()) else (joinB (partsS l f l.length) SEP, 0, ())
theorem valid_ok {l : List DS0} {f : List Int} (h : validS l f = true) : valS l = 0 ∧ f.length = l.length ∧ ∀ (i : Nat) (hi : i < l.length), InDom l[i] (f.getD i 0) := by
  unfold validS at h
  simp only [Bool.and_eq_true, decide_eq_true_eq] at h
  refine ⟨h.1.1, h.1.2, fun i hi => ?_⟩
  have := List.all_eq_true.1 h.2 i (List.mem_range.2 hi)
  unfold inD at this
  rw [decide_eq_true_eq, getD_eq l i zA hi] at this
  exact this
theorem parts_sz {l : List DS0} {f : List Int} (h : validS l f = true) {i : Nat} (hi : i ≤ l.length) : ∀ x ∈ partsS l f i, x.size ≤ 2000000100 := by
  intro x hx
  obtain ⟨h0, h1, h2⟩ := valid_ok h
  obtain ⟨v1, v2, v3⟩ := val_ok h0
  unfold partsS at hx
  obtain ⟨j, hj, rfl⟩ := List.mem_map.1 hx
  have hjl : j < l.length := by have := List.mem_range.1 hj; omega
  rw [getD_eq l j zA hjl]
  have ha := v3 _ (List.getElem_mem hjl)
  have b := (value_bd ha.2 (h2 j hjl)).2.2
  have c := name_sz ha.1
  unfold partS
  rw [cat_size, cat_size]
  have : (bs [61]).size = 1 := rfl
  omega
theorem parts_succ (l : List DS0) (f : List Int) (i : Nat) : partsS l f (i + 1) = partsS l f i ++ [partS (l.getD i zA) (f.getD i 0)] := by
  unfold partsS; rw [List.range_succ, List.map_append]; rfl
theorem parts_len (l : List DS0) (f : List Int) (i : Nat) : (partsS l f i).length = i := by unfold partsS; rw [List.length_map, List.length_range]
theorem fmt_m (s : DS1) (f : List Int) (hf : f.length ≤ 9223372036854775807) : m19 s f = some (fmtS s.1 f) := by
  obtain ⟨l, ⟨⟩⟩ := s
  refine T.eq ?_
  unfold m19 fmtS
  have hL := lenI_eq l
  have hLf := lenI_eq f
  refine T.callE (val_m _) ?_
  dsimp only
  refine T.cnd (fun c1 => T.ret ?_) (fun c1 => ?_) <;> simp only [iNe_T, iNe_F] at c1
  · rw [if_pos c1]
  rw [if_neg (by rw [c1]; simp)]
  refine T.callE (valid_m _ _ hf) ?_
  dsimp only
  refine T.cnd (fun c2 => T.ret ?_) (fun c2 => ?_) <;> simp only [not_T, not_F] at c2
  · rw [if_pos c2]
  rw [if_neg (by rw [c2]; simp)]
  obtain ⟨h0, h1, h2⟩ := valid_ok c2
  obtain ⟨v1, v2, v3⟩ := val_ok h0
  refine T.grd (by rw [fitsI_T]; omega) ?_
  have e0 : (f, l, lenI l, (0 : Int), List.replicate (Int.toNat (lenI f)) (bs []), ()) = (f, l, lenI l, ((0 : Nat) : Int), partsS l f 0 ++ List.replicate (l.length - 0) (bs []), ()) := by
    rw [show Int.toNat (lenI f) = l.length - 0 by omega]; rfl
  rw [e0]
  refine T.along l.length (fun i : Nat => (f, l, lenI l, (i : Int), partsS l f i ++ List.replicate (l.length - i) (bs []), ())) (fun i hi => ?_) ?_
  · dsimp only
    have hpl := parts_len l f i
    have hll : (partsS l f i ++ List.replicate (l.length - i) (bs [])).length = l.length := by rw [List.length_append, hpl, List.length_replicate]; omega
    have ha := v3 _ (List.getElem_mem hi)
    have hn := name_sz ha.1
    have s61 : (bs [61]).size = 1 := rfl
    have hb := (value_bd ha.2 (h2 i hi)).2.2
    refine T.ct (by rw [iLt_T]; omega) ?_
    refine T.grd (by rw [bnd_T]; omega) ?_
    rw [at_get l i _ hi, atI_getD]
    refine T.grd (sFits_t (by omega)) (T.grd (by rw [bnd_T]; omega) ?_)
    refine T.callE (value_m (a := l[i]) ha.2 (h2 i hi)) ?_
    refine T.grd (sFits_t (by rw [cat_size]; dsimp only; omega)) (T.grd (by rw [bnd_T, lenI_eq, hll]; omega) (T.grd (by rw [inB_T, hll]; omega) ?_))
    refine T.go ?_ (by omega)
    have e1 : ((i : Int)).toNat = i := by omega
    obtain ⟨m, hm⟩ : ∃ m, l.length - i = m + 1 := ⟨l.length - i - 1, by omega⟩
    rw [iAdd64 (by omega) (by omega), e1, hm, show l.length - (i + 1) = m by omega, List.replicate_succ, List.set_append_right _ _ (by omega), hpl, Nat.sub_self, List.set_cons_zero, parts_succ, List.append_assoc, getD_eq l i zA hi]
    rfl
  · dsimp only
    refine T.cf (by rw [iLt_F]; omega) (T.mapL ?_)
    have e : partsS l f l.length ++ List.replicate (l.length - l.length) (bs []) = partsS l f l.length := by rw [Nat.sub_self, List.replicate_zero, List.append_nil]
    rw [e]
    have hz := join_sz SEP rfl l.length (partsS l f l.length) (parts_len l f _) (parts_sz c2 (Nat.le_refl _))
    have hz2 : (joinB (partsS l f l.length) SEP).size ≤ 140737488355328 := by
      have : l.length * 2000000200 ≤ 6 * 2000000200 := Nat.mul_le_mul_right _ v2
      omega
    refine T.callE (show mJoin (partsS l f l.length) SEP = some (joinB (partsS l f l.length) SEP, ()) by unfold mJoin; rw [if_pos ⟨by rw [parts_len]; omega, hz2⟩]) (T.ret rfl)
end Abs
end Go.Proofs.YtgkijjppdaeikaaDoor
