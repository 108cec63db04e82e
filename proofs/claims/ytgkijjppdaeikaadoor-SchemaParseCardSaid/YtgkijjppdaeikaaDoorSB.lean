/- Merged: S7 S8 S9 S10. -/
import Derived.Test.YtgkijjppdaeikaaDoorSA
import Derived.Lib.IndexMore
import Derived.Lib.AtoiTie
/- Schema: SchemaFacts, SchemaFormat. -/
namespace Go.Proofs.YtgkijjppdaeikaaDoor
namespace Abs
set_option linter.unusedVariables false
set_option linter.unusedSimpArgs false
def I64 (n : Int) : Prop := -9223372036854775808 ≤ n ∧ n ≤ 9223372036854775807
theorem law_facts (s : DS1) (f : List Int) (k : Int) (L : List Int) (at_ n : Int) (hk : I64 k) (hd : DeckOk L 0) (ha : I64 at_) : m4 s f k L at_ n = some (true, ()) := by
  refine T.eq ?_
  unfold m4
  rw [awake_ok]
  refine T.cnd (fun hc => T.ret rfl) (fun hc => ?_)
  rw [corT_F, iLt_F, iLt_F, lenI_eq, lenI_eq] at hc
  obtain ⟨j, hj, e9⟩ := sch_m k hk
  have hv := sch_val j hj
  obtain ⟨v1, v2, v3⟩ := val_ok hv
  refine T.callE e9 ?_
  dsimp only
  generalize sch j = l at hv v1 v2 v3
  refine T.callE (show m11 L = some (L, 0, ()) from rfl) ?_
  refine T.call (facts_T l hv hd) ?_
  rintro ⟨K, a, x, _⟩ hx
  dsimp only at hx ⊢
  obtain ⟨_, hxl, _⟩ := valid_ok hx
  have hLx := lenI_eq x
  refine T.callE (valid_m (l, ()) x (by omega)) ?_
  dsimp only
  refine T.cf (by rw [hx]; rfl) ?_
  refine T.callE (valid_m (s.1, ()) f (by omega)) ?_
  refine T.callE (valid_r (s.1, ()) f (by omega)) ?_
  dsimp only
  refine T.cf (by rw [not_F, bEq_self]) ?_
  simp only [List.nil_append, List.length_nil, Nat.zero_add]
  refine T.grd (by rw [fits_T]; omega) ?_
  refine T.call (within_T at_ (lenI x) ha (by omega) (by omega)) ?_
  rintro ⟨v, _⟩ ⟨w1, w2⟩
  dsimp only at w1 w2 ⊢
  refine T.grd (by rw [bnd_T]; omega) (T.grd (by rw [inB_T]; omega) (T.grd (by rw [fits_T]; omega) (T.grd (by rw [fits_T, List.length_singleton]; omega) ?_)))
  refine T.callE (valid_m (l, ()) _ (by rw [List.length_set]; omega)) ?_
  refine T.callE (valid_r (l, ()) _ (by rw [List.length_set]; omega)) ?_
  dsimp only
  refine T.ct (bEq_self _) ?_
  have no : ∀ y : List Int, y.length ≠ l.length → validS l y = false := by
    intro y hy; unfold validS; rw [decide_eq_false hy, Bool.and_false]; rfl
  refine T.callE (valid_m (l, ()) _ (by rw [List.length_append, List.length_singleton]; omega)) ?_
  dsimp only
  rw [no (x ++ [0]) (by rw [List.length_append, List.length_singleton]; omega)]
  rw [iSub64 (by omega) (by omega)]
  refine T.grd (by rw [or_T, cutOk_T]; left; omega) (T.ct rfl ?_)
  refine T.callE (valid_m (l, ()) _ (by rw [List.length_take, List.length_drop]; omega)) ?_
  dsimp only
  rw [no _ (by rw [List.length_take, List.length_drop]; omega)]
  exact T.ct rfl (T.ret rfl)
theorem law_format (s : DS1) (f : List Int) (k : Int) (L : List Int) (at_ n : Int) (hk : I64 k) (hd : DeckOk L 0) (ha : I64 at_) : m5 s f k L at_ n = some (true, ()) := by
  refine T.eq ?_
  unfold m5
  rw [awake_ok]
  refine T.cnd (fun hc => T.ret rfl) (fun hc => ?_)
  rw [corT_F, iLt_F, iLt_F, lenI_eq, lenI_eq] at hc
  refine T.callE (fmt_m (s.1, ()) f (by omega)) ?_
  refine T.callE (fmt_r (s.1, ()) f (by omega)) ?_
  obtain ⟨j, hj, e9⟩ := sch_m k hk
  have hv := sch_val j hj
  obtain ⟨v1, v2, v3⟩ := val_ok hv
  refine T.callE e9 ?_
  dsimp only
  generalize sch j = l at hv v1 v2 v3
  refine T.callE (show m11 L = some (L, 0, ()) from rfl) ?_
  refine T.call (facts_T l hv hd) ?_
  rintro ⟨K, a, x, _⟩ hx
  dsimp only at hx ⊢
  obtain ⟨_, hxl, _⟩ := valid_ok hx
  have hLx := lenI_eq x
  have q1 : ∀ b : ByteArray, sEq b b = true := fun b => by rw [sEq_T]
  have q2 : ∀ b : Int, iEq b b = true := fun b => by rw [iEq_T]
  refine T.grd rfl ?_
  refine T.cnd (fun hc2 => ?_) (fun hc2 => ?_)
  · refine T.call (within_T at_ (lenI x) ha (by omega) (by omega)) ?_
    rintro ⟨v, _⟩ ⟨w1, w2⟩
    dsimp only at w1 w2 ⊢
    refine T.grd (by rw [bnd_T]; omega) (T.grd (by rw [inB_T]; omega) ?_)
    refine T.callE (fmt_m (l, ()) _ (by rw [List.length_set]; omega)) ?_
    refine T.callE (fmt_r (l, ()) _ (by rw [List.length_set]; omega)) ?_
    refine T.ct (by rw [q1, q1, q2, q2]; rfl) (T.ret rfl)
  · refine T.callE (fmt_m (l, ()) _ (by omega)) ?_
    refine T.callE (fmt_r (l, ()) _ (by omega)) ?_
    refine T.ct (by rw [q1, q1, q2, q2]; rfl) (T.ret rfl)
theorem deck_ok {L : List Int} (h : OkT (.list (.int .i64)) L) : DeckOk L 0 := ⟨fun x hx => ok_i64 ((ok_list (e := .int .i64) h).2 x hx), (ok_list (e := .int .i64) h).1, by omega⟩
end Abs
end Go.Proofs.YtgkijjppdaeikaaDoor

/- Schema: bytes of texts; cuts; values read. -/
namespace Go.Proofs.YtgkijjppdaeikaaDoor
namespace Abs
set_option linter.unusedVariables false
set_option linter.unusedSimpArgs false
def LB (b : ByteArray) : List UInt8 := b.data.toList
theorem LB_inj {a b : ByteArray} (h : LB a = LB b) : a = b := by
  obtain ⟨a⟩ := a; obtain ⟨b⟩ := b
  have h : a.toList = b.toList := h
  rw [Array.toList_inj.1 h]
theorem LB_cat (a b : ByteArray) : LB (sCat a b) = LB a ++ LB b := by unfold LB sCat; simp [ByteArray.data_append]
theorem LB_mk (l : List UInt8) : LB ⟨l.toArray⟩ = l := by simp [LB]
theorem LB_bs (l : List UInt8) : LB (bs l) = l := LB_mk l
theorem LB_len (b : ByteArray) : (LB b).length = b.size := (Lib.size_eq b).symm
theorem LB_bytes (b : ByteArray) : bytesI b = (LB b).map fun c => (c.toNat : Int) := rfl
theorem LB_cut (l u : Int) (s : ByteArray) : LB (cutS l u s) = ((LB s).take u.toNat).drop l.toNat := by
  unfold LB cutS
  rw [Lib.extract_data, List.drop_take]
theorem LB_at (s : ByteArray) (k : Nat) (h : k < (LB s).length) : sAt s (k : Int) = ((LB s)[k].toNat : Int) := by
  rw [bl_at, LB_bytes, List.getD_eq_getElem?_getD, List.getElem?_map, List.getElem?_eq_getElem h]; rfl
def N59 (l : List UInt8) : Prop := ∀ c ∈ l, c ≠ 59
theorem index_hit (p r : List UInt8) (h : N59 p) : Lib.index (p ++ 59 :: 32 :: r) [59, 32] = (p.length : Int) := by
  induction p with
  | nil => unfold Lib.index; rfl
  | cons c p ih =>
    have hc : c ≠ 59 := h c (by simp)
    have ih := ih fun d hd => h d (by simp [hd])
    rw [List.cons_append]
    unfold Lib.index
    rw [ih, if_neg (by simp [List.isPrefixOf]; intro q; exact absurd q.symm hc), if_neg (by simp)]
    rfl
theorem index_miss (p : List UInt8) (h : N59 p) : Lib.index p [59, 32] = -1 := by
  induction p with
  | nil => rfl
  | cons c p ih =>
    have hc : c ≠ 59 := h c (by simp)
    have ih := ih fun d hd => h d (by simp [hd])
    unfold Lib.index
    rw [ih, if_neg (by simp [List.isPrefixOf]; intro q; exact absurd q.symm hc)]
    rfl
theorem cut_hit (p r : List UInt8) (h : N59 p) : Lib.cut (p ++ 59 :: 32 :: r) [59, 32] = (p, r, true) := by
  unfold Lib.cut
  rw [index_hit p r h, if_pos (by omega), Int.toNat_natCast]
  congr 1
  · simp
  · congr 1
    show List.drop (p.length + 2) _ = r
    rw [show p.length + 2 = (p ++ [59, 32]).length by simp, show p ++ 59 :: 32 :: r = (p ++ [59, 32]) ++ r by simp, List.drop_left]
theorem cut_miss (p : List UInt8) (h : N59 p) : Lib.cut p [59, 32] = (p, [], false) := by
  unfold Lib.cut
  rw [index_miss p h, if_neg (by omega)]
theorem cut_le (s sep : List UInt8) : (Lib.cut s sep).1.length ≤ s.length ∧ (Lib.cut s sep).2.1.length ≤ s.length := by
  unfold Lib.cut
  split
  · dsimp only; rw [List.length_take, List.length_drop]; omega
  · simp
theorem trim_hit (p r : List UInt8) : Lib.trimPrefix (p ++ r) p = r := by
  unfold Lib.trimPrefix Lib.hasPrefix
  rw [if_pos (List.isPrefixOf_iff_prefix.2 (List.prefix_append p r)), List.drop_left]
theorem part_LB (a : DS0) (v : Int) : LB (partS a v) = (LB a.1 ++ [61]) ++ LB (valueS a v) := by
  unfold partS; rw [LB_cat, LB_cat, LB_bs]
theorem name_59 {s : ByteArray} (h : nameD s = true) : N59 (LB s) := by
  unfold nameD at h
  have hw : wordS s = true := by
    rcases q : wordS s with _ | _
    · rw [q] at h; cases h
    · rfl
  unfold wordS at hw
  by_cases q : s.size = 0 ∨ 16 < s.size
  · rw [if_pos q] at hw; cases hw
  rw [if_neg q] at hw
  by_cases q2 : isLet (sAt s 0) = true ∧ ¬ sAt s ((s.size : Int) - 1) = 45
  · rw [if_pos q2, decide_eq_true_eq] at hw
    have := (spanS_all isWrd s s.size 0 (by omega)).1 hw
    intro c hc hq
    obtain ⟨j, hj, rfl⟩ := List.mem_iff_getElem.1 hc
    have h2 := this j (by omega) (by rw [← LB_len]; exact hj)
    rw [LB_at s j hj, hq] at h2
    exact absurd h2 (by decide)
  · rw [if_neg q2] at hw; cases hw
theorem dd_mem (u : Nat) : ∀ c ∈ Lib.decDigits u, 48 ≤ c.toNat ∧ c.toNat ≤ 57 := by
  induction u using Nat.strongRecOn with
  | ind u ih =>
    intro c hc
    rw [Lib.decDigits] at hc
    split at hc
    · rename_i hu
      simp only [List.mem_singleton] at hc
      subst hc
      have : (UInt8.ofNat (48 + u)).toNat = 48 + u := by simp [UInt8.toNat_ofNat']; omega
      omega
    · rename_i hu
      rcases List.mem_append.1 hc with q | q
      · exact ih (u / 10) (by omega) c q
      · simp only [List.mem_singleton] at q
        subst q
        have : (UInt8.ofNat (48 + u % 10)).toNat = 48 + u % 10 := by simp [UInt8.toNat_ofNat']; omega
        omega
theorem dd_len : ∀ (k u : Nat), u < 10 ^ (k + 1) → (Lib.decDigits u).length ≤ k + 1 := by
  intro k
  induction k with
  | zero =>
    intro u hu
    rw [Lib.decDigits, dif_pos (by simpa using hu)]; simp
  | succ k ih =>
    intro u hu
    rw [Lib.decDigits]
    split
    · simp
    · rw [List.length_append, List.length_singleton]
      have := ih (u / 10) (by rw [Nat.pow_succ] at hu; omega)
      omega
theorem dd_pos (u : Nat) : 1 ≤ (Lib.decDigits u).length := by
  rw [Lib.decDigits]; split
  · simp
  · rw [List.length_append, List.length_singleton]; omega
theorem decFrom_app : ∀ (l m : List UInt8) (acc : Nat), Lib.decFrom acc (l ++ m) = (Lib.decFrom acc l).bind fun n => Lib.decFrom n m := by
  intro l
  induction l with
  | nil => intro m acc; rfl
  | cons c l ih =>
    intro m acc
    rw [List.cons_append]
    simp only [Lib.decFrom]
    cases Lib.digitVal c with
    | none => rfl
    | some d => exact ih m _
theorem digitVal_of {n : Nat} (h : n < 10) : Lib.digitVal (UInt8.ofNat (48 + n)) = some n := by
  have e : (UInt8.ofNat (48 + n)).toNat = 48 + n := by simp [UInt8.toNat_ofNat']; omega
  unfold Lib.digitVal
  rw [e, if_pos (by omega)]; congr 1; omega
theorem decFrom_dd (u : Nat) : Lib.decFrom 0 (Lib.decDigits u) = some u := by
  induction u using Nat.strongRecOn with
  | ind u ih =>
    rw [Lib.decDigits]
    split
    · rename_i hu
      simp only [Lib.decFrom, digitVal_of hu]; simp
    · rename_i hu
      rw [decFrom_app, ih (u / 10) (by omega)]
      simp only [Option.bind_some, Lib.decFrom, digitVal_of (show u % 10 < 10 by omega)]
      congr 1; omega
theorem itoa_LB (n : Int) : LB (itoaB n) = Lib.itoa n := LB_mk _
theorem itoa_len {n : Int} (h : -1000000000 ≤ n ∧ n ≤ 1000000000) : (Lib.itoa n).length ≤ 11 := by
  unfold Lib.itoa
  split
  · rw [List.length_cons]; have := dd_len 9 n.natAbs (by omega); omega
  · have := dd_len 9 n.toNat (by omega); omega
theorem itoa_size {n : Int} (h : -1000000000 ≤ n ∧ n ≤ 1000000000) : (itoaB n).size ≤ 11 := by rw [← LB_len, itoa_LB]; exact itoa_len h
theorem atoi_itoa {n : Int} (h : -1000000000 ≤ n ∧ n ≤ 1000000000) : Lib.atoiAll (Lib.itoa n) = .ok n := by
  rw [Lib.atoiAll_short _ (by have := itoa_len h; omega)]
  have key : ∀ u : Nat, Lib.decNat (Lib.decDigits u) = some u := fun u => by
    unfold Lib.decNat
    have := dd_pos u
    cases hd : Lib.decDigits u with
    | nil => rw [hd] at this; simp at this
    | cons c r => simp only [List.isEmpty_cons, Bool.false_eq_true, if_false]; rw [← hd, decFrom_dd]
  unfold Lib.itoa
  split
  · rename_i hn
    show Lib.NumEnd.ofOption (Lib.atoi (45 :: Lib.decDigits n.natAbs)) = _
    simp only [Lib.atoi]
    rw [if_pos (by rfl), key]
    show Lib.NumEnd.ok (-(n.natAbs : Int)) = _
    congr 1; omega
  · rename_i hn
    have hp := dd_pos n.toNat
    have hm := dd_mem n.toNat
    have hk := key n.toNat
    cases hd : Lib.decDigits n.toNat with
    | nil => rw [hd] at hp; simp at hp
    | cons c r =>
      rw [hd] at hm hk
      have hc := hm c (by simp)
      simp only [Lib.atoi]
      rw [if_neg (by simp; intro q; rw [q] at hc; exact absurd hc.1 (by decide)), if_neg (by simp; intro q; rw [q] at hc; exact absurd hc.1 (by decide)), hk]
      show Lib.NumEnd.ok ((n.toNat : Nat) : Int) = _
      congr 1; omega
theorem num_back {n : Int} (h : -1000000000 ≤ n ∧ n ≤ 1000000000) : numB (itoaB n) = (n, true) := by
  unfold numB
  have : (itoaB n).data.toList = Lib.itoa n := itoa_LB n
  rw [this, atoi_itoa h]
theorem value_59 {a : DS0} {v : Int} (h : attrS a = 0) (hv : InDom a v) : N59 (LB (valueS a v)) := by
  obtain ⟨b1, b2, _⟩ := value_bd h hv
  unfold valueS
  rcases attr_ok h with ⟨k, h1, h2, h3⟩ | ⟨k, _⟩ | k
  · rw [if_pos k]
    have := b1 k
    have hm : atI a.2.2.1 v ByteArray.empty ∈ a.2.2.1 := by
      unfold atI; rw [getD_eq _ _ _ (by omega)]; exact List.getElem_mem _
    exact name_59 (h3 _ hm)
  · rw [if_neg (by omega), if_pos k, itoa_LB]
    intro c hc q
    unfold Lib.itoa at hc
    split at hc
    · rcases List.mem_cons.1 hc with r | r
      · rw [q] at r; exact absurd r (by decide)
      · have := dd_mem _ c r; rw [q] at this; exact absurd this.2 (by decide)
    · have := dd_mem _ c hc; rw [q] at this; exact absurd this.2 (by decide)
  · rw [if_neg (by omega), if_neg (by omega)]
    split
    · exact (by decide : ∀ c ∈ ([121, 101, 115] : List UInt8), c ≠ 59)
    · exact (by decide : ∀ c ∈ ([110, 111] : List UInt8), c ≠ 59)
theorem value_sz {a : DS0} {v : Int} (h : attrS a = 0) (hv : InDom a v) : (valueS a v).size ≤ 16 := by
  obtain ⟨b1, b2, _⟩ := value_bd h hv
  unfold valueS
  rcases attr_ok h with ⟨k, h1, h2, h3⟩ | ⟨k, _⟩ | k
  · rw [if_pos k]
    have := b1 k
    have hm : atI a.2.2.1 v ByteArray.empty ∈ a.2.2.1 := by
      unfold atI; rw [getD_eq _ _ _ (by omega)]; exact List.getElem_mem _
    exact name_sz (h3 _ hm)
  · rw [if_neg (by omega), if_pos k]; have := itoa_size (b2 k); omega
  · rw [if_neg (by omega), if_neg (by omega)]; split <;> decide
/-- The first index of a text. -/
theorem idx_T (ws : List ByteArray) (s : ByteArray) (hl : ws.length ≤ 12) : T (Idx.m54 ws s) (fun y => ∀ (i : Nat) (hi : i < ws.length), ws[i] = s → (∀ (j : Nat) (hj : j < i), ws[j]'(by omega) ≠ s) → y.1 = (i : Int)) := by
  unfold Idx.m54
  have hL := lenI_eq ws
  refine T.loop (fun q => ∃ k : Nat, k ≤ ws.length ∧ (∀ (j : Nat) (hj : j < ws.length), j < k → ws[j] ≠ s) ∧ q = (ws, s, lenI ws, (k : Int), ())) (fun q => ws.length - q.2.2.2.1.toNat) ⟨0, by omega, fun j _ h => by omega, rfl⟩ ?_
  rintro _ ⟨k, hk, hn, rfl⟩
  dsimp only
  refine T.cnd (fun hc => ?_) (fun hc => ?_) <;> simp only [iLt_T, iLt_F] at hc
  · have hlt : k < ws.length := by omega
    refine T.grd (by rw [bnd_T]; omega) ?_
    rw [at_get ws k _ hlt]
    refine T.cnd (fun hc2 => T.out ?_) (fun hc2 => T.go ⟨k + 1, by omega, ?_, ?_⟩ ?_)
    · rw [sEq_T] at hc2
      intro i hi he hj
      dsimp only
      rcases Nat.lt_trichotomy i k with r | r | r
      · exact absurd he (hn i hi r)
      · rw [r]
      · exact absurd hc2.symm (hj k r)
    · rw [sEq_F] at hc2
      intro j hj hjk
      rcases Nat.lt_or_ge j k with r | r
      · exact hn j hj r
      · obtain rfl : j = k := by omega
        exact fun q => hc2 q.symm
    · rw [iAdd64 (by omega) (by omega)]; rfl
    · dsimp only; rw [iAdd64 (by omega) (by omega)]; omega
  · refine T.out ?_
    intro i hi he
    exact absurd he (hn i hi (by omega))
theorem words_distinct {ws : List ByteArray} (h : wordsS ws = 0) (i : Nat) (hi : i < ws.length) (j : Nat) (hj : j < i) : ws[j]'(by omega) ≠ ws[i] := by
  unfold wordsS at h
  by_cases q : ws.length = 0
  · omega
  rw [if_neg q] at h
  by_cases q2 : 12 < ws.length
  · rw [if_pos q2] at h; cases h
  rw [if_neg q2] at h
  by_cases q3 : ws.all nameD = true
  · rw [if_pos q3] at h
    by_cases q4 : (List.range ws.length).any (dupW ws) = true
    · rw [if_pos q4] at h; cases h
    · intro e
      refine q4 (List.any_eq_true.2 ⟨i, List.mem_range.2 hi, ?_⟩)
      unfold dupW
      refine List.any_eq_true.2 ⟨ws[j]'(by omega), List.mem_iff_getElem.2 ⟨j, by rw [List.length_take]; omega, by rw [List.getElem_take]⟩, ?_⟩
      rw [eqB_T, getD_eq ws i _ hi]; exact e.symm
  · rw [if_neg q3] at h; cases h
theorem attr_words {a : DS0} (h : attrS a = 0) (k : a.2.1 = 1) : wordsS a.2.2.1 = 0 := by
  unfold attrS at h
  rw [if_pos k] at h
  split at h
  · cases h
  · exact h
/-- A value that is read back. -/
theorem read_ok {a : DS0} {v : Int} (h : attrS a = 0) (hv : InDom a v) : mRead a (valueS a v) = some (v, true, ()) := by
  obtain ⟨b1, b2, _⟩ := value_bd h hv
  unfold mRead
  rcases attr_ok h with ⟨k, h1, h2, h3⟩ | ⟨k, _⟩ | k
  · rw [if_pos k]
    have := b1 k
    obtain ⟨y, hy, hq⟩ := idx_T a.2.2.1 (valueS a v) h2
    have hval : valueS a v = a.2.2.1[v.toNat]'(by omega) := by unfold valueS; rw [if_pos k]; unfold atI; rw [getD_eq _ _ _ (by omega)]
    have := hq v.toNat (by omega) hval.symm (fun j hj => by rw [hval]; exact words_distinct (attr_words h k) v.toNat (by omega) j hj)
    rw [hy]
    show some (y.1, decide (0 ≤ y.1), ()) = _
    rw [this, decide_eq_true (by omega)]
    congr 2; omega
  · rw [if_neg (by omega), if_pos k]
    have hval : valueS a v = itoaB v := by unfold valueS; rw [if_neg (by omega), if_pos k]
    have := itoa_size (b2 k)
    rw [hval, if_pos (by omega), num_back (b2 k)]
  · rw [if_neg (by omega), if_neg (by omega)]
    have hd : v = 0 ∨ v = 1 := by
      unfold InDom domS at hv
      rw [if_neg (by omega), if_neg (by omega)] at hv
      dsimp only at hv; omega
    have hval : valueS a v = if v = 1 then bs [121, 101, 115] else bs [110, 111] := by unfold valueS; rw [if_neg (by omega), if_neg (by omega)]
    rw [hval]
    have e3 : (bs [121, 101, 115]).toList = [121, 101, 115] := by rw [ByteArray.toList_eq]; rfl
    have e2 : (bs [110, 111]).toList = [110, 111] := by rw [ByteArray.toList_eq]; rfl
    rcases hd with rfl | rfl
    · rw [show (if (0 : Int) = 1 then bs [121, 101, 115] else bs [110, 111]) = bs [110, 111] from rfl, e2]; rfl
    · rw [show (if (1 : Int) = 1 then bs [121, 101, 115] else bs [110, 111]) = bs [121, 101, 115] from rfl, e3]; rfl
theorem read_some {a : DS0} (h : attrS a = 0) (s : ByteArray) (hs : s.size ≤ 4000000000) : ∃ y, mRead a s = some y := by
  unfold mRead
  rcases attr_ok h with ⟨k, h1, h2, h3⟩ | ⟨k, _⟩ | k
  · rw [if_pos k]
    obtain ⟨y, hy, _⟩ := idx_T a.2.2.1 s h2
    rw [hy]; exact ⟨_, rfl⟩
  · rw [if_neg (by omega), if_pos k, if_pos hs]; exact ⟨_, rfl⟩
  · rw [if_neg (by omega), if_neg (by omega)]; split <;> exact ⟨_, rfl⟩
end Abs
end Go.Proofs.YtgkijjppdaeikaaDoor

/- Schema: texts of facts read back. -/
namespace Go.Proofs.YtgkijjppdaeikaaDoor
namespace Abs
set_option linter.unusedVariables false
set_option linter.unusedSimpArgs false
noncomputable def txtS (l : List DS0) (f : List Int) : ByteArray := joinB (partsS l f l.length) SEP
theorem fmt_ok {l : List DS0} {f : List Int} (h : validS l f = true) : fmtS l f = (txtS l f, 0, ()) := by
  unfold fmtS
  rw [if_neg (by rw [(valid_ok h).1]; simp), if_neg (by rw [h]; simp)]; rfl
theorem fmt_inv {l : List DS0} {f : List Int} (h : (fmtS l f).2.1 = 0) : validS l f = true ∧ (fmtS l f).1 = txtS l f := by
  unfold fmtS at h ⊢
  by_cases q : valS l ≠ 0
  · rw [if_pos q] at h; exact absurd h q
  rw [if_neg q] at h ⊢
  by_cases r : validS l f = false
  · rw [if_pos r] at h; cases h
  · rw [if_neg r]; exact ⟨by simpa using r, rfl⟩
noncomputable def RJ (l : List DS0) (f : List Int) (i : Nat) : List UInt8 := Lib.join (((partsS l f l.length).drop i).map LB) [59, 32]
theorem RJ_zero (l : List DS0) (f : List Int) : LB (txtS l f) = RJ l f 0 := by unfold txtS joinB RJ; rw [LB_mk]; rfl
theorem RJ_end (l : List DS0) (f : List Int) : RJ l f l.length = [] := by
  unfold RJ; rw [List.drop_eq_nil_of_le (by rw [parts_len]; omega)]; rfl
theorem parts_get (l : List DS0) (f : List Int) (n i : Nat) (h : i < (partsS l f n).length) : (partsS l f n)[i] = partS (l.getD i zA) (f.getD i 0) := by
  have hn : i < n := by rw [parts_len] at h; exact h
  have : (partsS l f n)[i]? = some (partS (l.getD i zA) (f.getD i 0)) := by unfold partsS; rw [List.getElem?_map, List.getElem?_range hn]; rfl
  rw [List.getElem?_eq_getElem h] at this; exact Option.some.inj this
theorem RJ_step (l : List DS0) (f : List Int) (i : Nat) (h : i < l.length) : RJ l f i = LB (partS l[i] (f.getD i 0)) ++ (if i + 1 < l.length then 59 :: 32 :: RJ l f (i + 1) else []) := by
  have hp : i < (partsS l f l.length).length := by rw [parts_len]; exact h
  unfold RJ
  rw [List.drop_eq_getElem_cons hp, List.map_cons, Lib.join_cons, parts_get, getD_eq l i zA h]
  congr 1
  split
  · rename_i h2
    have hp2 : i + 1 < (partsS l f l.length).length := by rw [parts_len]; exact h2
    rw [List.drop_eq_getElem_cons hp2, List.map_cons, Lib.join_cons]
    simp [Lib.joinTail]
  · rw [List.drop_eq_nil_of_le (by rw [parts_len]; omega)]; rfl
theorem take_set_succ : ∀ (g : List Int) (i : Nat) (v : Int), i < g.length → (g.set i v).take (i + 1) = g.take i ++ [v]
  | _ :: g, 0, v, h => rfl
  | x :: g, i + 1, v, h => by
    have := take_set_succ g i v (by simpa using h)
    rw [List.set_cons_succ, List.take_succ_cons, this]; rfl
theorem take_getD (f : List Int) (i : Nat) (h : i < f.length) : f.take (i + 1) = f.take i ++ [f.getD i 0] := by
  rw [List.take_succ_eq_append_getElem h, List.getD_eq_getElem?_getD, List.getElem?_eq_getElem h]; rfl
theorem part_59 {a : DS0} {v : Int} (hn : nameD a.1 = true) (h : attrS a = 0) (hv : InDom a v) : N59 (LB (partS a v)) := by
  rw [part_LB]
  intro c hc
  rcases List.mem_append.1 hc with q | q
  · rcases List.mem_append.1 q with r | r
    · exact name_59 hn c r
    · simp only [List.mem_singleton] at r; rw [r]; decide
  · exact value_59 h hv c q
/-- The program's Parse. -/
def Reads (l : List DS0) (text : ByteArray) (y : List Int × Int × Unit) : Prop := ((∃ f, validS l f = true ∧ txtS l f = text ∧ y = (f, 0, ())) ∨ y = ([], 5, ())) ∧ ∀ f, validS l f = true → txtS l f = text → y = (f, 0, ())
theorem parse_m (l : List DS0) (hv : valS l = 0) (text : ByteArray) (ht : text.size ≤ 4000000000) : T (m21 (l, ()) text) (Reads l text) := by
  obtain ⟨v1, v2, v3⟩ := val_ok hv
  unfold m21
  have hL := lenI_eq l
  refine T.callE (val_m (l, ())) ?_
  dsimp only
  refine T.cf (by rw [iNe_F]; exact hv) ?_
  refine T.grd (by rw [fitsI_T]; omega) ?_
  refine T.loop (fun q => ∃ (i : Nat) (rest : ByteArray) (g : List Int), i ≤ l.length ∧ rest.size ≤ text.size ∧ g.length = l.length ∧ (∀ f, validS l f = true → txtS l f = text → g.take i = f.take i ∧ LB rest = RJ l f i) ∧ q = (text, rest, l, lenI l, (i : Int), l, g, ())) (fun q => l.length - q.2.2.2.2.1.toNat) ⟨0, text, _, by omega, by omega, ?_, ?_, rfl⟩ ?_
  · rw [List.length_replicate]; omega
  · intro f h1 h2; exact ⟨rfl, by rw [← h2, RJ_zero]⟩
  rintro _ ⟨i, rest, g, hi, hr, hg, hf, rfl⟩
  dsimp only
  have hLg := lenI_eq g
  refine T.cnd (fun hc => ?_) (fun hc => ?_) <;> simp only [iLt_T, iLt_F] at hc
  · have hlt : i < l.length := by omega
    refine T.grd (by rw [bnd_T]; omega) ?_
    rw [at_get l i _ hlt]
    have ha := v3 _ (List.getElem_mem hlt)
    have hn := name_sz ha.1
    refine T.callE (show mCut rest (bs [59, 32]) = some (scutB rest (bs [59, 32])) by unfold mCut; rw [if_pos (by omega)]) ?_
    refine T.grd (sFits_t (by have : (bs [61]).size = 1 := rfl; omega)) ?_
    refine T.callE (show mTrim (scutB rest (bs [59, 32])).1 (sCat l[i].1 (bs [61])) = some (trimB (scutB rest (bs [59, 32])).1 (sCat l[i].1 (bs [61])), ()) from rfl) ?_
    dsimp only
    obtain ⟨c1, c2⟩ := cut_le (LB rest) [59, 32]
    have hcut1 : LB (scutB rest (bs [59, 32])).1 = (Lib.cut (LB rest) [59, 32]).1 := LB_mk _
    have hcut2 : LB (scutB rest (bs [59, 32])).2.1 = (Lib.cut (LB rest) [59, 32]).2.1 := LB_mk _
    obtain ⟨p, r, hfound⟩ : ∃ p r, (scutB rest (bs [59, 32])).1 = p ∧ (scutB rest (bs [59, 32])).2.1 = r := ⟨_, _, rfl, rfl⟩
    rw [hfound.1] at hcut1 ⊢
    rw [hfound.2] at hcut2 ⊢
    have htrim : LB (trimB p (sCat l[i].1 (bs [61]))) = Lib.trimPrefix (LB p) (LB l[i].1 ++ [61]) := by
      unfold trimB; rw [LB_mk]
      show Lib.trimPrefix (LB p) (LB (sCat l[i].1 (bs [61]))) = _
      rw [LB_cat, LB_bs]
    have hps : p.size ≤ text.size := by have := LB_len p; rw [hcut1] at this; have := LB_len rest; omega
    have hrs : r.size ≤ text.size := by have := LB_len r; rw [hcut2] at this; have := LB_len rest; omega
    have hts : (trimB p (sCat l[i].1 (bs [61]))).size ≤ 4000000000 := by
      rw [← LB_len, htrim]
      have := Lib.trimPrefix_le (LB p) (LB l[i].1 ++ [61])
      have := LB_len p; omega
    obtain ⟨y, hy⟩ := read_some ha.2 _ hts
    refine T.callE hy ?_
    have key : ∀ f, validS l f = true → txtS l f = text → y = (f.getD i 0, true, ()) ∧ LB r = RJ l f (i + 1) := by
      intro f h1 h2
      obtain ⟨_, g2⟩ := hf f h1 h2
      have hd := (valid_ok h1).2.2 i hlt
      have h59 := part_59 ha.1 ha.2 hd
      rw [RJ_step l f i hlt] at g2
      have hcc : (Lib.cut (LB rest) [59, 32]).1 = LB (partS l[i] (f.getD i 0)) ∧ (Lib.cut (LB rest) [59, 32]).2.1 = RJ l f (i + 1) := by
        rw [g2]
        by_cases q : i + 1 < l.length
        · rw [if_pos q, cut_hit _ _ h59]; exact ⟨rfl, rfl⟩
        · rw [if_neg q, List.append_nil, cut_miss _ h59, show i + 1 = l.length by omega, RJ_end]; exact ⟨rfl, rfl⟩
      rw [hcc.1] at hcut1
      rw [hcc.2] at hcut2
      refine ⟨?_, hcut2⟩
      rw [hcut1, part_LB, trim_hit] at htrim
      rw [LB_inj htrim, read_ok ha.2 hd] at hy
      exact (Option.some.inj hy).symm
    refine T.cnd (fun c3 => T.out ⟨.inr rfl, fun f h1 h2 => ?_⟩) (fun c3 => ?_) <;> simp only [not_T, not_F] at c3
    · rw [(key f h1 h2).1] at c3; cases c3
    · refine T.grd (by rw [bnd_T]; omega) (T.grd (by rw [inB_T]; omega) (T.go ⟨i + 1, r, g.set i y.1, by omega, hrs, by rw [List.length_set]; exact hg, fun f h1 h2 => ⟨?_, (key f h1 h2).2⟩, ?_⟩ ?_))
      · have hfl := (valid_ok h1).2.1
        rw [take_set_succ g i y.1 (by omega), take_getD f i (by omega), (hf f h1 h2).1, (key f h1 h2).1]
      · rw [iAdd64 (by omega) (by omega), Int.toNat_natCast]; rfl
      · dsimp only; rw [iAdd64 (by omega) (by omega)]; omega
  · obtain rfl : i = l.length := by omega
    refine T.mapL ?_
    refine T.callE (fmt_m (l, ()) g (by omega)) ?_
    have all : ∀ f, validS l f = true → txtS l f = text → g = f := fun f h1 h2 => by
      have := (hf f h1 h2).1
      rw [List.take_of_length_le (by omega), List.take_of_length_le (by rw [(valid_ok h1).2.1]; omega)] at this
      exact this
    refine T.cnd (fun c4 => T.ret ⟨.inr rfl, fun f h1 h2 => ?_⟩) (fun c4 => T.ret ?_) <;> simp only [corT_T, corT_F, iNe_T, iNe_F, not_T, not_F, sEq_T, sEq_F] at c4
    · rw [all f h1 h2, fmt_ok h1] at c4
      rcases c4 with q | q
      · exact absurd rfl q
      · exact absurd h2 q
    · obtain ⟨k1, k2⟩ := fmt_inv c4.1
      refine ⟨.inl ⟨g, k1, by rw [← k2]; exact c4.2, rfl⟩, fun f h1 h2 => ?_⟩
      rw [all f h1 h2]
theorem itoa_cases (v : Int) : (v < 0 ∧ LB (itoaB v) = 45 :: Lib.decDigits v.natAbs) ∨ (0 ≤ v ∧ LB (itoaB v) = Lib.decDigits v.natAbs) := by
  rw [itoa_LB]; unfold Lib.itoa
  by_cases h : v < 0
  · rw [if_pos h]; exact .inl ⟨h, rfl⟩
  · rw [if_neg h, show v.toNat = v.natAbs by omega]; exact .inr ⟨by omega, rfl⟩
theorem num_loop {a : DS0} (s d : ByteArray) (c2 : 1 ≤ (d.size : Int) ∧ (d.size : Int) ≤ 10) (hval : ∀ v, valueS a v = itoaB v) (hd : ∀ v, InDom a v → valueS a v = s → Lib.decFrom 0 (LB d) = some v.natAbs ∧ (d = s → 0 ≤ v) ∧ (¬ d = s → v < 0)) : T (loopO (S := ByteArray × ByteArray × Int × Int × Unit) (R := Int × Bool × Unit) (fun s260 =>
 cond (iLt s260.2.2.2.1 (sLen s260.2.1))
 (cond (bnd s260.2.2.2.1 (sLen s260.2.1))
 ((m57 (sAt s260.2.1 s260.2.2.2.1)).bind fun y261 =>
 cond (not y261.1)
 (some (.inr (0, false, ())))
 (cond (bnd s260.2.2.2.1 (sLen s260.2.1))
 (some (.inl (s260.1, s260.2.1, iAdd .i64 (iMul .i64 10 s260.2.2.1) (IntKind.wrap .i64 (iSub .u8 (sAt s260.2.1 s260.2.2.2.1) 48)), iAdd .i64 s260.2.2.2.1 1, ()))) none)) none)
 (Option.map Sum.inr (cond (not (sEq s260.2.1 s260.1))
 ((m35 (iNeg .i64 s260.2.2.1)).bind fun y262 =>
 some (iNeg .i64 s260.2.2.1, sEq y262.1 s260.1, ()))
 ((m35 s260.2.2.1).bind fun y263 =>
 some (s260.2.2.1, sEq y263.1 s260.1, ())))))
 (s, d, 0, 0, ())) (fun y => (y.2.1 = true → valueS a y.1 = s) ∧ ∀ v, InDom a v → valueS a v = s → y = (v, true, ())) := by
      refine T.loop (fun q => ∃ (k n : Nat), k ≤ d.size ∧ Lib.decFrom 0 ((LB d).take k) = some n ∧ n < 10 ^ k ∧ q = (s, d, (n : Int), (k : Int), ())) (fun q => d.size - q.2.2.2.1.toNat) ⟨0, 0, by omega, rfl, by decide, rfl⟩ ?_
      rintro _ ⟨k, n, hk, hn, hlt, rfl⟩
      dsimp only
      have h10 : 10 ^ k ≤ 10 ^ 10 := Nat.pow_le_pow_right (by decide) (by omega)
      refine T.cnd (fun hc => ?_) (fun hc => ?_) <;> simp only [iLt_T, iLt_F, sLen_eq] at hc
      · have hkl : k < (LB d).length := by rw [LB_len]; omega
        refine T.grd (by rw [bnd_T, sLen_eq]; omega) ?_
        rw [LB_at d k hkl]
        have hstep : Lib.decFrom 0 ((LB d).take (k + 1)) = Lib.decFrom n [(LB d)[k]] := by rw [List.take_succ_eq_append_getElem hkl, decFrom_app, hn]; rfl
        refine T.callE (dig_r _) ?_
        dsimp only
        refine T.cnd (fun c2 => T.out ⟨fun q => (by cases q), fun v h1 h2 => ?_⟩) (fun c2 => ?_) <;> simp only [not_T, not_F] at c2
        · exfalso
          have h3 := (hd v h1 h2).1
          have h4 : Lib.decFrom 0 ((LB d).take (k + 1) ++ (LB d).drop (k + 1)) = some v.natAbs := by rw [List.take_append_drop]; exact h3
          rw [decFrom_app, hstep] at h4
          unfold Lib.decFrom Lib.digitVal at h4
          unfold isDig at c2
          rw [decide_eq_false_iff_not] at c2
          rw [if_neg (by omega)] at h4
          cases h4
        · unfold isDig at c2
          rw [decide_eq_true_eq] at c2
          refine T.grd (by rw [bnd_T, sLen_eq]; omega) (T.go ⟨k + 1, n * 10 + ((LB d)[k].toNat - 48), by omega, ?_, ?_, ?_⟩ ?_)
          · rw [hstep]
            simp only [Lib.decFrom, Lib.digitVal]
            rw [if_pos (by omega)]
          · rw [Nat.pow_succ]; omega
          · have e1 : iSub .u8 ((LB d)[k].toNat : Int) 48 = ((LB d)[k].toNat : Int) - 48 := by unfold iSub; rw [wrap8_T (by omega) (by omega)]
            rw [e1, wrap64_T (by omega) (by omega), iMul64 (by omega) (by omega), iAdd64 (by omega) (by omega), iAdd64 (by omega) (by omega)]
            have : 10 * (n : Int) + (((LB d)[k].toNat : Int) - 48) = ((n * 10 + ((LB d)[k].toNat - 48) : Nat) : Int) := by omega
            rw [this]; rfl
          · dsimp only; rw [iAdd64 (by omega) (by omega)]; omega
      · obtain rfl : k = d.size := by omega
        rw [List.take_of_length_le (by rw [LB_len]; omega)] at hn
        refine T.mapL ?_
        have en : iNeg .i64 (n : Int) = -(n : Int) := by unfold iNeg; rw [wrap64 (by omega) (by omega)]; omega
        rw [en]
        refine T.cnd (fun c3 => ?_) (fun c3 => ?_) <;> simp only [not_T, not_F, sEq_T, sEq_F] at c3
        · refine T.callE (dec_m _ (by omega)) (T.ret ⟨fun q => ?_, fun v h1 h2 => ?_⟩)
          · dsimp only at q ⊢
            rw [sEq_T] at q
            rw [hval, q]
          · obtain ⟨a1, a2, a3⟩ := hd v h1 h2
            rw [hn] at a1
            have a1 := Option.some.inj a1
            have := a3 c3
            have ev : -(n : Int) = v := by omega
            rw [ev, show sEq (itoaB v) s = true by rw [sEq_T, ← hval, h2]]
        · refine T.callE (dec_m _ (by omega)) (T.ret ⟨fun q => ?_, fun v h1 h2 => ?_⟩)
          · dsimp only at q ⊢
            rw [sEq_T] at q
            rw [hval, q]
          · obtain ⟨a1, a2, a3⟩ := hd v h1 h2
            rw [hn] at a1
            have a1 := Option.some.inj a1
            have := a2 c3
            have ev : (n : Int) = v := by omega
            rw [ev, show sEq (itoaB v) s = true by rw [sEq_T, ← hval, h2]]
theorem val_T (a : DS0) (h : attrS a = 0) (s : ByteArray) (hs : s.size ≤ 4000000000) : T (m39 a s) (fun y => (y.2.1 = true → valueS a y.1 = s) ∧ ∀ v, InDom a v → valueS a v = s → y = (v, true, ())) := by
  unfold m39
  have hS := sLen_eq s
  refine T.cnd (fun k1 => ?_) (fun k1 => ?_) <;> simp only [iEq_T, iEq_F] at k1
  · have hvs : ∀ v, valueS a v = atI a.2.2.1 v ByteArray.empty := fun v => by unfold valueS; rw [if_pos k1]
    have hw := attr_words h k1
    obtain ⟨w1, w2, _⟩ := words_len hw
    have hL := lenI_eq a.2.2.1
    generalize hws : a.2.2.1 = ws at hw w1 w2 hL hvs
    refine T.loop (fun q => ∃ k : Nat, k ≤ ws.length ∧ (∀ (j : Nat) (hj : j < ws.length), j < k → ws[j] ≠ s) ∧ q = (s, (k : Int), a.1, a.2.1, ws, a.2.2.2.1, a.2.2.2.2.1, ())) (fun q => ws.length - q.2.1.toNat) ⟨0, by omega, fun j _ h => by omega, rfl⟩ ?_
    rintro _ ⟨k, hk, hn, rfl⟩
    dsimp only
    have dom : ∀ v, InDom a v → 0 ≤ v ∧ v < ws.length := fun v hv => by
      unfold InDom domS at hv; rw [if_pos k1, hws] at hv; dsimp only at hv; omega
    refine T.cnd (fun hc => ?_) (fun hc => ?_) <;> simp only [iLt_T, iLt_F] at hc
    · have hlt : k < ws.length := by omega
      refine T.grd (by rw [bnd_T]; omega) ?_
      rw [at_get ws k _ hlt]
      refine T.cnd (fun c2 => T.out ?_) (fun c2 => T.go ⟨k + 1, by omega, ?_, ?_⟩ ?_)
      · rw [sEq_T] at c2
        refine ⟨fun _ => by rw [hvs]; dsimp only; rw [at_get ws k _ hlt]; exact c2, fun v h1 h2 => ?_⟩
        have hd := dom v h1
        rw [hvs, show v = ((v.toNat : Nat) : Int) by omega, at_get ws v.toNat _ (by omega)] at h2
        rcases Nat.lt_trichotomy v.toNat k with r | r | r
        · exact absurd h2 (hn _ _ r)
        · rw [← r, show ((v.toNat : Nat) : Int) = v by omega]
        · exact absurd (c2.trans h2.symm) (words_distinct hw v.toNat (by omega) k r)
      · rw [sEq_F] at c2
        intro j hj hjk
        rcases Nat.lt_or_ge j k with r | r
        · exact hn j hj r
        · obtain rfl : j = k := by omega
          exact c2
      · rw [iAdd64 (by omega) (by omega)]; rfl
      · dsimp only; rw [iAdd64 (by omega) (by omega)]; omega
    · refine T.out ⟨fun q => (by cases q), fun v h1 h2 => ?_⟩
      have hd := dom v h1
      rw [hvs, show v = ((v.toNat : Nat) : Int) by omega, at_get ws v.toNat _ (by omega)] at h2
      exact absurd h2 (hn _ _ (by omega))
  refine T.cnd (fun k2 => ?_) (fun k2 => ?_) <;> simp only [iEq_T, iEq_F] at k2
  · have hval : ∀ v, valueS a v = itoaB v := fun v => by unfold valueS; rw [if_neg k1, if_pos k2]
    have dom : ∀ v, InDom a v → -1000000000 ≤ v ∧ v ≤ 1000000000 := fun v hv => (value_bd h hv).2.1 k2
    have ddl : ∀ v : Int, (-1000000000 ≤ v ∧ v ≤ 1000000000) → (Lib.decDigits v.natAbs).length ≤ 10 := fun v hv => dd_len 9 v.natAbs (by omega)
    have hb : ∀ v, InDom a v → valueS a v = s → (v < 0 ∧ LB s = 45 :: Lib.decDigits v.natAbs) ∨ (0 ≤ v ∧ LB s = Lib.decDigits v.natAbs) := fun v h1 h2 => by
      rw [hval] at h2
      have := itoa_cases v
      rw [h2] at this
      exact this
    refine T.grd (by rw [or_T, bnd_T, not_T, bEqT_F, iLt_F]; omega) ?_
    refine T.cnd (fun c1 => ?_) (fun c1 => ?_) <;> simp only [candF_T, candF_F, iLt_T, iLt_F, iEq_T, iEq_F] at c1
    · refine T.grd (by rw [cutOk_T]; omega) ?_
      obtain ⟨d, hdd⟩ : ∃ d, cutS 1 ((ByteArray.size s : Nat) : Int) s = d := ⟨_, rfl⟩
      rw [hdd]
      have hdL : LB d = (LB s).drop 1 := by
        rw [← hdd, LB_cut, List.take_of_length_le (by rw [LB_len]; omega)]; rfl
      have hdz : d.size = s.size - 1 := by rw [← LB_len, hdL, List.length_drop, LB_len]
      have neg : ∀ v, InDom a v → valueS a v = s → v < 0 ∧ LB d = Lib.decDigits v.natAbs := fun v h1 h2 => by
        rcases hb v h1 h2 with ⟨q1, q2⟩ | ⟨q1, q2⟩
        · exact ⟨q1, by rw [hdL, q2]; rfl⟩
        · exfalso
          have hp : 0 < (LB s).length := by rw [LB_len]; omega
          have h45 := LB_at s 0 hp
          rw [show ((0 : Nat) : Int) = 0 from rfl, c1.2] at h45
          have hm := dd_mem v.natAbs (LB s)[0] (by rw [← q2]; exact List.getElem_mem _)
          omega
      refine T.cnd (fun c2 => T.ret ⟨fun q => (by cases q), fun v h1 h2 => ?_⟩) (fun c2 => ?_) <;> simp only [corT_T, corT_F, iLt_T, iLt_F, sLen_eq] at c2
      · exfalso
        obtain ⟨q1, q2⟩ := neg v h1 h2
        have e := LB_len d
        rw [q2] at e
        have := dd_pos v.natAbs
        have := ddl v (dom v h1)
        omega
      have hne : d ≠ s := fun q => by rw [q] at hdz; omega
      have hd : ∀ v, InDom a v → valueS a v = s → Lib.decFrom 0 (LB d) = some v.natAbs ∧ (d = s → 0 ≤ v) ∧ (¬ d = s → v < 0) := fun v h1 h2 => by
        obtain ⟨q1, q2⟩ := neg v h1 h2
        exact ⟨by rw [q2, decFrom_dd], fun q => absurd q hne, fun _ => q1⟩
      exact num_loop s d c2 hval hd
    · have pos : ∀ v, InDom a v → valueS a v = s → 0 ≤ v ∧ LB s = Lib.decDigits v.natAbs := fun v h1 h2 => by
        rcases hb v h1 h2 with ⟨q1, q2⟩ | ⟨q1, q2⟩
        · exfalso
          have hl : 0 < (LB s).length := by rw [q2]; simp
          have hz := LB_len s
          have h45 := LB_at s 0 hl
          have e0 : (LB s)[0] = 45 := by simp only [q2]; rfl
          rw [e0] at h45
          rcases c1 with r | r
          · omega
          · exact r h45
        · exact ⟨q1, q2⟩
      refine T.cnd (fun c2 => T.ret ⟨fun q => (by cases q), fun v h1 h2 => ?_⟩) (fun c2 => ?_) <;> simp only [corT_T, corT_F, iLt_T, iLt_F, sLen_eq] at c2
      · exfalso
        obtain ⟨q1, q2⟩ := pos v h1 h2
        have e := LB_len s
        rw [q2] at e
        have := dd_pos v.natAbs
        have := ddl v (dom v h1)
        omega
      have hd : ∀ v, InDom a v → valueS a v = s → Lib.decFrom 0 (LB s) = some v.natAbs ∧ (s = s → 0 ≤ v) ∧ (¬ s = s → v < 0) := fun v h1 h2 => by
        obtain ⟨q1, q2⟩ := pos v h1 h2
        exact ⟨by rw [q2, decFrom_dd], fun _ => q1, fun q => absurd rfl q⟩
      refine num_loop s s c2 hval ?_
      exact hd
  · have hvs : ∀ v, valueS a v = if v = 1 then bs [121, 101, 115] else bs [110, 111] := fun v => by unfold valueS; rw [if_neg k1, if_neg k2]
    have hd : ∀ v, InDom a v → v = 0 ∨ v = 1 := fun v hv => by
      unfold InDom domS at hv
      rw [if_neg k1, if_neg k2] at hv
      dsimp only at hv; omega
    refine T.ret ⟨fun q => ?_, fun v h1 h2 => ?_⟩
    · dsimp only at q ⊢
      rw [corT_T, sEq_T, sEq_T] at q
      rcases q with rfl | rfl
      · rw [hvs]; rfl
      · rw [hvs]; rfl
    · rcases hd v h1 with rfl | rfl
      · rw [← h2, hvs, if_neg (by decide)]
        have : cond (sEq (bs [110, 111]) (bs [121, 101, 115])) true (sEq (bs [110, 111]) (bs [110, 111])) = true := by rw [corT_T]; right; rw [sEq_T]
        rw [this]; rfl
      · rw [← h2, hvs, if_pos rfl]
        have : cond (sEq (bs [121, 101, 115]) (bs [121, 101, 115])) true (sEq (bs [121, 101, 115]) (bs [110, 111])) = true := by rw [corT_T]; left; rw [sEq_T]
        rw [this]; rfl
end Abs
end Go.Proofs.YtgkijjppdaeikaaDoor

/- Schema: SchemaBack, SchemaParse. -/
namespace Go.Proofs.YtgkijjppdaeikaaDoor
namespace Abs
set_option linter.unusedVariables false
set_option linter.unusedSimpArgs false
theorem RJ_step' (l : List DS0) (f : List Int) (i : Nat) (h : i < l.length) : (if i = 0 then RJ l f 0 else if i < l.length then 59 :: 32 :: RJ l f i else []) = (if i = 0 then [] else [59, 32]) ++ (LB (partS l[i] (f.getD i 0)) ++ (if i + 1 < l.length then 59 :: 32 :: RJ l f (i + 1) else [])) := by
  by_cases q : i = 0
  · subst q; rw [if_pos rfl, if_pos rfl, RJ_step l f 0 h]; rfl
  · rw [if_neg q, if_neg q, if_pos h, RJ_step l f i h]; rfl
theorem pre_RJ (l : List DS0) (f : List Int) : ∀ i, i ≤ l.length → LB (txtS l f) = LB (joinB (partsS l f i) SEP) ++ (if i = 0 then RJ l f 0 else if i < l.length then 59 :: 32 :: RJ l f i else []) := by
  intro i
  induction i with
  | zero => intro _; rw [if_pos rfl, RJ_zero]; rfl
  | succ i ih =>
    intro hi
    rw [ih (by omega), RJ_step' l f i (by omega), if_neg (Nat.succ_ne_zero i), parts_succ, join_snoc, getD_eq l i zA (by omega)]
    have hpe : (partsS l f i = []) = (i = 0) := by
      apply propext; constructor
      · intro q; have := parts_len l f i; rw [q] at this; exact this.symm
      · intro q; subst q; rfl
    simp only [hpe]
    by_cases q : i = 0
    · subst q; rw [if_pos rfl, if_pos rfl]; simp [partsS, join_nil, LB_bs]
    · rw [if_neg q, if_neg q, LB_cat, LB_cat]; simp [SEP, LB_bs, List.append_assoc]
theorem parts_congr (l : List DS0) (i : Nat) {f g : List Int} (h : g = f.take i) : partsS l g i = partsS l f i := by
  unfold partsS
  refine List.map_congr_left fun j hj => ?_
  have hj := List.mem_range.1 hj
  rw [h, List.getD_eq_getElem?_getD (l := List.take i f), List.getElem?_take, if_pos hj, ← List.getD_eq_getElem?_getD (l := f)]
theorem parts_snoc (l : List DS0) (g : List Int) (i : Nat) (v : Int) (hg : g.length = i) (hi : i < l.length) : partsS l (g ++ [v]) (i + 1) = partsS l g i ++ [partS l[i] v] := by
  rw [parts_succ, getD_eq l i zA hi]
  congr 1
  · exact (parts_congr l i (by rw [List.take_left' hg])).symm
  · rw [List.getD_eq_getElem?_getD, List.getElem?_append_right (by omega), hg, Nat.sub_self]; rfl
theorem parse_r (l : List DS0) (hv : valS l = 0) (text : ByteArray) (ht : text.size ≤ 4000000000) : T (m23 (l, ()) text) (Reads l text) := by
  obtain ⟨v1, v2, v3⟩ := val_ok hv
  unfold m23
  have hL := lenI_eq l
  have hS := sLen_eq text
  refine T.callE (val_r (l, ())) ?_
  dsimp only
  refine T.cf (by rw [iNe_F]; exact hv) ?_
  refine T.loop (fun q => ∃ (i at_ : Nat) (g : List Int), i ≤ l.length ∧ at_ ≤ text.size ∧ g.length = i ∧ (LB text).take at_ = LB (joinB (partsS l g i) SEP) ∧ (∀ f, validS l f = true → txtS l f = text → g = f.take i) ∧ q = (text, (at_ : Int), (i : Int), l, g, ())) (fun q => l.length - q.2.2.1.toNat) ⟨0, 0, [], by omega, by omega, rfl, rfl, fun f _ _ => rfl, rfl⟩ ?_
  rintro _ ⟨i, at_, g, hi, hat, hg, htk, hf, rfl⟩
  dsimp only
  refine T.cnd (fun hc => ?_) (fun hc => ?_) <;> simp only [iLt_T, iLt_F] at hc
  · have hlt : i < l.length := by omega
    refine T.grd (by rw [bnd_T]; omega) ?_
    rw [at_get l i _ hlt]
    have ha := v3 _ (List.getElem_mem hlt)
    have hn := name_sz ha.1
    have s61 : (bs [61]).size = 1 := rfl
    have s2 : (bs [59, 32]).size = 2 := rfl
    refine T.grd (sFits_t (by omega)) ?_
    refine T.cnd (fun c0 => ?_) (fun c0 => ?_) <;> simp only [iLt_T, iLt_F] at c0
    · refine T.grd (sFits_t (by rw [cat_size]; omega)) ?_
      have hH : LB (sCat (bs [59, 32]) (sCat l[i].1 (bs [61]))) = (if i = 0 then [] else [59, 32]) ++ (LB l[i].1 ++ [61]) := by rw [if_neg (by omega), LB_cat, LB_cat, LB_bs, LB_bs]
      generalize sCat (bs [59, 32]) (sCat l[i].1 (bs [61])) = H at hH ⊢
      have hHs : H.size ≤ 20 := by rw [← LB_len, hH, List.length_append, List.length_append, LB_len]; split <;> simp <;> omega
      have hHl := sLen_eq H
      have good : ∀ f, validS l f = true → txtS l f = text → ∃ tl, (tl = [] ∨ ∃ r, tl = 59 :: r) ∧ LB text = (LB text).take at_ ++ (LB H ++ (LB (valueS l[i] (f.getD i 0)) ++ tl)) := by
        intro f h1 h2
        refine ⟨if i + 1 < l.length then 59 :: 32 :: RJ l f (i + 1) else [], by split; exact .inr ⟨_, rfl⟩; exact .inl rfl, ?_⟩
        have e := pre_RJ l f i (by omega)
        rw [htk, parts_congr l i (hf f h1 h2), hH, ← h2, e, RJ_step' l f i hlt, part_LB]
        simp only [List.append_assoc]
      have htl : ((LB text).take at_).length = at_ := by rw [List.length_take, LB_len]; omega
      refine T.grd (by
        rw [or_T, not_T, bEqF_F, iLt_T, cutOk_T, hHl, hS]
        by_cases q : (text.size : Int) - at_ < H.size
        · right; rw [iSub64 (by omega) (by omega)]; exact q
        · left; rw [iAdd64 (by omega) (by omega)]; omega) ?_
      rw [hHl, hS, iSub64 (by omega) (by omega), iAdd64 (by omega) (by omega)]
      refine T.cnd (fun c1 => T.out ⟨.inr rfl, fun f h1 h2 => ?_⟩) (fun c1 => ?_) <;> simp only [corT_T, corT_F, iLt_T, iLt_F, not_T, not_F, sEq_T, sEq_F] at c1
      · exfalso
        obtain ⟨tl, _, e⟩ := good f h1 h2
        have el := congrArg List.length e
        rw [List.length_append, htl, List.length_append, LB_len, LB_len] at el
        rcases c1 with q | q
        · omega
        · refine q (LB_inj ?_)
          rw [LB_cut, e, show ((at_ : Int) + (H.size : Int)).toNat = at_ + H.size by omega, Int.toNat_natCast]
          rw [← List.append_assoc, List.take_append_of_le_length (by rw [List.length_append, htl, LB_len]; omega), List.take_of_length_le (by rw [List.length_append, htl, LB_len]; omega)]
          rw [List.drop_append_of_le_length (by omega), List.drop_eq_nil_of_le (by omega), List.nil_append]
      obtain ⟨st, hst⟩ : ∃ st : Nat, st = at_ + H.size := ⟨_, rfl⟩
      have hstI : (at_ : Int) + (H.size : Int) = (st : Int) := by omega
      rw [hstI] at c1 ⊢
      have hstk : (LB text).take st = (LB text).take at_ ++ LB H := by
        have h9 := congrArg LB c1.2
        rw [LB_cut, Int.toNat_natCast, Int.toNat_natCast] at h9
        rw [← h9, hst]
        have : (LB text).take at_ = ((LB text).take (at_ + H.size)).take at_ := by rw [List.take_take, Nat.min_eq_left (by omega)]
        rw [this, List.take_append_drop]
      have hstl : ((LB text).take st).length = st := by rw [List.length_take, LB_len]; omega
      refine T.loop (fun q => ∃ to : Nat, st ≤ to ∧ to ≤ text.size ∧ (∀ (j : Nat) (hj : j < (LB text).length), st ≤ j → j < to → (LB text)[j] ≠ 59) ∧ q = (text, (st : Int), (i : Int), (to : Int), l, g, l[i].1, l[i].2.1, l[i].2.2.1, l[i].2.2.2.1, l[i].2.2.2.2.1, ())) (fun q => text.size - q.2.2.2.1.toNat) ⟨st, by omega, by omega, fun j _ h1 h2 => by omega, rfl⟩ ?_
      rintro _ ⟨to, hto1, hto2, hno, rfl⟩
      dsimp only
      rw [hS]
      refine T.grd (by rw [or_T, not_T, bEqT_F, bnd_T, iLt_F]; omega) ?_
      refine T.cnd (fun c2 => T.go ⟨to + 1, by omega, ?_, ?_, ?_⟩ ?_) (fun c2 => ?_) <;> simp only [candF_T, candF_F, iLt_T, iLt_F, iNe_T, iNe_F] at c2
      · omega
      · intro j hj h1 h2
        rcases Nat.lt_or_ge j to with r | r
        · exact hno j hj h1 r
        · obtain rfl : j = to := by omega
          have := c2.2
          rw [LB_at text j hj] at this
          intro q; rw [q] at this; exact this rfl
      · rw [iAdd64 (by omega) (by omega)]; rfl
      · dsimp only; rw [iAdd64 (by omega) (by omega)]; omega
      · have hend : to = text.size ∨ ∃ h : to < (LB text).length, (LB text)[to] = 59 := by
          have hz := LB_len text
          rcases c2 with q | q
          · exact .inl (by omega)
          · by_cases r : to < (LB text).length
            · rw [LB_at text to r] at q
              exact .inr ⟨r, UInt8.toNat_inj.1 (by have : ((LB text)[to].toNat : Int) = 59 := q; show _ = 59; omega)⟩
            · exact .inl (by omega)
        refine T.mapL ?_
        refine T.grd (by rw [cutOk_T]; omega) ?_
        have ew : ((l[i].1, l[i].2.1, l[i].2.2.1, l[i].2.2.2.1, l[i].2.2.2.2.1, ()) : DS0) = l[i] := rfl
        rw [ew]
        have hcutL : LB (cutS (st : Int) (to : Int) text) = ((LB text).take to).drop st := by rw [LB_cut, Int.toNat_natCast, Int.toNat_natCast]
        have hcuts : (cutS (st : Int) (to : Int) text).size ≤ 4000000000 := by rw [← LB_len, hcutL, List.length_drop, List.length_take, LB_len]; omega
        refine T.call (val_T l[i] ha.2 _ hcuts) (fun y hy => ?_)
        obtain ⟨y1, y2⟩ := hy
        have key : ∀ f, validS l f = true → txtS l f = text → y = (f.getD i 0, true, ()) := by
          intro f h1 h2
          obtain ⟨tl, t1, e⟩ := good f h1 h2
          have hd := (valid_ok h1).2.2 i hlt
          have h59 := value_59 ha.2 hd
          rw [← List.append_assoc, ← hstk] at e
          generalize hV : LB (valueS l[i] (f.getD i 0)) = V at e h59
          have hlen := congrArg List.length e
          rw [List.length_append, hstl, List.length_append, LB_len] at hlen
          have at' : ∀ (j : Nat) (hj : j < (LB text).length), st ≤ j → (LB text)[j]? = (V ++ tl)[j - st]? := by
            intro j hj hsj
            rw [e, List.getElem?_append_right (by omega), hstl]
          have hto : to = st + V.length := by
            rcases Nat.lt_trichotomy to (st + V.length) with r | r | r
            · exfalso
              rcases hend with q | ⟨q1, q2⟩
              · omega
              · have h5 := at' to q1 hto1
                rw [List.getElem?_eq_getElem q1, q2, List.getElem?_append_left (by omega)] at h5
                exact h59 59 (List.mem_of_getElem? h5.symm) rfl
            · exact r
            · exfalso
              rcases t1 with rfl | ⟨r', rfl⟩
              · simp at hlen; omega
              · have hj : st + V.length < (LB text).length := by rw [LB_len]; omega
                have h5 := at' (st + V.length) hj (by omega)
                rw [List.getElem?_eq_getElem hj, List.getElem?_append_right (by omega), show st + V.length - st - V.length = 0 by omega] at h5
                exact hno _ hj (by omega) r (by simpa using h5)
          refine y2 _ hd (LB_inj ?_)
          rw [hcutL, hV, e, hto, ← List.append_assoc, List.take_append_of_le_length (by rw [List.length_append, hstl]; omega), List.take_of_length_le (by rw [List.length_append, hstl]; omega), List.drop_append_of_le_length (by omega), List.drop_eq_nil_of_le (by omega), List.nil_append]
        refine T.cnd (fun c3 => T.ret ⟨.inr rfl, fun f h1 h2 => ?_⟩) (fun c3 => ?_) <;> simp only [not_T, not_F] at c3
        · rw [key f h1 h2] at c3; cases c3
        · refine T.grd (by rw [fits_T, List.length_singleton]; omega) (T.ret ⟨⟨i + 1, to, g ++ [y.1], by omega, hto2, by rw [List.length_append, List.length_singleton, hg], ?_, fun f h1 h2 => ?_, ?_⟩, ?_⟩)
          · have hv := y1 c3
            have e3 : (LB text).take to = (LB text).take st ++ ((LB text).take to).drop st := by
              have : (LB text).take st = ((LB text).take to).take st := by rw [List.take_take, Nat.min_eq_left hto1]
              rw [this, List.take_append_drop]
            rw [e3, ← hcutL, ← hv, hstk, htk, hH, parts_snoc l g i y.1 hg hlt, join_snoc]
            have hpe : (partsS l g i = []) = (i = 0) := by
              apply propext; constructor
              · intro q; have := parts_len l g i; rw [q] at this; exact this.symm
              · intro q; subst q; rfl
            simp only [hpe]
            by_cases q : i = 0
            · rw [if_pos q, if_pos q, part_LB]
              subst q
              simp [partsS, join_nil, LB_bs]
            · rw [if_neg q, if_neg q, LB_cat, LB_cat, part_LB]
              simp [SEP, LB_bs, List.append_assoc]
          · rw [hf f h1 h2, key f h1 h2, ← take_getD f i (by rw [(valid_ok h1).2.1]; omega)]
          · rw [iAdd64 (by omega) (by omega)]; rfl
          · dsimp only; rw [iAdd64 (by omega) (by omega)]; omega
    · have hH : LB (sCat l[i].1 (bs [61])) = (if i = 0 then [] else [59, 32]) ++ (LB l[i].1 ++ [61]) := by rw [if_pos (by omega), LB_cat, LB_bs]; rfl
      generalize sCat l[i].1 (bs [61]) = H at hH ⊢
      have hHs : H.size ≤ 20 := by rw [← LB_len, hH, List.length_append, List.length_append, LB_len]; split <;> simp <;> omega
      have hHl := sLen_eq H
      have good : ∀ f, validS l f = true → txtS l f = text → ∃ tl, (tl = [] ∨ ∃ r, tl = 59 :: r) ∧ LB text = (LB text).take at_ ++ (LB H ++ (LB (valueS l[i] (f.getD i 0)) ++ tl)) := by
        intro f h1 h2
        refine ⟨if i + 1 < l.length then 59 :: 32 :: RJ l f (i + 1) else [], by split; exact .inr ⟨_, rfl⟩; exact .inl rfl, ?_⟩
        have e := pre_RJ l f i (by omega)
        rw [htk, parts_congr l i (hf f h1 h2), hH, ← h2, e, RJ_step' l f i hlt, part_LB]
        simp only [List.append_assoc]
      have htl : ((LB text).take at_).length = at_ := by rw [List.length_take, LB_len]; omega
      refine T.grd (by
        rw [or_T, not_T, bEqF_F, iLt_T, cutOk_T, hHl, hS]
        by_cases q : (text.size : Int) - at_ < H.size
        · right; rw [iSub64 (by omega) (by omega)]; exact q
        · left; rw [iAdd64 (by omega) (by omega)]; omega) ?_
      rw [hHl, hS, iSub64 (by omega) (by omega), iAdd64 (by omega) (by omega)]
      refine T.cnd (fun c1 => T.out ⟨.inr rfl, fun f h1 h2 => ?_⟩) (fun c1 => ?_) <;> simp only [corT_T, corT_F, iLt_T, iLt_F, not_T, not_F, sEq_T, sEq_F] at c1
      · exfalso
        obtain ⟨tl, _, e⟩ := good f h1 h2
        have el := congrArg List.length e
        rw [List.length_append, htl, List.length_append, LB_len, LB_len] at el
        rcases c1 with q | q
        · omega
        · refine q (LB_inj ?_)
          rw [LB_cut, e, show ((at_ : Int) + (H.size : Int)).toNat = at_ + H.size by omega, Int.toNat_natCast]
          rw [← List.append_assoc, List.take_append_of_le_length (by rw [List.length_append, htl, LB_len]; omega), List.take_of_length_le (by rw [List.length_append, htl, LB_len]; omega)]
          rw [List.drop_append_of_le_length (by omega), List.drop_eq_nil_of_le (by omega), List.nil_append]
      obtain ⟨st, hst⟩ : ∃ st : Nat, st = at_ + H.size := ⟨_, rfl⟩
      have hstI : (at_ : Int) + (H.size : Int) = (st : Int) := by omega
      rw [hstI] at c1 ⊢
      have hstk : (LB text).take st = (LB text).take at_ ++ LB H := by
        have h9 := congrArg LB c1.2
        rw [LB_cut, Int.toNat_natCast, Int.toNat_natCast] at h9
        rw [← h9, hst]
        have : (LB text).take at_ = ((LB text).take (at_ + H.size)).take at_ := by rw [List.take_take, Nat.min_eq_left (by omega)]
        rw [this, List.take_append_drop]
      have hstl : ((LB text).take st).length = st := by rw [List.length_take, LB_len]; omega
      refine T.loop (fun q => ∃ to : Nat, st ≤ to ∧ to ≤ text.size ∧ (∀ (j : Nat) (hj : j < (LB text).length), st ≤ j → j < to → (LB text)[j] ≠ 59) ∧ q = (text, (st : Int), (i : Int), (to : Int), l, g, l[i].1, l[i].2.1, l[i].2.2.1, l[i].2.2.2.1, l[i].2.2.2.2.1, ())) (fun q => text.size - q.2.2.2.1.toNat) ⟨st, by omega, by omega, fun j _ h1 h2 => by omega, rfl⟩ ?_
      rintro _ ⟨to, hto1, hto2, hno, rfl⟩
      dsimp only
      rw [hS]
      refine T.grd (by rw [or_T, not_T, bEqT_F, bnd_T, iLt_F]; omega) ?_
      refine T.cnd (fun c2 => T.go ⟨to + 1, by omega, ?_, ?_, ?_⟩ ?_) (fun c2 => ?_) <;> simp only [candF_T, candF_F, iLt_T, iLt_F, iNe_T, iNe_F] at c2
      · omega
      · intro j hj h1 h2
        rcases Nat.lt_or_ge j to with r | r
        · exact hno j hj h1 r
        · obtain rfl : j = to := by omega
          have := c2.2
          rw [LB_at text j hj] at this
          intro q; rw [q] at this; exact this rfl
      · rw [iAdd64 (by omega) (by omega)]; rfl
      · dsimp only; rw [iAdd64 (by omega) (by omega)]; omega
      · have hend : to = text.size ∨ ∃ h : to < (LB text).length, (LB text)[to] = 59 := by
          have hz := LB_len text
          rcases c2 with q | q
          · exact .inl (by omega)
          · by_cases r : to < (LB text).length
            · rw [LB_at text to r] at q
              exact .inr ⟨r, UInt8.toNat_inj.1 (by have : ((LB text)[to].toNat : Int) = 59 := q; show _ = 59; omega)⟩
            · exact .inl (by omega)
        refine T.mapL ?_
        refine T.grd (by rw [cutOk_T]; omega) ?_
        have ew : ((l[i].1, l[i].2.1, l[i].2.2.1, l[i].2.2.2.1, l[i].2.2.2.2.1, ()) : DS0) = l[i] := rfl
        rw [ew]
        have hcutL : LB (cutS (st : Int) (to : Int) text) = ((LB text).take to).drop st := by rw [LB_cut, Int.toNat_natCast, Int.toNat_natCast]
        have hcuts : (cutS (st : Int) (to : Int) text).size ≤ 4000000000 := by rw [← LB_len, hcutL, List.length_drop, List.length_take, LB_len]; omega
        refine T.call (val_T l[i] ha.2 _ hcuts) (fun y hy => ?_)
        obtain ⟨y1, y2⟩ := hy
        have key : ∀ f, validS l f = true → txtS l f = text → y = (f.getD i 0, true, ()) := by
          intro f h1 h2
          obtain ⟨tl, t1, e⟩ := good f h1 h2
          have hd := (valid_ok h1).2.2 i hlt
          have h59 := value_59 ha.2 hd
          rw [← List.append_assoc, ← hstk] at e
          generalize hV : LB (valueS l[i] (f.getD i 0)) = V at e h59
          have hlen := congrArg List.length e
          rw [List.length_append, hstl, List.length_append, LB_len] at hlen
          have at' : ∀ (j : Nat) (hj : j < (LB text).length), st ≤ j → (LB text)[j]? = (V ++ tl)[j - st]? := by
            intro j hj hsj
            rw [e, List.getElem?_append_right (by omega), hstl]
          have hto : to = st + V.length := by
            rcases Nat.lt_trichotomy to (st + V.length) with r | r | r
            · exfalso
              rcases hend with q | ⟨q1, q2⟩
              · omega
              · have h5 := at' to q1 hto1
                rw [List.getElem?_eq_getElem q1, q2, List.getElem?_append_left (by omega)] at h5
                exact h59 59 (List.mem_of_getElem? h5.symm) rfl
            · exact r
            · exfalso
              rcases t1 with rfl | ⟨r', rfl⟩
              · simp at hlen; omega
              · have hj : st + V.length < (LB text).length := by rw [LB_len]; omega
                have h5 := at' (st + V.length) hj (by omega)
                rw [List.getElem?_eq_getElem hj, List.getElem?_append_right (by omega), show st + V.length - st - V.length = 0 by omega] at h5
                exact hno _ hj (by omega) r (by simpa using h5)
          refine y2 _ hd (LB_inj ?_)
          rw [hcutL, hV, e, hto, ← List.append_assoc, List.take_append_of_le_length (by rw [List.length_append, hstl]; omega), List.take_of_length_le (by rw [List.length_append, hstl]; omega), List.drop_append_of_le_length (by omega), List.drop_eq_nil_of_le (by omega), List.nil_append]
        refine T.cnd (fun c3 => T.ret ⟨.inr rfl, fun f h1 h2 => ?_⟩) (fun c3 => ?_) <;> simp only [not_T, not_F] at c3
        · rw [key f h1 h2] at c3; cases c3
        · refine T.grd (by rw [fits_T, List.length_singleton]; omega) (T.ret ⟨⟨i + 1, to, g ++ [y.1], by omega, hto2, by rw [List.length_append, List.length_singleton, hg], ?_, fun f h1 h2 => ?_, ?_⟩, ?_⟩)
          · have hv := y1 c3
            have e3 : (LB text).take to = (LB text).take st ++ ((LB text).take to).drop st := by
              have : (LB text).take st = ((LB text).take to).take st := by rw [List.take_take, Nat.min_eq_left hto1]
              rw [this, List.take_append_drop]
            rw [e3, ← hcutL, ← hv, hstk, htk, hH, parts_snoc l g i y.1 hg hlt, join_snoc]
            have hpe : (partsS l g i = []) = (i = 0) := by
              apply propext; constructor
              · intro q; have := parts_len l g i; rw [q] at this; exact this.symm
              · intro q; subst q; rfl
            simp only [hpe]
            by_cases q : i = 0
            · rw [if_pos q, if_pos q, part_LB]
              subst q
              simp [partsS, join_nil, LB_bs]
            · rw [if_neg q, if_neg q, LB_cat, LB_cat, part_LB]
              simp [SEP, LB_bs, List.append_assoc]
          · rw [hf f h1 h2, key f h1 h2, ← take_getD f i (by rw [(valid_ok h1).2.1]; omega)]
          · rw [iAdd64 (by omega) (by omega)]; rfl
          · dsimp only; rw [iAdd64 (by omega) (by omega)]; omega
  · obtain rfl : i = l.length := by omega
    refine T.mapL ?_
    have full : ∀ f, validS l f = true → txtS l f = text → g = f ∧ at_ = text.size := fun f h1 h2 => by
      have hgf := hf f h1 h2
      rw [parts_congr l _ hgf] at htk
      have e := pre_RJ l f l.length (by omega)
      rw [if_neg (by omega), if_neg (by omega), List.append_nil, h2] at e
      rw [← e] at htk
      rw [List.take_of_length_le (by rw [(valid_ok h1).2.1]; omega)] at hgf
      refine ⟨hgf, ?_⟩
      have := congrArg List.length htk
      rw [List.length_take, LB_len] at this
      omega
    refine T.cnd (fun c1 => T.ret ⟨.inr rfl, fun f h1 h2 => ?_⟩) (fun c1 => ?_) <;> simp only [iNe_T, iNe_F] at c1
    · have := (full f h1 h2).2; omega
    refine T.callE (valid_r (l, ()) g (by omega)) ?_
    dsimp only
    refine T.cnd (fun c2 => T.ret ⟨.inr rfl, fun f h1 h2 => ?_⟩) (fun c2 => T.ret ⟨.inl ⟨g, by rw [not_F] at c2; exact c2, LB_inj ?_, rfl⟩, fun f h1 h2 => ?_⟩)
    · rw [not_T, (full f h1 h2).1, h1] at c2; cases c2
    · show LB (joinB (partsS l g l.length) SEP) = _
      rw [← htk, List.take_of_length_le (by rw [LB_len]; omega)]
    · rw [(full f h1 h2).1]
theorem Reads.uniq {l : List DS0} {text : ByteArray} {y z : List Int × Int × Unit} (hy : Reads l text y) (hz : Reads l text z) : y = z := by
  rcases hy.1 with ⟨f, h1, h2, e⟩ | e
  · rw [e, hz.2 f h1 h2]
  · rcases hz.1 with ⟨f, h1, h2, e'⟩ | e'
    · rw [e', hy.2 f h1 h2]
    · rw [e, e']
theorem Reads.len {l : List DS0} {text : ByteArray} {y : List Int × Int × Unit} (hy : Reads l text y) : y.1.length ≤ l.length := by
  rcases hy.1 with ⟨f, h1, h2, e⟩ | e
  · rw [e]; exact Nat.le_of_eq (valid_ok h1).2.1
  · rw [e]; exact Nat.zero_le _
theorem same_self (a : List Int) (h : a.length ≤ 9223372036854775806) : m22 a a = some (true, ()) := by
  refine T.eq ?_
  unfold m22
  have hL := lenI_eq a
  refine T.cf (by rw [iNe_F]) ?_
  refine T.along a.length (fun i : Nat => (a, a, (i : Int), ())) (fun i hi => ?_) ?_
  · dsimp only
    refine T.ct (by rw [iLt_T]; omega) (T.grd (by rw [bnd_T]; omega) (T.grd (by rw [bnd_T]; omega) (T.cf (by rw [iNe_F]) (T.go ?_ (by omega)))))
    rw [iAdd64 (by omega) (by omega)]; rfl
  · dsimp only
    exact T.cf (by rw [iLt_F]; omega) (T.out rfl)
theorem join_sz2 (sep : ByteArray) (hs : sep.size = 2) : ∀ (n : Nat) (xs : List ByteArray), xs.length = n → (∀ x ∈ xs, 1 ≤ x.size ∧ x.size ≤ 36) → (joinB xs sep).size ≤ n * 38 ∧ n ≤ (joinB xs sep).size := by
  intro n
  induction n with
  | zero => intro xs h _; obtain rfl := List.length_eq_zero_iff.1 h; exact ⟨Nat.zero_le _, Nat.zero_le _⟩
  | succ n ih =>
    intro xs hn h
    rcases List.eq_nil_or_concat xs with rfl | ⟨ys, x, rfl⟩
    · cases hn
    · rw [List.concat_eq_append] at hn h ⊢
      rw [List.length_append, List.length_singleton] at hn
      have h1 := ih ys (by omega) fun y hy => h y (by simp [hy])
      have h2 := h x (by simp)
      rw [join_snoc]
      split
      · rename_i q; subst q; simp at hn; omega
      · rw [cat_size, cat_size]; omega
theorem txt_sz {l : List DS0} {f : List Int} (h : validS l f = true) : 1 ≤ (txtS l f).size ∧ (txtS l f).size ≤ 228 := by
  obtain ⟨h0, h1, h2⟩ := valid_ok h
  obtain ⟨v1, v2, v3⟩ := val_ok h0
  have := join_sz2 SEP rfl l.length (partsS l f l.length) (parts_len l f _) (fun x hx => by
    unfold partsS at hx
    obtain ⟨j, hj, rfl⟩ := List.mem_map.1 hx
    have hjl : j < l.length := by have := List.mem_range.1 hj; omega
    rw [getD_eq l j zA hjl]
    have ha := v3 _ (List.getElem_mem hjl)
    have b := value_sz ha.2 (h2 j hjl)
    have c := name_sz ha.1
    unfold partS
    rw [cat_size, cat_size]
    have : (bs [61]).size = 1 := rfl
    omega)
  unfold txtS; omega
theorem law_back (k : Int) (L : List Int) (hk : I64 k) (hd : DeckOk L 0) : m6 k L = some (true, ()) := by
  refine T.eq ?_
  unfold m6
  obtain ⟨j, hj, e9⟩ := sch_m k hk
  have hv := sch_val j hj
  obtain ⟨v1, v2, v3⟩ := val_ok hv
  refine T.callE e9 ?_
  dsimp only
  generalize sch j = l at hv v1 v2 v3
  refine T.callE (show m11 L = some (L, 0, ()) from rfl) ?_
  refine T.call (facts_T l hv hd) ?_
  rintro ⟨K, a, x, _⟩ hx
  dsimp only at hx ⊢
  obtain ⟨_, hxl, _⟩ := valid_ok hx
  refine T.callE (fmt_m (l, ()) x (by omega)) ?_
  rw [fmt_ok hx]
  dsimp only
  refine T.call (parse_m l hv _ (by have := txt_sz hx; omega)) (fun y hy => ?_)
  rw [hy.2 x hx rfl]
  dsimp only
  refine T.ct rfl ?_
  refine T.callE (same_self x (by omega)) ?_
  refine T.ct rfl ?_
  rw [awake_ok]
  exact T.bind (T.ret (T.ret rfl))
theorem both (l : List DS0) (hv : valS l = 0) (text : ByteArray) (ht : text.size ≤ 4000000000) : ∃ y, m21 (l, ()) text = some y ∧ m23 (l, ()) text = some y ∧ m22 y.1 y.1 = some (true, ()) := by
  obtain ⟨y, hy, qy⟩ := parse_m l hv text ht
  obtain ⟨z, hz, qz⟩ := parse_r l hv text ht
  have := qy.uniq qz
  subst this
  have h1 := qy.len
  have h2 := (val_ok hv).2.1
  exact ⟨y, hy, hz, same_self _ (by omega)⟩
theorem law_parse (text : ByteArray) (k : Int) (L : List Int) (at_ b how : Int) (hk : I64 k) (hd : DeckOk L 0) (ha : I64 at_) : m7 text k L at_ b how = some (true, ()) := by
  refine T.eq ?_
  unfold m7
  rw [awake_ok]
  refine T.cnd (fun hc => T.bind (T.ret (T.ret rfl))) (fun hc => ?_)
  rw [iLt_F, sLen_eq] at hc
  obtain ⟨j, hj, e9⟩ := sch_m k hk
  have hv := sch_val j hj
  obtain ⟨v1, v2, v3⟩ := val_ok hv
  refine T.callE e9 ?_
  dsimp only
  generalize sch j = l at hv v1 v2 v3
  have tail : ∀ t : ByteArray, t.size ≤ 4000000000 → T ((m21 (l, ()) t).bind fun y => (m23 (l, ()) t).bind fun z => (m22 y.1 z.1).bind fun u => cond (cond u.1 (iEq y.2.1 z.2.1) false) ((some (true, ())).bind fun w : Bool × Unit => some (w.1, ())) (some (false, ()))) (fun x => x = (true, ())) := by
    intro t ht
    obtain ⟨y, h1, h2, h3⟩ := both l hv t ht
    refine T.callE h1 (T.callE h2 (T.callE h3 (T.ct ?_ (T.bind (T.ret (T.ret rfl))))))
    rw [candF_T, iEq_T]; exact ⟨rfl, rfl⟩
  obtain ⟨y, h1, h2, h3⟩ := both l hv text (by omega)
  refine T.callE h1 (T.callE h2 (T.callE h3 ?_))
  refine T.cf (by rw [corT_F, not_F, iNe_F]; exact ⟨rfl, rfl⟩) ?_
  refine T.callE (show m11 L = some (L, 0, ()) from rfl) ?_
  refine T.call (facts_T l hv hd) ?_
  rintro ⟨K, a, x, _⟩ hx
  dsimp only at hx ⊢
  obtain ⟨_, hxl, _⟩ := valid_ok hx
  refine T.callE (fmt_r (l, ()) x (by omega)) ?_
  rw [fmt_ok hx]
  dsimp only
  have hz := txt_sz hx
  generalize txtS l x = t at hz
  have hS := sLen_eq t
  refine T.call (within_T at_ (sLen t) ha (by omega) (by omega)) ?_
  rintro ⟨v, _⟩ ⟨w1, w2⟩
  dsimp only at w1 w2 ⊢
  have b1 : (bsI [b]).size = 1 := rfl
  have csz : ∀ (p q : Int), (cutS p q t).size ≤ t.size := fun p q => by rw [← LB_len, LB_cut, List.length_drop, List.length_take, LB_len]; omega
  have c1 := csz 0 v
  have c2 := csz (iAdd .i64 v 1) ((ByteArray.size t : Nat) : Int)
  have c3 := csz v ((ByteArray.size t : Nat) : Int)
  have e1 : iAdd .i64 v 1 = v + 1 := iAdd64 (by omega) (by omega)
  refine T.grd rfl ?_
  refine T.cnd (fun _ => ?_) (fun _ => ?_)
  · refine T.grd (by rw [cutOk_T]; omega) (T.grd (sFits_t (by omega)) (T.grd (by rw [e1, cutOk_T]; omega) (T.grd (sFits_t (by rw [cat_size]; omega)) ?_)))
    exact tail _ (by rw [cat_size, cat_size]; omega)
  refine T.cnd (fun _ => ?_) (fun _ => ?_)
  · refine T.grd (by rw [cutOk_T]; omega) (T.grd (by rw [e1, cutOk_T]; omega) (T.grd (sFits_t (by omega)) ?_))
    exact tail _ (by rw [cat_size]; omega)
  refine T.cnd (fun _ => ?_) (fun _ => ?_)
  · refine T.grd (by rw [cutOk_T]; omega) (T.grd (sFits_t (by omega)) (T.grd (by rw [cutOk_T]; omega) (T.grd (sFits_t (by rw [cat_size]; omega)) ?_)))
    exact tail _ (by rw [cat_size, cat_size]; omega)
  · exact tail _ (by omega)
end Abs
end Go.Proofs.YtgkijjppdaeikaaDoor
