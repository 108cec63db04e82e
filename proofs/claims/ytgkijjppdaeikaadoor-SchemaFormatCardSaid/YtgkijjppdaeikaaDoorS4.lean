/- Schema: validity, domains, facts. -/
import Derived.Test.YtgkijjppdaeikaaDoorS3
namespace Go.Proofs.YtgkijjppdaeikaaDoor
namespace Abs
set_option linter.unusedVariables false
set_option linter.unusedSimpArgs false
def zA : DS0 := (ByteArray.empty, 0, [], 0, 0, ())
def dupN (l : List DS0) (i : Nat) : Bool := (l.take i).any (fun x => eqB x.1 (l.getD i zA).1)
def chk (l : List DS0) (i : Nat) : Int := if nameD (l.getD i zA).1 = false then 6 else if dupN l i = true then 8 else attrS (l.getD i zA)
def valF (l : List DS0) : Nat → Nat → Int
  | 0, _ => 0
  | n + 1, i => if chk l i ≠ 0 then chk l i else valF l n (i + 1)
def valS (l : List DS0) : Int := if l.length = 0 then 19 else if 6 < l.length then 4 else valF l l.length 0
theorem getD_eq {α : Type} (l : List α) (i : Nat) (z : α) (h : i < l.length) : l.getD i z = l[i] := by rw [List.getD_eq_getElem?_getD, List.getElem?_eq_getElem h]; rfl
theorem atI_getD {α : Type} (l : List α) (i : Nat) (z : α) : atI l (i : Int) z = l.getD i z := by unfold atI; rw [Int.toNat_natCast]
theorem index_T (l : List DS0) (i : Nat) (hi : i < l.length) (hl : l.length ≤ 6) : T (m27 (l, ()) (l.getD i zA).1) (fun y => (y.1 < (i : Int)) ↔ dupN l i = true) := by
  unfold m27
  have hL := lenI_eq l
  generalize hw : (l.getD i zA).1 = w
  have hd : dupN l i = (l.take i).any (fun x => eqB x.1 w) := by unfold dupN; rw [hw]
  rw [hd]
  refine T.loop (fun q => ∃ j : Nat, j ≤ i ∧ (l.take j).any (fun x => eqB x.1 w) = false ∧ q = (w, l, lenI l, (j : Int), ())) (fun q => l.length - q.2.2.2.1.toNat) ⟨0, by omega, rfl, rfl⟩ ?_
  rintro _ ⟨j, hj, hf, rfl⟩
  dsimp only
  refine T.ct (by rw [iLt_T]; omega) ?_
  have hjl : j < l.length := by omega
  refine T.grd (by rw [bnd_T]; omega) ?_
  rw [at_get l j _ hjl, sEq_eqB]
  refine T.cnd (fun hc => T.out ?_) (fun hc => T.go ⟨j + 1, ?_, ?_, ?_⟩ ?_)
  · dsimp only
    constructor
    · intro q
      refine List.any_eq_true.2 ⟨l[j], List.mem_iff_getElem.2 ⟨j, by rw [List.length_take]; omega, by rw [List.getElem_take]⟩, hc⟩
    · intro q
      rcases Nat.lt_or_ge j i with r | r
      · omega
      · obtain rfl : j = i := by omega
        rw [hf] at q; cases q
  · rcases Nat.lt_or_ge j i with r | r
    · omega
    · obtain rfl : j = i := by omega
      rw [getD_eq l j _ hjl] at hw
      rw [hw] at hc
      have : eqB w w = true := by rw [eqB_T]
      rw [this] at hc; cases hc
  · rw [List.take_succ_eq_append_getElem hjl, List.any_append, hf]; simp [hc]
  · rw [iAdd64 (by omega) (by omega)]; rfl
  · dsimp only; rw [iAdd64 (by omega) (by omega)]; omega
theorem val_m (s : DS1) : m14 s = some (valS s.1, ()) := by
  obtain ⟨l, ⟨⟩⟩ := s
  refine T.eq ?_
  unfold m14 valS
  dsimp only
  have hL := lenI_eq l
  refine T.cnd (fun hc => T.ret ?_) (fun hc => ?_) <;> simp only [iEq_T, iEq_F] at hc
  · rw [if_pos (by omega)]
  rw [if_neg (by omega)]
  refine T.cnd (fun hc => T.ret ?_) (fun hc => ?_) <;> simp only [iLt_T, iLt_F] at hc
  · rw [if_pos (by omega)]
  rw [if_neg (by omega)]
  generalize htg : valF l l.length 0 = tgt
  refine T.loop (fun q => ∃ n i : Nat, i + n = l.length ∧ valF l n i = tgt ∧ q = (l, lenI l, (i : Int), l, ())) (fun q => l.length - q.2.2.1.toNat) ⟨l.length, 0, by omega, htg, rfl⟩ ?_
  rintro _ ⟨n, i, hn, he, rfl⟩
  dsimp only
  refine T.cnd (fun hc1 => ?_) (fun hc1 => ?_) <;> simp only [iLt_T, iLt_F] at hc1
  · have hi : i < l.length := by omega
    obtain ⟨n, rfl⟩ : ∃ m, n = m + 1 := ⟨n - 1, by omega⟩
    simp only [valF] at he
    refine T.grd (by rw [bnd_T]; omega) ?_
    have ea : atI l (i : Int) (ByteArray.empty, 0, [], 0, 0, ()) = l.getD i zA := atI_getD l i zA
    rw [ea]
    refine T.callE (nm _) ?_
    dsimp only
    refine T.cnd (fun c1 => T.out ?_) (fun c1 => ?_) <;> simp only [not_T, not_F] at c1
    · rw [show chk l i = 6 by unfold chk; rw [if_pos c1], if_pos (by decide)] at he; exact he ▸ rfl
    have k1 : chk l i = if dupN l i = true then 8 else attrS (l.getD i zA) := by unfold chk; rw [if_neg (by rw [c1]; simp)]
    refine T.call (index_T l i hi (by omega)) (fun y hy => ?_)
    refine T.cnd (fun c2 => T.out ?_) (fun c2 => ?_) <;> simp only [iLt_T, iLt_F] at c2
    · rw [if_pos (hy.1 c2)] at k1; rw [k1, if_pos (by decide)] at he; exact he ▸ rfl
    rw [if_neg (fun q => by have := hy.2 q; omega)] at k1
    rw [k1] at he
    refine T.callE (attr_m (l.getD i zA)) ?_
    dsimp only
    refine T.cnd (fun c3 => T.out ?_) (fun c3 => T.go ⟨n, i + 1, by omega, ?_, ?_⟩ ?_) <;> simp only [iNe_T, iNe_F] at c3
    · rw [if_pos c3] at he; exact he ▸ rfl
    · rw [if_neg (by rw [c3]; simp)] at he; exact he
    · rw [iAdd64 (by omega) (by omega)]; rfl
    · dsimp only; rw [iAdd64 (by omega) (by omega)]; omega
  · obtain rfl : n = 0 := by omega
    exact T.out (he ▸ rfl)
theorem val_r (s : DS1) : m15 s = some (valS s.1, ()) := by
  obtain ⟨l, ⟨⟩⟩ := s
  refine T.eq ?_
  unfold m15 valS
  dsimp only
  have hL := lenI_eq l
  refine T.cnd (fun hc => T.ret ?_) (fun hc => ?_) <;> simp only [iEq_T, iEq_F] at hc
  · rw [if_pos (by omega)]
  rw [if_neg (by omega)]
  refine T.cnd (fun hc => T.ret ?_) (fun hc => ?_) <;> simp only [iLt_T, iLt_F] at hc
  · rw [if_pos (by omega)]
  rw [if_neg (by omega)]
  generalize htg : valF l l.length 0 = tgt
  refine T.loop (fun q => ∃ n i : Nat, i + n = l.length ∧ valF l n i = tgt ∧ q = ((i : Int), l, ())) (fun q => l.length - q.1.toNat) ⟨l.length, 0, by omega, htg, rfl⟩ ?_
  rintro _ ⟨n, i, hn, he, rfl⟩
  dsimp only
  refine T.cnd (fun hc1 => ?_) (fun hc1 => ?_) <;> simp only [iLt_T, iLt_F] at hc1
  · have hi : i < l.length := by omega
    obtain ⟨n, rfl⟩ : ∃ m, n = m + 1 := ⟨n - 1, by omega⟩
    simp only [valF] at he
    refine T.grd (by rw [bnd_T]; omega) ?_
    have ea : atI l (i : Int) (ByteArray.empty, 0, [], 0, 0, ()) = l.getD i zA := atI_getD l i zA
    rw [ea]
    refine T.callE (nr _) ?_
    dsimp only
    refine T.cnd (fun c1 => T.out ?_) (fun c1 => ?_) <;> simp only [not_T, not_F] at c1
    · rw [show chk l i = 6 by unfold chk; rw [if_pos c1], if_pos (by decide)] at he; exact he ▸ rfl
    have k1 : chk l i = if dupN l i = true then 8 else attrS (l.getD i zA) := by unfold chk; rw [if_neg (by rw [c1]; simp)]
    obtain ⟨w, hw⟩ : ∃ w, l.getD i zA = w := ⟨_, rfl⟩
    have hd : dupN l i = (l.take i).any (fun x => eqB x.1 w.1) := by unfold dupN; rw [hw]
    rw [hw, hd] at k1
    rw [hw]
    refine T.loop (fun q => ∃ j : Nat, j ≤ i ∧ (l.take j).any (fun x => eqB x.1 w.1) = false ∧ q = ((i : Int), (j : Int), l, w.1, w.2.1, w.2.2.1, w.2.2.2.1, w.2.2.2.2.1, ())) (fun q => i - q.2.1.toNat) ⟨0, by omega, rfl, rfl⟩ ?_
    rintro _ ⟨j, hj, hf, rfl⟩
    dsimp only
    refine T.cnd (fun hc2 => ?_) (fun hc2 => ?_) <;> simp only [iLt_T, iLt_F] at hc2
    · have hjl : j < l.length := by omega
      refine T.grd (by rw [bnd_T]; omega) ?_
      rw [at_get l j _ hjl, sEq_eqB]
      refine T.cnd (fun hc3 => T.out ?_) (fun hc3 => T.go ⟨j + 1, by omega, ?_, ?_⟩ ?_)
      · show ((8 : Int), ()) = (tgt, ())
        rw [if_pos (List.any_eq_true.2 ⟨l[j], List.mem_iff_getElem.2 ⟨j, by rw [List.length_take]; omega, by rw [List.getElem_take]⟩, hc3⟩)] at k1
        rw [k1, if_pos (by decide)] at he
        exact he ▸ rfl
      · rw [List.take_succ_eq_append_getElem hjl, List.any_append, hf]; simp [hc3]
      · rw [iAdd64 (by omega) (by omega)]; rfl
      · dsimp only; rw [iAdd64 (by omega) (by omega)]; omega
    · obtain rfl : j = i := by omega
      rw [if_neg (by rw [hf]; simp)] at k1
      rw [k1] at he
      refine T.mapL ?_
      refine T.callE (attr_r (w.1, w.2.1, w.2.2.1, w.2.2.2.1, w.2.2.2.2.1, ())) ?_
      have ew : ((w.1, w.2.1, w.2.2.1, w.2.2.2.1, w.2.2.2.2.1, ()) : DS0) = w := rfl
      rw [ew]
      dsimp only
      refine T.cnd (fun c3 => T.ret ?_) (fun c3 => T.ret ⟨⟨n, j + 1, by omega, ?_, ?_⟩, ?_⟩) <;> simp only [iNe_T, iNe_F] at c3
      · show (attrS w, ()) = (tgt, ())
        rw [if_pos c3] at he; exact he ▸ rfl
      · rw [if_neg (by rw [c3]; simp)] at he; exact he
      · rw [iAdd64 (by omega) (by omega)]; rfl
      · dsimp only; rw [iAdd64 (by omega) (by omega)]; omega
  · obtain rfl : n = 0 := by omega
    exact T.out (he ▸ rfl)
/-- What a valid schema is. -/
theorem valF_ok (l : List DS0) : ∀ n i, valF l n i = 0 → ∀ j, i ≤ j → j < i + n → chk l j = 0 := by
  intro n
  induction n with
  | zero => intro i _ j h1 h2; omega
  | succ n ih =>
    intro i h j h1 h2
    simp only [valF] at h
    by_cases q : chk l i ≠ 0
    · rw [if_pos q] at h; exact absurd h q
    · rw [if_neg q] at h
      rcases Nat.eq_or_lt_of_le h1 with r | r
      · subst r; simpa using q
      · exact ih (i + 1) h j (by omega) (by omega)
theorem val_ok {l : List DS0} (h : valS l = 0) : 1 ≤ l.length ∧ l.length ≤ 6 ∧ ∀ a ∈ l, nameD a.1 = true ∧ attrS a = 0 := by
  unfold valS at h
  by_cases q : l.length = 0
  · rw [if_pos q] at h; cases h
  rw [if_neg q] at h
  by_cases q2 : 6 < l.length
  · rw [if_pos q2] at h; cases h
  rw [if_neg q2] at h
  refine ⟨by omega, by omega, fun a ha => ?_⟩
  obtain ⟨j, hj, rfl⟩ := List.mem_iff_getElem.1 ha
  have := valF_ok l l.length 0 h j (by omega) (by omega)
  unfold chk at this
  rw [getD_eq l j zA hj] at this
  rcases c : nameD (l[j]).1 with _ | _
  · rw [if_pos c] at this; cases this
  · rw [if_neg (by rw [c]; simp)] at this
    by_cases d : dupN l j = true
    · rw [if_pos d] at this; cases this
    · rw [if_neg d] at this; exact ⟨rfl, this⟩
def domS (a : DS0) : Int × Int := if a.2.1 = 1 then (0, (a.2.2.1.length : Int) - 1) else if a.2.1 = 2 then (a.2.2.2.1, a.2.2.2.2.1) else (0, 1)
theorem words_len {l : List ByteArray} (h : wordsS l = 0) : 1 ≤ l.length ∧ l.length ≤ 12 ∧ ∀ w ∈ l, nameD w = true := by
  unfold wordsS at h
  by_cases q : l.length = 0
  · rw [if_pos q] at h; cases h
  rw [if_neg q] at h
  by_cases q2 : 12 < l.length
  · rw [if_pos q2] at h; cases h
  rw [if_neg q2] at h
  by_cases q3 : l.all nameD = true
  · exact ⟨by omega, by omega, fun w hw => List.all_eq_true.1 q3 w hw⟩
  · rw [if_neg q3] at h; cases h
theorem attr_ok {a : DS0} (h : attrS a = 0) : (a.2.1 = 1 ∧ 1 ≤ a.2.2.1.length ∧ a.2.2.1.length ≤ 12 ∧ (∀ w ∈ a.2.2.1, nameD w = true)) ∨ (a.2.1 = 2 ∧ a.2.2.2.1 ≤ a.2.2.2.2.1 ∧ -1000000000 ≤ a.2.2.2.1 ∧ a.2.2.2.2.1 ≤ 1000000000) ∨ a.2.1 = 3 := by
  unfold attrS at h
  by_cases c1 : a.2.1 = 1
  · rw [if_pos c1] at h
    by_cases c2 : a.2.2.2.1 ≠ 0 ∨ a.2.2.2.2.1 ≠ 0
    · rw [if_pos c2] at h; cases h
    · rw [if_neg c2] at h; have := words_len h; exact .inl ⟨c1, this.1, this.2.1, this.2.2⟩
  rw [if_neg c1] at h
  by_cases c2 : a.2.1 = 2
  · rw [if_pos c2] at h
    by_cases c3 : 0 < a.2.2.1.length
    · rw [if_pos c3] at h; cases h
    rw [if_neg c3] at h
    by_cases c4 : a.2.2.2.2.1 < a.2.2.2.1 ∨ a.2.2.2.1 < -1000000000 ∨ 1000000000 < a.2.2.2.2.1
    · rw [if_pos c4] at h; cases h
    · exact .inr (.inl ⟨c2, by omega, by omega, by omega⟩)
  rw [if_neg c2] at h
  by_cases c3 : a.2.1 = 3
  · exact .inr (.inr c3)
  · rw [if_neg c3] at h; cases h
theorem dom_bd {a : DS0} (h : attrS a = 0) : (domS a).1 ≤ (domS a).2 ∧ -1000000000 ≤ (domS a).1 ∧ (domS a).2 ≤ 1000000000 := by
  unfold domS
  rcases attr_ok h with ⟨k, h1, h2, _⟩ | ⟨k, h1, h2, h3⟩ | k
  · rw [if_pos k]; dsimp only; omega
  · rw [if_neg (by omega), if_pos k]; exact ⟨h1, h2, h3⟩
  · rw [if_neg (by omega), if_neg (by omega)]; decide
theorem dom_m {a : DS0} (h : attrS a = 0) : m32 a = some ((domS a).1, (domS a).2, ()) := by
  refine T.eq ?_
  unfold m32 domS
  have hL := lenI_eq a.2.2.1
  refine T.cnd (fun c1 => ?_) (fun c1 => ?_) <;> simp only [iEq_T, iEq_F] at c1
  · rcases attr_ok h with ⟨k, h1, h2, _⟩ | ⟨k, _⟩ | k
    · rw [if_pos c1, iSub64 (by omega) (by omega), hL]; exact T.ret rfl
    · omega
    · omega
  rw [if_neg c1]
  refine T.cnd (fun c2 => ?_) (fun c2 => ?_) <;> simp only [iEq_T, iEq_F] at c2
  · rw [if_pos c2]; exact T.ret rfl
  · rw [if_neg c2]; exact T.ret rfl
theorem dom_r (l : List DS0) (i : Nat) (hi : i < l.length) (h : valS l = 0) : m31 (l, ()) (i : Int) = some ((domS l[i]).1, (domS l[i]).2, ()) := by
  refine T.eq ?_
  unfold m31
  have hL := lenI_eq l
  obtain ⟨v1, v2, v3⟩ := val_ok h
  have ha := (v3 _ (List.getElem_mem hi)).2
  refine T.callE (val_r (l, ())) ?_
  dsimp only
  refine T.cf (by rw [corT_F, corT_F, iNe_F, iLt_F, iLe_F]; omega) ?_
  refine T.grd (by rw [bnd_T]; omega) ?_
  rw [at_get l i _ hi]
  unfold domS
  have hL2 := lenI_eq (l[i]).2.2.1
  refine T.cnd (fun c1 => ?_) (fun c1 => ?_) <;> simp only [iEq_T, iEq_F] at c1
  · rcases attr_ok ha with ⟨k, h1, h2, _⟩ | ⟨k, _⟩ | k
    · rw [if_pos c1, iSub64 (by omega) (by omega), hL2]; exact T.ret rfl
    · omega
    · omega
  rw [if_neg c1]
  refine T.cnd (fun c2 => ?_) (fun c2 => ?_) <;> simp only [iEq_T, iEq_F] at c2
  · rw [if_pos c2]; exact T.ret rfl
  · rw [if_neg c2]; exact T.ret rfl
/-- Facts of a schema. -/
def inD (l : List DS0) (f : List Int) (i : Nat) : Bool := decide ((domS (l.getD i zA)).1 ≤ f.getD i 0 ∧ f.getD i 0 ≤ (domS (l.getD i zA)).2)
def validS (l : List DS0) (f : List Int) : Bool := decide (valS l = 0) && decide (f.length = l.length) && (List.range l.length).all (inD l f)
theorem all_range (n i : Nat) (p : Nat → Bool) (h : i < n) (hp : p i = false) : (List.range n).all p = false := by
  rcases q : (List.range n).all p with _ | _
  · rfl
  · have := List.all_eq_true.1 q i (List.mem_range.2 h); rw [hp] at this; cases this
theorem valid_m (s : DS1) (f : List Int) (hf : f.length ≤ 9223372036854775807) : m17 s f = some (validS s.1 f, ()) := by
  obtain ⟨l, ⟨⟩⟩ := s
  refine T.eq ?_
  unfold m17 validS
  have hL := lenI_eq l
  have hLf := lenI_eq f
  refine T.callE (val_m _) ?_
  dsimp only
  refine T.cnd (fun hc => T.ret ?_) (fun hc => ?_) <;> simp only [corT_T, corT_F, iNe_T, iNe_F] at hc
  · congr 1; symm
    rcases hc with q | q
    · rw [decide_eq_false q]; rfl
    · rw [decide_eq_false (show ¬ f.length = l.length by omega), Bool.and_false]; rfl
  have h0 : valS l = 0 := hc.1
  have hfl : f.length = l.length := by omega
  obtain ⟨v1, v2, v3⟩ := val_ok h0
  rw [decide_eq_true h0, decide_eq_true hfl, Bool.and_true, Bool.true_and]
  refine T.loop (fun q => ∃ i : Nat, i ≤ l.length ∧ (List.range i).all (inD l f) = true ∧ q = (f, lenI f, (i : Int), l, ())) (fun q => l.length - q.2.2.1.toNat) ⟨0, by omega, rfl, rfl⟩ ?_
  rintro _ ⟨i, hi, hg, rfl⟩
  dsimp only
  refine T.cnd (fun hc1 => ?_) (fun hc1 => ?_) <;> simp only [iLt_T, iLt_F] at hc1
  · have hlt : i < l.length := by omega
    refine T.grd (by rw [bnd_T]; omega) (T.grd (by rw [bnd_T]; omega) ?_)
    rw [at_get l i _ hlt]
    refine T.callE (dom_m (v3 _ (List.getElem_mem hlt)).2) ?_
    have ed : inD l f i = decide ((domS l[i]).1 ≤ atI f (i : Int) 0 ∧ atI f (i : Int) 0 ≤ (domS l[i]).2) := by unfold inD; rw [getD_eq l i _ hlt, atI_getD]
    dsimp only
    refine T.cnd (fun hc2 => T.out ?_) (fun hc2 => T.go ⟨i + 1, by omega, ?_, ?_⟩ ?_) <;> simp only [corT_T, corT_F, iLt_T, iLt_F] at hc2
    · rw [all_range l.length i _ hlt (by rw [ed, decide_eq_false_iff_not]; omega)]
    · rw [List.range_succ, List.all_append, hg]
      have : inD l f i = true := by rw [ed, decide_eq_true_eq]; omega
      simp [this]
    · rw [iAdd64 (by omega) (by omega)]; rfl
    · dsimp only; rw [iAdd64 (by omega) (by omega)]; omega
  · obtain rfl : i = l.length := by omega
    exact T.out (by rw [hg])
theorem valid_r (s : DS1) (f : List Int) (hf : f.length ≤ 9223372036854775807) : m18 s f = some (validS s.1 f, ()) := by
  obtain ⟨l, ⟨⟩⟩ := s
  refine T.eq ?_
  unfold m18 validS
  have hL := lenI_eq l
  have hLf := lenI_eq f
  refine T.callE (val_r _) ?_
  dsimp only
  refine T.cnd (fun hc => T.ret ?_) (fun hc => ?_) <;> simp only [corT_T, corT_F, iNe_T, iNe_F] at hc
  · congr 1; symm
    rcases hc with q | q
    · rw [decide_eq_false q]; rfl
    · rw [decide_eq_false (show ¬ f.length = l.length by omega), Bool.and_false]; rfl
  have h0 : valS l = 0 := hc.1
  have hfl : f.length = l.length := by omega
  obtain ⟨v1, v2, v3⟩ := val_ok h0
  rw [decide_eq_true h0, decide_eq_true hfl, Bool.and_true, Bool.true_and]
  refine T.loop (fun q => ∃ i : Nat, i ≤ l.length ∧ (List.range i).all (inD l f) = true ∧ q = (f, (i : Int), l, ())) (fun q => l.length - q.2.1.toNat) ⟨0, by omega, rfl, rfl⟩ ?_
  rintro _ ⟨i, hi, hg, rfl⟩
  dsimp only
  refine T.cnd (fun hc1 => ?_) (fun hc1 => ?_) <;> simp only [iLt_T, iLt_F] at hc1
  · have hlt : i < l.length := by omega
    refine T.callE (dom_r l i hlt h0) ?_
    have ed : inD l f i = decide ((domS l[i]).1 ≤ atI f (i : Int) 0 ∧ atI f (i : Int) 0 ≤ (domS l[i]).2) := by unfold inD; rw [getD_eq l i _ hlt, atI_getD]
    have hb : bnd (i : Int) (lenI f) = true := by rw [bnd_T]; omega
    dsimp only
    refine T.grd hb (T.grd (by rw [hb]; rfl) ?_)
    refine T.cnd (fun hc2 => T.out ?_) (fun hc2 => T.go ⟨i + 1, by omega, ?_, ?_⟩ ?_) <;> simp only [corT_T, corT_F, iLt_T, iLt_F] at hc2
    · rw [all_range l.length i _ hlt (by rw [ed, decide_eq_false_iff_not]; omega)]
    · rw [List.range_succ, List.all_append, hg]
      have : inD l f i = true := by rw [ed, decide_eq_true_eq]; omega
      simp [this]
    · rw [iAdd64 (by omega) (by omega)]; rfl
    · dsimp only; rw [iAdd64 (by omega) (by omega)]; omega
  · obtain rfl : i = l.length := by omega
    exact T.out (by rw [hg])
end Abs
end Go.Proofs.YtgkijjppdaeikaaDoor
