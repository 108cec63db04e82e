/- Schema: attributes, validity. -/
import Derived.Test.YtgkijjppdaeikaaDoorS2
namespace Go.Proofs.YtgkijjppdaeikaaDoor
namespace Abs
set_option linter.unusedVariables false
set_option linter.unusedSimpArgs false
def eqB (a b : ByteArray) : Bool := decide (bytesI a = bytesI b)
theorem sEq_eqB (a b : ByteArray) : sEq a b = eqB a b := sEq_dec a b
theorem eqB_T {a b : ByteArray} : (eqB a b = true) = (a = b) := by rw [← sEq_eqB, sEq_T]
theorem eqB_F {a b : ByteArray} : (eqB a b = false) = (¬ a = b) := by rw [← sEq_eqB, sEq_F]
def RES : List ByteArray := [bs [97, 110, 100], bs [97, 118, 101, 114, 97, 103, 101], bs [99, 111, 105, 110, 115, 117, 114, 97, 110, 99, 101], bs [99, 111, 110, 100, 105, 116, 105, 111, 110], bs [99, 111, 118, 101, 114], bs [100, 101, 100, 117, 99, 116, 105, 98, 108, 101], bs [100, 101, 102, 105, 110, 101], bs [101, 110, 100], bs [101, 110, 100, 111, 114, 115, 101], bs [101, 120, 99, 108, 117, 100, 101], bs [102, 97, 108, 115, 101], bs [102, 114, 97, 110, 99, 104, 105, 115, 101], bs [102, 114, 111, 109], bs [105, 110], bs [108, 105, 109, 105, 116], bs [110, 111, 116], bs [111, 114], bs [114, 101, 109, 111, 118, 101], bs [115, 117, 98, 108, 105, 109, 105, 116], bs [116, 111], bs [116, 114, 117, 101], bs [117, 110, 108, 101, 115, 115], bs [119, 104, 101, 110]]
theorem res_dec (s : ByteArray) : resS s = RES.any (fun w => eqB s w) := by
  unfold resS m41
  simp only [cond_some, sEq_eqB, Option.elim, RES, List.any_cons, List.any_nil, Bool.or_false]
def nameD (s : ByteArray) : Bool := wordS s && !RES.any (fun w => eqB s w)
theorem nameS_D (s : ByteArray) : nameS s = nameD s := by unfold nameS nameD; rw [res_dec]
theorem word_all (s : ByteArray) : m40 s = some (wordS s, ()) := by
  by_cases h : s.size ≤ 4611686018427387904
  · exact word_m s h
  · refine T.eq ?_
    unfold m40 wordS
    have hl := sLen_eq s
    refine T.grd (by rw [or_T, bnd_T]; left; omega) ?_
    refine T.ct (by rw [corT_T, iEq_T, iLt_T]; omega) ?_
    refine T.grd (by rw [or_T]; right; rfl) (T.ret ?_)
    rw [if_pos (by omega)]
theorem word_allr (s : ByteArray) : m43 s = some (wordS s, ()) := by
  by_cases h : s.size ≤ 4611686018427387904
  · exact word_r s h
  · refine T.eq ?_
    unfold m43 wordS
    have hl := sLen_eq s
    refine T.grd (by rw [or_T, bnd_T]; left; omega) ?_
    refine T.ct (by rw [corT_T, iLt_T, iLt_T]; omega) ?_
    refine T.grd (by rw [or_T]; right; rfl) (T.ret ?_)
    rw [if_pos (by omega)]
theorem nm (s : ByteArray) : m26 s = some (nameD s, ()) := by
  rw [← nameS_D]
  unfold m26 nameS
  rw [word_all s, res_m]
  cases wordS s <;> rfl
theorem nr (s : ByteArray) : m29 s = some (nameD s, ()) := by
  rw [← nameS_D]
  unfold m29 nameS
  rw [word_allr s, res_r]
  cases wordS s <;> rfl
theorem name_sz {s : ByteArray} (h : nameD s = true) : s.size ≤ 16 := by
  unfold nameD wordS at h
  by_cases q : s.size = 0 ∨ 16 < s.size
  · rw [if_pos q] at h; simp at h
  · omega
/-- slices.Contains. -/
theorem contains_m (l : List ByteArray) (w : ByteArray) (hl : l.length ≤ 9223372036854775807) : m61 l w = some (l.any (fun x => eqB w x), ()) := by
  refine T.eq ?_
  unfold m61 m54
  refine T.call (P := fun y => (0 ≤ y.1 ↔ l.any (fun x => eqB w x) = true)) ?_ ?_
  · refine T.loop (fun q => ∃ i : Nat, i ≤ l.length ∧ (l.take i).any (fun x => eqB w x) = false ∧ q = (l, w, lenI l, (i : Int), ())) (fun q => l.length - q.2.2.2.1.toNat) ⟨0, by omega, rfl, rfl⟩ ?_
    rintro _ ⟨i, hi, hf, rfl⟩
    dsimp only
    refine T.cnd (fun hc => ?_) (fun hc => ?_) <;> simp only [iLt_T, iLt_F, lenI_eq] at hc
    · have hlt : i < l.length := by omega
      refine T.grd (by rw [bnd_T, lenI_eq]; omega) ?_
      have ea : atI l (i : Int) ByteArray.empty = l[i] := by unfold atI; rw [Int.toNat_natCast, List.getD_eq_getElem?_getD, List.getElem?_eq_getElem hlt]; rfl
      rw [ea, sEq_eqB]
      refine T.cnd (fun hc2 => T.out ?_) (fun hc2 => T.go ⟨i + 1, by omega, ?_, ?_⟩ ?_)
      · dsimp only
        refine ⟨fun _ => List.any_eq_true.2 ⟨l[i], List.getElem_mem hlt, hc2⟩, fun _ => by omega⟩
      · rw [List.take_succ_eq_append_getElem hlt, List.any_append, hf]
        simp [hc2]
      · rw [iAdd64 (by omega) (by omega)]; rfl
      · dsimp only; rw [iAdd64 (by omega) (by omega)]; omega
    · refine T.out ?_
      obtain rfl : i = l.length := by omega
      rw [List.take_length] at hf
      dsimp only
      rw [hf]; simp
  · rintro ⟨v, _⟩ hv
    refine T.ret ?_
    dsimp only at hv ⊢
    congr 1
    rcases h : l.any (fun x => eqB w x) with _ | _
    · rw [h] at hv; rw [iLe_F]; have : ¬ 0 ≤ v := fun q => by have := hv.1 q; cases this
      omega
    · rw [h] at hv; rw [iLe_T]; exact hv.2 rfl
def dupW (l : List ByteArray) (i : Nat) : Bool := (l.take i).any (fun x => eqB (l.getD i ByteArray.empty) x)
def wordsS (l : List ByteArray) : Int := if l.length = 0 then 19 else if 12 < l.length then 4 else if l.all nameD = true then (if (List.range l.length).any (dupW l) = true then 8 else 0) else 6
theorem at_get {α : Type} (l : List α) (i : Nat) (z : α) (h : i < l.length) : atI l (i : Int) z = l[i] := by unfold atI; rw [Int.toNat_natCast, List.getD_eq_getElem?_getD, List.getElem?_eq_getElem h]; rfl
theorem all_take {α : Type} (l : List α) (p : α → Bool) (i : Nat) (h : i < l.length) (hf : (l.take i).all p = true) (hp : p l[i] = true) : (l.take (i + 1)).all p = true := by
  rw [List.take_succ_eq_append_getElem h, List.all_append, hf]; simp [hp]
theorem all_not {α : Type} (l : List α) (p : α → Bool) (i : Nat) (h : i < l.length) (hp : p l[i] = false) : l.all p = false := by
  rcases q : l.all p with _ | _
  · rfl
  · have := List.all_eq_true.1 q l[i] (List.getElem_mem h); rw [hp] at this; cases this
theorem words_m (l : List ByteArray) : m42 l = some (wordsS l, ()) := by
  refine T.eq ?_
  unfold m42 wordsS
  refine T.cnd (fun hc => T.ret ?_) (fun hc => ?_) <;> simp only [iEq_T, iEq_F, lenI_eq] at hc
  · rw [if_pos (by omega)]
  rw [if_neg (by omega)]
  refine T.cnd (fun hc => T.ret ?_) (fun hc => ?_) <;> simp only [iLt_T, iLt_F, lenI_eq] at hc
  · rw [if_pos (by omega)]
  rw [if_neg (by omega)]
  have hL := lenI_eq l
  refine T.loop (fun q => ∃ i : Nat, i ≤ l.length ∧ (l.take i).all nameD = true ∧ q = (l, l, lenI l, (i : Int), ())) (fun q => l.length - q.2.2.2.1.toNat) ⟨0, by omega, rfl, rfl⟩ ?_
  rintro _ ⟨i, hi, hf, rfl⟩
  dsimp only
  refine T.cnd (fun hc => ?_) (fun hc => ?_) <;> simp only [iLt_T, iLt_F] at hc
  · have hlt : i < l.length := by omega
    refine T.grd (by rw [bnd_T]; omega) ?_
    rw [at_get l i _ hlt]
    refine T.callE (nm _) ?_
    dsimp only
    refine T.cnd (fun hc2 => T.out ?_) (fun hc2 => T.go ⟨i + 1, by omega, ?_, ?_⟩ ?_)
    · rw [not_T] at hc2; rw [if_neg (by rw [all_not l nameD i hlt hc2]; simp)]
    · rw [not_F] at hc2; exact all_take l nameD i hlt hf hc2
    · rw [iAdd64 (by omega) (by omega)]; rfl
    · dsimp only; rw [iAdd64 (by omega) (by omega)]; omega
  obtain rfl : i = l.length := by omega
  rw [List.take_length] at hf
  rw [if_pos hf]
  refine T.mapL ?_
  refine T.loop (fun q => ∃ i : Nat, i ≤ l.length ∧ (List.range i).any (dupW l) = false ∧ q = (l, l, lenI l, (i : Int), ())) (fun q => l.length - q.2.2.2.1.toNat) ⟨0, by omega, rfl, rfl⟩ ?_
  rintro _ ⟨i, hi, hg, rfl⟩
  dsimp only
  refine T.cnd (fun hc => ?_) (fun hc => ?_) <;> simp only [iLt_T, iLt_F] at hc
  · have hlt : i < l.length := by omega
    refine T.grd (by rw [bnd_T]; omega) ?_
    refine T.grd (by rw [cutOk_T]; omega) ?_
    have hcut : cutL 0 (i : Int) l = l.take i := by unfold cutL; rw [Int.toNat_natCast]; rfl
    rw [hcut]
    refine T.callE (contains_m _ _ (by rw [List.length_take]; omega)) ?_
    have hd : (l.take i).any (fun x => eqB (atI l (i : Int) ByteArray.empty) x) = dupW l i := by unfold dupW atI; rw [Int.toNat_natCast]
    rw [hd]
    dsimp only
    refine T.cnd (fun hc2 => T.out ?_) (fun hc2 => T.go ⟨i + 1, by omega, ?_, ?_⟩ ?_)
    · rw [if_pos (List.any_eq_true.2 ⟨i, List.mem_range.2 hlt, hc2⟩)]
    · rw [List.range_succ, List.any_append, hg]; simp [hc2]
    · rw [iAdd64 (by omega) (by omega)]; rfl
    · dsimp only; rw [iAdd64 (by omega) (by omega)]; omega
  · obtain rfl : i = l.length := by omega
    refine T.out ?_
    rw [if_neg (by rw [hg]; simp)]
theorem names_r (l : List ByteArray) (hl : l.length ≤ 12) : m45 l = some (l.all nameD, ()) := by
  refine T.eq ?_
  unfold m45
  have hL := lenI_eq l
  refine T.loop (fun q => ∃ i : Nat, i ≤ l.length ∧ (l.take i).all nameD = true ∧ q = (l, (i : Int), ())) (fun q => l.length - q.2.1.toNat) ⟨0, by omega, rfl, rfl⟩ ?_
  rintro _ ⟨i, hi, hf, rfl⟩
  dsimp only
  refine T.cnd (fun hc => ?_) (fun hc => ?_) <;> simp only [iLt_T, iLt_F] at hc
  · have hlt : i < l.length := by omega
    refine T.grd (by rw [bnd_T]; omega) ?_
    rw [at_get l i _ hlt]
    refine T.callE (nr _) ?_
    dsimp only
    refine T.cnd (fun hc2 => T.out ?_) (fun hc2 => T.go ⟨i + 1, by omega, ?_, ?_⟩ ?_)
    · rw [not_T] at hc2; rw [all_not l nameD i hlt hc2]
    · rw [not_F] at hc2; exact all_take l nameD i hlt hf hc2
    · rw [iAdd64 (by omega) (by omega)]; rfl
    · dsimp only; rw [iAdd64 (by omega) (by omega)]; omega
  · obtain rfl : i = l.length := by omega
    rw [List.take_length] at hf
    exact T.out (by rw [hf])
theorem distinct_r (l : List ByteArray) (hl : l.length ≤ 12) : m46 l = some (!(List.range l.length).any (dupW l), ()) := by
  refine T.eq ?_
  unfold m46
  have hL := lenI_eq l
  refine T.loop (fun q => ∃ i : Nat, i ≤ l.length ∧ (List.range i).any (dupW l) = false ∧ q = (l, (i : Int), ())) (fun q => l.length - q.2.1.toNat) ⟨0, by omega, rfl, rfl⟩ ?_
  rintro _ ⟨i, hi, hg, rfl⟩
  dsimp only
  refine T.cnd (fun hc => ?_) (fun hc => ?_) <;> simp only [iLt_T, iLt_F] at hc
  · have hlt : i < l.length := by omega
    have hd : dupW l i = (l.take i).any (fun x => eqB l[i] x) := by unfold dupW; rw [List.getD_eq_getElem?_getD, List.getElem?_eq_getElem hlt]; rfl
    refine T.loop (fun q => ∃ j : Nat, j ≤ i ∧ (l.take j).any (fun x => eqB l[i] x) = false ∧ q = (l, (i : Int), (j : Int), ())) (fun q => i - q.2.2.1.toNat) ⟨0, by omega, rfl, rfl⟩ ?_
    rintro _ ⟨j, hj, hf, rfl⟩
    dsimp only
    refine T.cnd (fun hc2 => ?_) (fun hc2 => ?_) <;> simp only [iLt_T, iLt_F] at hc2
    · have hjl : j < l.length := by omega
      refine T.grd (by rw [bnd_T]; omega) ?_
      refine T.grd (by rw [bnd_T]; omega) ?_
      rw [at_get l i _ hlt, at_get l j _ hjl, sEq_eqB]
      refine T.cnd (fun hc3 => T.out ?_) (fun hc3 => T.go ⟨j + 1, by omega, ?_, ?_⟩ ?_)
      · show _ = _
        have : dupW l i = true := by
          rw [hd]; refine List.any_eq_true.2 ⟨l[j], ?_, hc3⟩
          exact List.mem_iff_getElem.2 ⟨j, by rw [List.length_take]; omega, by rw [List.getElem_take]⟩
        rw [List.any_eq_true.2 ⟨i, List.mem_range.2 hlt, this⟩]; rfl
      · rw [List.take_succ_eq_append_getElem hjl, List.any_append, hf]; simp [hc3]
      · rw [iAdd64 (by omega) (by omega)]; rfl
      · dsimp only; rw [iAdd64 (by omega) (by omega)]; omega
    · obtain rfl : j = i := by omega
      refine T.out ⟨⟨j + 1, by omega, ?_, ?_⟩, ?_⟩
      · rw [List.range_succ, List.any_append, hg]; simp [hd, hf]
      · rw [iAdd64 (by omega) (by omega)]; rfl
      · dsimp only; rw [iAdd64 (by omega) (by omega)]; omega
  · obtain rfl : i = l.length := by omega
    exact T.out (by rw [hg]; rfl)
def attrS (a : DS0) : Int :=
  if a.2.1 = 1 then (if a.2.2.2.1 ≠ 0 ∨ a.2.2.2.2.1 ≠ 0 then 20 else wordsS a.2.2.1)
  else if a.2.1 = 2 then (if 0 < a.2.2.1.length then 20 else if a.2.2.2.2.1 < a.2.2.2.1 ∨ a.2.2.2.1 < -1000000000 ∨ 1000000000 < a.2.2.2.2.1 then 1 else 0)
  else if a.2.1 = 3 then (if 0 < a.2.2.1.length ∨ a.2.2.2.1 ≠ 0 ∨ a.2.2.2.2.1 ≠ 0 then 20 else 0) else 11
theorem attr_m (a : DS0) : m28 a = some (attrS a, ()) := by
  refine T.eq ?_
  unfold m28 attrS
  have hL := lenI_eq a.2.2.1
  refine T.cnd (fun c1 => ?_) (fun c1 => ?_) <;> simp only [iEq_T, iEq_F] at c1
  · rw [if_pos c1]
    refine T.cnd (fun c2 => T.ret ?_) (fun c2 => ?_) <;> simp only [corT_T, corT_F, iNe_T, iNe_F] at c2
    · rw [if_pos (by omega)]
    · rw [if_neg (by omega)]; exact T.callE (words_m _) (T.ret rfl)
  rw [if_neg c1]
  refine T.cnd (fun c1 => ?_) (fun c1 => ?_) <;> simp only [iEq_T, iEq_F] at c1
  · rw [if_pos c1]
    refine T.cnd (fun c2 => T.ret ?_) (fun c2 => ?_) <;> simp only [iLt_T, iLt_F] at c2
    · rw [if_pos (by omega)]
    · rw [if_neg (by omega)]
      refine T.cnd (fun c2 => T.ret ?_) (fun c2 => T.ret ?_) <;> simp only [corT_T, corT_F, iLt_T, iLt_F] at c2
      · rw [if_pos (by omega)]
      · rw [if_neg (by omega)]
  rw [if_neg c1]
  refine T.cnd (fun c1 => ?_) (fun c1 => ?_) <;> simp only [iEq_T, iEq_F] at c1
  · rw [if_pos c1]
    refine T.cnd (fun c2 => T.ret ?_) (fun c2 => T.ret ?_) <;> simp only [corT_T, corT_F, iLt_T, iLt_F, iNe_T, iNe_F] at c2
    · rw [if_pos (by omega)]
    · rw [if_neg (by omega)]
  · rw [if_neg c1]; exact T.ret rfl
theorem attr_r (a : DS0) : m30 a = some (attrS a, ()) := by
  refine T.eq ?_
  unfold m30 attrS
  have hL := lenI_eq a.2.2.1
  refine T.cnd (fun c1 => ?_) (fun c1 => ?_) <;> simp only [iEq_T, iEq_F] at c1
  · rw [if_pos c1]
    refine T.cnd (fun c2 => T.ret ?_) (fun c2 => ?_) <;> simp only [corT_T, corT_F, iNe_T, iNe_F] at c2
    · rw [if_pos (by omega)]
    · rw [if_neg (by omega)]
      unfold wordsS
      refine T.cnd (fun c2 => T.ret ?_) (fun c2 => ?_) <;> simp only [iEq_T, iEq_F] at c2
      · rw [if_pos (by omega)]
      rw [if_neg (by omega)]
      refine T.cnd (fun c2 => T.ret ?_) (fun c2 => ?_) <;> simp only [iLt_T, iLt_F] at c2
      · rw [if_pos (by omega)]
      rw [if_neg (by omega)]
      refine T.callE (names_r _ (by omega)) ?_
      dsimp only
      refine T.cnd (fun c3 => T.ret ?_) (fun c3 => ?_) <;> simp only [not_T, not_F] at c3
      · rw [if_neg (by rw [c3]; simp)]
      rw [if_pos c3]
      refine T.callE (distinct_r _ (by omega)) ?_
      dsimp only
      refine T.cnd (fun c4 => T.ret ?_) (fun c4 => T.ret ?_) <;> simp only [not_T, not_F] at c4
      · rw [if_pos c4]
      · rw [if_neg (by rw [c4]; simp)]
  rw [if_neg c1]
  refine T.cnd (fun c1 => ?_) (fun c1 => ?_) <;> simp only [iEq_T, iEq_F] at c1
  · rw [if_pos c1]
    refine T.cnd (fun c2 => T.ret ?_) (fun c2 => ?_) <;> simp only [iLt_T, iLt_F] at c2
    · rw [if_pos (by omega)]
    rw [if_neg (by omega)]
    refine T.cnd (fun c3 => T.ret ?_) (fun c3 => ?_) <;> simp only [iLt_T, iLt_F] at c3
    · rw [if_pos (by omega)]
    unfold m47
    refine T.bind (T.ret ?_)
    refine T.cnd (fun c4 => T.ret ?_) (fun c4 => ?_) <;> simp only [corT_T, corT_F, iLt_T, iLt_F] at c4
    · rw [if_pos (by omega)]
    refine T.bind (T.ret ?_)
    refine T.cnd (fun c5 => T.ret ?_) (fun c5 => T.ret ?_) <;> simp only [corT_T, corT_F, iLt_T, iLt_F] at c5
    · rw [if_pos (by omega)]
    · rw [if_neg (by omega)]
  rw [if_neg c1]
  refine T.cnd (fun c1 => ?_) (fun c1 => ?_) <;> simp only [iEq_T, iEq_F] at c1
  · rw [if_pos c1]
    refine T.cnd (fun c2 => T.ret ?_) (fun c2 => T.ret ?_) <;> simp only [corT_T, corT_F, iLt_T, iLt_F, iNe_T, iNe_F] at c2
    · rw [if_pos (by omega)]
    · rw [if_neg (by omega)]
  · rw [if_neg c1]; exact T.ret rfl
end Abs
end Go.Proofs.YtgkijjppdaeikaaDoor
