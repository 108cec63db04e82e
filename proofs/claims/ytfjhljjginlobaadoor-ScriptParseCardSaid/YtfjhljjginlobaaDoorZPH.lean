/- Merged and trimmed by a program: P1 P7 P2 P3 P4 P5 P6 P8 P9 P10 P11 LT P12 P13 P14 P15. -/
import Derived.Test.YtfjhljjginlobaaDoorZPG
import Derived.Lib.IndexMore
import Derived.Lib.ItoaMem
import Derived.Lib.LaidTab
import Derived.ChangeArms
set_option linter.unusedVariables false
set_option linter.unusedSimpArgs false
namespace Go.Proofs.YtfjhljjginlobaaDoor
namespace Abs
def LB (b : ByteArray) : List UInt8 := b.data.toList
def mkS (l : List UInt8) : ByteArray := ⟨l.toArray⟩
theorem LB_inj {a b : ByteArray} (h : LB a = LB b) : a = b := by
 obtain ⟨a⟩ := a; obtain ⟨b⟩ := b
 have h : a.toList = b.toList := h
 rw [Array.toList_inj.1 h]
theorem LB_mk (l : List UInt8) : LB (mkS l) = l := by simp [LB, mkS]
theorem mk_LB (s : ByteArray) : mkS (LB s) = s := LB_inj (LB_mk _)
theorem LB_bs (l : List UInt8) : LB (bs l) = l := LB_mk l
theorem LB_cat (a b : ByteArray) : LB (sCat a b) = LB a ++ LB b := by unfold LB sCat; simp [ByteArray.data_append]
theorem LB_len (b : ByteArray) : (LB b).length = b.size := rfl
theorem mk_size (l : List UInt8) : (mkS l).size = l.length := by show l.toArray.size = _; simp
theorem sFits_t {a b : ByteArray} (h : a.size + b.size ≤ 9223372036854775807) : sFits a b = true := by unfold sFits; rw [decide_eq_true_eq]; exact h
theorem sEq_LB (a b : ByteArray) : sEq a b = decide (LB a = LB b) := by
 by_cases h : a = b
 ·subst h; rw [decide_eq_true rfl]; rw [sEq_T]
 ·rw [decide_eq_false (fun q => h (LB_inj q))]; rw [sEq_F]; exact h
theorem sAt_LB (s : ByteArray) (k : Nat) : sAt s (k : Int) = (((LB s).getD k 0).toNat : Int) := by
 unfold sAt LB
 rw [Int.toNat_natCast]
 have : s.data.getD k 0 = s.data.toList.getD k 0 := by simp [Array.getD_eq_getD_getElem?, List.getD_eq_getElem?_getD]
 rw [this]
theorem cutS_LB (l u : Nat) (s : ByteArray) : LB (cutS (l : Int) (u : Int) s) = ((LB s).take u).drop l := by
 unfold LB cutS
 rw [Lib.extract_data, List.drop_take, Int.toNat_natCast, Int.toNat_natCast]
theorem bytes_LB (b : ByteArray) : bytesI b = (LB b).map fun c => (c.toNat : Int) := rfl
theorem bsI_map (l : List UInt8) : bsI (l.map fun c => (c.toNat : Int)) = mkS l := by
 apply LB_inj
 rw [LB_mk]
 unfold bsI LB
 rw [List.map_map]
 show (List.map _ l).toArray.toList = l
 rw [List.toList_toArray]
 refine (List.map_congr_left fun a _ => ?_).trans (List.map_id l)
 simp
theorem u8_inj {a b : UInt8} (h : (a.toNat : Int) = (b.toNat : Int)) : a = b := UInt8.toNat_inj.1 (by omega)
theorem u8_lt (a : UInt8) : a.toNat < 256 := a.toNat_lt
def splitB (c : UInt8) : List UInt8 → List (List UInt8)
 | [] => [[]]
 | x :: r => if x = c then [] :: splitB c r else match splitB c r with
  | p :: ps => (x :: p) :: ps
  | [] => [[x]]
def gluB (c : UInt8) : List (List UInt8) → List UInt8
 | [] => []
 | [p] => p
 | p :: ps => p ++ c :: gluB c ps
theorem gluB_cons (c : UInt8) (p : List UInt8) {ps : List (List UInt8)} (h : ps ≠ []) : gluB c (p :: ps) = p ++ c :: gluB c ps := by
 cases ps with
 | nil => exact absurd rfl h
 | cons q qs => rfl
theorem split_ne (c : UInt8) : ∀ s : List UInt8, splitB c s ≠ []
 | [] => by simp [splitB]
 | x :: r => by
  unfold splitB
  split
  ·simp
  ·split <;> simp
theorem glu_split (c : UInt8) : ∀ s : List UInt8, gluB c (splitB c s) = s
 | [] => rfl
 | x :: r => by
  have ih := glu_split c r
  have hn := split_ne c r
  unfold splitB
  split
  ·rename_i h
   rw [gluB_cons c _ hn, ih, h]; rfl
  ·match hs : splitB c r, hn with
   | p :: ps, _ =>
    rw [hs] at ih
    dsimp only
    cases ps with
    | nil =>
     have ih : p = r := ih
     show x :: p = _
     rw [ih]
    | cons q qs =>
     have ih : p ++ c :: gluB c (q :: qs) = r := ih
     show (x :: p) ++ c :: gluB c (q :: qs) = _
     rw [List.cons_append, ih]
theorem split_free (c : UInt8) : ∀ (s : List UInt8) (p : List UInt8), p ∈ splitB c s → c ∉ p
 | [], p, h => by simp [splitB] at h; subst h; simp
 | x :: r, p, h => by
  have ih := split_free c r
  have hn := split_ne c r
  unfold splitB at h
  split at h
  ·rcases List.mem_cons.1 h with rfl | h
   ·simp
   ·exact ih p h
  ·rename_i hx
   match hs : splitB c r, hn with
   | q :: qs, _ =>
    rw [hs] at h ih
    dsimp only at h
    rcases List.mem_cons.1 h with rfl | h
    ·simp only [List.mem_cons, not_or]
     exact ⟨fun k => hx k.symm, ih q (by simp)⟩
    ·exact ih p (by simp [h])
theorem split_one (c : UInt8) : ∀ (p : List UInt8), c ∉ p → splitB c p = [p]
 | [], _ => rfl
 | x :: r, h => by
  simp only [List.mem_cons, not_or] at h
  unfold splitB
  rw [if_neg (fun k => h.1 k.symm), split_one c r h.2]
theorem split_app (c : UInt8) : ∀ (p r : List UInt8), c ∉ p → splitB c (p ++ c :: r) = p :: splitB c r
 | [], r, _ => by show splitB c (c :: r) = _; rw [splitB, if_pos rfl]
 | x :: p, r, h => by
  simp only [List.mem_cons, not_or] at h
  rw [List.cons_append, splitB, if_neg (fun k => h.1 k.symm), split_app c p r h.2]
theorem split_glu (c : UInt8) : ∀ (ps : List (List UInt8)), ps ≠ [] → (∀ p ∈ ps, c ∉ p) → splitB c (gluB c ps) = ps
 | [], h, _ => absurd rfl h
 | [p], _, h => split_one c p (h p (by simp))
 | p :: q :: qs, _, h => by
  rw [gluB_cons c p (by simp), split_app c p _ (h p (by simp)), split_glu c (q :: qs) (by simp) fun r hr => h r (by simp [hr])]
theorem index_app (c : UInt8) : ∀ (p r : List UInt8), c ∉ p → Lib.index (p ++ c :: r) [c] = (p.length : Int)
 | [], r, _ => by show Lib.index (c :: r) [c] = 0; unfold Lib.index; rw [if_pos (by simp)]
 | x :: p, r, h => by
  simp only [List.mem_cons, not_or] at h
  have ih := index_app c p r h.2
  rw [List.cons_append]
  unfold Lib.index
  rw [ih, if_neg (by simp; exact fun k => h.1 k), if_neg (by simp)]
  rfl
theorem index_no (c : UInt8) : ∀ (p : List UInt8), c ∉ p → Lib.index p [c] = -1
 | [], _ => rfl
 | x :: p, h => by
  simp only [List.mem_cons, not_or] at h
  have ih := index_no c p h.2
  unfold Lib.index
  rw [ih, if_neg (by simp; exact fun k => h.1 k)]
  rfl
theorem cut_app (c : UInt8) (p r : List UInt8) (h : c ∉ p) : Lib.cut (p ++ c :: r) [c] = (p, r, true) := by
 unfold Lib.cut
 rw [index_app c p r h, if_pos (by omega), Int.toNat_natCast]
 congr 1
 ·simp
 ·congr 1
  show List.drop (p.length + 1) _ = r
  rw [show p.length + 1 = (p ++ [c]).length by simp, show p ++ c :: r = (p ++ [c]) ++ r by simp, List.drop_left]
theorem cut_no (c : UInt8) (p : List UInt8) (h : c ∉ p) : Lib.cut p [c] = (p, [], false) := by
 unfold Lib.cut
 rw [index_no c p h, if_neg (by omega)]
def cutP (c : UInt8) (s : List UInt8) : List UInt8 × List UInt8 × Bool := match splitB c s with
 | [] => ([], [], false)
 | [p] => (p, [], false)
 | p :: ps => (p, gluB c ps, true)
theorem cut_eq (c : UInt8) (s : List UInt8) : Lib.cut s [c] = cutP c s := by
 have hg := glu_split c s
 have hf := split_free c s
 unfold cutP
 match hs : splitB c s, split_ne c s with
 | [p], _ =>
  rw [hs] at hg hf
  have hg : p = s := hg
  subst hg
  exact cut_no c p (hf p (by simp))
 | p :: q :: qs, _ =>
  rw [hs] at hg hf
  rw [← hg]
  exact cut_app c p _ (hf p (by simp))
theorem mCut_eq (s : ByteArray) (c : UInt8) (h : s.size ≤ 4000000000) : mCut s (mkS [c]) = some (mkS (cutP c (LB s)).1, mkS (cutP c (LB s)).2.1, (cutP c (LB s)).2.2, ()) := by
 unfold mCut
 rw [if_pos h]
 unfold scutB
 have e : Lib.cut s.data.toList (mkS [c]).data.toList = cutP c (LB s) := by rw [← cut_eq]; rfl
 rw [e]; rfl
theorem count_eq (c : UInt8) : ∀ s : List UInt8, s.count c + 1 = (splitB c s).length
 | [] => rfl
 | x :: r => by
  have ih := count_eq c r
  have hn := split_ne c r
  rw [List.count_cons, splitB]
  by_cases h : x = c
  ·rw [if_pos h, if_pos (by simpa using h), List.length_cons, ← ih]
  ·rw [if_neg h, if_neg (by simpa using h)]
   match hs : splitB c r, hn with
   | p :: ps, _ =>
    rw [hs] at ih
    dsimp only
    rw [List.length_cons] at ih ⊢
    omega
theorem mCount_eq (s : ByteArray) (c : UInt8) : mCount s (mkS [c]) = some ((((splitB c (LB s)).length : Int) - 1), ()) := by
 unfold mCount
 rw [if_pos (show (mkS [c]).data.size = 1 from rfl)]
 unfold cntB Lib.countByte
 have e : (mkS [c]).data.getD 0 0 = c := rfl
 have := count_eq c (LB s)
 rw [e]
 have e2 : s.data.toList = LB s := rfl
 rw [e2]
 congr 2
 omega
def fullB (c : UInt8) (s : List UInt8) : Bool := (splitB c s).all fun p => !p.isEmpty
theorem has2 (c : UInt8) : ∀ s : List UInt8, 0 ≤ Lib.index s [c, c] ↔ ∃ a b, s = a ++ c :: c :: b
 | [] => by
  constructor
  ·intro h; exact absurd h (by unfold Lib.index; simp)
  ·rintro ⟨a, b, h⟩; simp at h
 | x :: r => by
  have ih := has2 c r
  have hge := Lib.index_ge r [c, c]
  unfold Lib.index
  by_cases hp : [c, c].isPrefixOf (x :: r) = true
  ·rw [if_pos hp]
   obtain ⟨t, ht⟩ := List.isPrefixOf_iff_prefix.1 hp
   exact ⟨fun _ => ⟨[], t, by rw [← ht]; rfl⟩, fun _ => by omega⟩
  ·rw [if_neg hp]
   constructor
   ·intro h
    split at h
    ·omega
    ·rename_i hq
     have hq : Lib.index r [c, c] ≠ -1 := by simpa using hq
     obtain ⟨a, b, e⟩ := ih.1 (by omega)
     exact ⟨x :: a, b, by rw [e]; rfl⟩
   ·rintro ⟨a, b, e⟩
    cases a with
    | nil => exact absurd (List.isPrefixOf_iff_prefix.2 ⟨b, e.symm⟩) hp
    | cons y a =>
     have e : x :: r = y :: (a ++ c :: c :: b) := e
     injection e with _ e
     have := ih.2 ⟨a, b, e⟩
     rw [if_neg (by simp; omega)]; omega
theorem full_cons (c : UInt8) (x : UInt8) (r : List UInt8) : fullB c (x :: r) = true ↔ x ≠ c ∧ (r = [] ∨ (r.head? = some c ∧ fullB c (r.drop 1) = true) ∨ (r.head? ≠ some c ∧ fullB c r = true)) := by
 unfold fullB
 by_cases hx : x = c
 ·rw [splitB, if_pos hx]
  simp [hx]
 ·rw [splitB, if_neg hx]
  cases r with
  | nil => simp [splitB, hx]
  | cons y r =>
   by_cases hy : y = c
   ·rw [splitB, if_pos hy]
    simp [hx, hy]
   ·have e : splitB c (y :: r) = match splitB c r with | p :: ps => (y :: p) :: ps | [] => [[y]] := by rw [splitB, if_neg hy]
    match hs : splitB c r, split_ne c r with
    | p :: ps, _ =>
     rw [e, hs]
     simp [hx, hy, hs, e]
theorem full_iff (c : UInt8) : ∀ s : List UInt8, fullB c s = true ↔ s ≠ [] ∧ s.head? ≠ some c ∧ s.getLast? ≠ some c ∧ ¬ ∃ a b, s = a ++ c :: c :: b
 | [] => by simp [fullB, splitB]
 | [x] => by
  rw [full_cons]
  simp
  intro h a b e
  cases a with
  | nil => simp at e
  | cons y a => simp at e
 | x :: y :: r => by
  rw [full_cons]
  have ih := full_iff c (y :: r)
  have ih2 := full_iff c r
  have hl : (x :: y :: r).getLast? = (y :: r).getLast? := by simp [List.getLast?_cons_cons]
  have hd : (∃ a b, x :: y :: r = a ++ c :: c :: b) ↔ (x = c ∧ y = c) ∨ ∃ a b, y :: r = a ++ c :: c :: b := by
   constructor
   ·rintro ⟨a, b, e⟩
    cases a with
    | nil => injection e with e1 e; injection e with e2 e; exact .inl ⟨e1, e2⟩
    | cons z a => injection e with e1 e; exact .inr ⟨a, b, e⟩
   ·rintro (⟨rfl, rfl⟩ | ⟨a, b, e⟩)
    ·exact ⟨[], r, rfl⟩
    ·exact ⟨x :: a, b, by rw [e]; rfl⟩
  rw [hl, hd]
  by_cases hy : y = c
  ·subst hy
   have : (∃ a b, y :: r = a ++ y :: y :: b) ↔ (r.head? = some y ∨ ∃ a b, r = a ++ y :: y :: b) := by
    constructor
    ·rintro ⟨a, b, e⟩
     cases a with
     | nil => injection e with e1 e; left; rw [e]; rfl
     | cons z a => injection e with e1 e; exact .inr ⟨a, b, e⟩
    ·rintro (h | ⟨a, b, e⟩)
     ·cases r with
      | nil => cases h
      | cons z r => simp at h; subst h; exact ⟨[], r, rfl⟩
     ·exact ⟨y :: a, b, by rw [e]; rfl⟩
   rw [this]
   simp only [List.head?_cons, List.drop_succ_cons, List.drop_zero, ih2]
   cases r with
   | nil => simp
   | cons z r =>
    simp only [List.getLast?_cons_cons, List.head?_cons, ne_eq, Option.some.injEq, not_true_eq_false, false_and, or_false, true_and, reduceCtorEq, not_false_eq_true, false_or, not_or, not_and]
    constructor
    ·rintro ⟨h1, h2, h3, h4⟩; exact ⟨h1, h3, fun k => absurd k h1, h2, h4⟩
    ·rintro ⟨h1, h2, h3, h4, h5⟩; exact ⟨h1, h4, h2, h5⟩
  ·simp only [List.head?_cons, ih, ne_eq, Option.some.injEq, reduceCtorEq, not_false_eq_true, false_or, hy, false_and, true_and, and_false]
def hasD (c : UInt8) (s : List UInt8) : Bool := decide (0 ≤ Lib.index s [c, c])
theorem hasD_T (c : UInt8) (s : List UInt8) : (hasD c s = true) = ∃ a b, s = a ++ c :: c :: b := by
 unfold hasD; rw [decide_eq_true_eq]; exact propext (has2 c s)
theorem has_m (s : ByteArray) (c : UInt8) (hs : s.size ≤ 4000000000) : mHas s (mkS [c, c]) = some (hasD c (LB s), ()) := by
 unfold mHas
 rw [if_pos hs]
 rfl
theorem bsR : ((∀ (a b : Int), (iLt a b = true) = (a < b)) ∧ (∀ (a b : Int), (iLt a b = false) = (b ≤ a)) ∧ (∀ (a b : Int), (iLe a b = true) = (a ≤ b)) ∧ (∀ (a b : Int), (iLe a b = false) = (b < a)) ∧ (∀ (a b : Int), (iEq a b = true) = (a = b)) ∧ (∀ (a b : Int), (iEq a b = false) = (¬ a = b)) ∧ (∀ (a b : Int), (iNe a b = true) = (¬ a = b)) ∧ (∀ (a b : Int), (iNe a b = false) = (a = b)) ∧ (∀ (a b : Int), (bnd a b = true) = (0 ≤ a ∧ a < b)) ∧ (∀ (a b : Int), (bnd a b = false) = (a < 0 ∨ b ≤ a)) ∧ (∀ (α : Type) (i : Nat) (xs : List α), (inB i xs = true) = (i < xs.length)) ∧ (∀ (α : Type) (i : Nat) (xs : List α), (inB i xs = false) = (xs.length ≤ i)) ∧ (∀ (n b : Nat), (fits n b = true) = (n * b ≤ 140737488355328 ∧ n ≤ 4611686018427387904)) ∧ (∀ (n : Int) (b : Nat), (fitsI n b = true) = (0 ≤ n ∧ n * b ≤ 140737488355328 ∧ n ≤ 4611686018427387904)) ∧ (∀ (l u : Int) (n : Nat), (cutOk l u n = true) = (0 ≤ l ∧ l ≤ u ∧ u ≤ (n : Int))) ∧ (∀ (α : Type) (xs : List α), (someE xs = true) = (0 < xs.length)) ∧ (∀ (α : Type) (xs : List α), (someE xs = false) = (xs.length = 0)) ∧ (∀ (α : Type) (n : Nat) (xs : List α), (leN n xs = true) = (n ≤ xs.length)) ∧ (∀ (b : Bool), (Bool.not b = true) = (b = false)) ∧ (∀ (b : Bool), (Bool.not b = false) = (b = true)) ∧ (∀ (a b : Bool), (and a b = true) = (a = true ∧ b = true)) ∧ (∀ (a b : Bool), (and a b = false) = (a = false ∨ b = false)) ∧ (∀ (a b : Bool), (or a b = true) = (a = true ∨ b = true)) ∧ (∀ (a b : Bool), (or a b = false) = (a = false ∧ b = false)) ∧ (∀ (a b : Bool), (cond a b false = true) = (a = true ∧ b = true)) ∧ (∀ (a b : Bool), (cond a b false = false) = (a = false ∨ b = false)) ∧ (∀ (a b : Bool), (cond a true b = true) = (a = true ∨ b = true)) ∧ (∀ (a b : Bool), (cond a true b = false) = (a = false ∧ b = false)) ∧ (∀ (a : Bool), (bEq a true = true) = (a = true)) ∧ (∀ (a : Bool), (bEq a true = false) = (a = false)) ∧ (∀ (a : Bool), (bEq a false = true) = (a = false)) ∧ (∀ (a : Bool), (bEq a false = false) = (a = true))) ∧ (∀ p : Prop, (p ∨ True) = True) ∧ (∀ p : Prop, (True ∨ p) = True) ∧ (∀ p : Prop, (p ∧ True) = p) ∧ (∀ p : Prop, (True ∧ p) = p) ∧ (∀ p : Prop, (p ∨ False) = p) ∧ (∀ p : Prop, (False ∨ p) = p) ∧ (∀ p : Prop, (p ∧ False) = False) ∧ (∀ p : Prop, (False ∧ p) = False) ∧ ((¬ True) = False) ∧ ((¬ False) = True) ∧ ((true = false) = False) ∧ ((false = true) = False) ∧ (∀ (α : Type) (a : α), (a = a) = True) := ⟨⟨@iLt_T, @iLt_F, @iLe_T, @iLe_F, @iEq_T, @iEq_F, @iNe_T, @iNe_F, @bnd_T, @bnd_F, @inB_T, @inB_F, @fits_T, @fitsI_T, @cutOk_T, @someE_T, @someE_F, @leN_T, @not_T, @not_F, @and_T, @and_F, @or_T, @or_F, @candF_T, @candF_F, @corT_T, @corT_F, @bEqT_T, @bEqT_F, @bEqF_T, @bEqF_F⟩, by simp⟩
theorem arR : ((∀ (a b : Int) (h1 : -9223372036854775808 ≤ a + b) (h2 : a + b ≤ 9223372036854775807), iAdd .i64 a b = a + b) ∧ (∀ (a b : Int) (h1 : -9223372036854775808 ≤ a - b) (h2 : a - b ≤ 9223372036854775807), iSub .i64 a b = a - b) ∧ (∀ (a b : Int) (h1 : -9223372036854775808 ≤ a * b) (h2 : a * b ≤ 9223372036854775807), iMul .i64 a b = a * b) ∧ (∀ (α : Type) (xs : List α), lenI xs = (xs.length : Int))) ∧ (∀ (α : Type) (a b : List α), (a ++ b).length = a.length + b.length) ∧ (∀ (α : Type) (a : α) (l : List α), (a :: l).length = l.length + 1) ∧ (∀ (α : Type), ([] : List α).length = 0) ∧ (∀ (α : Type) (l : List α) (i : Nat) (a : α), (l.set i a).length = l.length) ∧ (∀ (α : Type) (l : List α) (n : Nat), (l.take n).length = min n l.length) ∧ (∀ (α : Type) (l : List α) (n : Nat), (l.drop n).length = l.length - n) ∧ (∀ (α : Type) (a : α) (n : Nat), (List.replicate n a).length = n) := ⟨⟨@iAdd64, @iSub64, @iMul64, @lenI_eq⟩, by simp⟩
def DeckOk (L : List Int) (a : Int) : Prop := (∀ x ∈ L, -9223372036854775808 ≤ x ∧ x ≤ 9223372036854775807) ∧ L.length ≤ 9223372036854775807 ∧ 0 ≤ a
theorem next_ok {L : List Int} {a n : Int} (h : DeckOk L a) (hn : 0 < n) (hn2 : n ≤ 4611686018427387904) : ∃ v a', m27 n L a = some (v, L, a', ()) ∧ 0 ≤ v ∧ v < n ∧ DeckOk L a' := by
 obtain ⟨h1, h2, h3⟩ := h
 unfold m27
 by_cases hl : (L.length : Int) ≤ a
 ·refine ⟨0, a, ?_, by omega, hn, h1, h2, h3⟩
  rw [iLe_t (by simpa [lenI] using hl)]; rfl
 ·have hlt : a.toNat < L.length := by omega
  have ha : a = (a.toNat : Int) := by omega
  have hx := h1 L[a.toNat] (List.getElem_mem _)
  have e1 : iSub .i64 (iAdd .i64 a 1) 1 = (a.toNat : Int) := by rw [iAdd64 (by omega) (by omega), iSub64 (by omega) (by omega)]; omega
  have b1 := Int.tmod_lt_of_pos L[a.toNat] hn
  have b2 : -n < L[a.toNat].tmod n := by have := Int.lt_tmod_of_pos L[a.toNat] hn; omega
  have e2 : iAdd .i64 (iRem L[a.toNat] n) n = L[a.toNat].tmod n + n := iAdd64 (by simp only [iRem]; omega) (by simp only [iRem]; omega)
  refine ⟨(L[a.toNat].tmod n + n) % n, a + 1, ?_, Int.emod_nonneg _ (by omega), Int.emod_lt_of_pos _ hn, h1, h2, by omega⟩
  rw [iLe_f (by simp only [lenI]; omega), e1]
  simp (disch := omega) only [cond_false, bnd_t, lenI, cond_true, iNe_t, atI_get, e2, iAdd64, iRem_pos]
theorem upto_ok {L : List Int} {a n : Int} (h : DeckOk L a) (h0 : 0 ≤ n) (h1 : n ≤ 4611686018427387903) : ∃ v a', m54 n L a = some (v, L, a', ()) ∧ 0 ≤ v ∧ v ≤ n ∧ DeckOk L a' := by
 unfold m54
 obtain ⟨v0, a0, e0, p0, q0, d0⟩ := next_ok (n := 6) h (by omega) (by omega)
 rw [e0]
 simp only [Option.bind_some]
 by_cases c0 : v0 = 0
 ·obtain ⟨v, a', e, p, q, d⟩ := next_ok (n := 4) d0 (by omega) (by omega)
  rw [iEq_t c0, e]
  exact ⟨min v n, a', rfl, by omega, by omega, d⟩
 rw [iEq_f c0]
 simp only [cond_false]
 by_cases c1 : v0 = 1
 ·obtain ⟨v, a', e, p, q, d⟩ := next_ok (n := 100) d0 (by omega) (by omega)
  rw [iEq_t c1, e]
  exact ⟨min v n, a', rfl, by omega, by omega, d⟩
 rw [iEq_f c1]
 simp only [cond_false]
 by_cases c2 : v0 = 2
 ·obtain ⟨v, a', e, p, q, d⟩ := next_ok (n := 1048576) d0 (by omega) (by omega)
  rw [iEq_t c2, e]
  exact ⟨min v n, a', rfl, by omega, by omega, d⟩
 rw [iEq_f c2]
 simp only [cond_false]
 have e1 : iAdd .i64 n 1 = n + 1 := iAdd64 (by omega) (by omega)
 rw [e1]
 by_cases c3 : v0 = 3
 ·have e2 : iMin 3 (n + 1) = min 3 (n + 1) := rfl
  obtain ⟨v, a', e, p, q, d⟩ := next_ok (n := min 3 (n + 1)) d0 (by omega) (by omega)
  rw [iEq_t c3, e2, e]
  exact ⟨n - v, a', by simp only [cond_true, Option.bind_some]; rw [iSub64 (by omega) (by omega)], by omega, by omega, d⟩
 rw [iEq_f c3]
 obtain ⟨v, a', e, p, q, d⟩ := next_ok (n := n + 1) d0 (by omega) (by omega)
 rw [e]
 exact ⟨v, a', rfl, by omega, by omega, d⟩
theorem next_T {L : List Int} {a n : Int} (h : DeckOk L a) (hn : 0 < n) (hn2 : n ≤ 4611686018427387904) : T (m27 n L a) (fun y => DeckOk y.2.1 y.2.2.1 ∧ 0 ≤ y.1 ∧ y.1 < n) := by
 obtain ⟨v, a', e, h1, h2, h3⟩ := next_ok h hn hn2
 exact ⟨_, e, h3, h1, h2⟩
theorem upto_T {L : List Int} {a n : Int} (h : DeckOk L a) (h0 : 0 ≤ n) (h1 : n ≤ 4611686018427387903) : T (m54 n L a) (fun y => DeckOk y.2.1 y.2.2.1 ∧ 0 ≤ y.1 ∧ y.1 ≤ n) := by
 obtain ⟨v, a', e, h1, h2, h3⟩ := upto_ok h h0 h1
 exact ⟨_, e, h3, h1, h2⟩
theorem nextA {L : List Int} {a n : Int} (h : DeckOk L a) (hn : 0 < n := by first | omega | (simp (disch := omega) only [arR]; omega)) (hn2 : n ≤ 4611686018427387904 := by first | omega | (simp (disch := omega) only [arR]; omega)) : T (m27 n L a) (fun y => DeckOk y.2.1 y.2.2.1 ∧ 0 ≤ y.1 ∧ y.1 < n) := next_T h hn hn2
theorem uptoA {L : List Int} {a n : Int} (h : DeckOk L a) (h0 : 0 ≤ n := by first | omega | (simp (disch := omega) only [arR]; omega)) (h1 : n ≤ 4611686018427387903 := by first | omega | (simp (disch := omega) only [arR]; omega)) : T (m54 n L a) (fun y => DeckOk y.2.1 y.2.2.1 ∧ 0 ≤ y.1 ∧ y.1 ≤ n) := upto_T h h0 h1
theorem small_T {L : List Int} {a : Int} (h : DeckOk L a) : T (m29 L a) (fun y => DeckOk y.2.1 y.2.2.1 ∧ 0 ≤ y.1 ∧ y.1 < 268435456) := by
 unfold m29
 repeat' (first | (refine T.call (nextA (by assumption)) (fun _ ⟨_, _, _⟩ => ?_)) | refine T.grd ?_ ?_ | (refine T.cnd (fun hc => ?_) (fun hc => ?_) <;> try simp only [bsR] at hc) | refine T.mapL ?_ | refine T.mapJ ?_ | refine T.go ?_ ?_ | refine T.out ?_ | refine T.jgo ?_ | refine T.jout ?_ | refine T.ret ?_)
 all_goals exact ⟨by assumption, by omega, by omega⟩
theorem money_T {L : List Int} {a : Int} (h : DeckOk L a) : T (m56 L a) (fun y => DeckOk y.2.1 y.2.2.1 ∧ 0 ≤ y.1 ∧ y.1 ≤ 1073741824) := by
 unfold m56
 repeat' (first | (refine T.call (uptoA (by assumption)) (fun _ ⟨_, _, _⟩ => ?_)) | refine T.grd ?_ ?_ | (refine T.cnd (fun hc => ?_) (fun hc => ?_) <;> try simp only [bsR] at hc) | refine T.mapL ?_ | refine T.mapJ ?_ | refine T.go ?_ ?_ | refine T.out ?_ | refine T.jgo ?_ | refine T.jout ?_ | refine T.ret ?_)
 exact ⟨by assumption, by omega, by omega⟩
theorem range_T {L : List Int} {a l u : Int} (h : DeckOk L a) (h0 : 0 ≤ l) (h1 : l ≤ u) (h2 : u ≤ 1000000) : T (m57 l u L a) (fun y => DeckOk y.2.1 y.2.2.1 ∧ l ≤ y.1 ∧ y.1 ≤ u) := by
 unfold m57
 have e : iAdd .i64 (iSub .i64 u l) 1 = u - l + 1 := by rw [iSub64 (by omega) (by omega), iAdd64 (by omega) (by omega)]
 rw [e]
 repeat' (first | (refine T.call (nextA (by assumption)) (fun _ ⟨_, _, _⟩ => ?_)) | refine T.grd ?_ ?_ | (refine T.cnd (fun hc => ?_) (fun hc => ?_) <;> try simp only [bsR] at hc) | refine T.mapL ?_ | refine T.mapJ ?_ | refine T.go ?_ ?_ | refine T.out ?_ | refine T.jgo ?_ | refine T.jout ?_ | refine T.ret ?_)
 refine ⟨by assumption, ?_, ?_⟩ <;> (rw [iAdd64 (by omega) (by omega)]; omega)
theorem mem_snoc {α : Type} {P : α → Prop} {xs : List α} {y : α} (h : ∀ x ∈ xs, P x) (hy : P y) : ∀ x ∈ xs ++ [y], P x := by
 intro x hx
 rcases List.mem_append.1 hx with q | q
 ·exact h x q
 ·rw [List.mem_singleton.1 q]; exact hy
theorem subset_T {L : List Int} {a : Int} (h : DeckOk L a) : T (m55 0 2 L a) (fun y => DeckOk y.1 y.2.1 ∧ y.2.2.1.length ≤ 3) := by
 unfold m55
 refine T.call (next_T h (by omega) (by omega)) (fun y ⟨d, y0, y1⟩ => ?_)
 refine T.cnd (fun _ => T.ret ⟨d, by simp⟩) (fun _ => ?_)
 refine T.loop (fun s => s.1 = 2 ∧ (0 ≤ s.2.1 ∧ s.2.1 ≤ 3) ∧ DeckOk s.2.2.1 s.2.2.2.1 ∧ (s.2.2.2.2.1.length : Int) ≤ s.2.1) (fun s => (3 - s.2.1).toNat) ⟨rfl, ⟨by simp, by simp⟩, d, by simp⟩ (fun s ⟨e, ⟨k0, k1⟩, d, hl⟩ => ?_)
 rw [e]
 repeat' (first | (refine T.call (nextA (by assumption)) (fun _ ⟨_, _, _⟩ => ?_)) | refine T.grd ?_ ?_ | (refine T.cnd (fun hc => ?_) (fun hc => ?_) <;> try simp only [bsR] at hc) | refine T.mapL ?_ | refine T.mapJ ?_ | refine T.go ?_ ?_ | refine T.out ?_ | refine T.jgo ?_ | refine T.jout ?_ | refine T.ret ?_)
 ·simp (disch := omega) only [bsR, arR] <;> omega
 ·dsimp only
  refine ⟨rfl, ?_, by assumption, ?_⟩ <;> (rw [iAdd64 (by omega) (by omega)]; try simp only [List.length_append, List.length_cons, List.length_nil]) <;> omega
 ·simp (disch := omega) only [iAdd64]; omega
 ·dsimp only
  refine ⟨rfl, ?_, by assumption, ?_⟩ <;> (rw [iAdd64 (by omega) (by omega)]; omega)
 ·simp (disch := omega) only [iAdd64]; omega
 ·exact ⟨d, by dsimp only; omega⟩
def PartsOk (l : List DS6) : Prop := l.length ≤ 100 ∧ ∀ p ∈ l, 0 ≤ p.1 ∧ p.1 ≤ 1000
theorem parts_T {L : List Int} {a : Int} (h : DeckOk L a) : T (m30 L a) (fun y => DeckOk y.1 y.2.1 ∧ PartsOk y.2.2.1 ∧ True) := by
 unfold m30
 refine T.call (next_T h (by omega) (by omega)) (fun y ⟨d, y0, y1⟩ => ?_)
 refine T.loop (fun s => (0 ≤ s.1 ∧ s.1 ≤ 1000000) ∧ (0 ≤ s.2.1 ∧ s.2.1 + 3 * s.2.2.1 ≤ 15) ∧ 0 ≤ s.2.2.1 ∧ DeckOk s.2.2.2.1 s.2.2.2.2.1 ∧ (s.2.2.2.2.2.1.length : Int) + s.2.2.1 ≤ 5 ∧ ∀ p ∈ s.2.2.2.2.2.1, 0 ≤ p.1 ∧ p.1 ≤ 1000) (fun s => s.2.2.1.toNat) ⟨⟨by simp, by simp⟩, ⟨by simp, by simp; omega⟩, y0, d, by simp; omega, by simp⟩ (fun s ⟨⟨a0, a1⟩, ⟨b0, b1⟩, c0, d, hl, hp⟩ => ?_)
 repeat' (first | (refine T.call (nextA (by assumption)) (fun _ ⟨_, _, _⟩ => ?_)) | (refine T.call (uptoA (by assumption)) (fun _ ⟨_, _, _⟩ => ?_)) | refine T.grd ?_ ?_ | (refine T.cnd (fun hc => ?_) (fun hc => ?_) <;> try simp only [bsR] at hc) | refine T.mapL ?_ | refine T.mapJ ?_ | refine T.go ?_ ?_ | refine T.out ?_ | refine T.jgo ?_ | refine T.jout ?_ | refine T.ret ?_)
 ·simp (disch := omega) only [bsR, arR] <;> omega
 ·iterate 2 (try simp (disch := omega) only [iAdd64, iSub64] at *)
  refine ⟨⟨by omega, by omega⟩, ⟨by omega, by omega⟩, by omega, by assumption, by simp only [List.length_append, List.length_cons, List.length_nil]; omega, mem_snoc hp ⟨?_, ?_⟩⟩ <;> dsimp only <;> omega
 ·simp (disch := omega) only [iSub64]; omega
 ·exact ⟨d, ⟨by dsimp only; omega, hp⟩, trivial⟩
theorem has_T (l : List Int) (x : Int) (hl : l.length ≤ 1000) : T (m71 l x) (fun _ => True) := by
 unfold m71
 refine T.loop (fun s => s.2.1 = l ∧ s.2.2.1 = lenI l ∧ 0 ≤ s.2.2.2.1) (fun s => (lenI l - s.2.2.2.1).toNat) ⟨rfl, rfl, by simp⟩ (fun s ⟨e1, e2, k0⟩ => ?_)
 rw [e1, e2]
 have hz : lenI l = (l.length : Int) := rfl
 repeat' (first | refine T.grd ?_ ?_ | (refine T.cnd (fun hc => ?_) (fun hc => ?_) <;> try simp only [bsR] at hc) | refine T.mapL ?_ | refine T.mapJ ?_ | refine T.go ?_ ?_ | refine T.out ?_ | refine T.jgo ?_ | refine T.jout ?_ | refine T.ret ?_)
 ·simp (disch := omega) only [bsR, arR] <;> omega
 ·trivial
 ·exact ⟨rfl, rfl, by simp (disch := omega) only [iAdd64]; omega⟩
 ·simp (disch := omega) only [iAdd64]; omega
 ·trivial
theorem common_T (l m : List Int) (hl : l.length ≤ 1000) (hm : m.length ≤ 1000) : T (m59 l m) (fun _ => True) := by
 unfold m59
 refine T.loop (fun s => s.2.1 = m ∧ s.2.2.1 = l ∧ s.2.2.2.1 = lenI l ∧ 0 ≤ s.2.2.2.2.1) (fun s => (lenI l - s.2.2.2.2.1).toNat) ⟨rfl, rfl, rfl, by simp⟩ (fun s ⟨e0, e1, e2, k0⟩ => ?_)
 rw [e0, e1, e2]
 have hz : lenI l = (l.length : Int) := rfl
 repeat' (first | (refine T.call (has_T m _ hm) (fun _ _ => ?_)) | refine T.grd ?_ ?_ | (refine T.cnd (fun hc => ?_) (fun hc => ?_) <;> try simp only [bsR] at hc) | refine T.mapL ?_ | refine T.mapJ ?_ | refine T.go ?_ ?_ | refine T.out ?_ | refine T.jgo ?_ | refine T.jout ?_ | refine T.ret ?_)
 ·simp (disch := omega) only [bsR, arR] <;> omega
 ·trivial
 ·exact ⟨rfl, rfl, rfl, by simp (disch := omega) only [iAdd64]; omega⟩
 ·simp (disch := omega) only [iAdd64]; omega
 ·trivial
theorem overlap_T (p q : DS6) : T (m58 p q) (fun _ => True) := by
 unfold m58
 repeat' (first | (refine T.callE (show m70 _ = some _ from rfl) ?_) | refine T.grd ?_ ?_ | (refine T.cnd (fun hc => ?_) (fun hc => ?_) <;> try simp only [bsR] at hc) | refine T.mapL ?_ | refine T.mapJ ?_ | refine T.go ?_ ?_ | refine T.out ?_ | refine T.jgo ?_ | refine T.jout ?_ | refine T.ret ?_)
 all_goals trivial
theorem meet_T (p q : DS7) (h1 : List.length (α := Int) p.2.2.2.1 ≤ 1000) (h2 : List.length (α := Int) q.2.2.2.1 ≤ 1000) (h3 : List.length (α := Int) p.2.2.2.2.1 ≤ 1000) (h4 : List.length (α := Int) q.2.2.2.2.1 ≤ 1000) : T (m32 p q) (fun _ => True) := by
 unfold m32
 repeat' (first | (refine T.call (overlap_T _ _) (fun _ _ => ?_)) | (refine T.call (common_T _ _ h1 h2) (fun _ _ => ?_)) | (refine T.call (common_T _ _ h3 h4) (fun _ _ => ?_)) | refine T.grd ?_ ?_ | (refine T.cnd (fun hc => ?_) (fun hc => ?_) <;> try simp only [bsR] at hc) | refine T.mapL ?_ | refine T.mapJ ?_ | refine T.go ?_ ?_ | refine T.out ?_ | refine T.jgo ?_ | refine T.jout ?_ | refine T.ret ?_)
 all_goals trivial
theorem index_T (l : List DS7) (x : Int) (hl : l.length ≤ 1000) : T (m69 l x) (fun y => y.1 = -1 ∨ 0 ≤ y.1 ∧ y.1 < (l.length : Int)) := by
 unfold m69
 refine T.loop (fun s => s.2.1 = l ∧ s.2.2.1 = lenI l ∧ 0 ≤ s.2.2.2.1) (fun s => (lenI l - s.2.2.2.1).toNat) ⟨rfl, rfl, by simp⟩ (fun s ⟨e1, e2, k0⟩ => ?_)
 rw [e1, e2]
 have hz : lenI l = (l.length : Int) := rfl
 repeat' (first | refine T.grd ?_ ?_ | (refine T.cnd (fun hc => ?_) (fun hc => ?_) <;> try simp only [bsR] at hc) | refine T.mapL ?_ | refine T.mapJ ?_ | refine T.go ?_ ?_ | refine T.out ?_ | refine T.jgo ?_ | refine T.jout ?_ | refine T.ret ?_)
 ·simp (disch := omega) only [bsR, arR] <;> omega
 ·right; exact ⟨by omega, by omega⟩
 ·exact ⟨rfl, rfl, by simp (disch := omega) only [iAdd64]; omega⟩
 ·simp (disch := omega) only [iAdd64]; omega
 ·left; trivial
theorem treaty59_T {L : List Int} {a a0 k : Int} (h : DeckOk L a) : T (m31 a0 k L a) (fun y => DeckOk y.2.2.2.2.2.2.2.2.2.2.2.2.2.2.2.2.1 y.2.2.2.2.2.2.2.2.2.2.2.2.2.2.2.2.2.1 ∧ y.1 = a0 ∧ List.length (α := Int) y.2.2.2.2.2.2.2.2.2.2.2.2.2.2.2.2.2.2.1 ≤ 1000 ∧ List.length (α := Int) y.2.2.2.2.2.2.2.2.2.2.2.2.2.2.2.2.2.2.2.1 ≤ 1000 ∧ PartsOk y.2.2.2.2.2.2.2.2.2.2.2.2.2.2.2.2.2.2.2.2.2.1) := by
 unfold m31
 refine T.call (next_T h (by omega) (by omega)) (fun u1 ⟨d, _, _⟩ => ?_)
 refine T.call (next_T d (by omega) (by omega)) (fun u2 ⟨d, _, _⟩ => ?_)
 refine T.call (subset_T d) (fun u3 ⟨d, l3⟩ => ?_)
 refine T.call (subset_T d) (fun u4 ⟨d, l4⟩ => ?_)
 refine T.call (money_T d) (fun u5 ⟨d, _, _⟩ => ?_)
 refine T.call (parts_T d) (fun u6 ⟨d, p6, _⟩ => ?_)
 refine T.join (fun j => DeckOk j.2.1 j.2.2.1 ∧ j.2.2.2.2.2.2.2.2.2.2.2.2.2.2.2.2.2.2.2.1 = a0 ∧ List.length (α := Int) j.2.2.2.2.2.2.2.2.2.2.2.2.2.2.2.2.2.2.2.2.2.2.2.2.2.2.2.2.2.2.2.2.2.2.2.1 ≤ 1000 ∧ List.length (α := Int) j.2.2.2.2.2.2.2.2.2.2.2.2.2.2.2.2.2.2.2.2.2.2.2.2.2.2.2.2.2.2.2.2.2.2.2.2.1 ≤ 1000 ∧ PartsOk j.2.2.2.2.2.2.2.2.2.2.2.2.2.2.2.2.2.2.2.2.2.2.2.2.2.2.2.2.2.2.2.2.2.2.2.2.2.1) ?_ ?_
 ·repeat' (first | (refine T.call (nextA (by assumption)) (fun _ ⟨_, _, _⟩ => ?_)) | (refine T.call (uptoA (by assumption)) (fun _ ⟨_, _, _⟩ => ?_)) | (refine T.call (money_T (by assumption)) (fun _ ⟨_, _, _⟩ => ?_)) | (refine T.call (range_T (by assumption) (by first | omega | (simp (disch := omega) only [arR]; omega)) (by first | omega | (simp (disch := omega) only [arR]; omega)) (by first | omega | (simp (disch := omega) only [arR]; omega))) (fun _ ⟨_, _, _⟩ => ?_)) | refine T.grd ?_ ?_ | (refine T.cnd (fun hc => ?_) (fun hc => ?_) <;> try simp only [bsR] at hc) | refine T.mapL ?_ | refine T.mapJ ?_ | refine T.go ?_ ?_ | refine T.out ?_ | refine T.jgo ?_ | refine T.jout ?_ | refine T.ret ?_)
  all_goals exact ⟨by assumption, rfl, by dsimp only; omega, by dsimp only; omega, p6⟩
 intro j ⟨d, e, l3, l4, p6⟩
 refine T.join (fun j => DeckOk j.2.1 j.2.2.1 ∧ j.2.2.2.2.2.2.2.2.2.2.2.2.2.2.2.2.2.2.2.1 = a0 ∧ List.length (α := Int) j.2.2.2.2.2.2.2.2.2.2.2.2.2.2.2.2.2.2.2.2.2.2.2.2.2.2.2.2.2.2.2.2.2.2.2.1 ≤ 1000 ∧ List.length (α := Int) j.2.2.2.2.2.2.2.2.2.2.2.2.2.2.2.2.2.2.2.2.2.2.2.2.2.2.2.2.2.2.2.2.2.2.2.2.1 ≤ 1000 ∧ PartsOk j.2.2.2.2.2.2.2.2.2.2.2.2.2.2.2.2.2.2.2.2.2.2.2.2.2.2.2.2.2.2.2.2.2.2.2.2.2.2.1) ?_ ?_
 ·refine T.cnd (fun _ => ?_) (fun _ => T.jgo ⟨d, e, l3, l4, p6⟩)
  refine T.join (fun j => DeckOk j.2.1 j.2.2.1 ∧ j.2.2.2.2.2.2.2.2.2.2.2.2.2.2.2.2.2.2.2.1 = a0 ∧ List.length (α := Int) j.2.2.2.2.2.2.2.2.2.2.2.2.2.2.2.2.2.2.2.2.2.2.2.2.2.2.2.2.2.2.2.2.2.2.2.1 ≤ 1000 ∧ List.length (α := Int) j.2.2.2.2.2.2.2.2.2.2.2.2.2.2.2.2.2.2.2.2.2.2.2.2.2.2.2.2.2.2.2.2.2.2.2.2.1 ≤ 1000 ∧ PartsOk j.2.2.2.2.2.2.2.2.2.2.2.2.2.2.2.2.2.2.2.2.2.2.2.2.2.2.2.2.2.2.2.2.2.2.2.2.2.1) ?_ ?_
  ·repeat' (first | (refine T.call (nextA (by assumption)) (fun _ ⟨_, _, _⟩ => ?_)) | (refine T.call (money_T (by assumption)) (fun _ ⟨_, _, _⟩ => ?_)) | refine T.grd ?_ ?_ | (refine T.cnd (fun hc => ?_) (fun hc => ?_) <;> try simp only [bsR] at hc) | refine T.mapL ?_ | refine T.mapJ ?_ | refine T.go ?_ ?_ | refine T.out ?_ | refine T.jgo ?_ | refine T.jout ?_ | refine T.ret ?_)
   all_goals exact ⟨by assumption, e, l3, l4, p6⟩
  intro j ⟨d, e, l3, l4, p6⟩
  refine T.join (fun j => DeckOk j.2.1 j.2.2.1 ∧ j.2.2.2.2.2.2.2.2.2.2.2.2.2.2.2.2.2.2.2.1 = a0 ∧ List.length (α := Int) j.2.2.2.2.2.2.2.2.2.2.2.2.2.2.2.2.2.2.2.2.2.2.2.2.2.2.2.2.2.2.2.2.2.2.2.1 ≤ 1000 ∧ List.length (α := Int) j.2.2.2.2.2.2.2.2.2.2.2.2.2.2.2.2.2.2.2.2.2.2.2.2.2.2.2.2.2.2.2.2.2.2.2.2.1 ≤ 1000 ∧ PartsOk j.2.2.2.2.2.2.2.2.2.2.2.2.2.2.2.2.2.2.2.2.2.2.2.2.2.2.2.2.2.2.2.2.2.2.2.2.2.1) ?_ ?_
  ·repeat' (first | (refine T.call (nextA (by assumption)) (fun _ ⟨_, _, _⟩ => ?_)) | (refine T.call (money_T (by assumption)) (fun _ ⟨_, _, _⟩ => ?_)) | refine T.grd ?_ ?_ | (refine T.cnd (fun hc => ?_) (fun hc => ?_) <;> try simp only [bsR] at hc) | refine T.mapL ?_ | refine T.mapJ ?_ | refine T.go ?_ ?_ | refine T.out ?_ | refine T.jgo ?_ | refine T.jout ?_ | refine T.ret ?_)
   all_goals exact ⟨by assumption, e, l3, l4, p6⟩
  intro j ⟨d, e, l3, l4, p6⟩
  refine T.call (next_T d (by omega) (by omega)) (fun u7 ⟨d, u0, u1⟩ => ?_)
  refine T.loop (fun s => (DeckOk s.2.2.1 s.2.2.2.1 ∧ s.2.2.2.2.2.2.2.2.2.2.2.2.2.2.2.2.2.2.2.2.1 = a0 ∧ List.length (α := Int) s.2.2.2.2.2.2.2.2.2.2.2.2.2.2.2.2.2.2.2.2.2.2.2.2.2.2.2.2.2.2.2.2.2.2.2.2.1 ≤ 1000 ∧ List.length (α := Int) s.2.2.2.2.2.2.2.2.2.2.2.2.2.2.2.2.2.2.2.2.2.2.2.2.2.2.2.2.2.2.2.2.2.2.2.2.2.1 ≤ 1000 ∧ PartsOk s.2.2.2.2.2.2.2.2.2.2.2.2.2.2.2.2.2.2.2.2.2.2.2.2.2.2.2.2.2.2.2.2.2.2.2.2.2.2.2.1) ∧ 0 ≤ s.2.1 ∧ (List.length (α := Int) s.2.2.2.2.2.2.2.2.2.2.2.2.2.2.2.2.2.2.2.2.2.2.2.2.2.2.2.2.2.2.2.2.2.2.2.2.2.2.1 : Int) + s.2.1 ≤ 4) (fun s => s.2.1.toNat) ⟨⟨d, e, l3, l4, p6⟩, u0, by simp; omega⟩ (fun s ⟨⟨d, e, l3, l4, p6⟩, s0, s1⟩ => ?_)
  repeat' (first | (refine T.call (nextA (by assumption)) (fun _ ⟨_, _, _⟩ => ?_)) | (refine T.call (uptoA (by assumption)) (fun _ ⟨_, _, _⟩ => ?_)) | refine T.grd ?_ ?_ | (refine T.cnd (fun hc => ?_) (fun hc => ?_) <;> try simp only [bsR] at hc) | refine T.mapL ?_ | refine T.mapJ ?_ | refine T.go ?_ ?_ | refine T.out ?_ | refine T.jgo ?_ | refine T.jout ?_ | refine T.ret ?_)
  ·simp (disch := omega) only [bsR, arR] <;> omega
  ·dsimp only; exact ⟨⟨by assumption, e, l3, l4, p6⟩, by simp (disch := omega) only [iSub64]; omega, by simp (disch := omega) only [iSub64, List.length_append, List.length_cons, List.length_nil]; omega⟩
  ·simp (disch := omega) only [iSub64]; omega
  ·exact ⟨by assumption, e, l3, l4, p6⟩
  ·exact ⟨by assumption, e, l3, l4, p6⟩
 intro j ⟨d, e, l3, l4, p6⟩
 repeat' (first | (refine T.call (nextA (by assumption)) (fun _ ⟨_, _, _⟩ => ?_)) | (refine T.call (uptoA (by assumption)) (fun _ ⟨_, _, _⟩ => ?_)) | (refine T.call (range_T (by assumption) (by first | omega | (simp (disch := omega) only [arR]; omega)) (by first | omega | (simp (disch := omega) only [arR]; omega)) (by first | omega | (simp (disch := omega) only [arR]; omega))) (fun _ ⟨_, _, _⟩ => ?_)) | refine T.grd ?_ ?_ | (refine T.cnd (fun hc => ?_) (fun hc => ?_) <;> try simp only [bsR] at hc) | refine T.mapL ?_ | refine T.mapJ ?_ | refine T.go ?_ ?_ | refine T.out ?_ | refine T.jgo ?_ | refine T.jout ?_ | refine T.ret ?_)
 all_goals exact ⟨by assumption, e, l3, l4, p6⟩
def TrOk (t : DS7) : Prop := (0 ≤ t.1 ∧ t.1 ≤ 1000) ∧ List.length (α := Int) t.2.2.2.1 ≤ 1000 ∧ List.length (α := Int) t.2.2.2.2.1 ≤ 1000 ∧ PartsOk t.2.2.2.2.2.2.2.2.2.2.2.2.2.2.2.2.2.2.2.1
set_option maxHeartbeats 4000000 in
theorem treaties_T {L : List Int} {a : Int} (h : DeckOk L a) : T (m16 3 L a) (fun y => DeckOk y.2.1 y.2.2.1 ∧ y.1.length ≤ 10 ∧ ∀ t ∈ y.1, TrOk t) := by
 unfold m16
 refine T.call (next_T h (by omega) (by omega)) (fun y ⟨d, y0, y1⟩ => ?_)
 refine T.loop (fun s => (0 ≤ s.1 ∧ s.1 + 10 * s.2.1 ≤ 90) ∧ 0 ≤ s.2.1 ∧ DeckOk s.2.2.1 s.2.2.2.1 ∧ (List.length (α := DS7) s.2.2.2.2.1 : Int) + s.2.1 ≤ 9 ∧ ∀ t ∈ s.2.2.2.2.1, TrOk t) (fun s => s.2.1.toNat) ⟨⟨by simp, by simp (disch := omega) only [iAdd64]; omega⟩, by simp (disch := omega) only [iAdd64]; omega, d, by simp (disch := omega) only [iAdd64, List.length_nil]; omega, by simp⟩ (fun s ⟨⟨s0, s0'⟩, s1, d, s3, s4⟩ => ?_)
 refine T.cnd (fun hc => ?_) (fun hc => ?_) <;> simp only [iLt_T, iLt_F] at hc
 ·have s1' : 1 ≤ s.2.1 := by omega
  have s1'' : s.2.1 ≤ 10 := by omega
  refine T.call (next_T d (by omega) (by omega)) (fun v ⟨dv, v0, v1⟩ => ?_)
  have eid : iAdd .i64 s.1 (iAdd .i64 1 v.1) = s.1 + (1 + v.1) := by rw [iAdd64 (a := 1) (by omega) (by omega), iAdd64 (by omega) (by omega)]
  rw [eid]
  have hz : lenI s.2.2.2.2.1 = (List.length (α := DS7) s.2.2.2.2.1 : Int) := rfl
  have el : iSub .i64 (lenI s.2.2.2.2.1) 1 = (List.length (α := DS7) s.2.2.2.2.1 : Int) - 1 := by rw [iSub64 (by omega) (by omega), hz]
  rw [el]
  repeat' (first | (refine T.call (nextA (by assumption)) (fun _ ⟨_, _, _⟩ => ?_)) | (refine T.call (small_T (by assumption)) (fun _ ⟨_, _, _⟩ => ?_)) | (refine T.call (parts_T (by assumption)) (fun _ ⟨_, _, _⟩ => ?_)) | refine T.grd ?_ ?_ | (refine T.cnd (fun hc => ?_) (fun hc => ?_) <;> try simp only [bsR] at hc) | refine T.mapL ?_ | refine T.mapJ ?_ | refine T.go ?_ ?_ | refine T.out ?_ | refine T.jgo ?_ | refine T.jout ?_ | refine T.ret ?_)
  all_goals try (simp (disch := omega) only [bsR, arR] <;> omega)
  ·have hk : Int.toNat ((List.length (α := DS7) s.2.2.2.2.1 : Int) - 1) < List.length (α := DS7) s.2.2.2.2.1 := by omega
   rw [getD_get _ hk]
   obtain ⟨_, x1, x2, _⟩ := s4 _ (List.getElem_mem hk)
   dsimp only
   refine ⟨⟨by omega, ?_⟩, ?_, by assumption, ?_, mem_snoc s4 ⟨⟨?_, ?_⟩, x1, x2, by assumption⟩⟩ <;> (try simp (disch := omega) only [iSub64, List.length_append, List.length_cons, List.length_nil]) <;> (try dsimp only) <;> omega
  ·refine T.call (treaty59_T (by assumption)) (fun u ⟨du, eu, l3, l4, p6⟩ => ?_)
   refine T.join (fun j => (0 ≤ j.1 ∧ j.1 + 10 * j.2.1 ≤ 100) ∧ (j.2.1 = s.2.1 ∧ 1 ≤ j.2.1) ∧ DeckOk j.2.2.1 j.2.2.2.1 ∧ (List.length (α := DS7) j.2.2.2.2.1 : Int) + j.2.1 ≤ 9 ∧ (∀ t ∈ j.2.2.2.2.1, TrOk t) ∧ j.2.2.2.2.2.1 = j.1 ∧ List.length (α := Int) j.2.2.2.2.2.2.2.2.2.2.2.2.2.2.2.2.2.2.2.2.2.1 ≤ 1000 ∧ List.length (α := Int) j.2.2.2.2.2.2.2.2.2.2.2.2.2.2.2.2.2.2.2.2.2.2.1 ≤ 1000 ∧ PartsOk j.2.2.2.2.2.2.2.2.2.2.2.2.2.2.2.2.2.2.2.2.2.2.2.2.1) ?_ ?_
   ·repeat' (first | (refine T.call (small_T (by assumption)) (fun _ ⟨_, _, _⟩ => ?_)) | refine T.grd ?_ ?_ | (refine T.cnd (fun hc => ?_) (fun hc => ?_) <;> try simp only [bsR] at hc) | refine T.mapL ?_ | refine T.mapJ ?_ | refine T.go ?_ ?_ | refine T.out ?_ | refine T.jgo ?_ | refine T.jout ?_ | refine T.ret ?_)
    all_goals refine ⟨⟨?_, ?_⟩, ⟨rfl, s1'⟩, by assumption, s3, s4, eu, l3, l4, p6⟩ <;> dsimp only <;> omega
   intro j ⟨⟨j0, j0'⟩, ⟨j1, j1'⟩, dj, j3, j4, ej, l3, l4, p6⟩
   refine T.join (fun j => (0 ≤ j.1 ∧ j.1 + 10 * j.2.1 ≤ 100) ∧ (j.2.1 = s.2.1 ∧ 1 ≤ j.2.1) ∧ DeckOk j.2.2.1 j.2.2.2.1 ∧ (List.length (α := DS7) j.2.2.2.2.1 : Int) + j.2.1 ≤ 9 ∧ (∀ t ∈ j.2.2.2.2.1, TrOk t) ∧ j.2.2.2.2.2.1 = j.1 ∧ List.length (α := Int) j.2.2.2.2.2.2.2.2.2.2.2.2.2.2.2.2.2.2.2.2.2.1 ≤ 1000 ∧ List.length (α := Int) j.2.2.2.2.2.2.2.2.2.2.2.2.2.2.2.2.2.2.2.2.2.2.1 ≤ 1000 ∧ PartsOk j.2.2.2.2.2.2.2.2.2.2.2.2.2.2.2.2.2.2.2.2.2.2.2.2.1) ?_ ?_
   ·repeat' (first | (refine T.call (nextA (by assumption)) (fun _ ⟨_, _, _⟩ => ?_)) | refine T.grd ?_ ?_ | (refine T.cnd (fun hc => ?_) (fun hc => ?_) <;> try simp only [bsR] at hc) | refine T.mapL ?_ | refine T.mapJ ?_ | refine T.go ?_ ?_ | refine T.out ?_ | refine T.jgo ?_ | refine T.jout ?_ | refine T.ret ?_)
    ·exact ⟨⟨j0, j0'⟩, ⟨j1, j1'⟩, by assumption, j3, j4, ej, by simp, by simp, p6⟩
    ·exact ⟨⟨j0, j0'⟩, ⟨j1, j1'⟩, by assumption, j3, j4, ej, l3, l4, p6⟩
   intro j ⟨⟨j0, j0'⟩, ⟨j1, j1'⟩, dj, j3, j4, ej, l3, l4, p6⟩
   refine T.loop (fun r => (0 ≤ r.1 ∧ r.1 + 10 * r.2.1 ≤ 100) ∧ (r.2.1 = s.2.1 ∧ 1 ≤ r.2.1) ∧ DeckOk r.2.2.2.2.1 r.2.2.2.2.2.1 ∧ (List.length (α := DS7) r.2.2.2.2.2.2.1 : Int) + r.2.1 ≤ 9 ∧ (∀ t ∈ r.2.2.2.2.2.2.1, TrOk t) ∧ r.2.2.2.2.2.2.2.1 = r.1 ∧ List.length (α := Int) r.2.2.2.2.2.2.2.2.2.2.2.2.2.2.2.2.2.2.2.2.2.2.2.1 ≤ 1000 ∧ List.length (α := Int) r.2.2.2.2.2.2.2.2.2.2.2.2.2.2.2.2.2.2.2.2.2.2.2.2.1 ≤ 1000 ∧ PartsOk r.2.2.2.2.2.2.2.2.2.2.2.2.2.2.2.2.2.2.2.2.2.2.2.2.2.2.2.1 ∧ r.2.2.1 = lenI r.2.2.2.2.2.2.1 ∧ 0 ≤ r.2.2.2.1 ∧ (List.length (α := Int) r.2.2.2.2.2.2.2.2.2.2.2.2.2.2.2.2.2.2.2.2.2.2.2.2.2.2.1 : Int) ≤ r.2.2.2.1) (fun r => (lenI r.2.2.2.2.2.2.1 - r.2.2.2.1).toNat) ⟨⟨j0, j0'⟩, ⟨j1, j1'⟩, dj, j3, j4, ej, l3, l4, p6, rfl, by simp, by simp⟩ (fun t ⟨⟨t0, t0'⟩, ⟨t1, t1'⟩, dt, t3, t4, et, l3, l4, p6, e2, q0, q1⟩ => ?_)
   have hz : lenI t.2.2.2.2.2.2.1 = (List.length (α := DS7) t.2.2.2.2.2.2.1 : Int) := rfl
   rw [e2]
   refine T.cnd (fun hc => ?_) (fun hc => ?_) <;> simp only [iLt_T, iLt_F] at hc
   ·refine T.grd (bnd_t q0 (by omega)) ?_
    have hk : (Int.toNat t.2.2.2.1) < List.length (α := DS7) t.2.2.2.2.2.2.1 := by omega
    refine T.grd (inB_t hk) ?_
    rw [getD_get _ hk]
    have hx := t4 _ (List.getElem_mem hk)
    obtain ⟨_, x1, x2, _⟩ := hx
    refine T.call (meet_T _ _ l3 x1 l4 x2) (fun _ _ => ?_)
    repeat' (first | (refine T.call (nextA (by assumption)) (fun _ ⟨_, _, _⟩ => ?_)) | refine T.grd ?_ ?_ | (refine T.cnd (fun hc => ?_) (fun hc => ?_) <;> try simp only [bsR] at hc) | refine T.mapL ?_ | refine T.mapJ ?_ | refine T.go ?_ ?_ | refine T.out ?_ | refine T.jgo ?_ | refine T.jout ?_ | refine T.ret ?_)
    all_goals try simp (disch := omega) only [bsR, arR] <;> omega
    all_goals try (simp (disch := omega) only [iAdd64]; omega)
    all_goals (dsimp only; refine ⟨⟨t0, t0'⟩, ⟨t1, t1'⟩, by assumption, t3, t4, et, l3, l4, p6, rfl, ?_, ?_⟩ <;> simp (disch := omega) only [iAdd64, List.length_append, List.length_cons, List.length_nil] <;> omega)
   ·refine T.mapL ?_
    refine T.grd (by simp (disch := omega) only [bsR, arR] <;> omega) ?_
    refine T.go ?_ ?_
    ·dsimp only
     refine ⟨⟨t0, ?_⟩, ?_, dt, ?_, mem_snoc t4 ⟨⟨?_, ?_⟩, l3, l4, p6⟩⟩ <;> (try simp (disch := omega) only [iSub64, List.length_append, List.length_cons, List.length_nil]) <;> (try dsimp only) <;> (try rw [et]) <;> omega
    ·simp (disch := omega) only [iSub64]; omega
  ·refine T.call (treaty59_T (by assumption)) (fun u ⟨du, eu, l3, l4, p6⟩ => ?_)
   refine T.join (fun j => (0 ≤ j.1 ∧ j.1 + 10 * j.2.1 ≤ 100) ∧ (j.2.1 = s.2.1 ∧ 1 ≤ j.2.1) ∧ DeckOk j.2.2.1 j.2.2.2.1 ∧ (List.length (α := DS7) j.2.2.2.2.1 : Int) + j.2.1 ≤ 9 ∧ (∀ t ∈ j.2.2.2.2.1, TrOk t) ∧ j.2.2.2.2.2.1 = j.1 ∧ List.length (α := Int) j.2.2.2.2.2.2.2.2.2.2.2.2.2.2.2.2.2.2.2.2.2.1 ≤ 1000 ∧ List.length (α := Int) j.2.2.2.2.2.2.2.2.2.2.2.2.2.2.2.2.2.2.2.2.2.2.1 ≤ 1000 ∧ PartsOk j.2.2.2.2.2.2.2.2.2.2.2.2.2.2.2.2.2.2.2.2.2.2.2.2.1) ?_ ?_
   ·repeat' (first | (refine T.call (small_T (by assumption)) (fun _ ⟨_, _, _⟩ => ?_)) | refine T.grd ?_ ?_ | (refine T.cnd (fun hc => ?_) (fun hc => ?_) <;> try simp only [bsR] at hc) | refine T.mapL ?_ | refine T.mapJ ?_ | refine T.go ?_ ?_ | refine T.out ?_ | refine T.jgo ?_ | refine T.jout ?_ | refine T.ret ?_)
    all_goals refine ⟨⟨?_, ?_⟩, ⟨rfl, s1'⟩, by assumption, s3, s4, eu, l3, l4, p6⟩ <;> dsimp only <;> omega
   intro j ⟨⟨j0, j0'⟩, ⟨j1, j1'⟩, dj, j3, j4, ej, l3, l4, p6⟩
   refine T.join (fun j => (0 ≤ j.1 ∧ j.1 + 10 * j.2.1 ≤ 100) ∧ (j.2.1 = s.2.1 ∧ 1 ≤ j.2.1) ∧ DeckOk j.2.2.1 j.2.2.2.1 ∧ (List.length (α := DS7) j.2.2.2.2.1 : Int) + j.2.1 ≤ 9 ∧ (∀ t ∈ j.2.2.2.2.1, TrOk t) ∧ j.2.2.2.2.2.1 = j.1 ∧ List.length (α := Int) j.2.2.2.2.2.2.2.2.2.2.2.2.2.2.2.2.2.2.2.2.2.1 ≤ 1000 ∧ List.length (α := Int) j.2.2.2.2.2.2.2.2.2.2.2.2.2.2.2.2.2.2.2.2.2.2.1 ≤ 1000 ∧ PartsOk j.2.2.2.2.2.2.2.2.2.2.2.2.2.2.2.2.2.2.2.2.2.2.2.2.1) ?_ ?_
   ·repeat' (first | (refine T.call (nextA (by assumption)) (fun _ ⟨_, _, _⟩ => ?_)) | refine T.grd ?_ ?_ | (refine T.cnd (fun hc => ?_) (fun hc => ?_) <;> try simp only [bsR] at hc) | refine T.mapL ?_ | refine T.mapJ ?_ | refine T.go ?_ ?_ | refine T.out ?_ | refine T.jgo ?_ | refine T.jout ?_ | refine T.ret ?_)
    ·exact ⟨⟨j0, j0'⟩, ⟨j1, j1'⟩, by assumption, j3, j4, ej, by simp, by simp, p6⟩
    ·exact ⟨⟨j0, j0'⟩, ⟨j1, j1'⟩, by assumption, j3, j4, ej, l3, l4, p6⟩
   intro j ⟨⟨j0, j0'⟩, ⟨j1, j1'⟩, dj, j3, j4, ej, l3, l4, p6⟩
   refine T.loop (fun r => (0 ≤ r.1 ∧ r.1 + 10 * r.2.1 ≤ 100) ∧ (r.2.1 = s.2.1 ∧ 1 ≤ r.2.1) ∧ DeckOk r.2.2.2.2.1 r.2.2.2.2.2.1 ∧ (List.length (α := DS7) r.2.2.2.2.2.2.1 : Int) + r.2.1 ≤ 9 ∧ (∀ t ∈ r.2.2.2.2.2.2.1, TrOk t) ∧ r.2.2.2.2.2.2.2.1 = r.1 ∧ List.length (α := Int) r.2.2.2.2.2.2.2.2.2.2.2.2.2.2.2.2.2.2.2.2.2.2.2.1 ≤ 1000 ∧ List.length (α := Int) r.2.2.2.2.2.2.2.2.2.2.2.2.2.2.2.2.2.2.2.2.2.2.2.2.1 ≤ 1000 ∧ PartsOk r.2.2.2.2.2.2.2.2.2.2.2.2.2.2.2.2.2.2.2.2.2.2.2.2.2.2.2.1 ∧ r.2.2.1 = lenI r.2.2.2.2.2.2.1 ∧ 0 ≤ r.2.2.2.1 ∧ (List.length (α := Int) r.2.2.2.2.2.2.2.2.2.2.2.2.2.2.2.2.2.2.2.2.2.2.2.2.2.2.1 : Int) ≤ r.2.2.2.1) (fun r => (lenI r.2.2.2.2.2.2.1 - r.2.2.2.1).toNat) ⟨⟨j0, j0'⟩, ⟨j1, j1'⟩, dj, j3, j4, ej, l3, l4, p6, rfl, by simp, by simp⟩ (fun t ⟨⟨t0, t0'⟩, ⟨t1, t1'⟩, dt, t3, t4, et, l3, l4, p6, e2, q0, q1⟩ => ?_)
   have hz : lenI t.2.2.2.2.2.2.1 = (List.length (α := DS7) t.2.2.2.2.2.2.1 : Int) := rfl
   rw [e2]
   refine T.cnd (fun hc => ?_) (fun hc => ?_) <;> simp only [iLt_T, iLt_F] at hc
   ·refine T.grd (bnd_t q0 (by omega)) ?_
    have hk : (Int.toNat t.2.2.2.1) < List.length (α := DS7) t.2.2.2.2.2.2.1 := by omega
    refine T.grd (inB_t hk) ?_
    rw [getD_get _ hk]
    have hx := t4 _ (List.getElem_mem hk)
    obtain ⟨_, x1, x2, _⟩ := hx
    refine T.call (meet_T _ _ l3 x1 l4 x2) (fun _ _ => ?_)
    repeat' (first | (refine T.call (nextA (by assumption)) (fun _ ⟨_, _, _⟩ => ?_)) | refine T.grd ?_ ?_ | (refine T.cnd (fun hc => ?_) (fun hc => ?_) <;> try simp only [bsR] at hc) | refine T.mapL ?_ | refine T.mapJ ?_ | refine T.go ?_ ?_ | refine T.out ?_ | refine T.jgo ?_ | refine T.jout ?_ | refine T.ret ?_)
    all_goals try simp (disch := omega) only [bsR, arR] <;> omega
    all_goals try (simp (disch := omega) only [iAdd64]; omega)
    all_goals (dsimp only; refine ⟨⟨t0, t0'⟩, ⟨t1, t1'⟩, by assumption, t3, t4, et, l3, l4, p6, rfl, ?_, ?_⟩ <;> simp (disch := omega) only [iAdd64, List.length_append, List.length_cons, List.length_nil] <;> omega)
   ·refine T.mapL ?_
    refine T.grd (by simp (disch := omega) only [bsR, arR] <;> omega) ?_
    refine T.go ?_ ?_
    ·dsimp only
     refine ⟨⟨t0, ?_⟩, ?_, dt, ?_, mem_snoc t4 ⟨⟨?_, ?_⟩, l3, l4, p6⟩⟩ <;> (try simp (disch := omega) only [iSub64, List.length_append, List.length_cons, List.length_nil]) <;> (try dsimp only) <;> (try rw [et]) <;> omega
    ·simp (disch := omega) only [iSub64]; omega
 ·exact T.out ⟨d, by dsimp only; omega, s4⟩
theorem treatyId_T {L : List Int} {a : Int} {p : DS9} (h : DeckOk L a) (hl : List.length (α := DS7) p.2.1 ≤ 10) (hp : ∀ t ∈ p.2.1, TrOk t) : T (m51 p L a) (fun y => DeckOk y.2.1 y.2.2.1 ∧ 0 ≤ y.1 ∧ y.1 ≤ 1000) := by
 unfold m51
 have hz : lenI p.2.1 = (List.length (α := DS7) p.2.1 : Int) := rfl
 repeat' (first | (refine T.call (nextA (by assumption)) (fun _ ⟨_, _, _⟩ => ?_)) | refine T.grd ?_ ?_ | (refine T.cnd (fun hc => ?_) (fun hc => ?_) <;> try simp only [bsR] at hc) | refine T.mapL ?_ | refine T.mapJ ?_ | refine T.go ?_ ?_ | refine T.out ?_ | refine T.jgo ?_ | refine T.jout ?_ | refine T.ret ?_)
 all_goals try (simp (disch := omega) only [bsR, arR] <;> omega)
 ·rename_i v _ dv hv0 hv1
  have hk : v.1.toNat < List.length (α := DS7) p.2.1 := by omega
  obtain ⟨⟨x1, x2⟩, _⟩ := hp _ (List.getElem_mem hk)
  have e : atI p.2.1 v.1 (0, 0, (0, 0, ()), [], [], 0, 0, 0, 0, 0, 0, 0, 0, 0, 0, [], false, 0, [], [], ()) = p.2.1[v.1.toNat] := getD_get _ hk
  rw [e]
  exact ⟨by assumption, x1, x2⟩
 all_goals exact ⟨by assumption, by omega, by omega⟩
theorem party_T {L : List Int} {a x : Int} {p : DS9} (h : DeckOk L a) (hl : List.length (α := DS7) p.2.1 ≤ 10) (hp : ∀ t ∈ p.2.1, TrOk t) : T (m52 p x L a) (fun y => DeckOk y.2.1 y.2.2.1 ∧ 0 ≤ y.1 ∧ y.1 ≤ 1000) := by
 unfold m52
 have hz : lenI p.2.1 = (List.length (α := DS7) p.2.1 : Int) := rfl
 refine T.call (index_T _ _ (by omega)) (fun i hi => ?_)
 by_cases h0 : 0 ≤ i.1
 ·have hk : i.1.toNat < List.length (α := DS7) p.2.1 := by omega
  obtain ⟨_, _, _, x3, x4⟩ := hp _ (List.getElem_mem hk)
  have e : atI p.2.1 i.1 (0, 0, (0, 0, ()), [], [], 0, 0, 0, 0, 0, 0, 0, 0, 0, 0, [], false, 0, [], [], ()) = p.2.1[i.1.toNat] := getD_get _ hk
  rw [e]
  generalize p.2.1[i.1.toNat].2.2.2.2.2.2.2.2.2.2.2.2.2.2.2.2.2.2.2.1 = ps at x3 x4
  have hz2 : lenI ps = (List.length (α := DS6) ps : Int) := rfl
  repeat' (first | (refine T.call (nextA (by assumption)) (fun _ ⟨_, _, _⟩ => ?_)) | refine T.grd ?_ ?_ | (refine T.cnd (fun hc => ?_) (fun hc => ?_) <;> try simp only [bsR] at hc) | refine T.mapL ?_ | refine T.mapJ ?_ | refine T.go ?_ ?_ | refine T.out ?_ | refine T.jgo ?_ | refine T.jout ?_ | refine T.ret ?_)
  all_goals try (simp (disch := omega) only [bsR, arR] <;> omega)
  ·rename_i v _ dv hv0 hv1
   have hk2 : v.1.toNat < List.length (α := DS6) ps := by omega
   have e2 : atI ps v.1 (0, 0, ()) = ps[v.1.toNat] := getD_get _ hk2
   rw [e2]
   exact ⟨by assumption, x4 _ (List.getElem_mem hk2)⟩
  all_goals exact ⟨by assumption, by omega, by omega⟩
 ·refine T.grd (by simp (disch := omega) only [bsR, arR] <;> omega) ?_
  refine T.cf (by rw [iLe_f (by omega)]; rfl) ?_
  repeat' (first | (refine T.call (nextA (by assumption)) (fun _ ⟨_, _, _⟩ => ?_)) | refine T.grd ?_ ?_ | (refine T.cnd (fun hc => ?_) (fun hc => ?_) <;> try simp only [bsR] at hc) | refine T.mapL ?_ | refine T.mapJ ?_ | refine T.go ?_ ?_ | refine T.out ?_ | refine T.jgo ?_ | refine T.jout ?_ | refine T.ret ?_)
  exact ⟨by assumption, by omega, by omega⟩
def LoB (b : Int) (x : DS0) : Prop := (0 ≤ x.1 ∧ x.1 ≤ b) ∧ (0 ≤ x.2.1 ∧ x.2.1 ≤ b) ∧ (0 ≤ x.2.2.1 ∧ x.2.2.1 ≤ b) ∧ (0 ≤ x.2.2.2.1 ∧ x.2.2.2.1 ≤ b) ∧ (0 ≤ x.2.2.2.2.1 ∧ x.2.2.2.2.1 ≤ b) ∧ (0 ≤ x.2.2.2.2.2.1 ∧ x.2.2.2.2.2.1 ≤ b) ∧ (0 ≤ x.2.2.2.2.2.2.1 ∧ x.2.2.2.2.2.2.1 ≤ b) ∧ (0 ≤ x.2.2.2.2.2.2.2.1 ∧ x.2.2.2.2.2.2.2.1 ≤ b) ∧ (0 ≤ x.2.2.2.2.2.2.2.2.1 ∧ x.2.2.2.2.2.2.2.2.1 ≤ b) ∧ (0 ≤ x.2.2.2.2.2.2.2.2.2.1 ∧ x.2.2.2.2.2.2.2.2.2.1 ≤ b)
theorem LoB.mono {b c : Int} {x : DS0} (h : LoB b x) (hbc : b ≤ c) : LoB c x := by
 obtain ⟨⟨a0, b0⟩, ⟨a1, b1⟩, ⟨a2, b2⟩, ⟨a3, b3⟩, ⟨a4, b4⟩, ⟨a5, b5⟩, ⟨a6, b6⟩, ⟨a7, b7⟩, ⟨a8, b8⟩, ⟨a9, b9⟩⟩ := h
 exact ⟨⟨a0, by omega⟩, ⟨a1, by omega⟩, ⟨a2, by omega⟩, ⟨a3, by omega⟩, ⟨a4, by omega⟩, ⟨a5, by omega⟩, ⟨a6, by omega⟩, ⟨a7, by omega⟩, ⟨a8, by omega⟩, ⟨a9, by omega⟩⟩
theorem losses_T {L : List Int} {a n : Int} (h : DeckOk L a) (h0 : 0 ≤ n) (h1 : n ≤ 12) : T (m26 n L a) (fun y => DeckOk y.2.1 y.2.2.1 ∧ (List.length (α := DS0) y.1 : Int) ≤ n ∧ ∀ x ∈ y.1, LoB 268435456 x) := by
 unfold m26
 rw [iAdd64 (by omega) (by omega)]
 refine T.call (next_T h (by omega) (by omega)) (fun y ⟨d, y0, y1⟩ => ?_)
 refine T.loop (fun s => (0 ≤ s.1 ∧ s.1 + 10 * s.2.1 ≤ 1000) ∧ 0 ≤ s.2.1 ∧ DeckOk s.2.2.1 s.2.2.2.1 ∧ (List.length (α := DS0) s.2.2.2.2.1 : Int) + s.2.1 ≤ n ∧ ∀ x ∈ s.2.2.2.2.1, LoB 268435456 x) (fun s => s.2.1.toNat) ⟨⟨by simp, by simp; omega⟩, y0, d, by simp; omega, by simp⟩ (fun s ⟨⟨a0, a1⟩, c0, d, hl, hp⟩ => ?_)
 repeat' (first | (refine T.call (nextA (by assumption)) (fun _ ⟨_, _, _⟩ => ?_)) | (refine T.call (small_T (by assumption)) (fun _ ⟨_, _, _⟩ => ?_)) | refine T.grd ?_ ?_ | (refine T.cnd (fun hc => ?_) (fun hc => ?_) <;> try simp only [bsR] at hc) | refine T.mapL ?_ | refine T.mapJ ?_ | refine T.go ?_ ?_ | refine T.out ?_ | refine T.jgo ?_ | refine T.jout ?_ | refine T.ret ?_)
 all_goals try (simp (disch := omega) only [bsR, arR] <;> omega)
 all_goals try (simp (disch := omega) only [iSub64]; omega)
 all_goals try exact ⟨d, by dsimp only; omega, hp⟩
 all_goals
  iterate 2 (try simp (disch := omega) only [iAdd64, iSub64] at *)
  refine ⟨⟨by omega, by omega⟩, by omega, by assumption, by simp only [List.length_append, List.length_cons, List.length_nil]; omega, mem_snoc hp ⟨⟨?_, ?_⟩, ⟨?_, ?_⟩, ⟨?_, ?_⟩, ⟨?_, ?_⟩, ⟨?_, ?_⟩, ⟨?_, ?_⟩, ⟨?_, ?_⟩, ⟨?_, ?_⟩, ⟨?_, ?_⟩, ⟨?_, ?_⟩⟩⟩ <;> dsimp only <;> omega
theorem LoB.set {b c : Int} {xs : List DS0} {i : Nat} {y : DS0} (h : ∀ x ∈ xs, LoB b x) (hbc : b ≤ c) (hy : LoB c y) : ∀ x ∈ xs.set i y, LoB c x := by
 intro x hx
 rcases List.mem_or_eq_of_mem_set hx with q | q
 ·exact (h x q).mono hbc
 ·rw [q]; exact hy
theorem changed_T {L : List Int} {a : Int} {l : List DS0} {B : Int} (hB0 : 268435456 ≤ B) (hB1 : B ≤ 100000000000) (h : DeckOk L a) (hl : l.length ≤ 12) (hp : ∀ x ∈ l, LoB B x) : T (m53 l L a) (fun y => DeckOk y.2.1 y.2.2.1 ∧ List.length (α := DS0) y.1 ≤ 12 ∧ ∀ x ∈ y.1, LoB (B + 1073741824) x) := by
 unfold m53
 refine T.grd (by simp (disch := omega) only [bsR, arR] <;> omega) ?_
 simp only [List.nil_append]
 refine T.call (next_T h (by omega) (by omega)) (fun y ⟨d, y0, y1⟩ => ?_)
 refine T.loop (fun s => (0 ≤ s.1 ∧ s.1 ≤ 3) ∧ DeckOk s.2.1 s.2.2.1 ∧ List.length (α := DS0) s.2.2.2.1 ≤ 12 ∧ ∀ x ∈ s.2.2.2.1, LoB (B + 268435456 * (4 - s.1)) x) (fun s => s.1.toNat) ⟨⟨y0, by omega⟩, d, hl, fun x hx => (hp x hx).mono (by first | omega | (dsimp only; omega))⟩ (fun s ⟨⟨s0, s1⟩, d, sl, sp⟩ => ?_)
 have hz : lenI s.2.2.2.1 = (List.length (α := DS0) s.2.2.2.1 : Int) := rfl
 have g : ∀ i : Nat, i < List.length (α := DS0) s.2.2.2.1 → LoB (B + 268435456 * (4 - s.1)) (List.getD s.2.2.2.1 i (0, 0, 0, 0, 0, 0, 0, 0, 0, 0, ())) := fun i hi => by rw [getD_get _ hi]; exact sp _ (List.getElem_mem hi)
 refine T.cnd (fun hc => ?_) (fun hc => T.out ⟨d, sl, fun x hx => (sp x hx).mono (by simp only [iLt_F] at hc; omega)⟩)
 simp only [iLt_T] at hc
 have ek : iSub .i64 s.1 1 = s.1 - 1 := iSub64 (by omega) (by omega)
 rw [ek]
 repeat' (first | (refine T.call (nextA (by assumption)) (fun _ ⟨_, _, _⟩ => ?_)) | (refine T.call (small_T (by assumption)) (fun _ ⟨_, _, _⟩ => ?_)) | (refine T.join (fun j => j.1 = s.1 ∧ (0 ≤ j.2.1 ∧ j.2.1 ≤ B + 268435456 * (4 - s.1) + 1) ∧ DeckOk j.2.2.1 j.2.2.2.1 ∧ j.2.2.2.2.1 = s.2.2.2.1) ?_ ?_) | (rintro j ⟨ej, ⟨j0, j1⟩, dj, el⟩; simp only [ej, el, ek]) | refine T.grd ?_ ?_ | (refine T.cnd (fun hc => ?_) (fun hc => ?_) <;> try simp only [bsR] at hc) | refine T.mapL ?_ | refine T.mapJ ?_ | refine T.go ?_ ?_ | refine T.out ?_ | refine T.jgo ?_ | refine T.jout ?_ | refine T.ret ?_)
 all_goals try (simp (disch := omega) only [bsR, arR] <;> omega)
 all_goals try exact ⟨⟨by first | omega | (dsimp only; omega), by first | omega | (dsimp only; omega)⟩, by assumption, sl, fun x hx => (sp x hx).mono (by first | omega | (dsimp only; omega))⟩
 all_goals try exact ⟨rfl, ⟨by first | omega | (dsimp only; omega), by first | omega | (dsimp only; omega)⟩, by assumption, rfl⟩
 all_goals try (refine ⟨⟨by first | omega | (dsimp only; omega), by first | omega | (dsimp only; omega)⟩, by assumption, by simp only [List.length_append, List.length_cons, List.length_nil]; omega, mem_snoc (fun x hx => (sp x hx).mono (by first | omega | (dsimp only; omega))) ⟨⟨?_, ?_⟩, ⟨?_, ?_⟩, ⟨?_, ?_⟩, ⟨?_, ?_⟩, ⟨?_, ?_⟩, ⟨?_, ?_⟩, ⟨?_, ?_⟩, ⟨?_, ?_⟩, ⟨?_, ?_⟩, ⟨?_, ?_⟩⟩⟩ <;> dsimp only <;> omega)
 ·have := g (Int.toNat (iSub .i64 (lenI s.2.2.2.1) 1)) (by simp (disch := omega) only [iSub64]; omega)
  obtain ⟨⟨q1, q2⟩, _⟩ := this
  refine ⟨rfl, ⟨?_, ?_⟩, by assumption, rfl⟩ <;> dsimp only <;> rw [iAdd64 (by omega) (by omega)] <;> omega
 ·refine ⟨⟨by first | omega | (dsimp only; omega), by first | omega | (dsimp only; omega)⟩, by assumption, ?_, ?_⟩
  ·simp (disch := omega) only [List.length_append, List.length_take, List.length_drop, iAdd64]; omega
  ·intro x hx
   rcases List.mem_append.1 hx with q | q
   ·exact (sp x (List.mem_of_mem_take q)).mono (by first | omega | (dsimp only; omega))
   ·exact (sp x (List.mem_of_mem_drop (List.mem_of_mem_take q))).mono (by first | omega | (dsimp only; omega))
 ·refine ⟨⟨by first | omega | (dsimp only; omega), by first | omega | (dsimp only; omega)⟩, by assumption, ?_, ?_⟩
  ·simp only [List.length_take]; omega
  ·intro x hx
   exact (sp x (List.mem_of_mem_take hx)).mono (by first | omega | (dsimp only; omega))
 ·rename_i i _ di i0 i1 q _ dq q0 q1 hq0
  have gi := g i.1.toNat (by omega)
  generalize List.getD s.2.2.2.1 i.1.toNat (0, 0, 0, 0, 0, 0, 0, 0, 0, 0, ()) = x at gi
  obtain ⟨⟨a0, b0⟩, ⟨a1, b1⟩, ⟨a2, b2⟩, ⟨a3, b3⟩, ⟨a4, b4⟩, ⟨a5, b5⟩, ⟨a6, b6⟩, ⟨a7, b7⟩, ⟨a8, b8⟩, ⟨a9, b9⟩⟩ := gi
  repeat' (first | (refine T.call (nextA (by assumption)) (fun _ ⟨_, _, _⟩ => ?_)) | (refine T.call (small_T (by assumption)) (fun _ ⟨_, _, _⟩ => ?_)) | refine T.grd ?_ ?_ | (refine T.cnd (fun hc => ?_) (fun hc => ?_) <;> try simp only [bsR] at hc) | refine T.mapL ?_ | refine T.mapJ ?_ | refine T.go ?_ ?_ | refine T.out ?_ | refine T.jgo ?_ | refine T.jout ?_ | refine T.ret ?_)
  all_goals try (simp (disch := omega) only [bsR, arR] <;> omega)
  all_goals
   iterate 2 (try simp (disch := omega) only [iAdd64] at *)
   refine ⟨⟨by first | omega | (dsimp only; omega), by first | omega | (dsimp only; omega)⟩, by assumption, by simp only [List.length_set]; exact sl, LoB.set sp (by first | omega | (dsimp only; omega)) ⟨⟨?_, ?_⟩, ⟨?_, ?_⟩, ⟨?_, ?_⟩, ⟨?_, ?_⟩, ⟨?_, ?_⟩, ⟨?_, ?_⟩, ⟨?_, ?_⟩, ⟨?_, ?_⟩, ⟨?_, ?_⟩, ⟨?_, ?_⟩⟩⟩ <;> dsimp only <;> omega
 ·rename_i i _ di i0 i1 q _ dq q0 q1 hq0 v _ dv v0 v1
  have gi := g i.1.toNat (by omega)
  generalize List.getD s.2.2.2.1 i.1.toNat (0, 0, 0, 0, 0, 0, 0, 0, 0, 0, ()) = x at gi
  obtain ⟨⟨a0, b0⟩, ⟨a1, b1⟩, ⟨a2, b2⟩, ⟨a3, b3⟩, ⟨a4, b4⟩, ⟨a5, b5⟩, ⟨a6, b6⟩, ⟨a7, b7⟩, ⟨a8, b8⟩, ⟨a9, b9⟩⟩ := gi
  simp (disch := omega) only [iAdd64]
  refine ⟨⟨by first | omega | (dsimp only; omega), by first | omega | (dsimp only; omega)⟩, by assumption, by simp only [List.length_set]; exact sl, LoB.set sp (by first | omega | (dsimp only; omega)) ⟨⟨?_, ?_⟩, ⟨?_, ?_⟩, ⟨?_, ?_⟩, ⟨?_, ?_⟩, ⟨?_, ?_⟩, ⟨?_, ?_⟩, ⟨?_, ?_⟩, ⟨?_, ?_⟩, ⟨?_, ?_⟩, ⟨?_, ?_⟩⟩⟩ <;> dsimp only <;> omega
def CmdOk (B k : Int) (ls : List DS0) (t o p a : Int) : Prop := List.length (α := DS0) ls ≤ 12 ∧ (∀ x ∈ ls, LoB (B + 1073741824) x) ∧ (0 ≤ t ∧ t ≤ 1000) ∧ (0 ≤ o ∧ o ≤ 1000) ∧ (0 ≤ p ∧ p ≤ 1000) ∧ (0 ≤ a ∧ a ≤ 268435456) ∧ ((k = 1 ∧ t = 0 ∧ o = 0 ∧ p = 0 ∧ a = 0) ∨ (k = 2 ∧ ls = [] ∧ t = 0 ∧ o = 0 ∧ p = 0 ∧ a = 0) ∨ (k = 3 ∧ ls = [] ∧ o = 0 ∧ a = 0) ∨ (k = 4 ∧ ls = [] ∧ o = 0) ∨ (k = 5 ∧ ls = [] ∧ p = 0 ∧ a = 0))
theorem command_T {L : List Int} {a : Int} {p : DS9} {l : List DS0} {B : Int} (hB0 : 268435456 ≤ B) (hB1 : B ≤ 100000000000) (h : DeckOk L a) (hl : List.length (α := DS7) p.2.1 ≤ 10) (hp : ∀ t ∈ p.2.1, TrOk t) (hll : l.length ≤ 12) (hlp : ∀ x ∈ l, LoB B x) : T (m28 p l L a) (fun y => DeckOk y.2.2.2.2.2.2.1 y.2.2.2.2.2.2.2.1 ∧ CmdOk B y.1 y.2.1 y.2.2.1 y.2.2.2.1 y.2.2.2.2.1 y.2.2.2.2.2.1) := by
 unfold m28
 repeat' (first | (refine T.call (nextA (by assumption)) (fun _ ⟨_, _, _⟩ => ?_)) | (refine T.call (small_T (by assumption)) (fun _ ⟨_, _, _⟩ => ?_)) | (refine T.call (treatyId_T (by assumption) hl hp) (fun _ ⟨_, _, _⟩ => ?_)) | (refine T.call (party_T (by assumption) hl hp) (fun _ ⟨_, _, _⟩ => ?_)) | (refine T.call (losses_T (by assumption) (by omega) (by omega)) (fun _ ⟨_, _, _⟩ => ?_)) | (refine T.call (changed_T hB0 hB1 (by assumption) hll hlp) (fun _ ⟨_, _, _⟩ => ?_)) | refine T.grd ?_ ?_ | (refine T.cnd (fun hc => ?_) (fun hc => ?_) <;> try simp only [bsR] at hc) | refine T.mapL ?_ | refine T.mapJ ?_ | refine T.go ?_ ?_ | refine T.out ?_ | refine T.jgo ?_ | refine T.jout ?_ | refine T.ret ?_)
 ·exact ⟨by assumption, by simp, by simp, ⟨by simp, by simp⟩, ⟨by simp, by simp⟩, ⟨by simp, by simp⟩, ⟨by simp, by simp⟩, .inr (.inl ⟨rfl, rfl, rfl, rfl, rfl, rfl⟩)⟩
 ·exact ⟨by assumption, by simp, by simp, ⟨by assumption, by assumption⟩, ⟨by simp, by simp⟩, ⟨by assumption, by assumption⟩, ⟨by simp, by simp⟩, .inr (.inr (.inl ⟨rfl, rfl, rfl, rfl⟩))⟩
 ·exact ⟨by assumption, by simp, by simp, ⟨by assumption, by assumption⟩, ⟨by simp, by simp⟩, ⟨by assumption, by assumption⟩, ⟨by assumption, by first | omega | (dsimp only; omega)⟩, .inr (.inr (.inr (.inl ⟨rfl, rfl, rfl⟩)))⟩
 ·exact ⟨by assumption, by simp, by simp, ⟨by assumption, by assumption⟩, ⟨by assumption, by assumption⟩, ⟨by simp, by simp⟩, ⟨by simp, by simp⟩, .inr (.inr (.inr (.inr ⟨rfl, rfl, rfl, rfl⟩)))⟩
 ·rename_i v _ dv v0 v1
  exact ⟨by assumption, by first | omega | (dsimp only; omega), fun x hx => (v1 x hx).mono (by omega), ⟨by simp, by simp⟩, ⟨by simp, by simp⟩, ⟨by simp, by simp⟩, ⟨by simp, by simp⟩, .inl ⟨rfl, rfl, rfl, rfl, rfl⟩⟩
 ·rename_i v _ dv v0 v1
  exact ⟨by assumption, v0, v1, ⟨by simp, by simp⟩, ⟨by simp, by simp⟩, ⟨by simp, by simp⟩, ⟨by simp, by simp⟩, .inl ⟨rfl, rfl, rfl, rfl, rfl⟩⟩
def numU : List UInt8 → Int → Option Int
 | [], n => some n
 | c :: r, n => if c.toNat < 48 ∨ 57 < c.toNat then none else if 17592186044416 < n * 10 + ((c.toNat : Int) - 48) then none else numU r (n * 10 + ((c.toNat : Int) - 48))
def decL (l : List UInt8) : Option Int := if l = [] ∨ (1 < l.length ∧ l.head? = some 48) then none else numU l 0
def decR (l : List UInt8) : Int × Bool × Unit := match decL l with
 | some n => (n, true, ())
 | none => (0, false, ())
theorem decR_none {l : List UInt8} (h : decL l = none) : decR l = (0, false, ()) := by unfold decR; rw [h]
theorem decR_some {l : List UInt8} {n : Int} (h : decL l = some n) : decR l = (n, true, ()) := by unfold decR; rw [h]
theorem decL_none {l : List UInt8} (h : numU l 0 = none) : decL l = none := by unfold decL; rw [h]; split <;> rfl
theorem drop_get {l : List UInt8} {i : Nat} (h : i < l.length) : l.drop i = l.getD i 0 :: l.drop (i + 1) := by
 rw [List.drop_eq_getElem_cons h, List.getD_eq_getElem?_getD, List.getElem?_eq_getElem h]; rfl
theorem head_get {l : List UInt8} (h : 0 < l.length) : l.head? = some (l.getD 0 0) := by
 cases l with
 | nil => simp at h
 | cons a l => rfl
theorem u8_48 {c : UInt8} (h : (c.toNat : Int) = 48) : c = 48 := by
 apply UInt8.toNat_inj.1
 have : (48 : UInt8).toNat = 48 := rfl
 omega
theorem sub8 (c : UInt8) (h : ¬ (c.toNat < 48 ∨ 57 < c.toNat)) : IntKind.wrap .i64 (iSub .u8 (c.toNat : Int) 48) = (c.toNat : Int) - 48 := by
 have h1 : iSub .u8 (c.toNat : Int) 48 = (c.toNat : Int) - 48 := by unfold iSub; rw [wrap8 (by omega) (by omega)]
 rw [h1, wrap64_T (by omega) (by omega)]
theorem dec_m (s : ByteArray) (hs : s.size ≤ 4000000000) : m46 s = some (decR (LB s)) := by
 refine T.eq ?_
 unfold m46
 have hl : sLen s = ((LB s).length : Int) := rfl
 have hz : (LB s).length ≤ 4000000000 := hs
 have e0 : sEq s (bs []) = decide (LB s = []) := sEq_LB s (bs [])
 refine T.cnd (fun h => T.ret ?_) (fun h => ?_) <;> rw [e0] at h
 ·rw [decR_none (by unfold decL; rw [if_pos (.inl (of_decide_eq_true h))])]
 have hne : LB s ≠ [] := of_decide_eq_false h
 have hp : 0 < (LB s).length := List.length_pos_iff.2 hne
 have a0 : sAt s 0 = (((LB s).getD 0 0).toNat : Int) := sAt_LB s 0
 refine T.grd (by rw [or_T, bnd_T]; left; omega) ?_
 refine T.cnd (fun h1 => T.ret ?_) (fun h1 => ?_)
 ·rw [candF_T, iLt_T, iEq_T, a0] at h1
  have hh : (LB s).head? = some 48 := by rw [head_get hp, u8_48 h1.2]
  rw [decR_none]
  unfold decL
  rw [if_pos (.inr ⟨by omega, hh⟩)]
 rw [candF_F, iLt_F, iEq_F, a0] at h1
 have hdec : decL (LB s) = numU (LB s) 0 := by
  unfold decL
  rw [if_neg]
  rintro (q | ⟨q1, q2⟩)
  ·exact hne q
  ·rw [head_get hp] at q2
   have q2 := Option.some.inj q2
   rcases h1 with h1 | h1
   ·rw [hl] at h1; omega
   ·exact h1 (by rw [q2]; rfl)
 refine T.loop (fun q => ∃ (i : Nat) (n : Int), i ≤ (LB s).length ∧ 0 ≤ n ∧ n ≤ 17592186044416 ∧ numU ((LB s).drop i) n = numU (LB s) 0 ∧ q = (s, n, sLen s, (i : Int), ())) (fun q => (LB s).length - q.2.2.2.1.toNat) ⟨0, 0, by omega, by omega, by omega, rfl, rfl⟩ ?_
 rintro _ ⟨i, n, hi, n0, n1, hn, rfl⟩
 dsimp only
 refine T.cnd (fun hc => ?_) (fun hc => ?_) <;> simp only [iLt_T, iLt_F] at hc
 ·have hlt : i < (LB s).length := by omega
  rw [sAt_LB]
  rw [drop_get hlt, numU] at hn
  generalize (LB s).getD i 0 = c at hn
  have hc8 := u8_lt c
  refine T.grd (by rw [bnd_T]; omega) (T.grd (by rw [or_T, bnd_T]; left; omega) ?_)
  refine T.cnd (fun h2 => T.out ?_) (fun h2 => ?_)
  ·rw [corT_T, iLt_T, iLt_T] at h2
   rw [if_pos (by omega)] at hn
   rw [decR_none (decL_none hn.symm)]
  rw [corT_F, iLt_F, iLt_F] at h2
  rw [if_neg (by omega)] at hn
  refine T.grd (by rw [bnd_T]; omega) ?_
  rw [sub8 c (by omega), iMul64 (by omega) (by omega), iAdd64 (by omega) (by omega)]
  refine T.cnd (fun h3 => T.out ?_) (fun h3 => ?_) <;> simp only [iLt_T, iLt_F] at h3
  ·rw [if_pos (by omega)] at hn
   rw [decR_none (decL_none hn.symm)]
  ·rw [if_neg (by omega)] at hn
   refine T.go ⟨i + 1, _, by omega, by omega, by omega, hn, by rw [iAdd64 (by omega) (by omega)]; rfl⟩ ?_
   dsimp only; rw [iAdd64 (by omega) (by omega)]; omega
 ·obtain rfl : i = (LB s).length := by omega
  rw [List.drop_length] at hn
  refine T.out ?_
  rw [decR_some (n := n) (by rw [hdec, ← hn]; rfl)]
theorem dec_r (s : ByteArray) (hs : s.size ≤ 4000000000) : m49 s = some (decR (LB s)) := by
 refine T.eq ?_
 unfold m49
 have hl : sLen s = ((LB s).length : Int) := rfl
 have hz : (LB s).length ≤ 4000000000 := hs
 refine T.loop (fun q => ∃ (i : Nat) (n : Int), i ≤ (LB s).length ∧ 0 ≤ n ∧ n ≤ 17592186044416 ∧ numU ((LB s).drop i) n = numU (LB s) 0 ∧ (2 ≤ i → (LB s).head? ≠ some 48) ∧ (i = 0 → n = 0) ∧ q = (s, n, (i : Int), ())) (fun q => (LB s).length - q.2.2.1.toNat) ⟨0, 0, by omega, by omega, by omega, rfl, fun h => by omega, fun _ => rfl, rfl⟩ ?_
 rintro _ ⟨i, n, hi, n0, n1, hn, hh, hz0, rfl⟩
 dsimp only
 refine T.cnd (fun hc => ?_) (fun hc => ?_) <;> simp only [iLt_T, iLt_F] at hc
 ·have hlt : i < (LB s).length := by omega
  have a0 : sAt s 0 = (((LB s).getD 0 0).toNat : Int) := sAt_LB s 0
  have hd0 := head_get (l := LB s) (by omega)
  rw [sAt_LB, a0]
  rw [drop_get hlt, numU] at hn
  generalize (LB s).getD i 0 = c at hn
  have hc8 := u8_lt c
  refine T.grd (by rw [bnd_T]; omega) (T.grd (by rw [or_T, bnd_T]; left; omega) ?_)
  refine T.cnd (fun h2 => T.out ?_) (fun h2 => ?_)
  ·rw [corT_T, iLt_T, iLt_T] at h2
   rw [if_pos (by omega)] at hn
   rw [decR_none (decL_none hn.symm)]
  rw [corT_F, iLt_F, iLt_F] at h2
  rw [if_neg (by omega)] at hn
  refine T.grd (by rw [or_T, bnd_T]; left; omega) ?_
  refine T.cnd (fun h4 => T.out ?_) (fun h4 => ?_)
  ·rw [candF_T, iLt_T, iEq_T] at h4
   rw [decR_none]
   unfold decL
   rw [if_pos (.inr ⟨by omega, by rw [hd0, u8_48 h4.2]⟩)]
  rw [candF_F, iLt_F, iEq_F] at h4
  refine T.grd (by rw [bnd_T]; omega) ?_
  rw [sub8 c (by omega), iMul64 (by omega) (by omega), iAdd64 (by omega) (by omega), Int.mul_comm 10 n]
  refine T.cnd (fun h3 => T.out ?_) (fun h3 => ?_) <;> simp only [iLt_T, iLt_F] at h3
  ·rw [if_pos (by omega)] at hn
   rw [decR_none (decL_none hn.symm)]
  ·rw [if_neg (by omega)] at hn
   refine T.go ⟨i + 1, _, by omega, by omega, by omega, hn, fun h5 => ?_, fun h5 => by omega, by rw [iAdd64 (by omega) (by omega)]; rfl⟩ ?_
   ·rw [hd0]
    intro q
    have q := Option.some.inj q
    rcases h4 with h4 | h4
    ·omega
    ·exact h4 (by rw [q]; rfl)
   ·dsimp only; rw [iAdd64 (by omega) (by omega)]; omega
 ·obtain rfl : i = (LB s).length := by omega
  rw [List.drop_length] at hn
  refine T.out ?_
  by_cases h0 : (LB s).length = 0
  ·have hb : iLt 0 (sLen s) = false := by rw [iLt_F]; omega
   rw [hb, hz0 h0, decR_none]
   unfold decL
   rw [if_pos (.inl (List.length_eq_zero_iff.1 h0))]
  ·have hb : iLt 0 (sLen s) = true := by rw [iLt_T]; omega
   rw [hb, decR_some (n := n)]
   unfold decL
   rw [if_neg, ← hn]
   ·rfl
   ·rintro (q | ⟨q1, q2⟩)
    ·rw [q] at h0; exact h0 rfl
    ·exact hh (by omega) q2
theorem dg_nat (k : Nat) (h : k < 10) : (UInt8.ofNat (48 + k)).toNat = 48 + k := by
 rw [UInt8.toNat_ofNat']; omega
theorem dig_len : ∀ (k u : Nat), u < 10 ^ (k + 1) → (Lib.decDigits u).length ≤ k + 1 := by
 intro k
 induction k with
 | zero => intro u hu; rw [Lib.decDigits_one (by simpa using hu)]; simp
 | succ k ih =>
  intro u hu
  by_cases h : u < 10
  ·rw [Lib.decDigits_one h]; simp
  ·rw [Lib.decDigits, dif_neg h, List.length_append, List.length_singleton]
   have := ih (u / 10) (by rw [Nat.pow_succ] at hu; omega)
   omega
theorem dec39 (n : Int) (h : 0 ≤ n ∧ n ≤ 17592186044416) : m39 n = some (mkS (Lib.decDigits n.toNat), ()) := by
 have key := fix_eq (F := fun self (x : Int × Unit) => mb39 self x.1) (fun x : Int × Unit => (mkS (Lib.decDigits x.1.toNat), ())) (fun x => 0 ≤ x.1 ∧ x.1 ≤ 17592186044416) (fun x => x.1.toNat) (by
  rintro ⟨m, _⟩ ⟨m0, m1⟩ s hs
  dsimp only at m0 m1 hs ⊢
  refine T.eq ?_
  unfold mb39
  refine T.cf (by rw [iLt_F]; omega) ?_
  refine T.cnd (fun hc => T.ret ?_) (fun hc => ?_) <;> simp only [iLt_T, iLt_F] at hc
  ·rw [Lib.decDigits_one (by omega), iAdd64 (by omega) (by omega), wrap8_T (by omega) (by omega)]
   congr 1
   have : bsI [48 + m] = bsI ([UInt8.ofNat (48 + m.toNat)].map fun c => (c.toNat : Int)) := by
    congr 1
    simp only [List.map_cons, List.map_nil]
    rw [dg_nat _ (by omega)]
    congr 1; omega
   rw [this, bsI_map]
  ·have q1 : iQuo .i64 m 10 = m / 10 := by unfold iQuo; rw [Int.tdiv_eq_ediv_of_nonneg (by omega), wrap64_T (by omega) (by omega)]
   have q2 : iRem m 10 = m % 10 := iRem_pos m0
   rw [q1, q2]
   refine T.grd rfl (T.callE (hs (m / 10, ()) ⟨by dsimp only; omega, by dsimp only; omega⟩ (by dsimp only; omega)) ?_)
   refine T.grd rfl (T.callE (hs (m % 10, ()) ⟨by dsimp only; omega, by dsimp only; omega⟩ (by dsimp only; omega)) ?_)
   dsimp only
   have l1 := dig_len 14 (m / 10).toNat (by omega)
   have l2 := dig_len 14 (m % 10).toNat (by omega)
   refine T.grd (sFits_t (by rw [mk_size, mk_size]; omega)) (T.ret ?_)
   congr 1
   apply LB_inj
   rw [LB_cat, LB_mk, LB_mk, LB_mk]
   conv => rhs; rw [Lib.decDigits, dif_neg (by omega)]
   rw [show (m / 10).toNat = m.toNat / 10 by omega]
   congr 1
   rw [Lib.decDigits_one (by omega), show (m % 10).toNat = m.toNat % 10 by omega])
 exact key (n, ()) h
theorem itoa_m (n : Int) (h : 0 ≤ n ∧ n ≤ 17592186044416) : mItoa n = some (mkS (Lib.decDigits n.toNat), ()) := by
 unfold mItoa
 rw [if_pos (by omega)]
 unfold itoaB Lib.itoa
 rw [if_neg (by omega)]; rfl
def zF : DS4 := (bs [], 0, 0, 0, (0, 0, 0, ()), ())
def zF0 : DS4 := (ByteArray.empty, 0, 0, 0, (0, 0, 0, ()), ())
def TBL : DS5 := (((bs [114, 101, 112, 111, 114, 116]), 1, 1, 0, (0, 0, 0, ()), ()), ((bs [99, 108, 111, 115, 101]), 1, 2, 0, (0, 0, 0, ()), ()), ((bs [115, 101, 116, 116, 108, 101]), 1, 3, 2, (3, 5, 0, ()), ()), ((bs [99, 111, 109, 109, 117, 116, 101]), 1, 4, 3, (3, 5, 6, ()), ()), ((bs [116, 114, 97, 110, 115, 102, 101, 114]), 1, 5, 2, (3, 4, 0, ()), ()), ((bs [116, 105, 99, 107]), 2, 0, 1, (1, 0, 0, ()), ()), ((bs [100, 101, 108, 105, 118, 101, 114]), 3, 0, 1, (2, 0, 0, ()), ()), ((bs [108, 111, 115, 101]), 4, 0, 1, (2, 0, 0, ()), ()), ((bs [114, 101, 112, 101, 97, 116]), 5, 0, 1, (2, 0, 0, ()), ()), ((bs [99, 114, 97, 115, 104]), 6, 0, 2, (1, 2, 0, ()), ()), ((bs [114, 101, 115, 116, 97, 114, 116]), 7, 0, 1, (1, 0, 0, ()), ()), ())
def FL : List DS4 := [TBL.1, TBL.2.1, TBL.2.2.1, TBL.2.2.2.1, TBL.2.2.2.2.1, TBL.2.2.2.2.2.1, TBL.2.2.2.2.2.2.1, TBL.2.2.2.2.2.2.2.1, TBL.2.2.2.2.2.2.2.2.1, TBL.2.2.2.2.2.2.2.2.2.1, TBL.2.2.2.2.2.2.2.2.2.2.1]
theorem dropF {i : Nat} (h : i < FL.length) : FL.drop i = FL.getD i zF0 :: FL.drop (i + 1) := by
 rw [List.drop_eq_getElem_cons h, List.getD_eq_getElem?_getD, List.getElem?_eq_getElem h]; rfl
theorem atF (i : Nat) : atI FL (i : Int) (ByteArray.empty, 0, 0, 0, (0, 0, 0, ()), ()) = FL.getD i zF0 := by unfold atI; rw [Int.toNat_natCast]; rfl
def findW (w : ByteArray) : Option DS4 := FL.find? fun f => decide (LB f.1 = LB w)
theorem findW_s (w : ByteArray) : findW w = FL.find? fun f => sEq f.1 w := by
 unfold findW; congr 1; funext f; rw [sEq_LB]
def frmR : Option DS4 → DS4 × Bool × Unit
 | some f => (f, true, ())
 | none => (zF, false, ())
theorem word_m (w : ByteArray) : m43 w = some (frmR (findW w)) := by
 refine T.eq ?_
 rw [findW_s]
 unfold m43
 refine T.loop (fun q => ∃ i : Nat, i ≤ 11 ∧ (FL.drop i).find? (fun f => sEq f.1 w) = FL.find? (fun f => sEq f.1 w) ∧ q = (w, TBL, (i : Int), bs [], 0, 0, 0, 0, 0, 0, ())) (fun q => 11 - q.2.2.1.toNat) ⟨0, by omega, rfl, rfl⟩ ?_
 rintro _ ⟨i, hi, hf, rfl⟩
 dsimp only
 have hFL : FL.length = 11 := rfl
 refine T.cnd (fun hc => ?_) (fun hc => ?_) <;> simp only [iLt_T, iLt_F] at hc
 ·have hlt : i < FL.length := by omega
  rw [dropF hlt, List.find?_cons] at hf
  refine T.grd (by rw [bnd_T]; omega) ?_
  have e : ([TBL.1, TBL.2.1, TBL.2.2.1, TBL.2.2.2.1, TBL.2.2.2.2.1, TBL.2.2.2.2.2.1, TBL.2.2.2.2.2.2.1, TBL.2.2.2.2.2.2.2.1, TBL.2.2.2.2.2.2.2.2.1, TBL.2.2.2.2.2.2.2.2.2.1, TBL.2.2.2.2.2.2.2.2.2.2.1] : List DS4) = FL := rfl
  rw [e, atF]
  generalize FL.getD i zF0 = f at hf
  refine T.cnd (fun h1 => T.out ?_) (fun h1 => T.go ⟨i + 1, by omega, ?_, by rw [iAdd64 (by omega) (by omega)]; rfl⟩ ?_)
  ·rw [h1] at hf; rw [← hf]; rfl
  ·rw [h1] at hf; exact hf
  ·dsimp only; rw [iAdd64 (by omega) (by omega)]; omega
 ·obtain rfl : i = 11 := by omega
  rw [← hf]
  exact T.out rfl
def matA (a : DS2) (f : DS4) : Bool := cond (iEq f.2.1 a.1) (cond (iEq f.2.2.1 a.2.2.2.1.1) true (iNe a.1 1)) false
def findA (a : DS2) : Option DS4 := FL.find? (matA a)
theorem act_m (a : DS2) : m60 a = some (frmR (findA a)) := by
 refine T.eq ?_
 unfold m60 findA
 refine T.loop (fun q => ∃ i : Nat, i ≤ 11 ∧ (FL.drop i).find? (matA a) = FL.find? (matA a) ∧ q = (TBL, (i : Int), a.1, a.2.1, a.2.2.1, a.2.2.2.1.1, a.2.2.2.1.2.1, a.2.2.2.1.2.2.1, a.2.2.2.1.2.2.2.1, a.2.2.2.1.2.2.2.2.1, a.2.2.2.1.2.2.2.2.2.1, bs [], 0, 0, 0, 0, 0, 0, ())) (fun q => 11 - q.2.1.toNat) ⟨0, by omega, rfl, rfl⟩ ?_
 rintro _ ⟨i, hi, hf, rfl⟩
 dsimp only
 have hFL : FL.length = 11 := rfl
 refine T.cnd (fun hc => ?_) (fun hc => ?_) <;> simp only [iLt_T, iLt_F] at hc
 ·have hlt : i < FL.length := by omega
  rw [dropF hlt, List.find?_cons] at hf
  refine T.grd (by rw [bnd_T]; omega) ?_
  have e : ([TBL.1, TBL.2.1, TBL.2.2.1, TBL.2.2.2.1, TBL.2.2.2.2.1, TBL.2.2.2.2.2.1, TBL.2.2.2.2.2.2.1, TBL.2.2.2.2.2.2.2.1, TBL.2.2.2.2.2.2.2.2.1, TBL.2.2.2.2.2.2.2.2.2.1, TBL.2.2.2.2.2.2.2.2.2.2.1] : List DS4) = FL := rfl
  rw [e, atF]
  generalize FL.getD i zF0 = f at hf
  have go : matA a f = false → T (some (Sum.inl (β := DS4 × Bool × Unit) (TBL, iAdd .i64 (i : Int) 1, a.1, a.2.1, a.2.2.1, a.2.2.2.1.1, a.2.2.2.1.2.1, a.2.2.2.1.2.2.1, a.2.2.2.1.2.2.2.1, a.2.2.2.1.2.2.2.2.1, a.2.2.2.1.2.2.2.2.2.1, bs [], (0 : Int), (0 : Int), (0 : Int), (0 : Int), (0 : Int), (0 : Int), ()))) (LQ (fun q => ∃ i : Nat, i ≤ 11 ∧ (FL.drop i).find? (matA a) = FL.find? (matA a) ∧ q = (TBL, (i : Int), a.1, a.2.1, a.2.2.1, a.2.2.2.1.1, a.2.2.2.1.2.1, a.2.2.2.1.2.2.1, a.2.2.2.1.2.2.2.1, a.2.2.2.1.2.2.2.2.1, a.2.2.2.1.2.2.2.2.2.1, bs [], 0, 0, 0, 0, 0, 0, ())) (fun q => 11 - q.2.1.toNat) (11 - ((i : Int)).toNat) (fun x => x = frmR (FL.find? (matA a)))) := by
   intro hm
   rw [hm] at hf
   refine T.go ⟨i + 1, by omega, hf, by rw [iAdd64 (by omega) (by omega)]; rfl⟩ ?_
   dsimp only; rw [iAdd64 (by omega) (by omega)]; omega
  refine T.cnd (fun h1 => ?_) (fun h1 => go (by unfold matA; rw [h1]; rfl))
  refine T.cnd (fun h2 => T.out ?_) (fun h2 => go (by unfold matA; rw [h1, h2]; rfl))
  have hm : matA a f = true := by unfold matA; rw [h1, h2]; rfl
  rw [hm] at hf; rw [← hf]; rfl
 ·obtain rfl : i = 11 := by omega
  rw [← hf]
  exact T.out rfl
def fldA (c : Int) (b : DS2) : Int := if c = 1 then b.2.1 else if c = 2 then b.2.2.1 else if c = 3 then b.2.2.2.1.2.2.1 else if c = 4 then b.2.2.2.1.2.2.2.1 else if c = 5 then b.2.2.2.1.2.2.2.2.1 else b.2.2.2.1.2.2.2.2.2.1
def putA (c v : Int) (b : DS2) : DS2 :=
 (b.1, if c = 1 then v else b.2.1, if c = 2 then v else b.2.2.1, (b.2.2.2.1.1, b.2.2.2.1.2.1, if c = 3 then v else b.2.2.2.1.2.2.1, if c = 4 then v else b.2.2.2.1.2.2.2.1, if c = 5 then v else b.2.2.2.1.2.2.2.2.1, if c = 6 then v else b.2.2.2.1.2.2.2.2.2.1, ()), ())
def foldC : List Int → List Int × DS2 → List Int × DS2
 | [], s => s
 | c :: cs, s => foldC cs (s.1 ++ [fldA c s.2], putA c 0 s.2)
def codesF (f : DS4) : List Int := cutL 0 f.2.2.2.1 [f.2.2.2.2.1.1, f.2.2.2.2.1.2.1, f.2.2.2.2.1.2.2.1]
theorem FL_ok : ∀ f ∈ FL, 0 ≤ f.2.2.2.1 ∧ f.2.2.2.1 ≤ 3 ∧ ∀ c ∈ codesF f, 1 ≤ c ∧ c ≤ 6 := by
 intro f hf
 simp only [FL, List.mem_cons, List.not_mem_nil, or_false] at hf
 rcases hf with rfl | rfl | rfl | rfl | rfl | rfl | rfl | rfl | rfl | rfl | rfl <;> exact ⟨by decide, by decide, by decide⟩
theorem findA_mem {a : DS2} {f : DS4} (h : findA a = some f) : f ∈ FL := List.mem_of_find?_eq_some h
theorem findW_mem {w : ByteArray} {f : DS4} (h : findW w = some f) : f ∈ FL ∧ f.1 = w := by
 refine ⟨List.mem_of_find?_eq_some h, ?_⟩
 have := List.find?_some h
 exact LB_inj (of_decide_eq_true this)
def dirtyA (f : DS4) (b : DS2) : Bool := cond (cond (cond (cond (cond (cond (iNe b.2.1 0) true (iNe b.2.2.1 0)) true (iNe b.2.2.2.1.1 f.2.2.1)) true (iNe b.2.2.2.1.2.2.1 0)) true (iNe b.2.2.2.1.2.2.2.1 0)) true (iNe b.2.2.2.1.2.2.2.2.1 0)) true (iNe b.2.2.2.1.2.2.2.2.2.1 0)
def colsL (x : DS0) : List Int := [x.1, x.2.1, x.2.2.1, x.2.2.2.1, x.2.2.2.2.1, x.2.2.2.2.2.1, x.2.2.2.2.2.2.1, x.2.2.2.2.2.2.2.1, x.2.2.2.2.2.2.2.2.1, x.2.2.2.2.2.2.2.2.2.1]
def numsS (a : DS2) : DS4 × List Int × Int × Unit := match findA a with
 | none => (zF, [], 11, ())
 | some f => if dirtyA f (foldC (codesF f) ([], a)).2 = true then (zF, [], 20, ())
  else if f.2.2.1 ≠ 1 then (if 0 < a.2.2.2.1.2.1.length then (zF, [], 20, ()) else (f, (foldC (codesF f) ([], a)).1, 0, ()))
  else if 64 < a.2.2.2.1.2.1.length then (zF, [], 4, ()) else (f, (foldC (codesF f) ([], a)).1 ++ a.2.2.2.1.2.1.flatMap colsL, 0, ())
theorem foldC_L : ∀ (cs : List Int) (s : List Int × DS2), (foldC cs s).2.2.2.2.1.2.1 = s.2.2.2.2.1.2.1 ∧ (foldC cs s).1.length = s.1.length + cs.length
 | [], s => ⟨rfl, rfl⟩
 | c :: cs, s => by
  have := foldC_L cs (s.1 ++ [fldA c s.2], putA c 0 s.2)
  exact ⟨this.1, by show (foldC cs _).1.length = _; rw [this.2]; simp; omega⟩
theorem nums_m (a : DS2) : m33 a = some (numsS a) := by
 refine T.eq ?_
 unfold m33 numsS
 refine T.callE (act_m _) ?_
 have ea : findA (a.1, a.2.1, a.2.2.1, (a.2.2.2.1.1, a.2.2.2.1.2.1, a.2.2.2.1.2.2.1, a.2.2.2.1.2.2.2.1, a.2.2.2.1.2.2.2.2.1, a.2.2.2.1.2.2.2.2.2.1, ()), ()) = findA a := rfl
 rw [ea]
 cases hfa : findA a with
 | none => exact T.ct rfl (T.ret rfl)
 | some f =>
  refine T.cf rfl ?_
  dsimp only [frmR]
  obtain ⟨c0, c3, hcs⟩ := FL_ok f (findA_mem hfa)
  refine T.grd (by rw [cutOk_T]; omega) ?_
  have ecs : cutL 0 f.2.2.2.1 ([f.2.2.2.2.1.1, f.2.2.2.2.1.2.1, f.2.2.2.2.1.2.2.1] : List Int) = codesF f := rfl
  rw [ecs]
  have hcl : (codesF f).length ≤ 3 := by
   rw [← ecs]
   unfold cutL
   rw [List.length_drop, List.length_take]
   simp
   omega
  generalize codesF f = cs at hcs hcl
  have hL := lenI_eq cs
  refine T.loop (fun q => ∃ (i : Nat) (acc : List Int) (b : DS2), i ≤ cs.length ∧ acc.length = i ∧ foldC (cs.drop i) (acc, b) = foldC cs ([], a) ∧ q = (cs, lenI cs, (i : Int), bs [], 0, 0, 0, 0, 0, 0, [f], b.1, b.2.1, b.2.2.1, b.2.2.2.1.1, b.2.2.2.1.2.1, b.2.2.2.1.2.2.1, b.2.2.2.1.2.2.2.1, b.2.2.2.1.2.2.2.2.1, b.2.2.2.1.2.2.2.2.2.1, acc, ())) (fun q => cs.length - q.2.2.1.toNat) ⟨0, [], a, by omega, rfl, rfl, rfl⟩ ?_
  rintro _ ⟨i, acc, b, hi, hal, hf, rfl⟩
  dsimp only
  refine T.cnd (fun hc => ?_) (fun hc => ?_) <;> simp only [iLt_T, iLt_F] at hc
  ·have hlt : i < cs.length := by omega
   refine T.grd (by rw [bnd_T]; omega) ?_
   have ec : atI cs (i : Int) 0 = cs[i] := atI_get 0 hlt
   rw [List.drop_eq_getElem_cons hlt] at hf
   have hci := hcs cs[i] (List.getElem_mem _)
   rw [ec]
   generalize cs[i] = c at hf hci
   have hf : foldC (cs.drop (i + 1)) (acc ++ [fldA c b], putA c 0 b) = foldC cs ([], a) := hf
   have hfit : ∀ z : List Int, z.length = 1 → fits (acc.length + z.length) 8 = true := fun z hz => by rw [fits_T, hz]; omega
   have go : ∀ (z : List Int) (b' : DS2), z = acc ++ [fldA c b] → b' = putA c 0 b → T (some (Sum.inl (β := DS4 × List Int × Int × Unit) (cs, lenI cs, iAdd .i64 (i : Int) 1, bs [], (0 : Int), (0 : Int), (0 : Int), (0 : Int), (0 : Int), (0 : Int), [f], b'.1, b'.2.1, b'.2.2.1, b'.2.2.2.1.1, b'.2.2.2.1.2.1, b'.2.2.2.1.2.2.1, b'.2.2.2.1.2.2.2.1, b'.2.2.2.1.2.2.2.2.1, b'.2.2.2.1.2.2.2.2.2.1, z, ()))) (LQ (fun q => ∃ (i : Nat) (acc : List Int) (b : DS2), i ≤ cs.length ∧ acc.length = i ∧ foldC (cs.drop i) (acc, b) = foldC cs ([], a) ∧ q = (cs, lenI cs, (i : Int), bs [], 0, 0, 0, 0, 0, 0, [f], b.1, b.2.1, b.2.2.1, b.2.2.2.1.1, b.2.2.2.1.2.1, b.2.2.2.1.2.2.1, b.2.2.2.1.2.2.2.1, b.2.2.2.1.2.2.2.2.1, b.2.2.2.1.2.2.2.2.2.1, acc, ())) (fun q => cs.length - q.2.2.1.toNat) (cs.length - ((i : Int)).toNat) (fun x => x = if dirtyA f (foldC cs ([], a)).2 = true then (zF, [], 20, ()) else if f.2.2.1 ≠ 1 then (if 0 < a.2.2.2.1.2.1.length then (zF, [], 20, ()) else (f, (foldC cs ([], a)).1, 0, ())) else if 64 < a.2.2.2.1.2.1.length then (zF, [], 4, ()) else (f, (foldC cs ([], a)).1 ++ a.2.2.2.1.2.1.flatMap colsL, 0, ()))) := by
    rintro z b' rfl rfl
    refine T.go ⟨i + 1, _, _, by omega, by rw [List.length_append, List.length_singleton, hal], hf, by rw [iAdd64 (by omega) (by omega)]; rfl⟩ ?_
    dsimp only; rw [iAdd64 (by omega) (by omega)]; omega
   refine T.cnd (fun h1 => ?_) (fun h1 => ?_) <;> simp only [iEq_T, iEq_F] at h1
   ·subst h1
    exact T.callE rfl (T.grd (hfit _ rfl) (T.callE rfl (go _ (putA 1 0 b) rfl rfl)))
   refine T.cnd (fun h2 => ?_) (fun h2 => ?_) <;> simp only [iEq_T, iEq_F] at h2
   ·subst h2
    exact T.callE rfl (T.grd (hfit _ rfl) (T.callE rfl (go _ (putA 2 0 b) rfl rfl)))
   refine T.cnd (fun h3 => ?_) (fun h3 => ?_) <;> simp only [iEq_T, iEq_F] at h3
   ·subst h3
    exact T.callE rfl (T.grd (hfit _ rfl) (T.callE rfl (go _ (putA 3 0 b) rfl rfl)))
   refine T.cnd (fun h4 => ?_) (fun h4 => ?_) <;> simp only [iEq_T, iEq_F] at h4
   ·subst h4
    exact T.callE rfl (T.grd (hfit _ rfl) (T.callE rfl (go _ (putA 4 0 b) rfl rfl)))
   refine T.cnd (fun h5 => ?_) (fun h5 => ?_) <;> simp only [iEq_T, iEq_F] at h5
   ·subst h5
    exact T.callE rfl (T.grd (hfit _ rfl) (T.callE rfl (go _ (putA 5 0 b) rfl rfl)))
   refine T.ct (by rw [iEq_T]; omega) ?_
   obtain rfl : c = 6 := by omega
   exact T.callE rfl (T.grd (hfit _ rfl) (T.callE rfl (go _ (putA 6 0 b) rfl rfl)))
  ·obtain rfl : i = cs.length := by omega
   rw [List.drop_length] at hf
   have hf : (acc, b) = foldC cs ([], a) := hf
   have hLL := (foldC_L cs ([], a)).1
   rw [← hf] at hLL ⊢
   have hLL : b.2.2.2.1.2.1 = a.2.2.2.1.2.1 := hLL
   dsimp only
   have inB0 : inB 0 [f] = true := rfl
   refine T.mapL ?_
   refine T.grd (by rw [inB0]; rfl) ?_
   have ed : ∀ x : DS4, List.getD [f] 0 x = f := fun _ => rfl
   rw [ed]
   refine T.cnd (fun h1 => T.ret ?_) (fun h1 => ?_)
   ·have h1' : dirtyA f b = true := h1
    rw [if_pos h1']; rfl
   have h1' : ¬ dirtyA f b = true := by rw [Bool.not_eq_true]; exact h1
   rw [if_neg h1']
   refine T.grd inB0 ?_
   refine T.cnd (fun h2 => ?_) (fun h2 => ?_) <;> simp only [iNe_T, iNe_F] at h2
   ·rw [if_pos h2]
    refine T.cnd (fun h3 => T.ret ?_) (fun h3 => ?_) <;> simp only [iLt_T, iLt_F, lenI_eq] at h3
    ·rw [if_pos (by rw [← hLL]; omega)]; rfl
    ·rw [if_neg (by rw [← hLL]; omega)]
     exact T.grd inB0 (T.ret rfl)
   ·rw [if_neg (by simpa using h2)]
    refine T.cnd (fun h3 => T.ret ?_) (fun h3 => ?_) <;> simp only [iLt_T, iLt_F, lenI_eq] at h3
    ·rw [if_pos (by rw [← hLL]; omega)]; rfl
    ·rw [if_neg (by rw [← hLL]; omega), ← hLL]
     generalize b.2.2.2.1.2.1 = L at h3
     have hz := lenI_eq L
     refine T.loop (fun q => ∃ (i : Nat), i ≤ L.length ∧ q = (L, lenI L, (i : Int), bs [], 0, 0, 0, 0, 0, 0, [f], acc ++ (L.take i).flatMap colsL, ())) (fun q => L.length - q.2.2.1.toNat) ⟨0, by omega, by simp⟩ ?_
     rintro _ ⟨i, hi, rfl⟩
     dsimp only
     have hfl : ((L.take i).flatMap colsL).length = 10 * i := by
      rw [List.length_flatMap]
      have : ∀ l : List DS0, (l.map fun x => (colsL x).length).sum = 10 * l.length := by
       intro l
       induction l with
       | nil => rfl
       | cons x l ih => rw [List.map_cons, List.sum_cons, ih]; simp [colsL]; omega
      rw [this, List.length_take]; omega
     refine T.cnd (fun hc2 => ?_) (fun hc2 => ?_) <;> simp only [iLt_T, iLt_F] at hc2
     ·have hlt : i < L.length := by omega
      refine T.grd (by rw [bnd_T]; omega) ?_
      have ec : atI L (i : Int) (0, 0, 0, 0, 0, 0, 0, 0, 0, 0, ()) = L[i] := atI_get _ hlt
      rw [ec]
      refine T.callE rfl ?_
      dsimp only
      have fb : ∀ (z : List Int) (k : Nat), z.length ≤ 2000 → fits (z.length + 1) 8 = true := fun z k hz => by rw [fits_T]; omega
      refine T.grd (by rw [fits_T]; simp only [List.length_append, List.length_cons, List.length_nil, hfl]; omega) (T.grd (by rw [fits_T]; simp only [List.length_append, List.length_cons, List.length_nil, hfl]; omega) (T.grd (by rw [fits_T]; simp only [List.length_append, List.length_cons, List.length_nil, hfl]; omega) (T.grd (by rw [fits_T]; simp only [List.length_append, List.length_cons, List.length_nil, hfl]; omega) (T.grd (by rw [fits_T]; simp only [List.length_append, List.length_cons, List.length_nil, hfl]; omega) (T.grd (by rw [fits_T]; simp only [List.length_append, List.length_cons, List.length_nil, hfl]; omega) (T.grd (by rw [fits_T]; simp only [List.length_append, List.length_cons, List.length_nil, hfl]; omega) (T.grd (by rw [fits_T]; simp only [List.length_append, List.length_cons, List.length_nil, hfl]; omega) (T.grd (by rw [fits_T]; simp only [List.length_append, List.length_cons, List.length_nil, hfl]; omega) (T.grd (by rw [fits_T]; simp only [List.length_append, List.length_cons, List.length_nil, hfl]; omega) ?_)))))))))
      refine T.go ⟨i + 1, by omega, ?_⟩ ?_
      ·rw [iAdd64 (by omega) (by omega), List.take_succ_eq_append_getElem hlt, List.flatMap_append]
       have e3 : [L[i]].flatMap colsL = colsL L[i] := by simp
       rw [e3]
       have e4 : ∀ z : List Int, (((((((((z ++ [L[i].1]) ++ [L[i].2.1]) ++ [L[i].2.2.1]) ++ [L[i].2.2.2.1]) ++ [L[i].2.2.2.2.1]) ++ [L[i].2.2.2.2.2.1]) ++ [L[i].2.2.2.2.2.2.1]) ++ [L[i].2.2.2.2.2.2.2.1]) ++ [L[i].2.2.2.2.2.2.2.2.1]) ++ [L[i].2.2.2.2.2.2.2.2.2.1] = z ++ colsL L[i] := fun z => by simp [colsL]
       rw [e4, List.append_assoc]; rfl
      ·dsimp only; rw [iAdd64 (by omega) (by omega)]; omega
     ·obtain rfl : i = L.length := by omega
      refine T.mapL (T.grd inB0 (T.ret ?_))
      rw [ed, List.take_length]
set_option maxRecDepth 4000
def sepB (rep : Bool) (i : Nat) : UInt8 := if rep = true ∧ i % 10 ≠ 0 then 47 else 32
def numsT (rep : Bool) : Nat → List Int → List UInt8
 | _, [] => []
 | i, n :: r => sepB rep i :: (Lib.decDigits n.toNat ++ numsT rep (i + 1) r)
def toI (l : List UInt8) : List Int := l.map fun c => (c.toNat : Int)
def badN (n : Int) : Bool := cond (iLt n 0) true (iLt 17592186044416 n)
theorem badN_F {n : Int} (h : badN n = false) : 0 ≤ n ∧ n ≤ 17592186044416 := by
 unfold badN at h; rw [corT_F, iLt_F, iLt_F] at h; omega
theorem digN_len {n : Int} (h : 0 ≤ n ∧ n ≤ 17592186044416) : (Lib.decDigits n.toNat).length ≤ 14 := dig_len 13 n.toNat (by omega)
theorem numsT_len (rep : Bool) : ∀ (ns : List Int) (i : Nat), ns.any badN = false → (numsT rep i ns).length ≤ 15 * ns.length
 | [], i, _ => by simp [numsT]
 | n :: r, i, h => by
  rw [List.any_cons, Bool.or_eq_false_iff] at h
  have ih := numsT_len rep r (i + 1) h.2
  have := digN_len (badN_F h.1)
  unfold numsT
  rw [List.length_cons, List.length_append, List.length_cons]
  omega
theorem toI_len (l : List UInt8) : (toI l).length = l.length := by unfold toI; rw [List.length_map]
theorem toI_app (a b : List UInt8) : toI (a ++ b) = toI a ++ toI b := by unfold toI; rw [List.map_append]
theorem bytes_mk (l : List UInt8) : bytesI (mkS l) = toI l := by rw [bytes_LB, LB_mk]; rfl
theorem bytes_to (b : ByteArray) : bytesI b = toI (LB b) := rfl
theorem ws_m (b : ByteArray) (t : List Int) (h : t.length + b.size ≤ 100000000000000) : m34 b t = some (sLen b, t ++ toI (LB b), ()) := by
 refine T.eq ?_
 unfold m34
 refine T.callE (show mB62_0 t = some (t, ()) from rfl) ?_
 refine T.grd ?_ (T.ret rfl)
 have : (bytesI b).length = b.size := by rw [bytes_to, toI_len, LB_len]
 rw [fits_T, this]
 dsimp only
 omega
theorem wb_m (c : UInt8) (t : List Int) (h : t.length ≤ 100000000000000) : m35 (c.toNat : Int) t = some (t ++ toI [c], ()) := by
 refine T.eq ?_
 unfold m35
 refine T.callE (show mB62_0 t = some (t, ()) from rfl) ?_
 refine T.grd ?_ (T.ret rfl)
 rw [fits_T]
 simp only [List.length_cons, List.length_nil]
 omega
def lossF (a : DS2) : List Int := a.2.2.2.1.2.1.flatMap colsL
def lineP (a : DS2) : List UInt8 × Int :=
 if (numsS a).2.2.1 ≠ 0 then ([], (numsS a).2.2.1) else if (numsS a).2.1.any badN = true then ([], 1)
 else (LB (numsS a).1.1 ++ (numsT (iEq (numsS a).1.2.2.1 1) 0 (numsS a).2.1 ++ [10]), 0)
theorem FL_word : ∀ f ∈ FL, (LB f.1).length ≤ 8 ∧ 10 ∉ LB f.1 ∧ 32 ∉ LB f.1 := by
 intro f hf
 simp only [FL, List.mem_cons, List.not_mem_nil, or_false] at hf
 rcases hf with rfl | rfl | rfl | rfl | rfl | rfl | rfl | rfl | rfl | rfl | rfl <;> exact ⟨by decide, by decide, by decide⟩
theorem codes_len (f : DS4) (h : f ∈ FL) : (codesF f).length ≤ 3 := by
 have := FL_ok f h
 unfold codesF cutL
 rw [List.length_drop, List.length_take]
 simp; omega
theorem cols_len : ∀ l : List DS0, (l.flatMap colsL).length = 10 * l.length
 | [] => rfl
 | x :: l => by rw [List.flatMap_cons, List.length_append, cols_len l]; simp [colsL]; omega
theorem numsS_ok {a : DS2} (h : (numsS a).2.2.1 = 0) : findA a = some (numsS a).1 ∧ (numsS a).1 ∈ FL ∧ (numsS a).2.1.length ≤ 643 := by
 unfold numsS at h ⊢
 match hf : findA a, h with
 | none, h => exact absurd h (by simp)
 | some f, h =>
  have hm := findA_mem hf
  have hl := codes_len f hm
  have hfl := (foldC_L (codesF f) ([], a)).2
  have hfl : (foldC (codesF f) ([], a)).1.length = 0 + (codesF f).length := hfl
  dsimp only at h ⊢
  split
  ·rename_i q; rw [if_pos q] at h; exact absurd h (by simp)
  ·rename_i q
   rw [if_neg q] at h
   split
   ·rename_i q2
    rw [if_pos q2] at h
    split
    ·rename_i q3; rw [if_pos q3] at h; exact absurd h (by simp)
    ·exact ⟨rfl, hm, by dsimp only; omega⟩
   ·rename_i q2
    rw [if_neg q2] at h
    split
    ·rename_i q3; rw [if_pos q3] at h; exact absurd h (by simp)
    ·refine ⟨rfl, hm, ?_⟩
     dsimp only
     rw [List.length_append, cols_len]
     omega
theorem line_len (a : DS2) : (lineP a).1.length ≤ 10000 := by
 unfold lineP
 split
 ·simp
 ·rename_i h
  split
  ·simp
  ·rename_i h2
   have h := numsS_ok (a := a) (by simpa using h)
   have h2 := numsT_len (iEq (numsS a).1.2.2.1 1) (numsS a).2.1 0 (by simpa using h2)
   have h3 := (FL_word _ h.2.1).1
   rw [List.length_append, List.length_append, List.length_singleton]
   omega
theorem sep_rep {i : Nat} {c : Int} : cond (iEq c 1) (iNe (iRem (i : Int) 10) 0) false = decide (sepB (iEq c 1) i = 47) := by
 unfold sepB
 rw [iRem_pos (by omega)]
 cases hc : iEq c 1
 ·rfl
 ·show iNe ((i : Int) % 10) 0 = _
  cases hi : iNe ((i : Int) % 10) 0 <;> simp only [iNe_T, iNe_F] at hi
  ·rw [if_neg (by simp; omega)]; rfl
  ·rw [if_pos (by simp; omega)]; rfl
theorem write_m (a : DS2) (tb : List Int) (hb : tb.length ≤ 1000000000000) : m17 a tb = some ((lineP a).2, tb ++ toI (lineP a).1, ()) := by
 refine T.eq ?_
 unfold m17
 refine T.callE (nums_m a) ?_
 unfold lineP
 refine T.cnd (fun h => T.ret ?_) (fun h => ?_) <;> simp only [iNe_T, iNe_F] at h
 ·rw [if_pos h]; simp [toI]
 rw [if_neg (by simpa using h)]
 obtain ⟨-, hF, hN⟩ := numsS_ok h
 have hW := (FL_word _ hF).1
 generalize (numsS a).2.1 = ns at hN
 generalize (numsS a).1 = f at hF hW
 have hz := lenI_eq ns
 refine T.loop (fun q => ∃ (i : Nat), i ≤ ns.length ∧ (ns.drop i).any badN = ns.any badN ∧ q = (ns, ns, lenI ns, (i : Int), tb, f.1, f.2.1, f.2.2.1, f.2.2.2.1, f.2.2.2.2.1.1, f.2.2.2.2.1.2.1, f.2.2.2.2.1.2.2.1, ())) (fun q => ns.length - q.2.2.2.1.toNat) ⟨0, by omega, rfl, rfl⟩ ?_
 rintro _ ⟨i, hi, hn, rfl⟩
 dsimp only
 refine T.cnd (fun hc => ?_) (fun hc => ?_) <;> simp only [iLt_T, iLt_F] at hc
 ·have hlt : i < ns.length := by omega
  rw [List.drop_eq_getElem_cons hlt, List.any_cons] at hn
  have ec : atI ns (i : Int) 0 = ns[i] := atI_get 0 hlt
  rw [ec]
  refine T.grd (by rw [bnd_T]; omega) ?_
  refine T.cnd (fun h1 => T.out ?_) (fun h1 => ?_)
  ·have h1 : badN ns[i] = true := h1
   rw [if_pos (by rw [← hn, h1]; rfl)]; simp [toI]
  ·have h1 : badN ns[i] = false := h1
   rw [h1, Bool.false_or] at hn
   refine T.go ⟨i + 1, by omega, hn, by rw [iAdd64 (by omega) (by omega)]; rfl⟩ ?_
   dsimp only; rw [iAdd64 (by omega) (by omega)]; omega
 obtain rfl : i = ns.length := by omega
 rw [List.drop_length] at hn
 have hn : ns.any badN = false := hn.symm
 rw [if_neg (by rw [hn]; simp)]
 refine T.mapL (T.callE (ws_m f.1 tb (by rw [← LB_len]; omega)) ?_)
 dsimp only
 have hall : ∀ n ∈ ns, 0 ≤ n ∧ n ≤ 17592186044416 := fun n hn' => badN_F (by have := List.any_eq_false.1 hn n hn'; simpa using this)
 refine T.loop (fun q => ∃ (i : Nat) (acc : List Int), i ≤ ns.length ∧ acc.length ≤ tb.length + 8 + 15 * i ∧ acc ++ toI (numsT (iEq f.2.2.1 1) i (ns.drop i)) = tb ++ toI (LB f.1) ++ toI (numsT (iEq f.2.2.1 1) 0 ns) ∧ q = (ns, lenI ns, (i : Int), acc, f.1, f.2.1, f.2.2.1, f.2.2.2.1, f.2.2.2.2.1.1, f.2.2.2.2.1.2.1, f.2.2.2.2.1.2.2.1, ())) (fun q => ns.length - q.2.2.1.toNat) ⟨0, _, by omega, by rw [List.length_append, toI_len]; omega, rfl, rfl⟩ ?_
 rintro _ ⟨i, acc, hi, hacc, he, rfl⟩
 dsimp only
 refine T.cnd (fun hc => ?_) (fun hc => ?_) <;> simp only [iLt_T, iLt_F] at hc
 ·have hlt : i < ns.length := by omega
  rw [List.drop_eq_getElem_cons hlt, numsT] at he
  have ec : atI ns (i : Int) 0 = ns[i] := atI_get 0 hlt
  have h1 := hall ns[i] (List.getElem_mem _)
  rw [ec]
  generalize ns[i] = n at he h1
  have hd := digN_len h1
  refine T.grd (by rw [bnd_T]; omega) (T.grd rfl ?_)
  rw [sep_rep]
  have fin : ∀ c : UInt8, c = sepB (iEq f.2.2.1 1) i → T ((m35 (c.toNat : Int) acc).bind fun y127 => (mItoa n).bind fun y128 => (m34 y128.1 y127.1).bind fun y129 => some (Sum.inl (β := Int × (List Int) × Unit) (ns, lenI ns, iAdd .i64 (i : Int) 1, y129.2.1, f.1, f.2.1, f.2.2.1, f.2.2.2.1, f.2.2.2.2.1.1, f.2.2.2.2.1.2.1, f.2.2.2.2.1.2.2.1, ()))) (LQ (fun q => ∃ (i : Nat) (acc : List Int), i ≤ ns.length ∧ acc.length ≤ tb.length + 8 + 15 * i ∧ acc ++ toI (numsT (iEq f.2.2.1 1) i (ns.drop i)) = tb ++ toI (LB f.1) ++ toI (numsT (iEq f.2.2.1 1) 0 ns) ∧ q = (ns, lenI ns, (i : Int), acc, f.1, f.2.1, f.2.2.1, f.2.2.2.1, f.2.2.2.2.1.1, f.2.2.2.2.1.2.1, f.2.2.2.2.1.2.2.1, ())) (fun q => ns.length - q.2.2.1.toNat) (ns.length - ((i : Int)).toNat) (fun x => x = (0, tb ++ toI (LB f.1 ++ (numsT (iEq f.2.2.1 1) 0 ns ++ [10])), ()))) := by
   rintro c rfl
   refine T.callE (wb_m _ acc (by omega)) (T.callE (itoa_m n h1) (T.callE (ws_m _ _ ?_) ?_))
   ·dsimp only
    rw [mk_size, List.length_append, toI_len, List.length_singleton]
    omega
   ·dsimp only
    rw [LB_mk]
    refine T.go ⟨i + 1, _, by omega, ?_, ?_, by rw [iAdd64 (by omega) (by omega)]; rfl⟩ ?_
    ·rw [List.length_append, List.length_append, toI_len, toI_len, List.length_singleton]; omega
    ·rw [← he, show sepB (iEq f.2.2.1 1) i :: (Lib.decDigits n.toNat ++ numsT (iEq f.2.2.1 1) (i + 1) (ns.drop (i + 1))) = [sepB (iEq f.2.2.1 1) i] ++ (Lib.decDigits n.toNat ++ numsT (iEq f.2.2.1 1) (i + 1) (ns.drop (i + 1))) from rfl, toI_app, toI_app, List.append_assoc, List.append_assoc]
    ·dsimp only; rw [iAdd64 (by omega) (by omega)]; omega
  refine T.cnd (fun h2 => ?_) (fun h2 => ?_)
  ·exact fin 47 (of_decide_eq_true h2).symm
  ·refine fin 32 ?_
   have h2 := of_decide_eq_false h2
   unfold sepB at h2 ⊢
   split at h2
   ·exact absurd rfl h2
   ·rename_i h3; rw [if_neg h3]
 ·obtain rfl : i = ns.length := by omega
  rw [List.drop_length] at he
  refine T.mapL (T.callE (wb_m 10 acc (by omega)) (T.ret ?_))
  have he : acc ++ [] = tb ++ toI (LB f.1) ++ toI (numsT (iEq f.2.2.1 1) 0 ns) := he
  rw [List.append_nil] at he
  rw [he, toI_app, toI_app]
  simp only [List.append_assoc]
def formP : List DS2 → List UInt8 × Int
 | [] => ([], 0)
 | a :: r => if (lineP a).2 ≠ 0 then ([], (lineP a).2) else if (formP r).2 ≠ 0 then ([], (formP r).2) else ((lineP a).1 ++ (formP r).1, 0)
def preP (acc : List UInt8) (r : List UInt8 × Int) : List UInt8 × Int := if r.2 ≠ 0 then ([], r.2) else (acc ++ r.1, 0)
theorem preP_nil : ∀ xs : List DS2, preP [] (formP xs) = formP xs
 | [] => rfl
 | a :: r => by
  unfold preP formP
  by_cases h : (lineP a).2 = 0
  ·by_cases h2 : (formP r).2 = 0 <;> simp [h, h2]
  ·simp [h]
theorem preP_go {acc : List UInt8} {a : DS2} {r : List DS2} (h : (lineP a).2 = 0) : preP acc (formP (a :: r)) = preP (acc ++ (lineP a).1) (formP r) := by
 unfold preP
 rw [formP]
 by_cases h2 : (formP r).2 = 0 <;> simp [h, h2]
theorem preP_err {acc : List UInt8} {a : DS2} {r : List DS2} (h : (lineP a).2 ≠ 0) : preP acc (formP (a :: r)) = ([], (lineP a).2) := by
 unfold preP
 rw [formP]
 simp [h]
theorem format_m (xs : List DS2) (hl : xs.length ≤ 1000000) : m9 xs = some (mkS (formP xs).1, (formP xs).2, ()) := by
 refine T.eq ?_
 unfold m9
 have hz := lenI_eq xs
 refine T.loop (fun q => ∃ (i : Nat) (acc : List UInt8), i ≤ xs.length ∧ acc.length ≤ 10000 * i ∧ preP acc (formP (xs.drop i)) = formP xs ∧ q = (xs, lenI xs, (i : Int), toI acc, ())) (fun q => xs.length - q.2.2.1.toNat) ⟨0, [], by omega, by simp, preP_nil xs, rfl⟩ ?_
 rintro _ ⟨i, acc, hi, hacc, he, rfl⟩
 dsimp only
 refine T.cnd (fun hc => ?_) (fun hc => ?_) <;> simp only [iLt_T, iLt_F] at hc
 ·have hlt : i < xs.length := by omega
  refine T.grd (by rw [bnd_T]; omega) ?_
  have ec : atI xs (i : Int) (0, 0, 0, (0, [], 0, 0, 0, 0, ()), ()) = xs[i] := atI_get _ hlt
  rw [ec]
  rw [List.drop_eq_getElem_cons hlt] at he
  generalize xs[i] = a at he
  have hla := line_len a
  refine T.callE (write_m a (toI acc) (by rw [toI_len]; omega)) ?_
  refine T.cnd (fun h => T.out ?_) (fun h => ?_) <;> simp only [iNe_T, iNe_F] at h
  ·rw [preP_err h] at he; rw [← he]; rfl
  ·rw [preP_go h] at he
   refine T.go ⟨i + 1, acc ++ (lineP a).1, by omega, by rw [List.length_append]; omega, he, by rw [iAdd64 (by omega) (by omega), toI_app]; rfl⟩ ?_
   dsimp only; rw [iAdd64 (by omega) (by omega)]; omega
 ·obtain rfl : i = xs.length := by omega
  rw [List.drop_length] at he
  refine T.mapL (T.callE (show mB18_0 (toI acc) = some (bsI (toI acc), toI acc, ()) from rfl) (T.ret ?_))
  have he : (acc ++ [], 0) = formP xs := he
  rw [← he]
  show (bsI (toI acc), _, _) = _
  rw [show bsI (toI acc) = mkS acc from bsI_map acc, List.append_nil]
set_option maxRecDepth 4000
noncomputable instance eqD1 : DecidableEq DS1 := fun _ _ => Classical.propDecidable _
noncomputable instance eqD2 : DecidableEq DS2 := fun _ _ => Classical.propDecidable _
def headS (a : DS2) : Int ⊕ (DS4 × List Int) := match findA a with
 | none => .inl 11
 | some f => if dirtyA f (foldC (codesF f) ([], a)).2 = true then .inl 20 else if f.2.2.1 ≠ 1 ∧ 0 < a.2.2.2.1.2.1.length then .inl 20 else .inr (f, (foldC (codesF f) ([], a)).1)
theorem head_l {a : DS2} {e : Int} (h : headS a = .inl e) : e ≠ 0 ∧ numsS a = (zF, [], e, ()) := by
 unfold headS at h
 unfold numsS
 match hf : findA a, h with
 | none, h => injection h with h; subst h; exact ⟨by decide, rfl⟩
 | some f, h =>
  dsimp only at h ⊢
  split at h
  ·rename_i q; injection h with h; subst h; rw [if_pos q]; exact ⟨by decide, rfl⟩
  ·rename_i q
   rw [if_neg q]
   split at h
   ·rename_i q2; injection h with h; subst h; rw [if_pos q2.1, if_pos q2.2]; exact ⟨by decide, rfl⟩
   ·cases h
theorem FL_rep : ∀ f ∈ FL, f.2.2.1 = 1 → codesF f = [] := by
 intro f hf
 simp only [FL, List.mem_cons, List.not_mem_nil, or_false] at hf
 rcases hf with rfl | rfl | rfl | rfl | rfl | rfl | rfl | rfl | rfl | rfl | rfl <;> decide
theorem head_r {a : DS2} {f : DS4} {ns : List Int} (h : headS a = .inr (f, ns)) : f ∈ FL ∧ ns.length ≤ 3 ∧ (f.2.2.1 ≠ 1 → a.2.2.2.1.2.1 = []) ∧ (f.2.2.1 = 1 → ns = []) ∧ numsS a = if 64 < a.2.2.2.1.2.1.length then (zF, [], 4, ()) else (f, ns ++ lossF a, 0, ()) := by
 unfold headS at h
 unfold numsS lossF
 match hf : findA a, h with
 | some g, h =>
  dsimp only at h ⊢
  have hm := findA_mem hf
  split at h
  ·cases h
  ·rename_i q
   rw [if_neg q]
   split at h
   ·cases h
   ·rename_i q2
    injection h with h
    injection h with h1 h2
    subst h1
    have hl := codes_len g hm
    have hfl : (foldC (codesF g) ([], a)).1.length = 0 + (codesF g).length := (foldC_L (codesF g) ([], a)).2
    refine ⟨hm, by rw [← h2]; omega, fun k => ?_, fun k => ?_, ?_⟩
    ·exact List.length_eq_zero_iff.1 (by
      rcases Nat.eq_zero_or_pos a.2.2.2.1.2.1.length with h0 | h0
      ·exact h0
      ·exact absurd ⟨k, h0⟩ q2)
    ·rw [FL_rep g hm k] at h2; exact h2.symm
    ·by_cases k : g.2.2.1 = 1
     ·rw [if_neg (by simpa using k)]
      split
      ·rfl
      ·rw [h2]
     ·rw [if_pos k]
      have h0 : a.2.2.2.1.2.1.length = 0 := by
       rcases Nat.eq_zero_or_pos a.2.2.2.1.2.1.length with h0 | h0
       ·exact h0
       ·exact absurd ⟨k, h0⟩ q2
      have h00 := List.length_eq_zero_iff.1 h0
      rw [if_neg (by omega), if_neg (by omega), h00, ← h2]
      simp
theorem same_m (c d : DS1) (h : d.2.1 = []) : m24 c d = some (decide (c = d), ()) := by
 obtain ⟨c1, L, c3, c4, c5, c6, u⟩ := c
 obtain ⟨d1, L', d3, d4, d5, d6, u'⟩ := d
 have h : L' = [] := h
 subst h
 refine T.eq ?_
 unfold m24
 dsimp only
 refine T.cnd (fun h1 => ?_) (fun h1 => T.ret ?_) <;> simp only [iEq_T, iEq_F] at h1
 ·subst h1
  have h50 : m50 L [] = some (decide (L = []), ()) := by
   refine T.eq ?_
   unfold m50
   refine T.cnd (fun h2 => T.ret ?_) (fun h2 => ?_) <;> simp only [iNe_T, iNe_F, lenI_eq] at h2
   ·rw [decide_eq_false]; rintro rfl; exact h2 rfl
   ·have : L = [] := List.length_eq_zero_iff.1 (by simpa using h2)
    subst this
    exact T.loop (fun q => q = ([], [], lenI ([] : List DS0), 0, ())) (fun _ => 0) rfl (by rintro _ rfl; exact T.out rfl)
  refine T.callE h50 (T.ret ?_)
  congr 1
  rw [Bool.eq_iff_iff]
  simp only [iEq, Bool.cond_eq_ite, Bool.if_false_right, Bool.and_eq_true, decide_eq_true_eq, beq_iff_eq, Prod.mk.injEq, true_and, and_true]
  simp [and_assoc]
 ·rw [decide_eq_false]; intro h; injection h; contradiction
theorem kindN {a : DS2} (h : (a.1 = 1 ∧ (a.2.2.2.1.1 < 1 ∨ 5 < a.2.2.2.1.1)) ∨ a.1 < 1 ∨ 7 < a.1) : headS a = .inl 11 := by
 have : findA a = none := by
  unfold findA
  rw [List.find?_eq_none]
  intro f hf
  rw [Bool.not_eq_true]
  unfold matA
  simp only [FL, List.mem_cons, List.not_mem_nil, or_false] at hf
  rw [candF_F, corT_F, iEq_F, iEq_F, iNe_F]
  rcases hf with rfl | rfl | rfl | rfl | rfl | rfl | rfl | rfl | rfl | rfl | rfl <;> simp only [TBL] <;> omega
 unfold headS
 rw [this]
theorem findK {a : DS2} {f : DS4} (h : iNe a.1 1 = true) (q : FL.find? (fun f => iEq f.2.1 a.1) = some f) : findA a = some f := by
 have : matA a = fun f : DS4 => iEq f.2.1 a.1 := by
  funext f
  unfold matA
  rw [h]
  cases iEq f.2.1 a.1 <;> cases iEq f.2.2.1 a.2.2.2.1.1 <;> rfl
 unfold findA
 rw [this, q]
def REP : ByteArray := bs [114, 101, 112, 111, 114, 116]
def dirtR (a : DS2) : Bool := cond (cond (cond (cond (cond (iNe a.2.1 0) true (iNe a.2.2.1 0)) true (iNe a.2.2.2.1.2.2.1 0)) true (iNe a.2.2.2.1.2.2.2.1 0)) true (iNe a.2.2.2.1.2.2.2.2.1 0)) true (iNe a.2.2.2.1.2.2.2.2.2.1 0)
theorem words_T (a : DS2) : T (m37 a) fun y => (y.2.2.1 = false ∧ headS a = .inl 11) ∨ ∃ f ns, y = (f.1, ns, true, ()) ∧
    ((sEq f.1 REP = true ∧ f.2.2.1 = 1 ∧ headS a = if dirtR a = true then .inl 20 else .inr (f, ns)) ∨
     (sEq f.1 REP = false ∧ f.2.2.1 ≠ 1 ∧ ∃ b : DS2, m38 f.1 ns = some (b, true, ()) ∧ b.2.2.2.1.2.1 = [] ∧ headS a = if a = b then .inr (f, ns) else .inl 20)) := by
  obtain ⟨k, t, n, ⟨c, L, f1, f2, f3, f4, u⟩, u2⟩ := a
  unfold m37
  dsimp only
  have hL : ∀ p : Prop, (0 < L.length) = ¬ (L = []) := fun p => by rw [eq_iff_iff, List.length_pos_iff]
  have hd : ∀ (f : DS4) (b : DS2), dirtyA f b = false ↔ b.2.1 = 0 ∧ b.2.2.1 = 0 ∧ b.2.2.2.1.1 = f.2.2.1 ∧ b.2.2.2.1.2.2.1 = 0 ∧ b.2.2.2.1.2.2.2.1 = 0 ∧ b.2.2.2.1.2.2.2.2.1 = 0 ∧ b.2.2.2.1.2.2.2.2.2.1 = 0 := by
    intro f b; unfold dirtyA; simp only [corT_F, iNe_F, and_assoc]
  have act : ∀ (a b : DS2) (f : DS4) (ns : List Int), findA a = some f → (foldC (codesF f) ([], a)).1 = ns → f.2.2.1 ≠ 1 → ((dirtyA f (foldC (codesF f) ([], a)).2 = false ∧ a.2.2.2.1.2.1 = []) ↔ a = b) → headS a = if a = b then .inr (f, ns) else .inl 20 := by
    intro a b f ns h1 h2 h3 h4
    unfold headS
    rw [h1]
    dsimp only
    by_cases h : a = b
    · rw [if_pos h]
      obtain ⟨q1, q2⟩ := h4.2 h
      rw [if_neg (by rw [q1]; simp), if_neg (by rw [q2]; simp), h2]
    · rw [if_neg h]
      split
      · rfl
      · rename_i q1
        rw [if_pos]
        refine ⟨h3, List.length_pos_iff.2 fun q2 => h (h4.1 ⟨by simpa using q1, q2⟩)⟩
  refine T.cnd (fun hk => ?_) (fun hk => ?_) <;> simp only [iEq_T, iEq_F] at hk
  · subst hk
    refine T.cnd (fun hc => ?_) (fun hc1 => ?_) <;> simp only [iEq_T, iEq_F] at *
    · subst hc
      refine T.ret (.inr ⟨TBL.1, [], rfl, .inl ⟨by rw [sEq_LB]; exact decide_eq_true (by decide), rfl, ?_⟩⟩)
      show (if dirtyA TBL.1 (1, t, n, (1, L, f1, f2, f3, f4, ()), ()) = true then _ else _) = _
      have e : dirtyA TBL.1 (1, t, n, (1, L, f1, f2, f3, f4, ()), ()) = dirtR (1, t, n, (1, L, f1, f2, f3, f4, ()), ()) := by
        unfold dirtyA dirtR
        cases iNe t 0 <;> cases iNe n 0 <;> rfl
      rw [e]
      split
      · rfl
      · rw [if_neg (by rintro ⟨q, -⟩; exact q rfl)]; rfl
    refine T.cnd (fun hc => ?_) (fun hc2 => ?_) <;> simp only [iEq_T, iEq_F] at *
    · subst hc
      refine T.ret (.inr ⟨TBL.2.1, [], rfl, .inr ⟨by rw [sEq_LB]; exact decide_eq_false (by decide), by decide, (1, 0, 0, (2, [], 0, 0, 0, 0, ()), ()), by unfold m38; simp only [sEq_LB]; rfl, rfl, act _ _ _ _ rfl rfl (by decide) ?_⟩⟩)
      rw [hd]; simp only [Prod.mk.injEq]; simp [codesF, foldC, cutL, putA, fldA, TBL]; grind
    refine T.cnd (fun hc => ?_) (fun hc3 => ?_) <;> simp only [iEq_T, iEq_F] at *
    · subst hc
      refine T.ret (.inr ⟨TBL.2.2.1, [f1, f3], rfl, .inr ⟨by rw [sEq_LB]; exact decide_eq_false (by decide), by decide, (1, 0, 0, (3, [], f1, 0, f3, 0, ()), ()), by unfold m38; simp only [sEq_LB]; rfl, rfl, act _ _ _ _ rfl rfl (by decide) ?_⟩⟩)
      rw [hd]; simp only [Prod.mk.injEq]; simp [codesF, foldC, cutL, putA, fldA, TBL]; grind
    refine T.cnd (fun hc => ?_) (fun hc4 => ?_) <;> simp only [iEq_T, iEq_F] at *
    · subst hc
      refine T.ret (.inr ⟨TBL.2.2.2.1, [f1, f3, f4], rfl, .inr ⟨by rw [sEq_LB]; exact decide_eq_false (by decide), by decide, (1, 0, 0, (4, [], f1, 0, f3, f4, ()), ()), by unfold m38; simp only [sEq_LB]; rfl, rfl, act _ _ _ _ rfl rfl (by decide) ?_⟩⟩)
      rw [hd]; simp only [Prod.mk.injEq]; simp [codesF, foldC, cutL, putA, fldA, TBL]; grind
    refine T.cnd (fun hc => ?_) (fun hc5 => ?_) <;> simp only [iEq_T, iEq_F] at *
    · subst hc
      refine T.ret (.inr ⟨TBL.2.2.2.2.1, [f1, f2], rfl, .inr ⟨by rw [sEq_LB]; exact decide_eq_false (by decide), by decide, (1, 0, 0, (5, [], f1, f2, 0, 0, ()), ()), by unfold m38; simp only [sEq_LB]; rfl, rfl, act _ _ _ _ rfl rfl (by decide) ?_⟩⟩)
      rw [hd]; simp only [Prod.mk.injEq]; simp [codesF, foldC, cutL, putA, fldA, TBL]; grind
    exact T.ret (.inl ⟨rfl, kindN (.inl ⟨rfl, by dsimp only; omega⟩)⟩)
  refine T.cnd (fun hc => ?_) (fun hc2 => ?_) <;> simp only [iEq_T, iEq_F] at *
  · subst hc
    refine T.ret (.inr ⟨TBL.2.2.2.2.2.1, [t], rfl, .inr ⟨by rw [sEq_LB]; exact decide_eq_false (by decide), by decide, (2, t, 0, (0, [], 0, 0, 0, 0, ()), ()), by unfold m38; simp only [sEq_LB]; rfl, rfl, act _ _ _ _ (findK rfl rfl) rfl (by decide) ?_⟩⟩)
    rw [hd]; simp only [Prod.mk.injEq]; simp [codesF, foldC, cutL, putA, fldA, TBL]; grind
  refine T.cnd (fun hc => ?_) (fun hc3 => ?_) <;> simp only [iEq_T, iEq_F] at *
  · subst hc
    refine T.ret (.inr ⟨TBL.2.2.2.2.2.2.1, [n], rfl, .inr ⟨by rw [sEq_LB]; exact decide_eq_false (by decide), by decide, (3, 0, n, (0, [], 0, 0, 0, 0, ()), ()), by unfold m38; simp only [sEq_LB]; rfl, rfl, act _ _ _ _ (findK rfl rfl) rfl (by decide) ?_⟩⟩)
    rw [hd]; simp only [Prod.mk.injEq]; simp [codesF, foldC, cutL, putA, fldA, TBL]; grind
  refine T.cnd (fun hc => ?_) (fun hc4 => ?_) <;> simp only [iEq_T, iEq_F] at *
  · subst hc
    refine T.ret (.inr ⟨TBL.2.2.2.2.2.2.2.1, [n], rfl, .inr ⟨by rw [sEq_LB]; exact decide_eq_false (by decide), by decide, (4, 0, n, (0, [], 0, 0, 0, 0, ()), ()), by unfold m38; simp only [sEq_LB]; rfl, rfl, act _ _ _ _ (findK rfl rfl) rfl (by decide) ?_⟩⟩)
    rw [hd]; simp only [Prod.mk.injEq]; simp [codesF, foldC, cutL, putA, fldA, TBL]; grind
  refine T.cnd (fun hc => ?_) (fun hc5 => ?_) <;> simp only [iEq_T, iEq_F] at *
  · subst hc
    refine T.ret (.inr ⟨TBL.2.2.2.2.2.2.2.2.1, [n], rfl, .inr ⟨by rw [sEq_LB]; exact decide_eq_false (by decide), by decide, (5, 0, n, (0, [], 0, 0, 0, 0, ()), ()), by unfold m38; simp only [sEq_LB]; rfl, rfl, act _ _ _ _ (findK rfl rfl) rfl (by decide) ?_⟩⟩)
    rw [hd]; simp only [Prod.mk.injEq]; simp [codesF, foldC, cutL, putA, fldA, TBL]; grind
  refine T.cnd (fun hc => ?_) (fun hc6 => ?_) <;> simp only [iEq_T, iEq_F] at *
  · subst hc
    refine T.ret (.inr ⟨TBL.2.2.2.2.2.2.2.2.2.1, [t, n], rfl, .inr ⟨by rw [sEq_LB]; exact decide_eq_false (by decide), by decide, (6, t, n, (0, [], 0, 0, 0, 0, ()), ()), by unfold m38; simp only [sEq_LB]; rfl, rfl, act _ _ _ _ (findK rfl rfl) rfl (by decide) ?_⟩⟩)
    rw [hd]; simp only [Prod.mk.injEq]; simp [codesF, foldC, cutL, putA, fldA, TBL]; grind
  refine T.cnd (fun hc => ?_) (fun hc7 => ?_) <;> simp only [iEq_T, iEq_F] at *
  · subst hc
    refine T.ret (.inr ⟨TBL.2.2.2.2.2.2.2.2.2.2.1, [t], rfl, .inr ⟨by rw [sEq_LB]; exact decide_eq_false (by decide), by decide, (7, t, 0, (0, [], 0, 0, 0, 0, ()), ()), by unfold m38; simp only [sEq_LB]; rfl, rfl, act _ _ _ _ (findK rfl rfl) rfl (by decide) ?_⟩⟩)
    rw [hd]; simp only [Prod.mk.injEq]; simp [codesF, foldC, cutL, putA, fldA, TBL]; grind
  exact T.ret (.inl ⟨rfl, kindN (.inr (by dsimp only; omega))⟩)
set_option maxRecDepth 4000
theorem lineP_e {a : DS2} {e : Int} (h0 : e ≠ 0) (h : numsS a = (zF, [], e, ())) : lineP a = ([], e) := by
 unfold lineP; rw [h]; exact if_pos h0
theorem lineP_b {a : DS2} {f : DS4} {ns : List Int} (h : numsS a = (f, ns, 0, ())) (hb : ns.any badN = true) : lineP a = ([], 1) := by
 unfold lineP; rw [h]; dsimp only; rw [if_neg (by simp), if_pos hb]
theorem lineP_r {a : DS2} {f : DS4} {ns : List Int} (h : numsS a = (f, ns, 0, ())) (hb : ns.any badN = false) : lineP a = (LB f.1 ++ (numsT (iEq f.2.2.1 1) 0 ns ++ [10]), 0) := by
 unfold lineP; rw [h]; dsimp only; rw [if_neg (by simp), if_neg (by rw [hb]; simp)]
theorem numsT_app (rep : Bool) : ∀ (a b : List Int) (i : Nat), numsT rep i (a ++ b) = numsT rep i a ++ numsT rep (i + a.length) b
 | [], b, i => rfl
 | n :: a, b, i => by
  rw [List.cons_append, numsT, numsT, numsT_app rep a b (i + 1), List.length_cons, show i + 1 + a.length = i + (a.length + 1) by omega]
  simp
theorem mkS_cat (a b : List UInt8) : sCat (mkS a) (mkS b) = mkS (a ++ b) := LB_inj (by rw [LB_cat, LB_mk, LB_mk, LB_mk])
theorem line_r (a : DS2) : m19 a = some (mkS (lineP a).1, (lineP a).2, ()) := by
  refine T.eq ?_
  unfold m19
  refine T.call (words_T a) ?_
  rintro y (⟨h1, h2⟩ | ⟨f, ns, rfl, hw⟩)
  · refine T.ct (by rw [h1]; rfl) (T.ret ?_)
    rw [lineP_e (head_l h2).1 (head_l h2).2]; rfl
  refine T.cf rfl ?_
  dsimp only
  have key : ∀ g : ByteArray × (List Int) × Int × Int × Int × Int × (List DS0) × Int × Int × Int × Int × Unit → Option (ByteArray × Int × Unit), (headS a = .inr (f, ns) → T (g (f.1, ns, a.1, a.2.1, a.2.2.1, a.2.2.2.1.1, a.2.2.2.1.2.1, a.2.2.2.1.2.2.1, a.2.2.2.1.2.2.2.1, a.2.2.2.1.2.2.2.2.1, a.2.2.2.1.2.2.2.2.2.1, ())) fun x => x = (mkS (lineP a).1, (lineP a).2, ())) → T (joinO (S := ByteArray × (List Int) × Int × Int × Int × Int × (List DS0) × Int × Int × Int × Int × Unit) (R := ByteArray × Int × Unit)
 (cond (not (sEq f.1 (bs [114, 101, 112, 111, 114, 116])))
 ((m38 f.1 ns).bind fun y549 =>
 cond (cond (cond (iNe a.1 y549.1.1) true (iNe a.2.1 y549.1.2.1)) true (iNe a.2.2.1 y549.1.2.2.1))
 (some (.inr ((bs []), 20, ())))
 ((m24 (a.2.2.2.1.1, a.2.2.2.1.2.1, a.2.2.2.1.2.2.1, a.2.2.2.1.2.2.2.1, a.2.2.2.1.2.2.2.2.1, a.2.2.2.1.2.2.2.2.2.1, ()) (y549.1.2.2.2.1.1, y549.1.2.2.2.1.2.1, y549.1.2.2.2.1.2.2.1, y549.1.2.2.2.1.2.2.2.1, y549.1.2.2.2.1.2.2.2.2.1, y549.1.2.2.2.1.2.2.2.2.2.1, ())).bind fun y550 =>
 cond (not y550.1)
 (some (.inr ((bs []), 20, ())))
 (some (.inl (f.1, ns, a.1, a.2.1, a.2.2.1, a.2.2.2.1.1, a.2.2.2.1.2.1, a.2.2.2.1.2.2.1, a.2.2.2.1.2.2.2.1, a.2.2.2.1.2.2.2.2.1, a.2.2.2.1.2.2.2.2.2.1, ())))))
 (cond (cond (cond (cond (cond (cond (iNe a.2.1 0) true (iNe a.2.2.1 0)) true (iNe a.2.2.2.1.2.2.1 0)) true (iNe a.2.2.2.1.2.2.2.1 0)) true (iNe a.2.2.2.1.2.2.2.2.1 0)) true (iNe a.2.2.2.1.2.2.2.2.2.1 0))
 (some (.inr ((bs []), 20, ())))
 (some (.inl (f.1, ns, a.1, a.2.1, a.2.2.1, a.2.2.2.1.1, a.2.2.2.1.2.1, a.2.2.2.1.2.2.1, a.2.2.2.1.2.2.2.1, a.2.2.2.1.2.2.2.2.1, a.2.2.2.1.2.2.2.2.2.1, ()))))) g) fun x => x = (mkS (lineP a).1, (lineP a).2, ()) := by
    intro g hg
    refine T.join (fun s => headS a = .inr (f, ns) ∧ s = (f.1, ns, a.1, a.2.1, a.2.2.1, a.2.2.2.1.1, a.2.2.2.1.2.1, a.2.2.2.1.2.2.1, a.2.2.2.1.2.2.2.1, a.2.2.2.1.2.2.2.2.1, a.2.2.2.1.2.2.2.2.2.1, ())) ?_ (by rintro _ ⟨h, rfl⟩; exact hg h)
    have er : headS a = .inl 20 → ((bs [], 20, ()) : ByteArray × Int × Unit) = (mkS (lineP a).1, (lineP a).2, ()) := fun h => by rw [lineP_e (head_l h).1 (head_l h).2]; rfl
    rcases hw with ⟨h1, h2, h3⟩ | ⟨h1, h2, b, hb, hbl, h3⟩
    · refine T.cf (by rw [show bs [114, 101, 112, 111, 114, 116] = REP from rfl, h1]; rfl) ?_
      refine T.cnd (fun h4 => T.jout (er ?_)) (fun h4 => T.jgo ⟨?_, rfl⟩)
      · rw [h3]; exact if_pos h4
      · rw [h3]; exact if_neg (by rw [show dirtR a = false from h4]; simp)
    · refine T.ct (by rw [show bs [114, 101, 112, 111, 114, 116] = REP from rfl, h1]; rfl) (T.callE hb ?_)
      dsimp only
      refine T.cnd (fun h4 => T.jout (er ?_)) (fun h4 => ?_)
      · rw [corT_T, corT_T, iNe_T, iNe_T, iNe_T] at h4
        rw [h3]
        exact if_neg (by rintro rfl; simp at h4)
      · rw [corT_F, corT_F, iNe_F, iNe_F, iNe_F] at h4
        refine T.callE (same_m a.2.2.2.1 b.2.2.2.1 hbl) ?_
        refine T.cnd (fun h5 => T.jout (er ?_)) (fun h5 => T.jgo ⟨?_, rfl⟩)
        · rw [h3]
          refine if_neg ?_
          rintro rfl
          simp at h5
        · rw [h3]
          refine if_pos ?_
          have h5 : a.2.2.2.1 = b.2.2.2.1 := by simpa using h5
          obtain ⟨k, t, n, c, u⟩ := a
          obtain ⟨k', t', n', c', u'⟩ := b
          dsimp only at h4 h5
          rw [h4.1.1, h4.1.2, h4.2, h5]
  refine key _ fun hh => ?_
  dsimp only
  obtain ⟨hF, hN, hL0, hR0, hS⟩ := head_r hh
  have hl := lenI_eq a.2.2.2.1.2.1
  refine T.cnd (fun h => T.ret ?_) (fun h => ?_) <;> simp only [iLt_T, iLt_F] at h
  · rw [if_pos (by omega)] at hS; rw [lineP_e (by decide) hS]; rfl
  rw [if_neg (by omega)] at hS
  have hW := (FL_word _ hF).1
  have hbad : ((ns ++ lossF a).any badN = true) → ((bs [], 1, ()) : ByteArray × Int × Unit) = (mkS (lineP a).1, (lineP a).2, ()) := fun h => by rw [lineP_b hS h]; rfl
  have hgood : ((ns ++ lossF a).any badN = false) → lineP a = (LB f.1 ++ (numsT false 0 ns ++ numsT true 0 (lossF a) ++ [10]), 0) := fun h => by
    rw [lineP_r hS h, numsT_app]
    by_cases h1 : f.2.2.1 = 1
    · rw [hR0 h1, iEq_T.mpr h1]; rfl
    · have : lossF a = [] := by unfold lossF; rw [hL0 h1]; rfl
      rw [iEq_F.mpr h1, this]
      rfl
  unfold lossF at hbad hgood
  generalize a.2.2.2.1.2.1 = L at hbad hgood h hl
  generalize hRR : ((mkS (lineP a).1, (lineP a).2, ()) : ByteArray × Int × Unit) = R at hbad
  have hz := lenI_eq ns
  rw [List.any_append] at hbad hgood
  refine T.loop (fun q => ∃ (i : Nat) (acc : List UInt8), i ≤ ns.length ∧ acc.length ≤ 8 + 15 * i ∧ (ns.drop i).any badN = ns.any badN ∧ acc ++ numsT false i (ns.drop i) = LB f.1 ++ numsT false 0 ns ∧ q = (mkS acc, ns, lenI ns, (i : Int), a.1, a.2.1, a.2.2.1, a.2.2.2.1.1, L, a.2.2.2.1.2.2.1, a.2.2.2.1.2.2.2.1, a.2.2.2.1.2.2.2.2.1, a.2.2.2.1.2.2.2.2.2.1, ())) (fun q => ns.length - q.2.2.2.1.toNat) ⟨0, LB f.1, by omega, by omega, rfl, rfl, by rw [mk_LB]; rfl⟩ ?_
  rintro _ ⟨i, acc, hi, hacc, hb, he, rfl⟩
  dsimp only
  refine T.cnd (fun hc => ?_) (fun hc => ?_) <;> simp only [iLt_T, iLt_F] at hc
  · have hlt : i < ns.length := by omega
    rw [List.drop_eq_getElem_cons hlt] at hb he
    rw [List.any_cons] at hb
    rw [numsT] at he
    have ec : atI ns (i : Int) 0 = ns[i] := atI_get 0 hlt
    rw [ec]
    generalize ns[i] = n at hb he
    refine T.grd (by rw [bnd_T]; omega) ?_
    refine T.cnd (fun h1 => T.out ?_) (fun h1 => ?_)
    · have h1 : badN n = true := h1
      exact hbad (by rw [← hb, h1]; rfl)
    · have h1 : badN n = false := h1
      have hd := digN_len (badN_F h1)
      rw [h1, Bool.false_or] at hb
      refine T.callE (dec39 n (badN_F h1)) ?_
      dsimp only
      have e1 : sCat (bs [32]) (mkS (Lib.decDigits n.toNat)) = mkS ([32] ++ Lib.decDigits n.toNat) := mkS_cat [32] _
      have s1 : (bs [32]).size = 1 := rfl
      refine T.grd (sFits_t (by rw [s1, mk_size]; omega)) ?_
      rw [e1]
      refine T.grd (sFits_t (by rw [mk_size, mk_size, List.length_append, List.length_singleton]; omega)) ?_
      rw [mkS_cat]
      refine T.go ⟨i + 1, _, by omega, ?_, hb, ?_, by rw [iAdd64 (by omega) (by omega)]; rfl⟩ ?_
      · rw [List.length_append, List.length_append, List.length_singleton]; omega
      · rw [← he]; simp [sepB]
      · dsimp only; rw [iAdd64 (by omega) (by omega)]; omega
  obtain rfl : i = ns.length := by omega
  rw [List.drop_length] at hb he
  have hb : ns.any badN = false := hb.symm
  rw [hb, Bool.false_or] at hbad hgood
  have he : acc ++ [] = LB f.1 ++ numsT false 0 ns := he
  rw [List.append_nil] at he
  refine T.mapL ?_
  have ha0 : acc.length ≤ 60 := by omega
  refine T.loop (fun q => ∃ (i : Nat) (ac : List UInt8), i ≤ L.length ∧ ac.length ≤ 60 + 150 * i ∧ ((L.drop i).flatMap colsL).any badN = (L.flatMap colsL).any badN ∧ ac ++ numsT true (10 * i) ((L.drop i).flatMap colsL) = acc ++ numsT true 0 (L.flatMap colsL) ∧ q = (mkS ac, L, lenI L, (i : Int), ())) (fun q => L.length - q.2.2.2.1.toNat) ⟨0, acc, by omega, by omega, rfl, rfl, rfl⟩ ?_
  rintro _ ⟨i, ac, hi, hacc, hb, he2, rfl⟩
  dsimp only
  refine T.cnd (fun hc => ?_) (fun hc => ?_) <;> simp only [iLt_T, iLt_F] at hc
  · have hlt : i < L.length := by omega
    rw [List.drop_eq_getElem_cons hlt, List.flatMap_cons] at hb he2
    have ec : atI L (i : Int) (0, 0, 0, 0, 0, 0, 0, 0, 0, 0, ()) = L[i] := atI_get _ hlt
    rw [ec]
    generalize L[i] = x at hb he2
    refine T.grd (by rw [bnd_T]; omega) ?_
    refine T.callE (v := (colsL x, ())) rfl ?_
    dsimp only
    have hcl : (colsL x).length = 10 := rfl
    generalize colsL x = fs at hb he2 hcl
    have hfz := lenI_eq fs
    refine T.loop (fun q => ∃ (j : Nat) (ac : List UInt8), j ≤ 10 ∧ ac.length ≤ 60 + 150 * i + 15 * j ∧ (fs.drop j ++ (L.drop (i + 1)).flatMap colsL).any badN = (L.flatMap colsL).any badN ∧ ac ++ numsT true (10 * i + j) (fs.drop j ++ (L.drop (i + 1)).flatMap colsL) = acc ++ numsT true 0 (L.flatMap colsL) ∧ q = (mkS ac, L, lenI L, (i : Int), fs, lenI fs, (j : Int), ())) (fun q => 10 - q.2.2.2.2.2.2.1.toNat) ⟨0, ac, by omega, by omega, hb, he2, rfl⟩ ?_
    rintro _ ⟨j, ac, hj, hacc, hb, he2, rfl⟩
    dsimp only
    refine T.cnd (fun hc2 => ?_) (fun hc2 => ?_) <;> simp only [iLt_T, iLt_F] at hc2
    · have hlt2 : j < fs.length := by omega
      rw [List.drop_eq_getElem_cons hlt2, List.cons_append] at hb he2
      rw [List.any_cons] at hb
      rw [numsT] at he2
      have ec : atI fs (j : Int) 0 = fs[j] := atI_get 0 hlt2
      rw [ec]
      generalize fs[j] = n at hb he2
      refine T.grd (by rw [bnd_T]; omega) ?_
      refine T.cnd (fun h1 => T.out ?_) (fun h1 => ?_)
      · have h1 : badN n = true := h1
        exact hbad (by rw [← hb, h1]; rfl)
      have h1 : badN n = false := h1
      have hd := digN_len (badN_F h1)
      rw [h1, Bool.false_or] at hb
      have step : ∀ c : UInt8, c = sepB true (10 * i + j) → T ((m39 n).bind fun y557 => cond (sFits (bs [c]) y557.1) (cond (sFits (mkS ac) (sCat (bs [c]) y557.1)) (some (Sum.inl (β := (ByteArray × (List DS0) × Int × Int × Unit) ⊕ (ByteArray × Int × Unit)) (sCat (mkS ac) (sCat (bs [c]) y557.1), L, lenI L, (i : Int), fs, lenI fs, iAdd .i64 (j : Int) 1, ()))) none) none) (LQ (fun q => ∃ (j : Nat) (ac : List UInt8), j ≤ 10 ∧ ac.length ≤ 60 + 150 * i + 15 * j ∧ (fs.drop j ++ (L.drop (i + 1)).flatMap colsL).any badN = (L.flatMap colsL).any badN ∧ ac ++ numsT true (10 * i + j) (fs.drop j ++ (L.drop (i + 1)).flatMap colsL) = acc ++ numsT true 0 (L.flatMap colsL) ∧ q = (mkS ac, L, lenI L, (i : Int), fs, lenI fs, (j : Int), ())) (fun q => 10 - q.2.2.2.2.2.2.1.toNat) (10 - ((j : Int)).toNat) (LQ (fun q => ∃ (i : Nat) (ac : List UInt8), i ≤ L.length ∧ ac.length ≤ 60 + 150 * i ∧ ((L.drop i).flatMap colsL).any badN = (L.flatMap colsL).any badN ∧ ac ++ numsT true (10 * i) ((L.drop i).flatMap colsL) = acc ++ numsT true 0 (L.flatMap colsL) ∧ q = (mkS ac, L, lenI L, (i : Int), ())) (fun q => L.length - q.2.2.2.1.toNat) (L.length - ((i : Int)).toNat) fun x => x = R)) := by
        rintro c rfl
        refine T.callE (dec39 n (badN_F h1)) ?_
        dsimp only
        generalize hc : sepB true (10 * i + j) = c at he2
        have e1 : sCat (bs [c]) (mkS (Lib.decDigits n.toNat)) = mkS ([c] ++ Lib.decDigits n.toNat) := mkS_cat [c] _
        have s1 : (bs [c]).size = 1 := rfl
        refine T.grd (sFits_t (by rw [s1, mk_size]; omega)) ?_
        rw [e1]
        refine T.grd (sFits_t (by rw [mk_size, mk_size, List.length_append, List.length_singleton]; omega)) ?_
        rw [mkS_cat]
        refine T.go ⟨j + 1, _, by omega, ?_, hb, ?_, by rw [iAdd64 (by omega) (by omega)]; rfl⟩ ?_
        · rw [List.length_append, List.length_append, List.length_singleton]; omega
        · rw [← he2, show 10 * i + (j + 1) = 10 * i + j + 1 by omega]; simp
        · dsimp only; rw [iAdd64 (by omega) (by omega)]; omega
      refine T.cnd (fun h2 => ?_) (fun h2 => ?_) <;> simp only [iEq_T, iEq_F] at h2
      · exact step 32 (by unfold sepB; rw [if_neg]; rintro ⟨-, h3⟩; omega)
      · exact step 47 (by unfold sepB; rw [if_pos]; exact ⟨rfl, by omega⟩)
    · obtain rfl : j = 10 := by omega
      rw [List.drop_eq_nil_of_le (by omega), List.nil_append] at hb he2
      refine T.out ?_
      refine ⟨⟨i + 1, ac, by omega, by omega, hb, he2, by rw [iAdd64 (by omega) (by omega)]; rfl⟩, ?_⟩
      dsimp only; rw [iAdd64 (by omega) (by omega)]; omega
  · obtain rfl : i = L.length := by omega
    rw [List.drop_length] at hb he2
    have he2 : ac ++ [] = acc ++ numsT true 0 (L.flatMap colsL) := he2
    rw [List.append_nil] at he2
    refine T.mapL ?_
    have s1 : (bs [10]).size = 1 := rfl
    refine T.grd (sFits_t (by rw [s1, mk_size]; omega)) (T.ret ?_)
    have hR := hgood hb.symm
    rw [show bs [10] = mkS [10] from rfl, mkS_cat, he2, he]
    rw [← hRR, hR]
    simp only [List.append_assoc]
theorem format_r (xs : List DS2) (hl : xs.length ≤ 1000000) : m10 xs = some (mkS (formP xs).1, (formP xs).2, ()) := by
 refine T.eq ?_
 unfold m10
 have hz := lenI_eq xs
 refine T.loop (fun q => ∃ (i : Nat) (acc : List UInt8), i ≤ xs.length ∧ acc.length ≤ 10000 * i ∧ preP acc (formP (xs.drop i)) = formP xs ∧ q = (mkS acc, xs, lenI xs, (i : Int), ())) (fun q => xs.length - q.2.2.2.1.toNat) ⟨0, [], by omega, by simp, preP_nil xs, rfl⟩ ?_
 rintro _ ⟨i, acc, hi, hacc, he, rfl⟩
 dsimp only
 refine T.cnd (fun hc => ?_) (fun hc => ?_) <;> simp only [iLt_T, iLt_F] at hc
 ·have hlt : i < xs.length := by omega
  refine T.grd (by rw [bnd_T]; omega) ?_
  have ec : atI xs (i : Int) (0, 0, 0, (0, [], 0, 0, 0, 0, ()), ()) = xs[i] := atI_get _ hlt
  rw [ec]
  rw [List.drop_eq_getElem_cons hlt] at he
  generalize xs[i] = a at he
  have hla := line_len a
  refine T.callE (line_r a) ?_
  dsimp only
  refine T.cnd (fun h => T.out ?_) (fun h => ?_) <;> simp only [iNe_T, iNe_F] at h
  ·rw [preP_err h] at he; rw [← he]; rfl
  ·rw [preP_go h] at he
   refine T.grd (sFits_t (by rw [mk_size, mk_size]; omega)) ?_
   rw [mkS_cat]
   refine T.go ⟨i + 1, acc ++ (lineP a).1, by omega, by rw [List.length_append]; omega, he, by rw [iAdd64 (by omega) (by omega)]; rfl⟩ ?_
   dsimp only; rw [iAdd64 (by omega) (by omega)]; omega
 ·obtain rfl : i = xs.length := by omega
  rw [List.drop_length] at he
  have he : (acc ++ [], 0) = formP xs := he
  refine T.out ?_
  rw [← he, List.append_nil]
set_option maxRecDepth 4000
def zA : DS2 := (0, 0, 0, (0, [], 0, 0, 0, 0, ()), ())
def numP : List (List UInt8) → Option (List Int)
 | [] => some []
 | p :: r => (decL p).bind fun n => (numP r).map fun l => n :: l
theorem numP_none : ∀ {l : List (List UInt8)} {p : List UInt8}, p ∈ l → decL p = none → numP l = none
 | [], p, h, _ => by simp at h
 | q :: r, p, h, hn => by
  unfold numP
  rcases List.mem_cons.1 h with rfl | h
  ·rw [hn]; rfl
  ·rw [numP_none h hn]
   cases decL q <;> rfl
def mkLo (l : List Int) : DS0 := (l.getD 0 0, l.getD 1 0, l.getD 2 0, l.getD 3 0, l.getD 4 0, l.getD 5 0, l.getD 6 0, l.getD 7 0, l.getD 8 0, l.getD 9 0, ())
def lossP (s : List UInt8) : Option DS0 := if (splitB 47 s).length = 10 then (numP (splitB 47 s)).map mkLo else none
def losP : List (List UInt8) → Option (List DS0)
 | [] => some []
 | p :: r => (lossP p).bind fun n => (losP r).map fun l => n :: l
theorem glu_tail (c : UInt8) (p : List UInt8) (ps : List (List UInt8)) : (gluB c ps).length ≤ (gluB c (p :: ps)).length ∧ p.length ≤ (gluB c (p :: ps)).length := by
 cases ps with
 | nil => exact ⟨by simp [gluB], Nat.le_refl _⟩
 | cons q qs =>
  rw [gluB_cons c p (by simp), List.length_append, List.length_cons]
  omega
theorem cutP_glu (c : UInt8) (p : List UInt8) (ps : List (List UInt8)) (h : ∀ x ∈ p :: ps, c ∉ x) : cutP c (gluB c (p :: ps)) = (p, gluB c ps, !ps.isEmpty) := by
 unfold cutP
 rw [split_glu c (p :: ps) (by simp) h]
 cases ps <;> rfl
theorem cut_glu (c : UInt8) (p : List UInt8) (ps : List (List UInt8)) (h : ∀ x ∈ p :: ps, c ∉ x) (hs : (gluB c (p :: ps)).length ≤ 4000000000) : mCut (mkS (gluB c (p :: ps))) (mkS [c]) = some (mkS p, mkS (gluB c ps), !ps.isEmpty, ()) := by
 rw [mCut_eq _ c (by rw [mk_size]; exact hs), LB_mk, cutP_glu c p ps h]
theorem loss_step {R : Type} {Q : R → Prop} {FAIL : R} {K : ByteArray × ByteArray × Bool × Unit → Int × Bool × Unit → Option R} (ps : List (List UInt8)) (h0 : ps ≠ []) (hf : ∀ x ∈ ps, 47 ∉ x) (hs : (gluB 47 ps).length ≤ 4000000000)
  (hfail : (ps.length = 1 ∨ ∃ p ∈ ps, decL p = none) → Q FAIL)
  (hgo : ∀ p q n, ps = p :: q → decL p = some n → q ≠ [] → (∀ x ∈ q, 47 ∉ x) → (gluB 47 q).length ≤ 4000000000 → T (K (mkS p, mkS (gluB 47 q), true, ()) (n, true, ())) Q) :
  T ((mCut (mkS (gluB 47 ps)) (bs [47])).bind fun y => (m46 y.1).bind fun z => cond (cond (not z.2.1) true (not (bEq y.2.2.1 true))) (some FAIL) (K y z)) Q := by
 match ps, h0 with
 | p :: q, _ =>
  have hp := glu_tail 47 p q
  refine T.callE (cut_glu 47 p q hf hs) ?_
  refine T.callE (dec_m (mkS p) (by rw [mk_size]; omega)) ?_
  dsimp only
  rw [LB_mk]
  cases hd : decL p with
  | none =>
   rw [decR_none hd]
   exact T.ct rfl (T.ret (hfail (.inr ⟨p, by simp, hd⟩)))
  | some n =>
   rw [decR_some hd]
   cases q with
   | nil => exact T.ct rfl (T.ret (hfail (.inl rfl)))
   | cons x q => exact T.cf rfl (hgo p (x :: q) n rfl hd (by simp) (fun y hy => hf y (List.mem_cons_of_mem _ hy)) (by omega))
def lossR (s : List UInt8) : DS0 × Bool × Unit := match lossP s with
 | some x => (x, true, ())
 | none => ((0, 0, 0, 0, 0, 0, 0, 0, 0, 0, ()), false, ())
def lossL (ps : List (List UInt8)) : DS0 × Bool × Unit := match (if ps.length = 10 then (numP ps).map mkLo else none) with
 | some x => (x, true, ())
 | none => ((0, 0, 0, 0, 0, 0, 0, 0, 0, 0, ()), false, ())
theorem loss_g (ps : List (List UInt8)) (hne : ps ≠ []) (hfr : ∀ x ∈ ps, 47 ∉ x) (hz : (gluB 47 ps).length ≤ 4000000000) : m68 (mkS (gluB 47 ps)) = some (lossL ps) := by
 refine T.eq ?_
 unfold m68
 refine T.callE (v := (0, 0, 0, 0, 0, 0, 0, 0, 0, 0, ())) rfl ?_
 have fail : (ps.length ≠ 10 ∨ ∃ p ∈ ps, decL p = none) → ((0, 0, 0, 0, 0, 0, 0, 0, 0, 0, ()), false, ()) = lossL ps := by
  intro h
  unfold lossL
  have : (if ps.length = 10 then (numP ps).map mkLo else none) = none := by
   split
   ·rename_i h1
    rcases h with h | ⟨p, h2, h3⟩
    ·exact absurd h1 h
    ·rw [numP_none h2 h3]; rfl
   ·rfl
  rw [this]
 refine loss_step ps hne hfr hz (fun h => (fail ?_)) (fun p0 q0 n0 e0 d0 hne0 hfr0 hz0 => ?_)
 ·rcases h with h | h
  ·left; omega
  ·exact .inr h
 subst e0
 refine loss_step q0 hne0 hfr0 hz0 (fun h => (fail ?_)) (fun p1 q1 n1 e1 d1 hne1 hfr1 hz1 => ?_)
 ·rcases h with h | ⟨x, h1, h2⟩
  ·left; simp only [List.length_cons]; omega
  ·exact .inr ⟨x, by simp [h1], h2⟩
 subst e1
 refine loss_step q1 hne1 hfr1 hz1 (fun h => (fail ?_)) (fun p2 q2 n2 e2 d2 hne2 hfr2 hz2 => ?_)
 ·rcases h with h | ⟨x, h1, h2⟩
  ·left; simp only [List.length_cons]; omega
  ·exact .inr ⟨x, by simp [h1], h2⟩
 subst e2
 refine loss_step q2 hne2 hfr2 hz2 (fun h => (fail ?_)) (fun p3 q3 n3 e3 d3 hne3 hfr3 hz3 => ?_)
 ·rcases h with h | ⟨x, h1, h2⟩
  ·left; simp only [List.length_cons]; omega
  ·exact .inr ⟨x, by simp [h1], h2⟩
 subst e3
 refine loss_step q3 hne3 hfr3 hz3 (fun h => (fail ?_)) (fun p4 q4 n4 e4 d4 hne4 hfr4 hz4 => ?_)
 ·rcases h with h | ⟨x, h1, h2⟩
  ·left; simp only [List.length_cons]; omega
  ·exact .inr ⟨x, by simp [h1], h2⟩
 subst e4
 refine loss_step q4 hne4 hfr4 hz4 (fun h => (fail ?_)) (fun p5 q5 n5 e5 d5 hne5 hfr5 hz5 => ?_)
 ·rcases h with h | ⟨x, h1, h2⟩
  ·left; simp only [List.length_cons]; omega
  ·exact .inr ⟨x, by simp [h1], h2⟩
 subst e5
 refine loss_step q5 hne5 hfr5 hz5 (fun h => (fail ?_)) (fun p6 q6 n6 e6 d6 hne6 hfr6 hz6 => ?_)
 ·rcases h with h | ⟨x, h1, h2⟩
  ·left; simp only [List.length_cons]; omega
  ·exact .inr ⟨x, by simp [h1], h2⟩
 subst e6
 refine loss_step q6 hne6 hfr6 hz6 (fun h => (fail ?_)) (fun p7 q7 n7 e7 d7 hne7 hfr7 hz7 => ?_)
 ·rcases h with h | ⟨x, h1, h2⟩
  ·left; simp only [List.length_cons]; omega
  ·exact .inr ⟨x, by simp [h1], h2⟩
 subst e7
 refine loss_step q7 hne7 hfr7 hz7 (fun h => (fail ?_)) (fun p8 q8 n8 e8 d8 hne8 hfr8 hz8 => ?_)
 ·rcases h with h | ⟨x, h1, h2⟩
  ·left; simp only [List.length_cons]; omega
  ·exact .inr ⟨x, by simp [h1], h2⟩
 subst e8
 match q8, hne8, hfr8, hz8 with
 | p9 :: q9, _, hfr, hz =>
  have hp := glu_tail 47 p9 q9
  refine T.callE (cut_glu 47 p9 q9 hfr hz) ?_
  refine T.callE (dec_m (mkS p9) (by rw [mk_size]; omega)) ?_
  dsimp only
  rw [LB_mk]
  cases hd : decL p9 with
  | none =>
   rw [decR_none hd]
   exact T.ct rfl (T.ret (fail (.inr ⟨p9, by simp, hd⟩)))
  | some n9 =>
   rw [decR_some hd]
   cases q9 with
   | nil =>
    refine T.cf rfl (T.ret ?_)
    unfold lossL
    simp only [numP, d0, d1, d2, d3, d4, d5, d6, d7, d8, hd, Option.bind_some, Option.map_some]
    rfl
   | cons x q =>
    refine T.ct rfl (T.ret (fail (.inl ?_)))
    simp only [List.length_cons]; omega
theorem loss_m (s : ByteArray) (hs : s.size ≤ 4000000000) : m68 s = some (lossR (LB s)) := by
 have hg := glu_split 47 (LB s)
 have hz : (LB s).length ≤ 4000000000 := hs
 have := loss_g (splitB 47 (LB s)) (split_ne 47 _) (split_free 47 _) (by rw [hg]; exact hz)
 rw [hg, mk_LB] at this
 exact this
set_option maxRecDepth 4000
theorem losP_cons (p : List UInt8) (r : List (List UInt8)) : losP (p :: r) = (lossP p).bind fun n => (losP r).map fun l => n :: l := rfl
theorem drop_glu (c : UInt8) (ps : List (List UInt8)) (i : Nat) (h : i < ps.length) : (gluB c (ps.drop (i + 1))).length ≤ (gluB c (ps.drop i)).length := by
 rw [List.drop_eq_getElem_cons h]; exact (glu_tail c _ _).1
def repP (ps : List (List UInt8)) : List DS0 × Int × Unit := if 64 < ps.length then ([], 4, ()) else match losP ps with
 | none => ([], 5, ())
 | some L => (L, 0, ())
theorem report_m (ps : List (List UInt8)) (hf : ∀ p ∈ ps, 32 ∉ p) (hs : (gluB 32 ps).length ≤ 4000000000) : m45 (mkS (gluB 32 ps)) (ps.length : Int) = some (repP ps) := by
 refine T.eq ?_
 unfold m45 repP
 refine T.cnd (fun h => T.ret ?_) (fun h => ?_) <;> simp only [iLt_T, iLt_F] at h
 ·rw [if_pos (by omega)]
 rw [if_neg (by omega)]
 refine T.loop (fun q => ∃ (i : Nat) (acc : List DS0), i ≤ ps.length ∧ acc.length = i ∧ (gluB 32 (ps.drop i)).length ≤ 4000000000 ∧ ((losP (ps.drop i)).map fun l => acc ++ l) = losP ps ∧ q = (mkS (gluB 32 (ps.drop i)), (ps.length : Int), (i : Int), acc, ())) (fun q => ps.length - q.2.2.1.toNat) ⟨0, [], by omega, rfl, hs, by simp, rfl⟩ ?_
 rintro _ ⟨i, acc, hi, hal, hg, he, rfl⟩
 dsimp only
 refine T.cnd (fun hc => ?_) (fun hc => ?_) <;> simp only [iLt_T, iLt_F] at hc
 ·have hlt : i < ps.length := by omega
  have hdl := drop_glu 32 ps i hlt
  have hfd : ∀ p ∈ ps.drop i, 32 ∉ p := fun p hp => hf p (List.mem_of_mem_drop hp)
  rw [List.drop_eq_getElem_cons hlt] at hg he hdl hfd ⊢
  generalize ps[i] = p at he hg hdl hfd
  have hp := (glu_tail 32 p (ps.drop (i + 1))).2
  refine T.callE (cut_glu 32 p (ps.drop (i + 1)) hfd hg) ?_
  refine T.callE (loss_m (mkS p) (by rw [mk_size]; omega)) ?_
  dsimp only
  rw [LB_mk]
  rw [losP_cons] at he
  unfold lossR
  cases hl : lossP p with
  | none =>
   rw [hl] at he
   refine T.ct rfl (T.out ?_)
   rw [← he]; rfl
  | some x =>
   rw [hl] at he
   refine T.cf rfl (T.grd ?_ (T.go ⟨i + 1, acc ++ [x], by omega, by rw [List.length_append, List.length_singleton, hal], by omega, ?_, by rw [iAdd64 (by omega) (by omega)]; rfl⟩ ?_))
   ·rw [fits_T]; simp only [List.length_cons, List.length_nil]; omega
   ·rw [← he, Option.bind_some, Option.map_map]
    congr 1
    funext l
    simp
   ·dsimp only; rw [iAdd64 (by omega) (by omega)]; omega
 ·obtain rfl : i = ps.length := by omega
  rw [List.drop_length] at he
  have he : some (acc ++ []) = losP ps := he
  rw [List.append_nil] at he
  exact T.out (by rw [← he])
def fillA : List Int → List Int → DS2 → DS2
 | [], _, b => b
 | c :: cs, [], b => fillA cs [] (putA c 0 b)
 | c :: cs, v :: vs, b => fillA cs vs (putA c v b)
def baseA (f : DS4) (L : List DS0) : DS2 := (f.2.1, 0, 0, (f.2.2.1, L, 0, 0, 0, 0, ()), ())
def formA (f : DS4) (ps : List (List UInt8)) : DS2 × Int × Unit :=
 if f.2.2.1 = 1 then (if (repP ps).2.1 ≠ 0 then (zA, (repP ps).2.1, ()) else (baseA f (repP ps).1, 0, ()))
 else if (ps.length : Int) ≠ f.2.2.2.1 then (zA, 5, ()) else match numP ps with
  | none => (zA, 5, ())
  | some vs => (fillA (codesF f) vs (baseA f []), 0, ())
def readP (l : List UInt8) : DS2 × Int × Unit := if fullB 32 l = true then (match splitB 32 l with
 | [] => (zA, 5, ())
 | w :: ps => match findW (mkS w) with
  | none => (zA, 5, ())
  | some f => formA f ps) else (zA, 5, ())
theorem readP_no {l : List UInt8} (h : ¬ fullB 32 l = true) : readP l = (zA, 5, ()) := by unfold readP; rw [if_neg h]
theorem numP_cons (p : List UInt8) (r : List (List UInt8)) : numP (p :: r) = (decL p).bind fun n => (numP r).map fun l => n :: l := rfl
theorem read_m (s : ByteArray) (hs : s.size ≤ 4000000000) : m21 s = some (readP (LB s)) := by
 refine T.eq ?_
 unfold m21
 have hl : sLen s = ((LB s).length : Int) := rfl
 have hz : (LB s).length ≤ 4000000000 := hs
 have e0 : sEq s (bs []) = decide (LB s = []) := sEq_LB s (bs [])
 rw [e0]
 by_cases hn : LB s = []
 ·rw [decide_eq_true hn]
  refine T.grd (by rw [or_T]; right; rfl) (T.grd (by rw [or_T]; right; rfl) (T.ct rfl (T.ret ?_)))
  rw [readP_no]; · rfl
  rw [hn]; decide
 rw [decide_eq_false hn]
 have hp : 0 < (LB s).length := List.length_pos_iff.2 hn
 have a0 : sAt s 0 = (((LB s).getD 0 0).toNat : Int) := sAt_LB s 0
 have i1 : iSub .i64 (sLen s) 1 = (((LB s).length - 1 : Nat) : Int) := by rw [hl, iSub64 (by omega) (by omega)]; omega
 have a1 : sAt s (((LB s).length - 1 : Nat) : Int) = (((LB s).getD ((LB s).length - 1) 0).toNat : Int) := sAt_LB s _
 have hh := head_get hp
 have hla : (LB s).getLast? = some ((LB s).getD ((LB s).length - 1) 0) := by
  rw [List.getLast?_eq_getElem?, List.getD_eq_getElem?_getD, List.getElem?_eq_getElem (by omega)]; rfl
 refine T.grd (by rw [or_T, bnd_T]; left; omega) (T.grd (by rw [or_T, i1, bnd_T]; left; omega) ?_)
 rw [i1, a0, a1]
 have u32 : ∀ c : UInt8, (c.toNat : Int) = 32 ↔ c = 32 := by
  intro c
  constructor
  ·intro h; exact u8_inj h
  ·rintro rfl; rfl
 refine T.cnd (fun h => T.ret ?_) (fun h => ?_)
 ·rw [readP_no]; · rfl
  rw [full_iff, hh, hla]
  rintro ⟨-, h1, h2, -⟩
  have h : (((LB s).getD 0 0).toNat : Int) = 32 ∨ (((LB s).getD ((LB s).length - 1) 0).toNat : Int) = 32 := by
   rw [corT_T] at h
   rcases h with h | h
   ·left; exact iEq_T.mp h
   ·right; exact iEq_T.mp h
  rw [u32, u32] at h
  rcases h with h | h
  ·exact h1 (by rw [h])
  ·exact h2 (by rw [h])
 rw [corT_F] at h
 have g1 : ¬ (((LB s).getD 0 0).toNat : Int) = 32 := iEq_F.mp h.1
 have g2 := iEq_F.mp h.2
 rw [u32] at g1 g2
 refine T.callE (has_m s 32 hs) ?_
 dsimp only
 refine T.cnd (fun h => T.ret ?_) (fun hd => ?_)
 ·rw [readP_no]; · rfl
  rw [full_iff]
  rintro ⟨-, -, -, h2⟩
  exact h2 (by rwa [hasD_T] at h)
 have hfull : fullB 32 (LB s) = true := by
  rw [full_iff, hh, hla]
  refine ⟨hn, fun k => g1 (Option.some.inj k), fun k => g2 (Option.some.inj k), fun k => ?_⟩
  rw [← hasD_T] at k
  rw [k] at hd; cases hd
 refine T.callE (mCut_eq s 32 hs) ?_
 unfold readP
 rw [if_pos hfull]
 have hg := glu_split 32 (LB s)
 have hfr := split_free 32 (LB s)
 match hsp : splitB 32 (LB s), split_ne 32 (LB s) with
 | w :: ps, _ =>
  rw [hsp] at hg hfr
  rw [← hg] at hz
  have hz2 := (glu_tail 32 w ps).1
  have ecut : cutP 32 (LB s) = (w, gluB 32 ps, !ps.isEmpty) := by rw [← hg]; exact cutP_glu 32 w ps hfr
  rw [ecut]
  dsimp only
  refine T.callE (word_m (mkS w)) ?_
  cases hfw : findW (mkS w) with
  | none => exact T.ct rfl (T.ret rfl)
  | some f =>
   refine T.cf rfl ?_
   dsimp only [frmR]
   obtain ⟨hF, hW⟩ := findW_mem hfw
   obtain ⟨c0, c3, hcs⟩ := FL_ok f hF
   have hfp : ∀ p ∈ ps, 32 ∉ p := fun p hp => hfr p (List.mem_cons_of_mem _ hp)
   have hpl : ps.length ≤ 4000000001 := by
    have := count_eq 32 (gluB 32 ps)
    have h2 := List.count_le_length (a := (32 : UInt8)) (l := gluB 32 ps)
    by_cases hps : ps = []
    ·rw [hps]; simp
    ·rw [split_glu 32 ps hps hfp] at this; omega
   refine T.join (fun q => q = (mkS (gluB 32 ps), (ps.length : Int), 0, 0, 0, 0, 0, 0, 0, 0, f.1, f.2.1, f.2.2.1, f.2.2.2.1, f.2.2.2.2.1.1, f.2.2.2.2.1.2.1, f.2.2.2.2.1.2.2.1, ())) ?_ ?_
   ·cases hps : ps with
    | nil => exact T.cf rfl (T.jgo rfl)
    | cons p qs =>
     refine T.ct rfl (T.callE (mCount_eq (mkS (gluB 32 (p :: qs))) 32) (T.jgo ?_))
     rw [LB_mk, split_glu 32 (p :: qs) (by simp) (by rw [← hps]; exact hfp)]
     dsimp only
     rw [iAdd64 (by rw [hps] at hpl; omega) (by rw [hps] at hpl; omega)]
     congr 2
     omega
   rintro _ rfl
   dsimp only
   unfold formA
   refine T.cnd (fun h1 => ?_) (fun h1 => ?_) <;> simp only [iEq_T, iEq_F] at h1
   ·rw [if_pos h1]
    refine T.callE (report_m ps hfp (by omega)) ?_
    refine T.cnd (fun h2 => T.ret ?_) (fun h2 => T.ret ?_) <;> simp only [iNe_T, iNe_F] at h2
    ·rw [if_pos h2]; rfl
    ·rw [if_neg (by simpa using h2)]; rfl
   rw [if_neg h1]
   refine T.cnd (fun h2 => T.ret ?_) (fun h2 => ?_) <;> simp only [iNe_T, iNe_F] at h2
   ·rw [if_pos h2]; rfl
   rw [if_neg (by simpa using h2)]
   refine T.grd (by rw [cutOk_T]; omega) ?_
   have ecs : cutL 0 f.2.2.2.1 ([f.2.2.2.2.1.1, f.2.2.2.2.1.2.1, f.2.2.2.2.1.2.2.1] : List Int) = codesF f := rfl
   rw [ecs]
   have hcl : (codesF f).length = ps.length := by
    rw [← ecs]
    unfold cutL
    rw [List.length_drop, List.length_take]
    simp
    omega
   have hcl3 : (codesF f).length ≤ 3 := codes_len f hF
   generalize codesF f = cs at hcs hcl hcl3
   have hL := lenI_eq cs
   have hb0 : (baseA f []).2.2.2.1.2.1 = [] := rfl
   have eb : baseA f [] = (f.2.1, 0, 0, (f.2.2.1, [], 0, 0, 0, 0, ()), ()) := rfl
   refine T.loop (fun q => ∃ (i : Nat) (b : DS2), i ≤ cs.length ∧ b.2.2.2.1.2.1 = [] ∧ (gluB 32 (ps.drop i)).length ≤ 4000000000 ∧ ((numP (ps.drop i)).map fun vs => fillA (cs.drop i) vs b) = ((numP ps).map fun vs => fillA cs vs (baseA f [])) ∧ q = (mkS (gluB 32 (ps.drop i)), cs, lenI cs, (i : Int), 0, 0, 0, 0, 0, 0, 0, 0, b.1, b.2.1, b.2.2.1, b.2.2.2.1.1, b.2.2.2.1.2.2.1, b.2.2.2.1.2.2.2.1, b.2.2.2.1.2.2.2.2.1, b.2.2.2.1.2.2.2.2.2.1, ())) (fun q => cs.length - q.2.2.2.1.toNat) ⟨0, baseA f [], by omega, rfl, by rw [List.drop_zero]; omega, rfl, rfl⟩ ?_
   rintro _ ⟨i, b, hi, hbl, hgl, he, rfl⟩
   dsimp only
   refine T.cnd (fun hc => ?_) (fun hc => ?_) <;> simp only [iLt_T, iLt_F] at hc
   ·have hlt : i < cs.length := by omega
    refine T.grd (by rw [bnd_T]; omega) ?_
    have ec : atI cs (i : Int) 0 = cs[i] := atI_get 0 hlt
    have hdl := drop_glu 32 ps i (by omega)
    have hfd : ∀ p ∈ ps.drop i, 32 ∉ p := fun p hp => hfp p (List.mem_of_mem_drop hp)
    rw [List.drop_eq_getElem_cons (show i < ps.length by omega)] at hgl he hdl hfd ⊢
    rw [List.drop_eq_getElem_cons hlt] at he
    have hci := hcs cs[i] (List.getElem_mem _)
    rw [ec]
    generalize cs[i] = c at he hci
    generalize ps[i] = p at he hgl hdl hfd
    have hp := (glu_tail 32 p (ps.drop (i + 1))).2
    refine T.callE (cut_glu 32 p (ps.drop (i + 1)) hfd hgl) ?_
    refine T.callE (dec_m (mkS p) (by rw [mk_size]; omega)) ?_
    dsimp only
    rw [LB_mk]
    rw [numP_cons] at he
    cases hd : decL p with
    | none =>
     rw [hd] at he
     have hnone : numP ps = none := by
      cases hq : numP ps with
      | none => rfl
      | some v => rw [hq] at he; exact absurd he (by simp)
     rw [decR_none hd, hnone]
     refine T.cnd (fun _ => T.ct rfl (T.out rfl)) fun _ => ?_
     refine T.cnd (fun _ => T.ct rfl (T.out rfl)) fun _ => ?_
     refine T.cnd (fun _ => T.ct rfl (T.out rfl)) fun _ => ?_
     refine T.cnd (fun _ => T.ct rfl (T.out rfl)) fun _ => ?_
     refine T.cnd (fun _ => T.ct rfl (T.out rfl)) fun _ => ?_
     refine T.cnd (fun _ => T.ct rfl (T.out rfl)) fun h6 => ?_
     simp only [iEq_F] at *
     exact absurd (show c = 6 by omega) h6
    | some v =>
     rw [hd] at he
     rw [decR_some hd]
     have he : ((numP (ps.drop (i + 1))).map fun vs => fillA (cs.drop (i + 1)) vs (putA c v b)) = ((numP ps).map fun vs => fillA cs vs (baseA f [])) := by
      rw [← he, Option.bind_some, Option.map_map]; rfl
     have go : ∀ (b' : DS2), b' = putA c v b → T (some (Sum.inl (β := DS2 × Int × Unit) (mkS (gluB 32 (ps.drop (i + 1))), cs, lenI cs, iAdd .i64 (i : Int) 1, (0 : Int), (0 : Int), (0 : Int), (0 : Int), (0 : Int), (0 : Int), (0 : Int), (0 : Int), b'.1, b'.2.1, b'.2.2.1, b'.2.2.2.1.1, b'.2.2.2.1.2.2.1, b'.2.2.2.1.2.2.2.1, b'.2.2.2.1.2.2.2.2.1, b'.2.2.2.1.2.2.2.2.2.1, ()))) (LQ (fun q => ∃ (i : Nat) (b : DS2), i ≤ cs.length ∧ b.2.2.2.1.2.1 = [] ∧ (gluB 32 (ps.drop i)).length ≤ 4000000000 ∧ ((numP (ps.drop i)).map fun vs => fillA (cs.drop i) vs b) = ((numP ps).map fun vs => fillA cs vs (baseA f [])) ∧ q = (mkS (gluB 32 (ps.drop i)), cs, lenI cs, (i : Int), 0, 0, 0, 0, 0, 0, 0, 0, b.1, b.2.1, b.2.2.1, b.2.2.2.1.1, b.2.2.2.1.2.2.1, b.2.2.2.1.2.2.2.1, b.2.2.2.1.2.2.2.2.1, b.2.2.2.1.2.2.2.2.2.1, ())) (fun q => cs.length - q.2.2.2.1.toNat) (cs.length - ((i : Int)).toNat) (fun x => x = match numP ps with | none => (zA, 5, ()) | some vs => (fillA cs vs (baseA f []), 0, ()))) := by
      rintro b' rfl
      refine T.go ⟨i + 1, putA c v b, by omega, hbl, by omega, he, by rw [iAdd64 (by omega) (by omega)]; rfl⟩ ?_
      dsimp only; rw [iAdd64 (by omega) (by omega)]; omega
     refine T.cnd (fun h1 => ?_) (fun h1 => ?_) <;> simp only [iEq_T, iEq_F] at h1
     ·subst h1
      exact T.cf rfl (T.callE rfl (go (putA 1 v b) rfl))
     refine T.cnd (fun h2 => ?_) (fun h2 => ?_) <;> simp only [iEq_T, iEq_F] at h2
     ·subst h2
      exact T.cf rfl (T.callE rfl (go (putA 2 v b) rfl))
     refine T.cnd (fun h3 => ?_) (fun h3 => ?_) <;> simp only [iEq_T, iEq_F] at h3
     ·subst h3
      exact T.cf rfl (T.callE rfl (go (putA 3 v b) rfl))
     refine T.cnd (fun h4 => ?_) (fun h4 => ?_) <;> simp only [iEq_T, iEq_F] at h4
     ·subst h4
      exact T.cf rfl (T.callE rfl (go (putA 4 v b) rfl))
     refine T.cnd (fun h5 => ?_) (fun h5 => ?_) <;> simp only [iEq_T, iEq_F] at h5
     ·subst h5
      exact T.cf rfl (T.callE rfl (go (putA 5 v b) rfl))
     refine T.ct (by rw [iEq_T]; omega) ?_
     obtain rfl : c = 6 := by omega
     exact T.cf rfl (T.callE rfl (go (putA 6 v b) rfl))
   ·obtain rfl : i = cs.length := by omega
    rw [List.drop_length, hcl, List.drop_length] at he
    have he : some b = (numP ps).map fun vs => fillA cs vs (baseA f []) := he
    refine T.out ?_
    cases hq : numP ps with
    | none => rw [hq] at he; exact absurd he (by simp)
    | some vs =>
     rw [hq] at he
     have he := Option.some.inj he
     have he : b = fillA cs vs (baseA f []) := he
     have e2 : b = (b.1, b.2.1, b.2.2.1, (b.2.2.2.1.1, [], b.2.2.2.1.2.2.1, b.2.2.2.1.2.2.2.1, b.2.2.2.1.2.2.2.2.1, b.2.2.2.1.2.2.2.2.2.1, ()), ()) := by
      obtain ⟨k, t, n, ⟨c, L, f1, f2, f3, f4, u⟩, u2⟩ := b
      have hbl : L = [] := hbl
      subst hbl; rfl
     dsimp only
     rw [← he, ← e2]
def parP : Int → List (List UInt8) → List DS2 × Int × Int × Unit
 | n, [] => ([], 0, 0, ())
 | n, p :: r => if r = [] then (if p = [] then ([], 0, 0, ()) else ([], n, 5, ()))
  else if (readP p).2.1 ≠ 0 then ([], n, (readP p).2.1, ()) else if (parP (n + 1) r).2.2.1 ≠ 0 then ([], (parP (n + 1) r).2.1, (parP (n + 1) r).2.2.1, ()) else ((readP p).1 :: (parP (n + 1) r).1, 0, 0, ())
def preA (acc : List DS2) (r : List DS2 × Int × Int × Unit) : List DS2 × Int × Int × Unit := if r.2.2.1 ≠ 0 then ([], r.2.1, r.2.2.1, ()) else (acc ++ r.1, 0, 0, ())
theorem parP_ok : ∀ (ps : List (List UInt8)) (n : Int), ((parP n ps).2.2.1 ≠ 0 → (parP n ps).1 = []) ∧ ((parP n ps).2.2.1 = 0 → (parP n ps).2.1 = 0)
 | [], n => ⟨fun _ => rfl, fun _ => rfl⟩
 | p :: r, n => by
  unfold parP
  by_cases h1 : r = []
  ·rw [if_pos h1]
   by_cases h2 : p = [] <;> simp [h2]
  ·rw [if_neg h1]
   by_cases h2 : (readP p).2.1 = 0
   ·by_cases h3 : (parP (n + 1) r).2.2.1 = 0 <;> simp [h2, h3]
   ·simp [h2]
theorem preA_nil (ps : List (List UInt8)) (n : Int) : preA [] (parP n ps) = parP n ps := by
 have h := parP_ok ps n
 unfold preA
 generalize parP n ps = r at h
 obtain ⟨a, b, c, u⟩ := r
 dsimp only at h ⊢
 by_cases hc : c = 0
 ·rw [if_neg (by simpa using hc), h.2 hc, hc]; rfl
 ·rw [if_pos hc, h.1 hc]
theorem parP_one (n : Int) (p : List UInt8) : parP n [p] = if p = [] then ([], 0, 0, ()) else ([], n, 5, ()) := by unfold parP; rw [if_pos rfl]
theorem parP_err {n : Int} {p : List UInt8} {r : List (List UInt8)} (hr : r ≠ []) (h : (readP p).2.1 ≠ 0) : parP n (p :: r) = ([], n, (readP p).2.1, ()) := by
 conv => lhs; unfold parP
 rw [if_neg hr, if_pos h]
theorem parP_go {n : Int} {p : List UInt8} {r : List (List UInt8)} (acc : List DS2) (hr : r ≠ []) (h : (readP p).2.1 = 0) : preA acc (parP n (p :: r)) = preA (acc ++ [(readP p).1]) (parP (n + 1) r) := by
 conv => lhs; unfold parP
 rw [if_neg hr, if_neg (by simpa using h)]
 unfold preA
 by_cases h3 : (parP (n + 1) r).2.2.1 = 0 <;> simp [h3]
theorem preA_err (acc : List DS2) {n e : Int} (h : e ≠ 0) : preA acc ([], n, e, ()) = ([], n, e, ()) := by unfold preA; rw [if_pos h]
theorem glu_nil (c : UInt8) (ps : List (List UInt8)) (h : gluB c ps = []) : ps = [] ∨ ps = [[]] := by
 match ps with
 | [] => exact .inl rfl
 | [p] => right; have h : p = [] := h; rw [h]
 | p :: q :: r => rw [gluB_cons c p (by simp)] at h; simp at h
theorem parse_m (s : ByteArray) (hs : s.size ≤ 4000000000) : m11 s = some (parP 1 (splitB 10 (LB s))) := by
 refine T.eq ?_
 unfold m11
 have hz : (LB s).length ≤ 4000000000 := hs
 have hg := glu_split 10 (LB s)
 have hne := split_ne 10 (LB s)
 have hfr := split_free 10 (LB s)
 have es : s = mkS (gluB 10 (splitB 10 (LB s))) := by rw [hg, mk_LB]
 have hcount := count_eq 10 (LB s)
 have hcl := List.count_le_length (a := (10 : UInt8)) (l := LB s)
 have hpl : (splitB 10 (LB s)).length ≤ 4000000001 := by omega
 rw [← hg] at hz
 generalize splitB 10 (LB s) = ps at *
 refine T.loop (fun q => ∃ (i : Nat) (acc : List DS2), i < ps.length ∧ acc.length = i ∧ (gluB 10 (ps.drop i)).length ≤ 4000000000 ∧ preA acc (parP ((i : Int) + 1) (ps.drop i)) = parP 1 ps ∧ q = (mkS (gluB 10 (ps.drop i)), (i : Int) + 1, acc, ())) (fun q => ps.length - q.2.1.toNat) ⟨0, [], List.length_pos_iff.2 hne, rfl, hz, preA_nil ps 1, by rw [es]; rfl⟩ ?_
 rintro _ ⟨i, acc, hi, hal, hgl, he, rfl⟩
 dsimp only
 have hdl := drop_glu 10 ps i hi
 have hfd : ∀ p ∈ ps.drop i, 10 ∉ p := fun p hp => hfr p (List.mem_of_mem_drop hp)
 have hlen : (ps.drop (i + 1)).length = ps.length - (i + 1) := List.length_drop
 rw [List.drop_eq_getElem_cons hi] at hgl he hdl hfd ⊢
 generalize ps[i] = p at he hgl hdl hfd
 have hp := (glu_tail 10 p (ps.drop (i + 1))).2
 have e0 : sEq (mkS (gluB 10 (p :: ps.drop (i + 1)))) (bs []) = decide (gluB 10 (p :: ps.drop (i + 1)) = []) := by rw [sEq_LB, LB_mk]; rfl
 rw [e0]
 refine T.cnd (fun hc => ?_) (fun hc => ?_)
 ·rw [not_T] at hc
  have hc : ¬ gluB 10 (p :: ps.drop (i + 1)) = [] := by simpa using hc
  refine T.callE (cut_glu 10 p (ps.drop (i + 1)) hfd hgl) ?_
  dsimp only
  cases hr : ps.drop (i + 1) with
  | nil =>
   rw [hr] at he hc
   refine T.ct rfl (T.out ?_)
   rw [parP_one, if_neg (by exact hc), preA_err _ (by decide)] at he
   exact he
  | cons x r =>
   rw [← hr]
   have hrn : ps.drop (i + 1) ≠ [] := by rw [hr]; simp
   have hi2 : i + 1 < ps.length := by
    have := List.length_pos_iff.2 hrn
    omega
   refine T.cf (by rw [hr]; rfl) (T.callE (read_m (mkS p) (by rw [mk_size]; omega)) ?_)
   rw [LB_mk]
   refine T.cnd (fun h1 => T.out ?_) (fun h1 => ?_) <;> simp only [iNe_T, iNe_F] at h1
   ·rw [parP_err hrn h1, preA_err _ h1] at he
    exact he
   ·rw [parP_go acc hrn h1] at he
    refine T.grd ?_ (T.go ⟨i + 1, acc ++ [(readP p).1], hi2, by rw [List.length_append, List.length_singleton, hal], by omega, by rw [← he]; rfl, by rw [iAdd64 (by omega) (by omega)]; rfl⟩ ?_)
    ·rw [fits_T]; simp only [List.length_cons, List.length_nil]; omega
    ·dsimp only; rw [iAdd64 (by omega) (by omega)]; omega
 ·rw [not_F] at hc
  have hc : gluB 10 (p :: ps.drop (i + 1)) = [] := of_decide_eq_true hc
  rcases glu_nil 10 _ hc with h | h
  ·cases h
  ·injection h with h1 h2
   rw [h1, h2, parP_one, if_pos rfl] at he
   refine T.mapL (T.ret ?_)
   rw [← he]
   show _ = (acc ++ [], 0, 0, ())
   rw [List.append_nil]
set_option maxRecDepth 8000
def ActOk (a : DS2) : Prop := (numsS a).2.2.1 = 0 ∧ (numsS a).2.1.any badN = false
theorem badN_f {n : Int} (h0 : 0 ≤ n) (h1 : n ≤ 17592186044416) : badN n = false := by unfold badN; rw [corT_F, iLt_F, iLt_F]; omega
theorem any0 (l : List Int) (h : ∀ n ∈ l, 0 ≤ n ∧ n ≤ 17592186044416) : l.any badN = false := by
 rw [List.any_eq_false]; intro n hn; rw [badN_f (h n hn).1 (h n hn).2]; simp
theorem act_of {a : DS2} {f : DS4} {ns : List Int} (h : numsS a = (f, ns, 0, ())) (hn : ∀ n ∈ ns, 0 ≤ n ∧ n ≤ 17592186044416) : ActOk a := by
 unfold ActOk; rw [h]; exact ⟨rfl, any0 ns hn⟩
theorem lo_nums {b : Int} {x : DS0} (h : LoB b x) (hb : b ≤ 17592186044416) : ∀ n ∈ colsL x, 0 ≤ n ∧ n ≤ 17592186044416 := by
 obtain ⟨⟨a0, b0⟩, ⟨a1, b1⟩, ⟨a2, b2⟩, ⟨a3, b3⟩, ⟨a4, b4⟩, ⟨a5, b5⟩, ⟨a6, b6⟩, ⟨a7, b7⟩, ⟨a8, b8⟩, ⟨a9, b9⟩⟩ := h
 intro n hn
 simp only [colsL, List.mem_cons, List.not_mem_nil, or_false] at hn
 rcases hn with rfl | rfl | rfl | rfl | rfl | rfl | rfl | rfl | rfl | rfl <;> omega
theorem act_cmd {B k t o p a : Int} {ls : List DS0} (h : CmdOk B k ls t o p a) (hB : B ≤ 100000000000) : ActOk (1, 0, 0, (k, ls, t, o, p, a, ()), ()) := by
 obtain ⟨h1, h2, ⟨t0, t1⟩, ⟨o0, o1⟩, ⟨p0, p1⟩, ⟨a0, a1⟩, h3⟩ := h
 rcases h3 with ⟨rfl, rfl, rfl, rfl, rfl⟩ | ⟨rfl, rfl, rfl, rfl, rfl, rfl⟩ | ⟨rfl, rfl, rfl, rfl⟩ | ⟨rfl, rfl, rfl⟩ | ⟨rfl, rfl, rfl, rfl⟩
 ·have e : numsS (1, 0, 0, (1, ls, 0, 0, 0, 0, ()), ()) = (TBL.1, [] ++ ls.flatMap colsL, 0, ()) := by
   show (if 64 < ls.length then _ else _) = _
   rw [if_neg (by omega)]; rfl
  refine act_of e fun n hn => ?_
  rw [List.nil_append] at hn
  obtain ⟨x, hx, hn⟩ := List.mem_flatMap.1 hn
  exact lo_nums (h2 x hx) (by omega) n hn
 ·exact act_of (f := TBL.2.1) (ns := []) rfl (by simp)
 ·refine act_of (f := TBL.2.2.1) (ns := [t, p]) rfl (fun n hn => ?_)
  simp only [List.mem_cons, List.not_mem_nil, or_false] at hn
  rcases hn with rfl | rfl <;> omega
 ·refine act_of (f := TBL.2.2.2.1) (ns := [t, p, a]) rfl (fun n hn => ?_)
  simp only [List.mem_cons, List.not_mem_nil, or_false] at hn
  rcases hn with rfl | rfl | rfl <;> omega
 ·refine act_of (f := TBL.2.2.2.2.1) (ns := [t, o]) rfl (fun n hn => ?_)
  simp only [List.mem_cons, List.not_mem_nil, or_false] at hn
  rcases hn with rfl | rfl <;> omega
theorem act_345 {k n : Int} (hk : k = 3 ∨ k = 4 ∨ k = 5) (h0 : 0 ≤ n) (h1 : n ≤ 1000) : ActOk (k, 0, n, (0, [], 0, 0, 0, 0, ()), ()) := by
 have : ∀ m ∈ [n], 0 ≤ m ∧ m ≤ 17592186044416 := fun m hm => by rw [List.mem_singleton.1 hm]; omega
 rcases hk with rfl | rfl | rfl
 ·exact act_of (f := TBL.2.2.2.2.2.2.1) (ns := [n]) rfl this
 ·exact act_of (f := TBL.2.2.2.2.2.2.2.1) (ns := [n]) rfl this
 ·exact act_of (f := TBL.2.2.2.2.2.2.2.2.1) (ns := [n]) rfl this
theorem act_27 {k t : Int} (hk : k = 2 ∨ k = 7) (h0 : 0 ≤ t) (h1 : t ≤ 1000) : ActOk (k, t, 0, (0, [], 0, 0, 0, 0, ()), ()) := by
 have : ∀ m ∈ [t], 0 ≤ m ∧ m ≤ 17592186044416 := fun m hm => by rw [List.mem_singleton.1 hm]; omega
 rcases hk with rfl | rfl
 ·exact act_of (f := TBL.2.2.2.2.2.1) (ns := [t]) rfl this
 ·exact act_of (f := TBL.2.2.2.2.2.2.2.2.2.2.1) (ns := [t]) rfl this
theorem act_6 {t n : Int} (h0 : 0 ≤ t) (h1 : t ≤ 1000) (h2 : 0 ≤ n) (h3 : n ≤ 1000) : ActOk (6, t, n, (0, [], 0, 0, 0, 0, ()), ()) := by
 refine act_of (f := TBL.2.2.2.2.2.2.2.2.2.1) (ns := [t, n]) rfl (fun m hn => ?_)
 simp only [List.mem_cons, List.not_mem_nil, or_false] at hn
 rcases hn with rfl | rfl <;> omega
theorem mul_le {a b : Int} (h0 : 0 ≤ a) (h1 : a < 3) (h2 : 0 ≤ b) (h3 : b < 5) : iMul .i64 a b = a * b ∧ 0 ≤ a * b ∧ a * b ≤ 1000 := by
 have h4 := Int.mul_nonneg h0 h2
 have h5 : a * b ≤ 2 * 4 := Int.mul_le_mul (by omega) (by omega) h2 (by omega)
 exact ⟨iMul64 (by omega) (by omega), h4, by omega⟩
set_option maxHeartbeats 2000000 in
theorem actions_T {L : List Int} {a : Int} {p : DS9} (h : DeckOk L a) (hl : List.length (α := DS7) p.2.1 ≤ 10) (hp : ∀ t ∈ p.2.1, TrOk t) : T (m15 p 8 L a) (fun y => 1 ≤ List.length (α := DS2) y.2.2.1 ∧ List.length (α := DS2) y.2.2.1 ≤ 8 ∧ ∀ x ∈ y.2.2.1, ActOk x) := by
 unfold m15
 refine T.call (losses_T h (by omega) (by omega)) (fun v ⟨dv, v0, v1⟩ => ?_)
 refine T.call (next_T dv (by omega) (by omega)) (fun c ⟨dc, c0, c1⟩ => ?_)
 rw [iAdd64 (by omega) (by omega)]
 refine T.loop (fun s => (0 ≤ s.2.1 ∧ s.2.1 + (List.length (α := DS2) s.2.2.2.2.2.2.2.2.1 : Int) ≤ 8 ∧ 1 ≤ s.2.1 + (List.length (α := DS2) s.2.2.2.2.2.2.2.2.1 : Int)) ∧ DeckOk s.2.2.1 s.2.2.2.1 ∧ List.length (α := DS0) s.1 ≤ 12 ∧ (∀ x ∈ s.1, LoB (268435456 + 1073741824 * (8 - s.2.1)) x) ∧ s.2.2.2.2.1 = p.1 ∧ s.2.2.2.2.2.1 = p.2.1 ∧ s.2.2.2.2.2.2.1 = p.2.2.1 ∧ s.2.2.2.2.2.2.2.1 = p.2.2.2.1 ∧ ∀ x ∈ s.2.2.2.2.2.2.2.2.1, ActOk x) (fun s => s.2.1.toNat) ⟨⟨by dsimp only; omega, by dsimp only [List.length_nil]; omega, by dsimp only [List.length_nil]; omega⟩, dc, by dsimp only; omega, fun x hx => (v1 x hx).mono (by dsimp only; omega), rfl, rfl, rfl, rfl, by simp⟩ ?_
 rintro ⟨ls, n, D, d, p1, p2, p3, p4, acts, u⟩ ⟨⟨n0, n1, n2⟩, dk, hls, hlb, e1, e2, e3, e4, ha⟩
 dsimp only at *
 subst e1 e2 e3 e4
 have en : 0 < n → iSub .i64 n 1 = n - 1 := fun _ => iSub64 (by omega) (by omega)
 refine T.cnd (fun hc => ?_) (fun hc => T.out ?_) <;> simp only [iLt_T, iLt_F] at hc
 ·have en := en hc
  rw [en]
  refine T.call (next_T dk (by omega) (by omega)) (fun y ⟨dy, y0, y1⟩ => ?_)
  rw [iAdd64 (a := 1) (by omega) (by omega)]
  have fin : ∀ (x : DS2), ActOk x → ∀ (ls' : List DS0) (D' : List Int) (d' : Int), DeckOk D' d' → List.length (α := DS0) ls' ≤ 12 → (∀ x ∈ ls', LoB (268435456 + 1073741824 * (8 - (n - 1))) x) → T (cond (fits (List.length acts + List.length ([x] : List DS2)) 88) (some (Sum.inl (β := (List Int) × Int × (List DS2) × Unit) (ls', n - 1, D', d', p.1, p.2.1, p.2.2.1, p.2.2.2.1, acts ++ ([x] : List DS2), ()))) none) (LQ (fun s => (0 ≤ s.2.1 ∧ s.2.1 + (List.length (α := DS2) s.2.2.2.2.2.2.2.2.1 : Int) ≤ 8 ∧ 1 ≤ s.2.1 + (List.length (α := DS2) s.2.2.2.2.2.2.2.2.1 : Int)) ∧ DeckOk s.2.2.1 s.2.2.2.1 ∧ List.length (α := DS0) s.1 ≤ 12 ∧ (∀ x ∈ s.1, LoB (268435456 + 1073741824 * (8 - s.2.1)) x) ∧ s.2.2.2.2.1 = p.1 ∧ s.2.2.2.2.2.1 = p.2.1 ∧ s.2.2.2.2.2.2.1 = p.2.2.1 ∧ s.2.2.2.2.2.2.2.1 = p.2.2.2.1 ∧ ∀ x ∈ s.2.2.2.2.2.2.2.2.1, ActOk x) (fun s => s.2.1.toNat) n.toNat (fun y => 1 ≤ List.length (α := DS2) y.2.2.1 ∧ List.length (α := DS2) y.2.2.1 ≤ 8 ∧ ∀ x ∈ y.2.2.1, ActOk x)) := by
   intro x hx ls' D' d' hd' hl' hb'
   have ea : (List.length (acts ++ [x]) : Int) = (List.length (α := DS2) acts : Int) + 1 := by rw [List.length_append, List.length_singleton]; omega
   refine T.grd (by rw [fits_T, List.length_singleton]; omega) (T.go ⟨⟨by dsimp only; omega, by dsimp only; rw [ea]; omega, by dsimp only; rw [ea]; omega⟩, hd', hl', hb', rfl, rfl, rfl, rfl, mem_snoc ha hx⟩ (by dsimp only; omega))
  have hlb' : ∀ x ∈ ls, LoB (268435456 + 1073741824 * (8 - (n - 1))) x := fun x hx => (hlb x hx).mono (by omega)
  refine T.cnd (fun h1 => ?_) (fun h1 => ?_) <;> simp only [iEq_T, iEq_F] at h1
  ·refine T.call (command_T (B := 268435456 + 1073741824 * (8 - n)) (by omega) (by omega) dy hl hp hls hlb) (fun z ⟨dz, hz⟩ => ?_)
   have hA := act_cmd hz (by omega)
   rw [h1]
   refine T.cnd (fun h2 => ?_) (fun h2 => ?_)
   ·exact fin _ hA _ _ _ dz hz.1 (fun x hx => (hz.2.1 x hx).mono (by omega))
   ·exact fin _ hA _ _ _ dz hls hlb'
  ·refine T.join (fun s => s = (ls, n, (cond (iEq (1 + y.1) 3) true (cond (iEq (1 + y.1) 4) true (iEq (1 + y.1) 5))), y.2.1, y.2.2.1, p.1, p.2.1, p.2.2.1, p.2.2.2.1, acts, 1 + y.1, 0, 0, 0, 0, 0, 0, 0, ())) ?_ ?_
   ·refine T.cnd (fun h2 => T.jgo (by rw [h2]; rfl)) (fun h2 => ?_)
    refine T.cnd (fun h3 => T.jgo (by rw [h2, h3]; rfl)) (fun h3 => T.jgo (by rw [h2, h3]; rfl))
   rintro _ rfl
   dsimp only
   rw [en]
   refine T.cnd (fun h2 => ?_) (fun h2 => ?_)
   ·rw [corT_T, corT_T, iEq_T, iEq_T, iEq_T] at h2
    refine T.call (next_T dy (by omega) (by omega)) (fun z ⟨dz, z0, z1⟩ => ?_)
    exact fin _ (act_345 (by omega) z0 (by omega)) _ _ _ dz hls hlb'
   ·rw [corT_F, corT_F, iEq_F, iEq_F, iEq_F] at h2
    refine T.call (next_T dy (by omega) (by omega)) (fun z ⟨dz, z0, z1⟩ => ?_)
    refine T.call (next_T dz (by omega) (by omega)) (fun w ⟨dw, w0, w1⟩ => ?_)
    obtain ⟨em, m0, m1⟩ := mul_le z0 z1 w0 w1
    rw [em]
    refine T.cnd (fun h3 => ?_) (fun h3 => ?_) <;> simp only [iEq_T, iEq_F] at h3
    ·refine T.call (next_T dw (by omega) (by omega)) (fun q ⟨dq, q0, q1⟩ => ?_)
     rw [h3]
     exact fin _ (act_6 m0 m1 q0 (by omega)) _ _ _ dq hls hlb'
    ·exact fin _ (act_27 (by omega) m0 m1) _ _ _ dw hls hlb'
 ·exact ⟨by dsimp only; omega, by dsimp only; omega, ha⟩
theorem acts_T {L : List Int} (h : DeckOk L 0) : T (m8 L) (fun y => 1 ≤ List.length (α := DS2) y.1 ∧ List.length (α := DS2) y.1 ≤ 8 ∧ ∀ x ∈ y.1, ActOk x) := by
 unfold m8
 refine T.callE (v := (L, 0, ())) rfl ?_
 refine T.call (treaties_T h) (fun y ⟨d, y0, y1⟩ => ?_)
 refine T.call (actions_T d y0 y1) (fun z hz => T.ret hz)
theorem line_ok {a : DS2} (h : ActOk a) : (lineP a).2 = 0 := by
 unfold lineP; rw [if_neg (by rw [h.1]; simp), if_neg (by rw [h.2]; simp)]
theorem form_ok : ∀ (xs : List DS2), (∀ x ∈ xs, ActOk x) → (formP xs).2 = 0
 | [], _ => rfl
 | a :: r, h => by
  unfold formP
  rw [if_neg (by rw [line_ok (h a (by simp))]; simp), if_neg (by rw [form_ok r fun x hx => h x (by simp [hx])]; simp)]
theorem sameL_r (l : List DS0) (hl : l.length ≤ 1000000) : m50 l l = some (true, ()) := by
 refine T.eq ?_
 unfold m50
 have hz := lenI_eq l
 refine T.cf (by rw [iNe_F]) ?_
 refine T.loop (fun s => ∃ k : Nat, k ≤ l.length ∧ s = (l, l, lenI l, (k : Int), ())) (fun s => l.length - s.2.2.2.1.toNat) ⟨0, by omega, rfl⟩ ?_
 rintro _ ⟨k, hk, rfl⟩
 dsimp only
 have eqr : ∀ x : Int, iEq x x = true := fun x => by rw [iEq_T]
 refine T.cnd (fun hc => ?_) (fun hc => T.out rfl)
 rw [iLt_T] at hc
 refine T.grd (by rw [bnd_T]; omega) (T.grd (by rw [bnd_T]; omega) ?_)
 simp only [eqr, Bool.and_self, Bool.not_true, cond_false]
 refine T.go ⟨k + 1, by omega, by rw [iAdd64 (by omega) (by omega)]; rfl⟩ ?_
 dsimp only; rw [iAdd64 (by omega) (by omega)]; omega
theorem sameC_r (c : DS1) (hl : List.length (α := DS0) c.2.1 ≤ 1000000) : m24 c c = some (true, ()) := by
 refine T.eq ?_
 unfold m24
 have eqr : ∀ x : Int, iEq x x = true := fun x => by rw [iEq_T]
 refine T.ct (eqr _) (T.callE (sameL_r _ hl) (T.ret ?_))
 simp only [eqr, cond_true]
theorem sameA_r (xs : List DS2) (hl : xs.length ≤ 1000000000000) (hx : ∀ x ∈ xs, List.length (α := DS0) x.2.2.2.1.2.1 ≤ 1000000) : m13 xs xs = some (true, ()) := by
 refine T.eq ?_
 unfold m13
 have hz := lenI_eq xs
 refine T.cf (by rw [iNe_F]) ?_
 refine T.loop (fun s => ∃ k : Nat, k ≤ xs.length ∧ s = (xs, xs, lenI xs, (k : Int), ())) (fun s => xs.length - s.2.2.2.1.toNat) ⟨0, by omega, rfl⟩ ?_
 rintro _ ⟨k, hk, rfl⟩
 dsimp only
 have ner : ∀ x : Int, iNe x x = false := fun x => by rw [iNe_F]
 refine T.cnd (fun hc => ?_) (fun hc => T.out rfl)
 rw [iLt_T] at hc
 have hb : bnd (k : Int) (lenI xs) = true := by rw [bnd_T]; omega
 have hlt : k < xs.length := by omega
 have ec : atI xs (k : Int) (0, 0, 0, (0, [], 0, 0, 0, 0, ()), ()) = xs[k] := atI_get _ hlt
 simp only [hb, ec, ner, Bool.true_or, cond_true, cond_false]
 refine T.callE (sameC_r _ (hx _ (List.getElem_mem _))) ?_
 refine T.cf rfl (T.go ⟨k + 1, by omega, by rw [iAdd64 (by omega) (by omega)]; rfl⟩ ?_)
 dsimp only; rw [iAdd64 (by omega) (by omega)]; omega
set_option maxRecDepth 8000
def txt1 : List UInt8 := [99, 111, 109, 109, 117, 116, 101, 32, 53, 32, 50, 32, 49, 56, 10, 99, 114, 97, 115, 104, 32, 48, 32, 55, 10]
def txt2 : List UInt8 := [99, 108, 111, 115, 101, 10, 116, 105, 99, 107, 32, 48, 49, 10]
def act1 : DS2 := (1, 0, 0, (4, [], 5, 0, 2, 18, ()), ())
def act2 : DS2 := (6, 0, 7, (0, [], 0, 0, 0, 0, ()), ())
theorem par1 : parP 1 (splitB 10 txt1) = ([act1, act2], 0, 0, ()) := by rfl
theorem par2 : parP 1 (splitB 10 txt2) = ([], 2, 5, ()) := by rfl
theorem dd0 : Lib.decDigits 0 = [48] := Lib.decDigits_one (by omega)
theorem dd2 : Lib.decDigits 2 = [50] := Lib.decDigits_one (by omega)
theorem dd5 : Lib.decDigits 5 = [53] := Lib.decDigits_one (by omega)
theorem dd7 : Lib.decDigits 7 = [55] := Lib.decDigits_one (by omega)
theorem dd18 : Lib.decDigits 18 = [49, 56] := by
 rw [Lib.decDigits, dif_neg (by omega), Lib.decDigits_one (show 18 / 10 < 10 by omega)]; rfl
theorem lin1 : lineP act1 = ([99, 111, 109, 109, 117, 116, 101, 32, 53, 32, 50, 32, 49, 56, 10], 0) := by
 have e : numsS act1 = (TBL.2.2.2.1, [5, 2, 18], 0, ()) := rfl
 rw [lineP_r e rfl]
 have : numsT (iEq TBL.2.2.2.1.2.2.1 1) 0 [5, 2, 18] = 32 :: (Lib.decDigits 5 ++ 32 :: (Lib.decDigits 2 ++ 32 :: (Lib.decDigits 18 ++ []))) := rfl
 rw [this, dd5, dd2, dd18]; rfl
theorem lin2 : lineP act2 = ([99, 114, 97, 115, 104, 32, 48, 32, 55, 10], 0) := by
 have e : numsS act2 = (TBL.2.2.2.2.2.2.2.2.2.1, [0, 7], 0, ()) := rfl
 rw [lineP_r e rfl]
 have : numsT (iEq TBL.2.2.2.2.2.2.2.2.2.1.2.2.1 1) 0 [0, 7] = 32 :: (Lib.decDigits 0 ++ 32 :: (Lib.decDigits 7 ++ [])) := rfl
 rw [this, dd0, dd7]; rfl
theorem form1 : formP [act1, act2] = (txt1, 0) := by
 unfold formP formP formP
 rw [lin1, lin2]; rfl
theorem awake_m : m7 = some (true, ()) := by
 refine T.eq ?_
 unfold m7
 refine T.callE ((parse_m (bs txt1) (show txt1.length ≤ _ by decide)).trans (by rw [LB_bs, par1])) ?_
 refine T.callE ((parse_m (bs txt2) (show txt2.length ≤ _ by decide)).trans (by rw [LB_bs, par2])) ?_
 refine T.callE ((format_m [act1, act2] (by decide)).trans (by rw [form1])) ?_
 dsimp only
 have e : sEq (mkS txt1) (bs txt1) = true := by rw [sEq_T]; rfl
 have e2 : sEq (mkS txt1) (bs [99, 111, 109, 109, 117, 116, 101, 32, 53, 32, 50, 32, 49, 56, 10, 99, 114, 97, 115, 104, 32, 48, 32, 55, 10]) = true := e
 refine T.ct (by rw [e2]; rfl) ?_
 refine T.callE (sameA_r [act1, act2] (by decide) (by decide)) (T.ret rfl)
theorem awake_T {Q : Bool × Unit → Prop} (h : Q (true, ())) : T ((m7).bind fun y => some (y.1, ())) Q := T.callE awake_m (T.ret h)
theorem ofInt_nat (w n : Nat) : (BitVec.ofInt w (n : Int)).toNat = n % 2 ^ w := by
 rw [BitVec.toNat_ofInt]; exact_mod_cast rfl
theorem and_i64 (a : Int) (b : Nat) (hb : b < 9223372036854775808) : ∃ n : Nat, n ≤ b ∧ iAnd .i64 a (b : Int) = (n : Int) := by
 refine ⟨(BitVec.ofInt 64 a &&& BitVec.ofInt 64 (b : Int)).toNat, ?_, ?_⟩
 ·rw [BitVec.toNat_and, ofInt_nat, Nat.mod_eq_of_lt (show b < 2 ^ 64 by omega)]; exact Nat.and_le_right
 ·have : (BitVec.ofInt 64 a &&& BitVec.ofInt 64 (b : Int)).toNat ≤ b := by
   rw [BitVec.toNat_and, ofInt_nat, Nat.mod_eq_of_lt (show b < 2 ^ 64 by omega)]; exact Nat.and_le_right
  show IntKind.wrap .i64 (((BitVec.ofInt 64 a &&& BitVec.ofInt 64 (b : Int)).toNat : Nat) : Int) = _
  exact wrap64 (by omega) (by omega)
structure Form where
 s : List UInt8
 a : Int
 b : Int
 c : Int
 d : Int
 e : Int
 f : Int
def Form.dat (x : Form) : DataW Unit := .agg [.lit (.string x.s), .lit (.int .i64 x.a), .lit (.int .i64 x.b), .lit (.int .i64 x.c), .agg [.lit (.int .i64 x.d), .lit (.int .i64 x.e), .lit (.int .i64 x.f)]]
def Form.cells (x : Form) : List Value := [.string ⟨x.s.toArray⟩, .int .i64 x.a, .int .i64 x.b, .int .i64 x.c, .int .i64 x.d, .int .i64 x.e, .int .i64 x.f]
def forms : List Form := [⟨[114, 101, 112, 111, 114, 116], 1, 1, 0, 0, 0, 0⟩, ⟨[99, 108, 111, 115, 101], 1, 2, 0, 0, 0, 0⟩, ⟨[115, 101, 116, 116, 108, 101], 1, 3, 2, 3, 5, 0⟩, ⟨[99, 111, 109, 109, 117, 116, 101], 1, 4, 3, 3, 5, 6⟩, ⟨[116, 114, 97, 110, 115, 102, 101, 114], 1, 5, 2, 3, 4, 0⟩, ⟨[116, 105, 99, 107], 2, 0, 1, 1, 0, 0⟩, ⟨[100, 101, 108, 105, 118, 101, 114], 3, 0, 1, 2, 0, 0⟩, ⟨[108, 111, 115, 101], 4, 0, 1, 2, 0, 0⟩, ⟨[114, 101, 112, 101, 97, 116], 5, 0, 1, 2, 0, 0⟩, ⟨[99, 114, 97, 115, 104], 6, 0, 2, 1, 2, 0⟩, ⟨[114, 101, 115, 116, 97, 114, 116], 7, 0, 1, 1, 0, 0⟩]
theorem gForms : Tryd.prog.globalNamed "treaty/script.forms" = some 0 := by kernel_rfl
theorem gFormsT : (Tryd.prog.globals[0]?).map (·.type) = some 129 := by kernel_rfl
theorem c81 : Tryd.prog.cellsOf 81 = 3 := by kernel_rfl
theorem c83 : Tryd.prog.cellsOf 83 = 7 := by kernel_rfl
theorem c129 : Tryd.prog.cellsOf 129 = 77 := by kernel_rfl
theorem c9 : Tryd.prog.cellsOf 9 = 1 := by kernel_rfl
theorem c3 : Tryd.prog.cellsOf 3 = 1 := by kernel_rfl
theorem form_cells {W : World} {base : Nat} {sp : Nat → Bool} {held : Bool} {enc : TypeId × Value → Unit} {fuel : Nat} {cs : List Value} {y : DataW Unit × List MemPlace} {x : Form} (h : DataW.trod enc Tryd.prog W base sp held fuel 83 cs = some y) (hx : y.1 = x.dat) : cs = x.cells := by
 cases fuel with
 | zero => simp [DataW.trod] at h
 | succ fuel =>
  simp only [DataW.trod, Tryd.underlying83, c83] at h
  split at h
  ·rename_i hl
   obtain ⟨xs, hm, hy⟩ := Option.map_eq_some_iff.1 h
   have hd : xs.map (·.1) = [.lit (.string x.s), .lit (.int .i64 x.a), .lit (.int .i64 x.b), .lit (.int .i64 x.c), .agg [.lit (.int .i64 x.d), .lit (.int .i64 x.e), .lit (.int .i64 x.f)]] := by
    rw [← hy] at hx
    injection hx
   obtain ⟨b0, g0, t0⟩ := Lib.mapM_at hm 0 _ rfl
   obtain ⟨b1, g1, t1⟩ := Lib.mapM_at hm 1 _ rfl
   obtain ⟨b2, g2, t2⟩ := Lib.mapM_at hm 2 _ rfl
   obtain ⟨b3, g3, t3⟩ := Lib.mapM_at hm 3 _ rfl
   obtain ⟨b4, g4, t4⟩ := Lib.mapM_at hm 4 _ rfl
   have d0 := congrArg (·[0]?) hd
   have d1 := congrArg (·[1]?) hd
   have d2 := congrArg (·[2]?) hd
   have d3 := congrArg (·[3]?) hd
   have d4 := congrArg (·[4]?) hd
   simp only [List.getElem?_map, g0, g1, g2, g3, g4, Option.map_some, List.getElem?_cons_zero, List.getElem?_cons_succ, Option.some.injEq] at d0 d1 d2 d3 d4
   dsimp only at t0 t1 t2 t3 t4
   rw [c9] at t0
   rw [c3] at t1 t2 t3
   rw [c81] at t4
   obtain ⟨s, e0, q0, _⟩ := DataW.trod_string Tryd.underlying9 t0
   obtain ⟨n1, e1, q1, _⟩ := DataW.trod_int Tryd.underlying3 t1
   obtain ⟨n2, e2, q2, _⟩ := DataW.trod_int Tryd.underlying3 t2
   obtain ⟨n3, e3, q3, _⟩ := DataW.trod_int Tryd.underlying3 t3
   obtain ⟨b4d, b4p⟩ := b4
   have d4 : b4d = _ := d4
   subst d4
   have e4 := Lib.cells_of_tab (zs := [x.d, x.e, x.f]) Tryd.underlying81 Tryd.underlying3 c3 c81 t4
   rw [q0] at d0
   rw [q1] at d1
   rw [q2] at d2
   rw [q3] at d3
   injection d0 with d0; injection d0 with d0
   injection d1 with d1; injection d1 with _ d1
   injection d2 with d2; injection d2 with _ d2
   injection d3 with d3; injection d3 with _ d3
   subst d1 d2 d3
   have es : s = ⟨x.s.toArray⟩ := by rw [← d0]
   subst es
   clear q0 q1 q2 q3 t0 t1 t2 t3 t4 g0 g1 g2 g3 g4 hm hd hx hy h
   match cs, hl with
   | [c0, c1, c2, c3, c4, c5, c6], _ =>
    simp only [List.drop_zero, List.take_succ_cons, List.take_zero, List.drop_succ_cons, List.map_cons, List.map_nil, List.cons.injEq, and_true] at e0 e1 e2 e3 e4
    obtain ⟨e4, e5, e6⟩ := e4
    rw [e0, e1, e2, e3, e4, e5, e6]
    rfl
  ·cases h
theorem chunks : ∀ (fd : List Form) (cs : List Value), cs.length = 7 * fd.length → (∀ (i : Nat) (x : Form), fd[i]? = some x → (cs.drop (i * 7)).take 7 = x.cells) → cs = fd.flatMap Form.cells
 | [], cs, hl, _ => by
  have : cs.length = 0 := by simpa using hl
  rw [List.length_eq_zero_iff.1 this]; rfl
 | x :: r, cs, hl, h => by
  have h0 := h 0 x rfl
  rw [List.length_cons] at hl
  have ih := chunks r (cs.drop 7) (by rw [List.length_drop]; omega) (fun i y hy => by
   have := h (i + 1) y hy
   rw [List.drop_drop, show 7 + i * 7 = (i + 1) * 7 by omega]; exact this)
  rw [List.flatMap_cons, ← ih, ← h0]
  simp
theorem forms_cells {W : World} {base : Nat} {sp : Nat → Bool} {held : Bool} {enc : TypeId × Value → Unit} {fuel : Nat} {cs : List Value} {p : List MemPlace} {fd : List Form} (hf : fd.length = 11) (h : DataW.trod enc Tryd.prog W base sp held fuel 129 cs = some (.agg (fd.map Form.dat), p)) : cs = fd.flatMap Form.cells := by
 cases fuel with
 | zero => simp [DataW.trod] at h
 | succ fuel =>
  simp only [DataW.trod, Tryd.underlying129, c129, c83] at h
  split at h
  ·rename_i hl
   obtain ⟨xs, hm, hy⟩ := Option.map_eq_some_iff.1 h
   have hd : xs.map (·.1) = fd.map Form.dat := by
    have := congrArg Prod.fst hy
    injection this
   refine chunks fd cs (by omega) (fun i x hx => ?_)
   have hi : i < 11 := by
    rcases Nat.lt_or_ge i 11 with q | q
    ·exact q
    ·rw [List.getElem?_eq_none (by omega)] at hx; cases hx
   obtain ⟨b, hb, ht⟩ := Lib.mapM_at hm i i (by simp [hi])
   refine form_cells ht ?_
   have := congrArg (·[i]?) hd
   simp only [List.getElem?_map, hb, hx, Option.map_some, Option.some.injEq] at this
   exact this
  ·cases h
theorem lptr_vals {F : Addr → Option Value} {g : Nat} {vs : List Value} (h : ∀ i v, vs[i]? = some v → F ⟨g, i, none⟩ = some v) (h1 : ∀ v ∈ vs, v.oneCell' = true) : RP F (.pointer (some ⟨g, 0, none⟩)) (.lptr (vs.map fun v => .v v)) := by
 refine RP.lptr _ _ (fun j => vs.getD j .nilIface) (fun j a hj => ?_) (fun j a hj => ?_)
 ·rw [List.getElem?_map] at hj
  rcases q : vs[j]? with _ | z
  ·rw [q] at hj; cases hj
  ·have e : vs.getD j .nilIface = z := by rw [List.getD_eq_getElem?_getD, q]; rfl
   have : (Addr.add ⟨g, 0, none⟩ j : Addr) = ⟨g, j, none⟩ := by simp [Addr.add]; intro h; exact h.symm
   rw [this, e]
   exact ⟨h j z q, h1 z (List.mem_of_getElem? q)⟩
 ·rw [List.getElem?_map] at hj
  rcases q : vs[j]? with _ | z
  ·rw [q] at hj; cases hj
  ·rw [q] at hj
   simp only [Option.map_some, Option.some.injEq] at hj
   subst hj
   have e : vs.getD j .nilIface = z := by rw [List.getD_eq_getElem?_getD, q]; rfl
   rw [e]; exact .v _
theorem forms_gx {G : GP} : gx (gtab G) 0 = some ((forms.flatMap Form.cells).map fun v => .v v) := by rfl
set_option maxRecDepth 8000
theorem cut_r (s : ByteArray) (c : UInt8) (hs : s.size ≤ 4000000000) : m22 s (c.toNat : Int) = some ((splitB c (LB s)).map mkS, ()) := by
 refine T.eq ?_
 unfold m22
 have hl : sLen s = ((LB s).length : Int) := rfl
 have hz : (LB s).length ≤ 4000000000 := hs
 have hsz : s.size = (LB s).length := rfl
 have hcount := count_eq c (LB s)
 have hcl := List.count_le_length (a := c) (l := LB s)
 refine T.loop (fun q => ∃ (i j : Nat) (acc : List (List UInt8)), j ≤ (LB s).length + 1 ∧ i ≤ j ∧ acc.length ≤ i ∧ (j ≤ (LB s).length → c ∉ ((LB s).drop i).take (j - i) ∧ acc ++ splitB c ((LB s).drop i) = splitB c (LB s)) ∧ (j = (LB s).length + 1 → acc = splitB c (LB s)) ∧ q = (s, (c.toNat : Int), (i : Int), (j : Int), acc.map mkS, ())) (fun q => (LB s).length + 1 - q.2.2.2.1.toNat) ⟨0, 0, [], by omega, by omega, by simp, fun _ => ⟨by simp, rfl⟩, fun h => by omega, rfl⟩ ?_
 rintro _ ⟨i, j, acc, hj, hij, hal, h1, h2, rfl⟩
 dsimp only
 refine T.cnd (fun hc => ?_) (fun hc => ?_) <;> simp only [iLe_T, iLe_F] at hc
 ·have hj2 : j ≤ (LB s).length := by omega
  obtain ⟨f1, f2⟩ := h1 hj2
  have step : T (cond (cutOk (i : Int) (j : Int) s.size) (cond (fits (List.length (acc.map mkS) + List.length ([cutS (i : Int) (j : Int) s] : List ByteArray)) 16) (some (Sum.inl (β := (List ByteArray) × Unit) (s, (c.toNat : Int), iAdd .i64 (j : Int) 1, iAdd .i64 (j : Int) 1, acc.map mkS ++ ([cutS (i : Int) (j : Int) s] : List ByteArray), ()))) none) none) (LQ (fun q => ∃ (i j : Nat) (acc : List (List UInt8)), j ≤ (LB s).length + 1 ∧ i ≤ j ∧ acc.length ≤ i ∧ (j ≤ (LB s).length → c ∉ ((LB s).drop i).take (j - i) ∧ acc ++ splitB c ((LB s).drop i) = splitB c (LB s)) ∧ (j = (LB s).length + 1 → acc = splitB c (LB s)) ∧ q = (s, (c.toNat : Int), (i : Int), (j : Int), acc.map mkS, ())) (fun q => (LB s).length + 1 - q.2.2.2.1.toNat) ((LB s).length + 1 - ((j : Int)).toNat) (fun x => x = ((splitB c (LB s)).map mkS, ()))) ∨ ¬ (j = (LB s).length ∨ (LB s).getD j 0 = c) := by
   by_cases hq : j = (LB s).length ∨ (LB s).getD j 0 = c
   ·left
    have ep : cutS (i : Int) (j : Int) s = mkS (((LB s).drop i).take (j - i)) := by
     apply LB_inj
     rw [cutS_LB, LB_mk, List.drop_take]
    rw [ep]
    refine T.grd (by rw [cutOk_T]; omega) (T.grd (by rw [fits_T, List.length_map, List.length_singleton]; omega) ?_)
    refine T.go ⟨j + 1, j + 1, acc ++ [((LB s).drop i).take (j - i)], by omega, by omega, by rw [List.length_append, List.length_singleton]; omega, fun hjl => ⟨by simp, ?_⟩, fun hjl => ?_, ?_⟩ ?_
    ·have hjj : j < (LB s).length := by omega
     have hcj : (LB s).getD j 0 = c := by rcases hq with q | q; omega; exact q
     rw [← f2, List.append_assoc]
     congr 1
     have e : (LB s).drop i = ((LB s).drop i).take (j - i) ++ c :: (LB s).drop (j + 1) := by
      conv => lhs; rw [← List.take_append_drop (j - i) ((LB s).drop i)]
      rw [List.drop_drop, show i + (j - i) = j by omega, drop_get hjj, hcj]
     conv => rhs; rw [e]
     rw [split_app c _ _ f1]; rfl
    ·have hjj : j = (LB s).length := by omega
     rw [← f2]
     congr 1
     have e : ((LB s).drop i).take (j - i) = (LB s).drop i := List.take_of_length_le (by rw [List.length_drop]; omega)
     rw [e] at f1 ⊢
     rw [split_one c _ f1]
    ·rw [iAdd64 (by omega) (by omega), List.map_append]; rfl
    ·dsimp only; rw [iAdd64 (by omega) (by omega)]; omega
   ·exact .inr hq
  refine T.grd ?_ ?_
  ·rw [or_T, bnd_T]
   by_cases hje : j = (LB s).length
   ·right; rw [iEq_T.mpr (by omega)]; rfl
   ·left; omega
  have ejl : iEq (j : Int) (sLen s) = decide (j = (LB s).length) := by
   by_cases hje : j = (LB s).length
   ·rw [decide_eq_true hje, iEq_T]; omega
   ·rw [decide_eq_false hje, iEq_F]; omega
  have ejc : iEq (sAt s (j : Int)) (c.toNat : Int) = decide ((LB s).getD j 0 = c) := by
   rw [sAt_LB]
   by_cases hje : (LB s).getD j 0 = c
   ·rw [decide_eq_true hje, iEq_T, hje]
   ·rw [decide_eq_false hje, iEq_F]; exact fun k => hje (u8_inj k)
  rw [ejl, ejc]
  refine T.cnd (fun hq => ?_) (fun hq => ?_)
  ·rw [corT_T] at hq
   rcases step with st | st
   ·exact st
   ·exact absurd (hq.imp of_decide_eq_true of_decide_eq_true) st
  ·rw [corT_F] at hq
   have q1 := of_decide_eq_false hq.1
   have q2 := of_decide_eq_false hq.2
   have hjj : j < (LB s).length := by omega
   refine T.go ⟨i, j + 1, acc, by omega, by omega, hal, fun _ => ⟨?_, f2⟩, fun hjl => by omega, by rw [iAdd64 (by omega) (by omega)]; rfl⟩ ?_
   ·have e : ((LB s).drop i).take (j + 1 - i) = ((LB s).drop i).take (j - i) ++ [(LB s).getD j 0] := by
     rw [show j + 1 - i = j - i + 1 by omega, List.take_add_one, List.getElem?_drop, show i + (j - i) = j by omega, List.getElem?_eq_getElem hjj, List.getD_eq_getElem?_getD, List.getElem?_eq_getElem hjj]; rfl
    rw [e, List.mem_append, List.mem_singleton]
    rintro (k | k)
    ·exact f1 k
    ·exact q2 k.symm
   ·dsimp only; rw [iAdd64 (by omega) (by omega)]; omega
 ·exact T.out (by rw [h2 (by omega)])
def wds : List (List ByteArray) := [[(bs [99, 108, 111, 115, 101])], [(bs [116, 105, 99, 107]), (bs [100, 101, 108, 105, 118, 101, 114]), (bs [108, 111, 115, 101]), (bs [114, 101, 112, 101, 97, 116]), (bs [114, 101, 115, 116, 97, 114, 116])], [(bs [115, 101, 116, 116, 108, 101]), (bs [116, 114, 97, 110, 115, 102, 101, 114]), (bs [99, 114, 97, 115, 104])], [(bs [99, 111, 109, 109, 117, 116, 101])]]
def arity (w : ByteArray) : Int := match findW w with
 | some f => if f.2.2.1 = 1 then -1 else f.2.2.2.1
 | none => -1
theorem arity_m (w : ByteArray) : m48 w = some (arity w, ()) := by
 refine T.eq ?_
 unfold m48
 have hw4 : lenI wds = 4 := rfl
 have table : ∀ (k : Nat) (x : ByteArray), k < 4 → x ∈ wds.getD k [] → arity x = (k : Int) := by
  intro k x hk hx
  match k, hk with
  | 0, _ =>
   simp only [wds, List.getD_cons_zero, List.mem_cons, List.not_mem_nil, or_false] at hx
   subst hx; rfl
  | 1, _ =>
   simp only [wds, List.getD_cons_zero, List.getD_cons_succ, List.mem_cons, List.not_mem_nil, or_false] at hx
   rcases hx with rfl | rfl | rfl | rfl | rfl <;> rfl
  | 2, _ =>
   simp only [wds, List.getD_cons_zero, List.getD_cons_succ, List.mem_cons, List.not_mem_nil, or_false] at hx
   rcases hx with rfl | rfl | rfl <;> rfl
  | 3, _ =>
   simp only [wds, List.getD_cons_zero, List.getD_cons_succ, List.mem_cons, List.not_mem_nil, or_false] at hx
   subst hx; rfl
 have other : (∀ k, k < 4 → w ∉ wds.getD k []) → arity w = -1 := by
  intro h
  unfold arity
  cases hf : findW w with
  | none => rfl
  | some f =>
   obtain ⟨hF, hW⟩ := findW_mem hf
   dsimp only
   rw [if_pos]
   have h0 := h 0 (by omega)
   have h1 := h 1 (by omega)
   have h2 := h 2 (by omega)
   have h3 := h 3 (by omega)
   simp only [wds, List.getD_cons_zero, List.getD_cons_succ, List.mem_cons, List.not_mem_nil, or_false, not_or] at h0 h1 h2 h3
   simp only [FL, List.mem_cons, List.not_mem_nil, or_false] at hF
   obtain ⟨a1, a2, a3, a4, a5⟩ := h1
   obtain ⟨b1, b2, b3⟩ := h2
   rcases hF with rfl | rfl | rfl | rfl | rfl | rfl | rfl | rfl | rfl | rfl | rfl
   ·rfl
   ·exact absurd hW.symm h0
   ·exact absurd hW.symm b1
   ·exact absurd hW.symm h3
   ·exact absurd hW.symm b2
   ·exact absurd hW.symm a1
   ·exact absurd hW.symm a2
   ·exact absurd hW.symm a3
   ·exact absurd hW.symm a4
   ·exact absurd hW.symm b3
   ·exact absurd hW.symm a5
 refine T.loop (fun q => ∃ i : Nat, i ≤ 4 ∧ (∀ k, k < i → w ∉ wds.getD k []) ∧ q = (w, (i : Int), ())) (fun q => 4 - q.2.1.toNat) ⟨0, by omega, fun k h => by omega, rfl⟩ ?_
 rintro _ ⟨i, hi, hn, rfl⟩
 dsimp only
 refine T.cnd (fun hc => ?_) (fun hc => T.out ?_) <;> simp only [iLe_T, iLe_F] at hc
 ·have ew : ([([(bs [99, 108, 111, 115, 101])] : List ByteArray), ([(bs [116, 105, 99, 107]), (bs [100, 101, 108, 105, 118, 101, 114]), (bs [108, 111, 115, 101]), (bs [114, 101, 112, 101, 97, 116]), (bs [114, 101, 115, 116, 97, 114, 116])] : List ByteArray), ([(bs [115, 101, 116, 116, 108, 101]), (bs [116, 114, 97, 110, 115, 102, 101, 114]), (bs [99, 114, 97, 115, 104])] : List ByteArray), ([(bs [99, 111, 109, 109, 117, 116, 101])] : List ByteArray)] : List (List ByteArray)) = wds := rfl
  rw [ew, Int.toNat_natCast]
  refine T.grd (by rw [bnd_T]; omega) (T.grd (by rw [inB_T]; show i < 4; omega) ?_)
  have tab := table i
  have hi4 : i < 4 := by omega
  generalize hws : wds.getD i [] = ws at tab
  have hz := lenI_eq ws
  have hwl : ws.length ≤ 5 := by
   rw [← hws]
   match i, hi4 with
   | 0, _ => decide
   | 1, _ => decide
   | 2, _ => decide
   | 3, _ => decide
  refine T.loop (fun q => ∃ j : Nat, j ≤ ws.length ∧ (∀ k (hk : k < ws.length), k < j → ws[k] ≠ w) ∧ q = (w, (i : Int), ws, lenI ws, (j : Int), ())) (fun q => ws.length - q.2.2.2.2.1.toNat) ⟨0, by omega, fun k _ h => by omega, rfl⟩ ?_
  rintro _ ⟨j, hj, hnj, rfl⟩
  dsimp only
  refine T.cnd (fun hc2 => ?_) (fun hc2 => ?_) <;> simp only [iLt_T, iLt_F] at hc2
  ·have hlt : j < ws.length := by omega
   refine T.grd (by rw [bnd_T]; omega) ?_
   have ec : atI ws (j : Int) ByteArray.empty = ws[j] := atI_get _ hlt
   rw [ec]
   refine T.cnd (fun he => T.out ?_) (fun he => T.go ⟨j + 1, by omega, fun k hk hkj => ?_, by rw [iAdd64 (by omega) (by omega)]; rfl⟩ ?_)
   ·rw [sEq_T] at he
    have := tab w hi4 (by rw [← he]; exact List.getElem_mem _)
    show ((i : Int), ()) = _
    rw [this]
   ·by_cases hkk : k = j
    ·subst hkk
     rw [sEq_F] at he
     exact he
    ·exact hnj k hk (by omega)
   ·dsimp only; rw [iAdd64 (by omega) (by omega)]; omega
  ·obtain rfl : j = ws.length := by omega
   refine T.out ?_
   refine ⟨⟨i + 1, by omega, fun k hk => ?_, by rw [iAdd64 (by omega) (by omega)]; rfl⟩, ?_⟩
   ·by_cases hki : k = i
    ·subst hki
     rw [hws]
     intro hmem
     obtain ⟨k, hk, ek⟩ := List.getElem_of_mem hmem
     exact hnj k hk hk ek
    ·exact hn k (by omega)
   ·dsimp only; rw [iAdd64 (by omega) (by omega)]; omega
 ·rw [other fun k hk => hn k (by omega)]
set_option maxRecDepth 8000
theorem part_len (c : UInt8) : ∀ (ps : List (List UInt8)) (p : List UInt8), p ∈ ps → p.length ≤ (gluB c ps).length
 | [], p, h => by simp at h
 | q :: r, p, h => by
  have ht := glu_tail c q r
  rcases List.mem_cons.1 h with rfl | h
  ·exact ht.2
  ·have := part_len c r p h; omega
theorem at_map {ps : List (List UInt8)} {i : Nat} (h : i < ps.length) : atI (ps.map mkS) (i : Int) ByteArray.empty = mkS ps[i] := by
 rw [atI_get _ (show i < (ps.map mkS).length by rw [List.length_map]; exact h), List.getElem_map]
theorem tailL {α : Type} (a : α) (l : List α) : cutL 1 ((List.length (a :: l) : Nat) : Int) (a :: l) = l := by
 unfold cutL; rw [Int.toNat_natCast, List.take_length]; rfl
theorem act38 {f : DS4} (hf : f ∈ FL) (h1 : f.2.2.1 ≠ 1) {vs : List Int} (hv : (vs.length : Int) = f.2.2.2.1) : m38 f.1 vs = some (fillA (codesF f) vs (baseA f []), true, ()) := by
 unfold m38
 simp only [sEq_LB]
 simp only [FL, List.mem_cons, List.not_mem_nil, or_false] at hf
 rcases hf with rfl | rfl | rfl | rfl | rfl | rfl | rfl | rfl | rfl | rfl | rfl
 ·exact absurd rfl h1
 all_goals
  dsimp only [TBL] at hv
  match vs, hv with
  | [], hv => first | rfl | (exfalso; simp at hv)
  | [a], hv => first | rfl | (exfalso; simp at hv; done) | (exfalso; simp at hv; omega)
  | [a, b], hv => first | rfl | (exfalso; simp at hv; done) | (exfalso; simp at hv; omega)
  | [a, b, c], hv => first | rfl | (exfalso; simp at hv; done) | (exfalso; simp at hv; omega)
  | a :: b :: c :: d :: r, hv => exfalso; simp only [List.length_cons] at hv; omega
theorem parsed_r (s : ByteArray) (hs : s.size ≤ 4000000000) : m23 s = some (readP (LB s)) := by
 refine T.eq ?_
 unfold m23
 have hz : (LB s).length ≤ 4000000000 := hs
 refine T.callE (cut_r s 32 hs) ?_
 dsimp only
 have hg := glu_split 32 (LB s)
 have hfr := split_free 32 (LB s)
 have hcount := count_eq 32 (LB s)
 have hcl := List.count_le_length (a := (32 : UInt8)) (l := LB s)
 have hpl : (splitB 32 (LB s)).length ≤ 4000000001 := by omega
 rw [← hg] at hz
 unfold readP fullB
 match hsp : splitB 32 (LB s), split_ne 32 (LB s) with
 | w :: ps, _ =>
  rw [hsp] at hg hfr hz hpl
  generalize hall : (w :: ps) = all at hpl hz hfr hg
  have hzl : lenI (all.map mkS) = (all.length : Int) := by rw [lenI_eq, List.length_map]
  refine T.loop (fun q => ∃ i : Nat, i ≤ all.length ∧ ((all.drop i).all fun p => !p.isEmpty) = (all.all fun p => !p.isEmpty) ∧ q = (all.map mkS, all.map mkS, lenI (all.map mkS), (i : Int), 0, 0, 0, 0, 0, 0, 0, 0, ())) (fun q => all.length - q.2.2.2.1.toNat) ⟨0, by omega, rfl, rfl⟩ ?_
  rintro _ ⟨i, hi, he, rfl⟩
  dsimp only
  refine T.cnd (fun hc => ?_) (fun hc => ?_) <;> simp only [iLt_T, iLt_F] at hc
  ·have hlt : i < all.length := by omega
   refine T.grd (by rw [bnd_T]; omega) ?_
   rw [at_map hlt]
   rw [List.drop_eq_getElem_cons hlt, List.all_cons] at he
   have es : sEq (mkS all[i]) (bs []) = decide (all[i] = []) := by rw [sEq_LB, LB_mk]; rfl
   rw [es]
   refine T.cnd (fun h => T.out ?_) (fun h => T.go ⟨i + 1, by omega, ?_, by rw [iAdd64 (by omega) (by omega)]; rfl⟩ ?_)
   ·have h := of_decide_eq_true h
    rw [h] at he
    have he : false = (all.all fun p => !p.isEmpty) := he
    rw [← he, if_neg (by simp)]; rfl
   ·have h := of_decide_eq_false h
    rw [← he]
    have : (!all[i].isEmpty) = true := by
     cases hx : all[i] with
     | nil => exact absurd hx h
     | cons a b => rfl
    rw [this, Bool.true_and]
   ·dsimp only; rw [iAdd64 (by omega) (by omega)]; omega
  obtain rfl : i = all.length := by omega
  rw [List.drop_length] at he
  have he : true = (all.all fun p => !p.isEmpty) := he
  rw [← he, if_pos rfl]
  subst hall
  dsimp only
  have hlen : lenI (List.map mkS (w :: ps)) = (ps.length : Int) + 1 := by rw [hzl, List.length_cons]; omega
  have hpl2 : ps.length ≤ 4000000000 := by rw [List.length_cons] at hpl; omega
  have hz2 := (glu_tail 32 w ps).1
  refine T.mapL (T.grd (by rw [bnd_T]; omega) ?_)
  have e0 : atI (List.map mkS (w :: ps)) 0 ByteArray.empty = mkS w := rfl
  have et : cutL 1 ((List.length (List.map mkS (w :: ps)) : Nat) : Int) (List.map mkS (w :: ps)) = ps.map mkS := tailL _ _
  have em : iSub .i64 (lenI (List.map mkS (w :: ps))) 1 = (ps.length : Int) := by rw [hlen, iSub64 (by omega) (by omega)]; omega
  have eo : cutOk 1 ((List.length (List.map mkS (w :: ps)) : Nat) : Int) (List.length (List.map mkS (w :: ps))) = true := by
   rw [cutOk_T, List.length_map, List.length_cons]; omega
  rw [e0, em, et, eo]
  have hzp : lenI (ps.map mkS) = (ps.length : Int) := by rw [lenI_eq, List.length_map]
  refine T.cnd (fun hr => ?_) (fun hr => ?_)
  ·rw [not_T] at hr
   have hr : sEq (mkS w) REP = false := hr
   refine T.callE (arity_m (mkS w)) ?_
   dsimp only
   unfold arity
   cases hfw : findW (mkS w) with
   | none =>
    dsimp only
    exact T.ct (by rw [iNe_T]; omega) (T.ret rfl)
   | some f =>
    obtain ⟨hF, hW⟩ := findW_mem hfw
    have hc1 : f.2.2.1 ≠ 1 := by
     intro k
     have : f.1 = REP := by
      simp only [FL, List.mem_cons, List.not_mem_nil, or_false] at hF
      rcases hF with rfl | rfl | rfl | rfl | rfl | rfl | rfl | rfl | rfl | rfl | rfl
      ·rfl
      all_goals exact absurd k (by decide)
     rw [← hW, this] at hr
     rw [sEq_F] at hr
     exact hr rfl
    dsimp only
    rw [if_neg hc1]
    unfold formA
    rw [if_neg hc1]
    refine T.cnd (fun h => T.ret ?_) (fun h => ?_) <;> simp only [iNe_T, iNe_F] at h
    ·rw [if_pos (fun k => h k.symm)]; rfl
    rw [if_neg (by simpa using h.symm)]
    refine T.ct rfl ?_
    refine T.loop (fun q => ∃ (i : Nat) (acc : List Int), i ≤ ps.length ∧ acc.length = i ∧ ((numP (ps.drop i)).map fun l => acc ++ l) = numP ps ∧ q = (mkS w, ps.map mkS, lenI (ps.map mkS), (i : Int), 0, 0, 0, 0, 0, 0, 0, 0, acc, ())) (fun q => ps.length - q.2.2.2.1.toNat) ⟨0, [], by omega, rfl, by simp, rfl⟩ ?_
    rintro _ ⟨i, acc, hi, hal, hn, rfl⟩
    dsimp only
    refine T.cnd (fun hc => ?_) (fun hc => ?_) <;> simp only [iLt_T, iLt_F] at hc
    ·have hlt : i < ps.length := by omega
     refine T.grd (by rw [bnd_T]; omega) ?_
     rw [at_map hlt]
     have hpz := part_len 32 ps ps[i] (List.getElem_mem _)
     rw [List.drop_eq_getElem_cons hlt, numP_cons] at hn
     generalize ps[i] = p at hn hpz
     refine T.callE (dec_r (mkS p) (by rw [mk_size]; omega)) ?_
     rw [LB_mk]
     cases hd : decL p with
     | none =>
      rw [hd] at hn
      rw [decR_none hd]
      refine T.ct rfl (T.out ?_)
      rw [← hn]; rfl
     | some v =>
      rw [hd] at hn
      rw [decR_some hd]
      refine T.cf rfl (T.grd ?_ (T.go ⟨i + 1, acc ++ [v], by omega, by rw [List.length_append, List.length_singleton, hal], ?_, by rw [iAdd64 (by omega) (by omega)]; rfl⟩ ?_))
      ·rw [fits_T]; simp only [List.length_cons, List.length_nil]; omega
      ·rw [← hn, Option.bind_some, Option.map_map]
       congr 1
       funext l
       simp
      ·dsimp only; rw [iAdd64 (by omega) (by omega)]; omega
    ·obtain rfl : i = ps.length := by omega
     rw [List.drop_length] at hn
     have hn : some (acc ++ []) = numP ps := hn
     rw [List.append_nil] at hn
     rw [← hn]
     refine T.mapL (T.callE (v := (fillA (codesF f) acc (baseA f []), true, ())) ?_ (T.ret rfl))
     rw [← hW]
     exact act38 hF hc1 (by rw [hal]; omega)
  ·rw [not_F] at hr
   have hr : sEq (mkS w) REP = true := hr
   rw [sEq_T] at hr
   have hfw : findW (mkS w) = some TBL.1 := by rw [hr]; rfl
   rw [hfw]
   dsimp only
   have ef : formA TBL.1 ps = if 64 < ps.length then (zA, (4 : Int), ()) else match losP ps with
     | none => (zA, (5 : Int), ())
     | some L => (baseA TBL.1 L, (0 : Int), ()) := by
    unfold formA repP
    rw [if_pos (show TBL.1.2.2.1 = 1 from rfl)]
    by_cases h64 : 64 < ps.length
    ·rw [if_pos h64, if_pos h64]; rfl
    ·rw [if_neg h64, if_neg h64]
     cases losP ps <;> rfl
   rw [ef]
   refine T.cnd (fun h => T.ret ?_) (fun h => ?_) <;> simp only [iLt_T, iLt_F] at h
   ·rw [if_pos (by omega)]; rfl
   rw [if_neg (by omega)]
   refine T.ct rfl ?_
   refine T.loop (fun q => ∃ (i : Nat) (acc : List DS0), i ≤ ps.length ∧ acc.length = i ∧ ((losP (ps.drop i)).map fun l => acc ++ l) = losP ps ∧ q = (ps.map mkS, lenI (ps.map mkS), (i : Int), 0, 0, 0, 0, 0, 0, 0, 0, 1, 0, 0, 1, 0, 0, 0, 0, acc, ())) (fun q => ps.length - q.2.2.1.toNat) ⟨0, [], by omega, rfl, by simp, rfl⟩ ?_
   rintro _ ⟨i, acc, hi, hal, hn, rfl⟩
   dsimp only
   refine T.cnd (fun hc => ?_) (fun hc => ?_) <;> simp only [iLt_T, iLt_F] at hc
   ·have hlt : i < ps.length := by omega
    refine T.grd (by rw [bnd_T]; omega) ?_
    rw [at_map hlt]
    have hpz := part_len 32 ps ps[i] (List.getElem_mem _)
    rw [List.drop_eq_getElem_cons hlt, losP_cons] at hn
    generalize ps[i] = p at hn hpz
    refine T.callE (cut_r (mkS p) 47 (by rw [mk_size]; omega)) ?_
    rw [LB_mk]
    dsimp only
    have hq47 := split_free 47 p
    have hqg := glu_split 47 p
    have lossE : lossP p = if (splitB 47 p).length = 10 then (numP (splitB 47 p)).map mkLo else none := rfl
    generalize splitB 47 p = qs at hq47 hqg lossE
    have hqz : lenI (qs.map mkS) = (qs.length : Int) := by rw [lenI_eq, List.length_map]
    refine T.cnd (fun h10 => T.out ?_) (fun h10 => ?_) <;> simp only [iNe_T, iNe_F] at h10
    ·rw [if_neg (by omega)] at lossE
     rw [lossE] at hn
     rw [← hn]; rfl
    rw [if_pos (by omega)] at lossE
    refine T.loop (fun q => ∃ (j : Nat) (ns : List Int), j ≤ 10 ∧ ns.length = j ∧ ((numP (qs.drop j)).map fun l => ns ++ l) = numP qs ∧ q = (qs.map mkS, ps.map mkS, lenI (ps.map mkS), (i : Int), lenI (qs.map mkS), (j : Int), 0, 0, 0, 0, 0, 0, 0, 0, 1, 0, 0, 1, 0, 0, 0, 0, ns ++ List.replicate (10 - j) 0, acc, ())) (fun q => 10 - q.2.2.2.2.2.1.toNat) ⟨0, [], by omega, rfl, by simp, rfl⟩ ?_
    rintro _ ⟨j, ns, hj, hnl, hne, rfl⟩
    dsimp only
    refine T.cnd (fun hc2 => ?_) (fun hc2 => ?_) <;> simp only [iLt_T, iLt_F] at hc2
    ·have hlt2 : j < qs.length := by omega
     refine T.grd (by rw [bnd_T]; omega) ?_
     rw [at_map hlt2]
     have hqp := part_len 47 qs qs[j] (List.getElem_mem _)
     rw [hqg] at hqp
     rw [List.drop_eq_getElem_cons hlt2, numP_cons] at hne
     generalize qs[j] = x at hne hqp
     refine T.callE (dec_r (mkS x) (by rw [mk_size]; omega)) ?_
     rw [LB_mk]
     cases hd : decL x with
     | none =>
      rw [hd] at hne
      rw [decR_none hd]
      refine T.ct rfl (T.out ?_)
      have hne : none = numP qs := hne
      rw [← hne] at lossE
      rw [lossE] at hn
      show (zA, _) = _
      rw [← hn]; rfl
     | some v =>
      rw [hd] at hne
      rw [decR_some hd]
      refine T.cf rfl (T.grd (by rw [bnd_T]; omega) (T.grd ?_ (T.go ⟨j + 1, ns ++ [v], by omega, by rw [List.length_append, List.length_singleton, hnl], ?_, ?_⟩ ?_)))
      ·rw [inB_T, List.length_append, List.length_replicate]; omega
      ·rw [← hne, Option.bind_some, Option.map_map]
       congr 1
       funext l
       simp
      ·rw [iAdd64 (by omega) (by omega), show 0 + Int.toNat (j : Int) * 1 = ns.length by omega, show 10 - j = (10 - (j + 1)) + 1 by omega, List.replicate_succ]
       simp
      ·dsimp only; rw [iAdd64 (by omega) (by omega)]; omega
    ·obtain rfl : j = 10 := by omega
     rw [List.drop_eq_nil_of_le (by omega)] at hne
     have hne : some (ns ++ []) = numP qs := hne
     rw [List.append_nil] at hne
     rw [← hne] at lossE
     rw [lossE] at hn
     have er : ns ++ List.replicate (10 - 10) 0 = ns := by simp
     rw [er]
     refine T.mapL ?_
     iterate 10 refine T.grd rfl (T.grd (by rw [inB_T]; omega) ?_)
     refine T.grd (by rw [fits_T, List.length_singleton]; omega) (T.go ⟨i + 1, acc ++ [mkLo ns], by omega, by rw [List.length_append, List.length_singleton, hal], ?_, by rw [iAdd64 (by omega) (by omega)]; rfl⟩ ?_)
     ·rw [← hn, Option.map_some, Option.bind_some, Option.map_map]
      congr 1
      funext l
      simp
     ·dsimp only; rw [iAdd64 (by omega) (by omega)]; omega
   ·obtain rfl : i = ps.length := by omega
    rw [List.drop_length] at hn
    have hn : some (acc ++ []) = losP ps := hn
    rw [List.append_nil] at hn
    refine T.out ?_
    rw [← hn]; rfl
set_option maxRecDepth 8000
theorem parse_r (s : ByteArray) (hs : s.size ≤ 4000000000) : m12 s = some (parP 1 (splitB 10 (LB s))) := by
 refine T.eq ?_
 unfold m12
 have hz : (LB s).length ≤ 4000000000 := hs
 have e0 : sEq s (bs []) = decide (LB s = []) := sEq_LB s (bs [])
 rw [e0]
 refine T.cnd (fun h => T.ret ?_) (fun h => ?_)
 ·rw [of_decide_eq_true h]; rfl
 refine T.callE (cut_r s 10 hs) ?_
 dsimp only
 have hne := split_ne 10 (LB s)
 have hcount := count_eq 10 (LB s)
 have hcl := List.count_le_length (a := (10 : UInt8)) (l := LB s)
 have hpl : (splitB 10 (LB s)).length ≤ 4000000001 := by omega
 have hg := glu_split 10 (LB s)
 rw [← hg] at hz
 generalize splitB 10 (LB s) = ps at *
 have hp0 := List.length_pos_iff.2 hne
 have hzp : lenI (ps.map mkS) = (ps.length : Int) := by rw [lenI_eq, List.length_map]
 have em : iSub .i64 (lenI (ps.map mkS)) 1 = ((ps.length - 1 : Nat) : Int) := by rw [hzp, iSub64 (by omega) (by omega)]; omega
 rw [em]
 refine T.grd (by rw [cutOk_T, List.length_map]; omega) ?_
 have ec : cutL 0 ((ps.length - 1 : Nat) : Int) (ps.map mkS) = (ps.take (ps.length - 1)).map mkS := by
  unfold cutL; rw [Int.toNat_natCast, List.map_take]; rfl
 rw [ec]
 have hzc : lenI ((ps.take (ps.length - 1)).map mkS) = ((ps.length - 1 : Nat) : Int) := by rw [lenI_eq, List.length_map, List.length_take]; omega
 refine T.loop (fun q => ∃ (i : Nat) (acc : List DS2), i ≤ ps.length - 1 ∧ acc.length = i ∧ preA acc (parP ((i : Int) + 1) (ps.drop i)) = parP 1 ps ∧ q = (ps.map mkS, (ps.take (ps.length - 1)).map mkS, lenI ((ps.take (ps.length - 1)).map mkS), (i : Int), acc, ())) (fun q => ps.length - q.2.2.2.1.toNat) ⟨0, [], by omega, rfl, preA_nil ps 1, rfl⟩ ?_
 rintro _ ⟨i, acc, hi, hal, he, rfl⟩
 dsimp only
 have hlt : i < ps.length := by omega
 have hlen : (ps.drop (i + 1)).length = ps.length - (i + 1) := List.length_drop
 rw [List.drop_eq_getElem_cons hlt] at he
 refine T.cnd (fun hc => ?_) (fun hc => ?_) <;> simp only [iLt_T, iLt_F] at hc
 ·refine T.grd (by rw [bnd_T]; omega) ?_
  have ea : atI ((ps.take (ps.length - 1)).map mkS) (i : Int) ByteArray.empty = mkS ps[i] := by
   rw [at_map (show i < (ps.take (ps.length - 1)).length by rw [List.length_take]; omega), List.getElem_take]
  rw [ea]
  have hpz := part_len 10 ps ps[i] (List.getElem_mem _)
  generalize ps[i] = p at he hpz
  have hrn : ps.drop (i + 1) ≠ [] := by
   intro k
   rw [k] at hlen
   simp at hlen
   omega
  refine T.callE (parsed_r (mkS p) (by rw [mk_size]; omega)) ?_
  rw [LB_mk]
  refine T.cnd (fun h1 => T.out ?_) (fun h1 => ?_) <;> simp only [iNe_T, iNe_F] at h1
  ·rw [parP_err hrn h1, preA_err _ h1] at he
   rw [iAdd64 (by omega) (by omega)]
   exact he
  ·rw [parP_go acc hrn h1] at he
   refine T.grd ?_ (T.go ⟨i + 1, acc ++ [(readP p).1], by omega, by rw [List.length_append, List.length_singleton, hal], by rw [← he]; rfl, by rw [iAdd64 (by omega) (by omega)]; rfl⟩ ?_)
   ·rw [fits_T]; simp only [List.length_cons, List.length_nil]; omega
   ·dsimp only; rw [iAdd64 (by omega) (by omega)]; omega
 ·obtain rfl : i = ps.length - 1 := by omega
  refine T.mapL (T.grd (by rw [bnd_T, em, hzp]; omega) ?_)
  rw [em, at_map hlt]
  have hdn : ps.drop (ps.length - 1 + 1) = [] := List.drop_eq_nil_of_le (by omega)
  rw [hdn, parP_one] at he
  generalize ps[ps.length - 1] = p at he
  have es : sEq (mkS p) (bs []) = decide (p = []) := by rw [sEq_LB, LB_mk]; rfl
  rw [es]
  refine T.cnd (fun h1 => T.ret ?_) (fun h1 => T.ret ?_)
  ·rw [not_T] at h1
   rw [if_neg (of_decide_eq_false h1), preA_err _ (by decide)] at he
   rw [← he, hzp]
   congr 2
   omega
  ·rw [not_F] at h1
   rw [if_pos (of_decide_eq_true h1)] at he
   rw [← he]
   show _ = (acc ++ [], 0, 0, ())
   rw [List.append_nil]
theorem fillA_L : ∀ (cs vs : List Int) (b : DS2), (fillA cs vs b).2.2.2.1.2.1 = b.2.2.2.1.2.1
 | [], vs, b => rfl
 | c :: cs, [], b => by unfold fillA; rw [fillA_L cs [] _]; rfl
 | c :: cs, v :: vs, b => by unfold fillA; rw [fillA_L cs vs _]; rfl
theorem losP_len : ∀ {ps : List (List UInt8)} {L : List DS0}, losP ps = some L → L.length = ps.length
 | [], L, h => by injection h with h; subst h; rfl
 | p :: r, L, h => by
  rw [losP_cons] at h
  cases hp : lossP p with
  | none => rw [hp] at h; exact absurd h (by simp)
  | some x =>
   rw [hp, Option.bind_some] at h
   cases hr : losP r with
   | none => rw [hr] at h; exact absurd h (by simp)
   | some l =>
    rw [hr, Option.map_some] at h
    injection h with h
    subst h
    rw [List.length_cons, List.length_cons, losP_len hr]
theorem repP_L (ps : List (List UInt8)) : (repP ps).1.length ≤ 64 := by
 unfold repP
 by_cases h : 64 < ps.length
 ·rw [if_pos h]; simp
 ·rw [if_neg h]
  cases hl : losP ps with
  | none => simp
  | some L => have := losP_len hl; dsimp only; omega
theorem readP_L (l : List UInt8) : List.length (α := DS0) (readP l).1.2.2.2.1.2.1 ≤ 64 := by
 have hz : List.length (α := DS0) zA.2.2.2.1.2.1 ≤ 64 := by decide
 unfold readP
 split
 ·split
  ·exact hz
  ·split
   ·exact hz
   ·rename_i f _
    unfold formA
    split
    ·split
     ·exact hz
     ·exact repP_L _
    ·split
     ·exact hz
     ·split
      ·exact hz
      ·dsimp only; rw [fillA_L]; simp [baseA]
 ·exact hz
theorem parP_L : ∀ (ps : List (List UInt8)) (n : Int), (parP n ps).1.length ≤ ps.length ∧ ∀ a ∈ (parP n ps).1, List.length (α := DS0) a.2.2.2.1.2.1 ≤ 64
 | [], n => ⟨by simp [parP], by simp [parP]⟩
 | p :: r, n => by
  have ih := parP_L r (n + 1)
  unfold parP
  by_cases h1 : r = []
  ·rw [if_pos h1]
   by_cases h2 : p = [] <;> simp [h2]
  ·rw [if_neg h1]
   by_cases h2 : (readP p).2.1 = 0
   ·rw [if_neg (by simpa using h2)]
    by_cases h3 : (parP (n + 1) r).2.2.1 = 0
    ·rw [if_neg (by simpa using h3)]
     refine ⟨by dsimp only; rw [List.length_cons, List.length_cons]; omega, fun a ha => ?_⟩
     rcases List.mem_cons.1 ha with rfl | ha
     ·exact readP_L p
     ·exact ih.2 a ha
    ·rw [if_pos h3]; simp
   ·rw [if_pos h2]; simp
theorem split_len (c : UInt8) (l : List UInt8) : (splitB c l).length ≤ l.length + 1 := by
 have := count_eq c l
 have h2 := List.count_le_length (a := c) (l := l)
 omega
theorem same_par (l : List UInt8) (hl : l.length ≤ 4000000000) : m13 (parP 1 (splitB 10 l)).1 (parP 1 (splitB 10 l)).1 = some (true, ()) := by
 have h := parP_L (splitB 10 l) 1
 have h2 := split_len 10 l
 exact sameA_r _ (by omega) fun x hx => by have := h.2 x hx; omega
theorem form_len : ∀ (xs : List DS2), (formP xs).1.length ≤ 10000 * xs.length
 | [] => by simp [formP]
 | a :: r => by
  have ih := form_len r
  have hl := line_len a
  unfold formP
  split
  ·simp
  ·split
   ·simp
   ·rw [List.length_append, List.length_cons]; omega
theorem form_pos {xs : List DS2} (h : 1 ≤ xs.length) (h2 : (formP xs).2 = 0) : 1 ≤ (formP xs).1.length := by
 match xs, h with
 | a :: r, _ =>
  unfold formP at h2 ⊢
  split at h2
  ·exact absurd h2 (by assumption)
  ·rename_i hl
   rw [if_neg hl]
   split at h2
   ·exact absurd h2 (by assumption)
   ·rename_i hr
    rw [if_neg hr]
    rw [List.length_append]
    have : 1 ≤ (lineP a).1.length := by
     unfold lineP at hl ⊢
     split at hl
     ·rename_i q; exact absurd q hl
     ·rename_i q
      rw [if_neg q]
      split at hl
      ·exact absurd (by decide) hl
      ·rename_i q2
       rw [if_neg q2, List.length_append, List.length_append, List.length_singleton]
       omega
    omega
set_option maxRecDepth 8000
theorem rem_and (x : Int) (b : Nat) (hb : b < 9223372036854775808) (n : Nat) (hn : 0 < n) : ∃ j : Nat, j < n ∧ iRem (iAnd .i64 x (b : Int)) (n : Int) = (j : Int) := by
 obtain ⟨w, hw, ew⟩ := and_i64 x b hb
 refine ⟨w % n, Nat.mod_lt _ hn, ?_⟩
 rw [ew, iRem_pos (by omega)]
 omega
theorem bsI_size (l : List Int) : (bsI l).size = l.length := by
 unfold bsI
 show (List.map _ l).toArray.size = _
 simp
theorem law_parse (t : ByteArray) (deck a2 a3 : List Int) (a4 : Int) (hd : DeckOk deck 0) (h3 : ∀ x ∈ a3, 0 ≤ x ∧ x ≤ 255) : m4 t deck a2 a3 a4 = some (true, ()) := by
 refine T.eq ?_
 unfold m4
 have hl : sLen t = (t.size : Int) := rfl
 refine T.cnd (fun _ => awake_T rfl) (fun h400 => ?_)
 rw [iLt_F] at h400
 refine T.call (acts_T hd) (fun y ⟨y0, y1, y2⟩ => ?_)
 obtain ⟨xs, u⟩ := y
 dsimp only at y0 y1 y2 ⊢
 refine T.callE (format_r xs (by omega)) ?_
 have hf0 := form_ok xs y2
 have hfp := form_pos y0 hf0
 have hfl := form_len xs
 rw [hf0]
 generalize (formP xs).1 = tx at hfp hfl
 dsimp only
 have htz : (mkS tx).size = tx.length := mk_size tx
 have hbz : (bytesI (mkS tx)).length = tx.length := by rw [bytes_mk, toI_len]
 refine T.cf (by rw [iNe_F]) (T.grd (by unfold sFit; rw [htz]; exact decide_eq_true (by omega)) ?_)
 refine T.loop (fun q => ∃ (i : Nat) (b : List Int), i ≤ 2 ∧ b.length = tx.length ∧ q = (t, a2, a3, a4, mkS tx, (i : Int), b, ())) (fun q => 2 - q.2.2.2.2.2.1.toNat) ⟨0, _, by omega, hbz, rfl⟩ ?_
 rintro _ ⟨i, b, hi, hb, rfl⟩
 dsimp only
 have hbl : lenI b = (b.length : Int) := lenI_eq b
 have h2l : lenI a2 = (a2.length : Int) := lenI_eq a2
 have h3l : lenI a3 = (a3.length : Int) := lenI_eq a3
 refine T.cnd (fun hc => ?_) (fun hc => ?_)
 ·rw [candF_T, candF_T, iLt_T, iLt_T, iLt_T] at hc
  obtain ⟨j, hj0, hj⟩ := rem_and (iShr .i64 (atI a2 (i : Int) 0) 1) 4095 (by omega) b.length (by omega)
  have hj : iRem (iAnd .i64 (iShr .i64 (atI a2 (i : Int) 0) 1) 4095) (lenI b) = (j : Int) := by rw [hbl]; exact hj
  have b3 : bnd (i : Int) (lenI a3) = true := by rw [bnd_T]; omega
  have b2 : bnd (i : Int) (lenI a2) = true := by rw [bnd_T]; omega
  have bz : iNe (lenI b) 0 = true := by rw [iNe_T]; omega
  have bj : bnd (j : Int) (lenI b) = true := by rw [bnd_T]; omega
  have ij : inB (Int.toNat (j : Int)) b = true := by rw [inB_T]; omega
  rw [hj]
  refine T.grd b3 (T.grd b2 ?_)
  refine T.cnd (fun _ => ?_) (fun _ => ?_)
  ·have e3 : atI a3 (i : Int) 0 = a3[i]'(by omega) := atI_get 0 (by omega)
   have hx := h3 _ (List.getElem_mem (show i < a3.length by omega))
   have ew : iRem (IntKind.wrap .i64 (atI a3 (i : Int) 0)) 17 = ((a3[i]'(by omega)) % 17) := by rw [e3, wrap64_T (by omega) (by omega), iRem_pos (by omega)]
   rw [ew]
   refine T.grd b3 (T.grd rfl (T.grd ?_ (T.grd b2 (T.grd rfl (T.grd bz (T.grd bj (T.grd ij ?_)))))))
   ·rw [bnd_T]
    have : sLen (bs [48, 49, 50, 51, 52, 53, 54, 55, 56, 57, 32, 47, 10, 45, 99, 116, 114]) = 17 := rfl
    omega
   ·refine T.go ⟨i + 1, _, by omega, ?_, by rw [iAdd64 (by omega) (by omega)]; rfl⟩ ?_
    ·rw [List.length_set]; exact hb
    ·dsimp only; rw [iAdd64 (by omega) (by omega)]; omega
  ·refine T.grd b2 (T.grd rfl (T.grd bz (T.grd bj (T.grd ij ?_))))
   refine T.go ⟨i + 1, _, by omega, ?_, by rw [iAdd64 (by omega) (by omega)]; rfl⟩ ?_
   ·rw [List.length_set]; exact hb
   ·dsimp only; rw [iAdd64 (by omega) (by omega)]; omega
 refine T.mapL ?_
 refine T.join (fun s => s.1 = t ∧ s.2.1 = mkS tx ∧ List.length (α := Int) s.2.2.1 ≤ tx.length) ?_ ?_
 ·refine T.cnd (fun _ => ?_) (fun _ => T.jgo ⟨rfl, rfl, by dsimp only; omega⟩)
  have e1 : iAdd .i64 (lenI b) 1 = ((b.length + 1 : Nat) : Int) := by rw [hbl, iAdd64 (by omega) (by omega)]; omega
  obtain ⟨j, hj0, hj⟩ := rem_and (iShr .i64 a4 1) 4095 (by omega) (b.length + 1) (by omega)
  have hj : iRem (iAnd .i64 (iShr .i64 a4 1) 4095) (iAdd .i64 (lenI b) 1) = (j : Int) := by rw [e1]; exact hj
  rw [hj]
  refine T.grd rfl (T.grd (by rw [e1, iNe_T]; omega) (T.grd (by rw [cutOk_T]; omega) (T.jgo ⟨rfl, rfl, ?_⟩)))
  dsimp only
  rw [List.length_take]; omega
 ·rintro ⟨t', x1, x2, u⟩ ⟨ht, rfl, h2⟩
  have ht : t' = t := ht
  subst ht
  dsimp only at h2 ⊢
  refine T.loop (fun s => ∃ k : Nat, k ≤ 3 ∧ s = (3, (k : Int), [t', mkS tx, bsI x2], ())) (fun s => 3 - s.2.1.toNat) ⟨0, by omega, rfl⟩ ?_
  rintro _ ⟨k, hk, rfl⟩
  dsimp only
  refine T.cnd (fun h1 => ?_) (fun _ => T.mapL (awake_T rfl))
  rw [iLt_T] at h1
  refine T.grd (by rw [bnd_T, lenI_eq]; simp; omega) (T.grd (by rw [inB_T]; simp; omega) ?_)
  have hlen : (List.getD [t', mkS tx, bsI x2] (Int.toNat (k : Int)) ByteArray.empty).size ≤ 4000000000 := by
   rw [Int.toNat_natCast]
   match k, h1 with
   | 0, _ => show t'.size ≤ _; omega
   | 1, _ => show (mkS tx).size ≤ _; omega
   | 2, _ => show (bsI x2).size ≤ _; rw [bsI_size]; omega
   | k + 3, h => omega
  generalize List.getD [t', mkS tx, bsI x2] (Int.toNat (k : Int)) ByteArray.empty = z at hlen
  refine T.callE (parse_m z hlen) (T.callE (parse_r z hlen) (T.callE (same_par (LB z) hlen) ?_))
  dsimp only
  refine T.cf ?_ (T.go ⟨k + 1, by omega, by rw [iAdd64 (by omega) (by omega)]; rfl⟩ ?_)
  ·rw [corT_F, corT_F]
   exact ⟨⟨rfl, by rw [iNe_F]⟩, by rw [iNe_F]⟩
  ·dsimp only; rw [iAdd64 (by omega) (by omega)]; omega
end Abs
end Go.Proofs.YtfjhljjginlobaaDoor
