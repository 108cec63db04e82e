/- Plain facts of journals: checksums, frames, records. -/
import Derived.Test.YtpffhaligaebaaaModels
import Derived.Test.YtpffhaligaebaaaXJ
namespace Go.Proofs.Ytpffhaligaebaaa
namespace Abs
open Go.RowKit
set_option linter.unusedVariables false
set_option linter.unusedSimpArgs false
def ck1 (s x : Int) : Int := IntKind.u32.wrap (IntKind.u32.wrap (BitVec.ofInt IntKind.u32.bits s ^^^ BitVec.ofInt IntKind.u32.bits (IntKind.u32.wrap x)).toNat * 16777619)
def cks (xs : List Int) : Int := xs.foldl ck1 2166136261
theorem cks_snoc {xs : List Int} {k : Nat} (h : k < xs.length) : cks (xs.take (k + 1)) = ck1 (cks (xs.take k)) (xs.getD k 0) := by
  rw [take_snoc h]; simp [cks]
def sameB (xs ys : List Int) : Bool := decide (xs = ys)
theorem sameB_ne {xs ys : List Int} (h : xs ≠ ys) : sameB xs ys = false := decide_eq_false h
theorem ext_take {xs ys : List Int} (hl : xs.length = ys.length) (h : xs.take xs.length = ys.take xs.length) : xs = ys := by
  rw [List.take_of_length_le (Nat.le_refl _), hl, List.take_of_length_le (Nat.le_refl _)] at h; exact h
theorem take_app {α : Type} (l m : List α) (n k : Nat) (h : l.length = n) : (l ++ m).take (n + k) = l ++ m.take k := by subst h; exact List.take_length_add_append ..
theorem take_all {α : Type} (l : List α) {n : Nat} (h : l.length = n) : l.take n = l := List.take_of_length_le (by omega)
def fr6 (n s : Int) : List Int := [n / 256 % 256, n % 256, s / 16777216 % 256, s / 65536 % 256, s / 256 % 256, s % 256]
def frame (xs : List Int) : List Int := fr6 xs.length (cks xs) ++ xs
theorem ck1_bd (s x : Int) : 0 ≤ ck1 s x ∧ ck1 s x ≤ 4294967295 := by unfold ck1; rw [IntKind.wrap_u32]; omega
theorem cks_bd (xs : List Int) : 0 ≤ cks xs ∧ cks xs ≤ 4294967295 := by
  unfold cks
  suffices ∀ s, 0 ≤ s ∧ s ≤ 4294967295 → 0 ≤ xs.foldl ck1 s ∧ xs.foldl ck1 s ≤ 4294967295 from this _ (by omega)
  induction xs with
  | nil => intro s h; exact h
  | cons x xs ih => intro s _; exact ih _ (ck1_bd s x)
theorem sh_ (k b : Nat) (n : Int) (hk : k ≤ b) : IntKind.u8.wrap (n.fdiv (2 ^ min k b)) = n / 2 ^ k % 256 := by
  rw [IntKind.wrap_u8, Nat.min_eq_left hk, Int.fdiv_eq_ediv_of_nonneg _ (Int.pow_nonneg (by decide))]
theorem sh8 (n : Int) : IntKind.u8.wrap (n.fdiv (2 ^ min 8 IntKind.i64.bits)) = n / 256 % 256 := sh_ 8 64 n (by decide)
theorem sh8u (n : Int) : IntKind.u8.wrap (n.fdiv (2 ^ min 8 IntKind.u32.bits)) = n / 256 % 256 := sh_ 8 32 n (by decide)
theorem sh16 (n : Int) : IntKind.u8.wrap (n.fdiv (2 ^ min 16 IntKind.u32.bits)) = n / 65536 % 256 := sh_ 16 32 n (by decide)
theorem sh24 (n : Int) : IntKind.u8.wrap (n.fdiv (2 ^ min 24 IntKind.u32.bits)) = n / 16777216 % 256 := sh_ 24 32 n (by decide)
theorem rq (n : Nat) (h : n ≤ 1000000) : IntKind.u8.wrap (IntKind.i64.wrap ((n : Int).tdiv 256)) = (n : Int) / 256 % 256 := by
  rw [IntWalk.i64_quo _ _ (by omega), IntKind.wrap_u8]
theorem rr (n : Nat) : IntKind.u8.wrap ((n : Int).tmod 256) = (n : Int) % 256 := by
  rw [Int.tmod_eq_emod_of_nonneg (by omega), IntKind.wrap_u8]; omega
theorem frame_len (ys : List Int) : (frame ys).length = 6 + ys.length := by simp [frame, fr6]; omega
theorem l3 : ((frame [7]).take 3).length = 3 := by rw [List.length_take, frame_len]; rfl
theorem l7 : (frame [7]).length = 7 := by rw [frame_len]; rfl
def m40 (n : Int) : Int := IntKind.i64.wrap (BitVec.ofInt IntKind.i64.bits n &&& BitVec.ofInt IntKind.i64.bits 1099511627775).toNat
theorem m40_bd (n : Int) : 0 ≤ m40 n ∧ m40 n ≤ 1099511627775 := by
  have h : (BitVec.ofInt IntKind.i64.bits n &&& BitVec.ofInt IntKind.i64.bits 1099511627775).toNat ≤ 1099511627775 := by
    rw [BitVec.toNat_and]
    exact Nat.le_trans Nat.and_le_right (by decide)
  unfold m40
  rw [wrap64 (by omega) (by omega)]
  omega
def Byt (xs : List Int) : Prop := ∀ x ∈ xs, 0 ≤ x ∧ x ≤ 255
theorem Byt.at {xs : List Int} (h : Byt xs) (i : Nat) : 0 ≤ xs.getD i 0 ∧ xs.getD i 0 ≤ 255 := by
  rcases Nat.lt_or_ge i xs.length with q | q
  · have e : xs.getD i 0 = xs[i] := by simp [List.getD, q]
    rw [e]; exact h _ (List.getElem_mem q)
  · have e : xs.getD i 0 = 0 := by simp [List.getD, q]
    rw [e]; omega
def recN (xs : List Int) : Int := xs.getD 0 0 * 256 + xs.getD 1 0
def sum4 (xs : List Int) : Int := xs.getD 2 0 * 16777216 + xs.getD 3 0 * 65536 + xs.getD 4 0 * 256 + xs.getD 5 0
def fstO (xs : List Int) : Option (List Int) :=
  if xs.length < 6 ∨ recN xs = 0 ∨ 8192 < recN xs ∨ (xs.length : Int) - 6 < recN xs then none
  else if cks ((xs.drop 6).take (recN xs).toNat) = sum4 xs then some ((xs.drop 6).take (recN xs).toNat) else none
theorem orN (w : Nat) (a b : Int) (ha : 0 ≤ a) (ha' : a < 2 ^ w) (hb : 0 ≤ b) (hb' : b < 2 ^ w) : (BitVec.ofInt w a ||| BitVec.ofInt w b).toNat = a.toNat ||| b.toNat := by
  rw [BitVec.toNat_or, BitVec.toNat_ofInt, BitVec.toNat_ofInt]
  rw [show (((2 : Nat) ^ w : Nat) : Int) = 2 ^ w from by norm_cast]
  rw [Int.emod_eq_of_lt ha ha', Int.emod_eq_of_lt hb hb']
theorem or_add (x y k : Nat) (h : y < 2 ^ k) : (x * 2 ^ k) ||| y = x * 2 ^ k + y := by
  rw [Nat.mul_comm x, ← Nat.two_pow_add_eq_or_of_lt h]
theorem or64 (a b : Int) (ha : 0 ≤ a ∧ a ≤ 255) (hb : 0 ≤ b ∧ b ≤ 255) : IntKind.i64.wrap (BitVec.ofInt IntKind.i64.bits (a * 256) ||| BitVec.ofInt IntKind.i64.bits b).toNat = a * 256 + b := by
  have := orN 64 (a * 256) b (by omega) (by omega) (by omega) (by omega)
  have h2 := or_add a.toNat b.toNat 8 (by omega)
  have e : (a * 256).toNat = a.toNat * 2 ^ 8 := by omega
  rw [show IntKind.i64.bits = 64 from rfl, this, e, h2, wrap64 (by omega) (by omega)]
  omega
theorem or32 (a b : Int) (k : Nat) (ha : 0 ≤ a) (hb : 0 ≤ b) (hb' : b < 2 ^ k) (hs : a * 2 ^ k + b < 4294967296) : IntKind.u32.wrap (BitVec.ofInt IntKind.u32.bits (a * 2 ^ k) ||| BitVec.ofInt IntKind.u32.bits b).toNat = a * 2 ^ k + b := by
  have hk : (0 : Int) < 2 ^ k := Int.pow_pos (by omega)
  have hak : 0 ≤ a * 2 ^ k := Int.mul_nonneg ha (by omega)
  have := orN 32 (a * 2 ^ k) b hak (by omega) hb (by omega)
  have e : (a * 2 ^ k).toNat = a.toNat * 2 ^ k := by
    rw [Int.toNat_mul ha (by omega)]
    congr 1
  have hbn : b.toNat < 2 ^ k := by
    have : ((2 ^ k : Nat) : Int) = 2 ^ k := by norm_cast
    omega
  have h2 := or_add a.toNat b.toNat k hbn
  rw [show IntKind.u32.bits = 32 from rfl, this, e, h2, ← e, wrap32u (by omega) (by omega)]
  omega
theorem sum_or (x2 x3 x4 x5 : Int) (h2 : 0 ≤ x2 ∧ x2 ≤ 255) (h3 : 0 ≤ x3 ∧ x3 ≤ 255) (h4 : 0 ≤ x4 ∧ x4 ≤ 255) (h5 : 0 ≤ x5 ∧ x5 ≤ 255) :
    IntKind.u32.wrap (BitVec.ofInt IntKind.u32.bits (IntKind.u32.wrap (BitVec.ofInt IntKind.u32.bits (IntKind.u32.wrap (BitVec.ofInt IntKind.u32.bits (IntKind.u32.wrap (IntKind.u32.wrap x2 * 2 ^ min 24 IntKind.u32.bits)) ||| BitVec.ofInt IntKind.u32.bits (IntKind.u32.wrap (IntKind.u32.wrap x3 * 2 ^ min 16 IntKind.u32.bits))).toNat) ||| BitVec.ofInt IntKind.u32.bits (IntKind.u32.wrap (IntKind.u32.wrap x4 * 2 ^ min 8 IntKind.u32.bits))).toNat) ||| BitVec.ofInt IntKind.u32.bits (IntKind.u32.wrap x5)).toNat = x2 * 16777216 + x3 * 65536 + x4 * 256 + x5 := by
  have e24 : min 24 IntKind.u32.bits = 24 := rfl
  have e16 : min 16 IntKind.u32.bits = 16 := rfl
  have e8' : min 8 IntKind.u32.bits = 8 := rfl
  rw [wrap32u h2.1 (by omega), wrap32u h3.1 (by omega), wrap32u h4.1 (by omega), wrap32u h5.1 (by omega), e24, e16, e8',
    wrap32u (n := x2 * 2 ^ 24) (by omega) (by omega), wrap32u (n := x3 * 2 ^ 16) (by omega) (by omega), wrap32u (n := x4 * 2 ^ 8) (by omega) (by omega),
    or32 x2 (x3 * 2 ^ 16) 24 (by omega) (by omega) (by omega) (by omega),
    show x2 * 2 ^ 24 + x3 * 2 ^ 16 = (x2 * 256 + x3) * 2 ^ 16 from by omega, or32 (x2 * 256 + x3) (x4 * 2 ^ 8) 16 (by omega) (by omega) (by omega) (by omega),
    show (x2 * 256 + x3) * 2 ^ 16 + x4 * 2 ^ 8 = (x2 * 65536 + x3 * 256 + x4) * 2 ^ 8 from by omega, or32 (x2 * 65536 + x3 * 256 + x4) x5 8 (by omega) (by omega) (by omega) (by omega)]
  omega
theorem n_or (a b : Int) (ha : 0 ≤ a ∧ a ≤ 255) (hb : 0 ≤ b ∧ b ≤ 255) : IntKind.i64.wrap (BitVec.ofInt IntKind.i64.bits (IntKind.i64.wrap (IntKind.i64.wrap a * 2 ^ min 8 IntKind.i64.bits)) ||| BitVec.ofInt IntKind.i64.bits (IntKind.i64.wrap b)).toNat = a * 256 + b := by
  have e8' : min 8 IntKind.i64.bits = 8 := rfl
  rw [wrap64 (n := a) (by omega) (by omega), wrap64 (n := b) (by omega) (by omega), e8', wrap64 (n := a * 2 ^ 8) (by omega) (by omega)]
  exact or64 a b ha hb
set_option maxRecDepth 100000 in
def recsF : Nat → List Int → List (List Int) × Nat
  | 0, _ => ([], 0)
  | n + 1, xs => match fstO xs with
    | none => ([], 0)
    | some r => (r :: (recsF n (xs.drop (6 + r.length))).1, 6 + r.length + (recsF n (xs.drop (6 + r.length))).2)
def recs (xs : List Int) : List (List Int) × Nat := recsF xs.length xs
theorem Byt.drop {xs : List Int} (h : Byt xs) (n : Nat) : Byt (xs.drop n) := fun x hx => h x (List.mem_of_mem_drop hx)
theorem fstO_some {xs r : List Int} (hb : Byt xs) (h : fstO xs = some r) : 0 < r.length ∧ r.length ≤ 8192 ∧ 6 + r.length ≤ xs.length ∧ r = (xs.drop 6).take r.length ∧ (r.length : Int) = recN xs := by
  unfold fstO at h
  split at h
  · cases h
  · rename_i c
    split at h
    · cases h
      have h0 : 0 ≤ recN xs := by have := hb.at 0; have := hb.at 1; unfold recN; omega
      have e : ((xs.drop 6).take (recN xs).toNat).length = (recN xs).toNat := by rw [List.length_take, List.length_drop]; omega
      rw [e]
      exact ⟨by omega, by omega, by omega, rfl, by omega⟩
    · cases h
def RI (xs : List Int) (rs : List (List Int)) (u : Nat) : Prop := ∃ n, xs.length - u ≤ n ∧ u ≤ xs.length ∧ rs.length ≤ u ∧ recs xs = (rs ++ (recsF n (xs.drop u)).1, u + (recsF n (xs.drop u)).2)
theorem RI.nil (xs : List Int) : RI xs [] 0 := ⟨xs.length, by omega, by omega, by simp, by simp [recs]⟩
theorem RI.step {xs : List Int} (hb : Byt xs) {rs : List (List Int)} {u : Nat} {r : List Int} (h : RI xs rs u) (hr : fstO (xs.drop u) = some r) : RI xs (rs ++ [r]) (u + (6 + r.length)) := by
  obtain ⟨n, h1, h2, h3, h4⟩ := h
  obtain ⟨a1, a2, a3, a4, a5⟩ := fstO_some (hb.drop u) hr
  rw [List.length_drop] at a3
  cases n with
  | zero => omega
  | succ n =>
    refine ⟨n, by omega, by omega, by simp; omega, ?_⟩
    rw [h4]
    simp only [recsF, hr, List.drop_drop, List.append_assoc, List.singleton_append, Prod.mk.injEq, true_and]
    omega
theorem RI.stop {xs : List Int} {rs : List (List Int)} {u : Nat} (h : RI xs rs u) (hr : fstO (xs.drop u) = none) : recs xs = (rs, u) := by
  obtain ⟨n, h1, h2, h3, h4⟩ := h
  have : recsF n (xs.drop u) = ([], 0) := by cases n <;> simp [recsF, hr]
  rw [h4, this]; simp
theorem getD_drop (xs : List Int) (u i : Nat) : (xs.drop u).getD i 0 = xs.getD (u + i) 0 := by simp [List.getD]
def fr4 (s : Int) : List Int := [s / 16777216 % 256, s / 65536 % 256, s / 256 % 256, s % 256]
theorem take4 {D : List Int} (h : 6 ≤ D.length) : (D.drop 2).take 4 = [D.getD 2 0, D.getD 3 0, D.getD 4 0, D.getD 5 0] := by
  match D, h with
  | a :: b :: c :: d :: e :: f :: l, _ => rfl
theorem sum4_iff {D : List Int} (hb : Byt D) (h : 6 ≤ D.length) {s : Int} (h0 : 0 ≤ s ∧ s ≤ 4294967295) : sameB ((D.drop 2).take 4) (fr4 s) = decide (s = sum4 D) := by
  rw [take4 h]
  have := hb.at 2; have := hb.at 3; have := hb.at 4; have := hb.at 5
  unfold sameB fr4 sum4
  refine decide_eq_decide.mpr ?_
  simp only [List.cons.injEq, and_true]
  constructor
  · rintro ⟨h1, h2, h3, h4⟩; omega
  · intro h; exact ⟨by omega, by omega, by omega, by omega⟩
theorem recsF_le (hb : ∀ xs : List Int, Byt xs → True) : ∀ (n : Nat) (xs : List Int), Byt xs → (recsF n xs).2 ≤ xs.length ∧ (recsF n xs).1.length ≤ xs.length ∧ ∀ r ∈ (recsF n xs).1, r.length ≤ 8192 := by
  intro n
  induction n with
  | zero => intro xs _; simp [recsF]
  | succ n ih =>
    intro xs h
    simp only [recsF]
    cases hr : fstO xs with
    | none => simp
    | some r =>
      obtain ⟨a1, a2, a3, -, -⟩ := fstO_some h hr
      obtain ⟨b1, b2, b3⟩ := ih (xs.drop (6 + r.length)) (h.drop _)
      rw [List.length_drop] at b1 b2
      refine ⟨by simp only; omega, by simp only [List.length_cons]; omega, fun q hq => ?_⟩
      rcases List.mem_cons.1 hq with rfl | hq
      · exact a2
      · exact b3 q hq
theorem recs_le {xs : List Int} (h : Byt xs) : (recs xs).2 ≤ xs.length ∧ (recs xs).1.length ≤ xs.length ∧ ∀ r ∈ (recs xs).1, r.length ≤ 8192 := recsF_le (fun _ _ => trivial) _ xs h
def rcK (raw : List (List Int)) (k : Nat) : List (List Int) := (List.range k).map fun (i : Nat) => ((i : Int) :: (raw.getD i []).take 40)
def rcs (raw : List (List Int)) : List (List Int) := rcK raw (min raw.length 6)
theorem rcK_len (raw : List (List Int)) (k : Nat) : (rcK raw k).length = k := by simp [rcK]
theorem rcK_succ (raw : List (List Int)) (k : Nat) : rcK raw (k + 1) = rcK raw k ++ [((k : Int) :: (raw.getD k []).take 40)] := by simp [rcK, List.range_succ]
theorem Byt.app {a b : List Int} (h : Byt a) (h' : Byt b) : Byt (a ++ b) := fun x hx => (List.mem_append.1 hx).elim (h x) (h' x)
theorem Byt.take {xs : List Int} (h : Byt xs) (n : Nat) : Byt (xs.take n) := fun x hx => h x (List.mem_of_mem_take hx)
theorem Byt.frame {x : List Int} (h : Byt x) : Byt (frame x) := by
  refine Byt.app (fun y hy => ?_) h
  simp only [fr6, List.mem_cons, List.not_mem_nil, or_false] at hy
  omega
theorem Byt.set {xs : List Int} (h : Byt xs) (i : Nat) {y : Int} (hy : 0 ≤ y ∧ y ≤ 255) : Byt (xs.set i y) := fun x hx => by
  rcases List.mem_or_eq_of_mem_set hx with q | q
  · exact h x q
  · subst q; exact hy
theorem rcs_ok {raw : List (List Int)} (h : ∀ x ∈ raw, Byt x) : (rcs raw).length ≤ 6 ∧ ∀ x ∈ rcs raw, 0 < x.length ∧ x.length ≤ 41 ∧ Byt x := by
  refine ⟨by unfold rcs; rw [rcK_len]; omega, fun x hx => ?_⟩
  simp only [rcs, rcK, List.mem_map, List.mem_range] at hx
  obtain ⟨i, hi, rfl⟩ := hx
  have hl : i < raw.length := by omega
  have e : raw.getD i [] = raw[i] := by simp [List.getD, hl]
  rw [e]
  refine ⟨by simp, by simp only [List.length_cons, List.length_take]; omega, fun y hy => ?_⟩
  rcases List.mem_cons.1 hy with rfl | hy
  · omega
  · exact h _ (List.getElem_mem hl) y (List.mem_of_mem_take hy)
theorem and_mod (a : Int) (m : Nat) (hm : m < 2 ^ 62) (hm' : (BitVec.ofInt IntKind.i64.bits (m : Int)).toNat = m) {n : Nat} (hn : 0 < n) : ∃ j : Nat, (IntKind.i64.wrap (BitVec.ofInt IntKind.i64.bits a &&& BitVec.ofInt IntKind.i64.bits (m : Int)).toNat).tmod (n : Int) = (j : Int) ∧ j < n := by
  have h : (BitVec.ofInt IntKind.i64.bits a &&& BitVec.ofInt IntKind.i64.bits (m : Int)).toNat ≤ m := by
    rw [BitVec.toNat_and, hm']; exact Nat.and_le_right
  rw [wrap64 (by omega) (by omega)]
  exact ⟨_ % n, by rw [Int.tmod_eq_emod_of_nonneg (by omega)]; rfl, Nat.mod_lt _ hn⟩
def fl (rs : List (List Int)) (k : Nat) : List Int := (rs.take k).flatMap frame
theorem fl_succ {rs : List (List Int)} {k : Nat} (h : k < rs.length) : fl rs (k + 1) = fl rs k ++ frame rs[k] := by
  unfold fl; rw [List.take_succ_eq_append_getElem h, List.flatMap_append, List.flatMap_singleton]
theorem fl_ok {rs : List (List Int)} (h : ∀ x ∈ rs, 0 < x.length ∧ x.length ≤ 41 ∧ Byt x) : ∀ k, k ≤ rs.length → (fl rs k).length ≤ k * 47 ∧ Byt (fl rs k) := by
  intro k
  induction k with
  | zero => intro _; exact ⟨by simp [fl], fun x hx => by simp [fl] at hx⟩
  | succ k ih =>
    intro hk
    obtain ⟨h1, h2⟩ := ih (by omega)
    obtain ⟨a1, a2, a3⟩ := h rs[k] (List.getElem_mem (by omega))
    rw [fl_succ (by omega)]
    exact ⟨by rw [List.length_append, frame_len]; omega, h2.app a3.frame⟩
theorem frame_recN (x rest : List Int) (h' : x.length ≤ 8192) : recN (frame x ++ rest) = x.length := by
  show (x.length : Int) / 256 % 256 * 256 + (x.length : Int) % 256 = _
  omega
theorem frame_sum4 (x rest : List Int) : sum4 (frame x ++ rest) = cks x := by
  have := cks_bd x
  show (cks x) / 16777216 % 256 * 16777216 + (cks x) / 65536 % 256 * 65536 + (cks x) / 256 % 256 * 256 + (cks x) % 256 = _
  omega
theorem fstO_frame (x rest : List Int) (h : 0 < x.length) (h' : x.length ≤ 8192) : fstO (frame x ++ rest) = some x := by
  have e : ((frame x ++ rest).drop 6).take x.length = x := by
    show ((x ++ rest)).take x.length = x
    simp
  unfold fstO
  rw [frame_recN x rest h', frame_sum4, Int.toNat_natCast, e, if_pos rfl, if_neg]
  rw [List.length_append, frame_len]
  omega
theorem fstO_cut (x : List Int) (t : Nat) (h' : x.length ≤ 8192) (ht : t < 6 + x.length) : fstO ((frame x).take t) = none := by
  have hl : ((frame x).take t).length = t := by rw [List.length_take, frame_len]; omega
  refine if_pos ?_
  rw [hl]
  by_cases h6 : t < 6
  · exact .inl h6
  · right; right; right
    have e : (frame x).take t = fr6 x.length (cks x) ++ x.take (t - 6) := by
      unfold frame
      rw [List.take_append]
      congr 1
      exact List.take_of_length_le (by simp [fr6]; omega)
    have : recN ((frame x).take t) = x.length := by
      rw [e]
      show (x.length : Int) / 256 % 256 * 256 + (x.length : Int) % 256 = _
      omega
    omega
theorem recsF_frames : ∀ (rs : List (List Int)) (n : Nat) (ts : List Int), (∀ x ∈ rs, 0 < x.length ∧ x.length ≤ 8192) → fstO ts = none → rs.length ≤ n → recsF n (rs.flatMap frame ++ ts) = (rs, (rs.flatMap frame).length) := by
  intro rs
  induction rs with
  | nil =>
    intro n ts _ h _
    cases n <;> simp [recsF, h]
  | cons x rs ih =>
    intro n ts hx h hn
    cases n with
    | zero => simp at hn
    | succ n =>
      obtain ⟨h1, h2⟩ := hx x (by simp)
      have e : ((x :: rs).flatMap frame ++ ts) = frame x ++ (rs.flatMap frame ++ ts) := by simp
      have ed : (frame x ++ (rs.flatMap frame ++ ts)).drop (6 + x.length) = rs.flatMap frame ++ ts := by
        rw [← frame_len, List.drop_left]
      simp only [recsF]
      rw [e, fstO_frame x _ h1 h2]
      simp only [ed]
      rw [ih n ts (fun y hy => hx y (by simp [hy])) h (by simpa using hn)]
      simp [frame_len]
theorem recs_frames (rs : List (List Int)) (ts : List Int) (hx : ∀ x ∈ rs, 0 < x.length ∧ x.length ≤ 8192) (h : fstO ts = none) : recs (rs.flatMap frame ++ ts) = (rs, (rs.flatMap frame).length) := by
  refine recsF_frames rs _ ts hx h ?_
  rw [List.length_append]
  have : ∀ rs : List (List Int), rs.length ≤ (rs.flatMap frame).length := by
    intro rs
    induction rs with
    | nil => simp
    | cons x rs ih => simp only [List.flatMap_cons, List.length_append, List.length_cons, frame_len]; omega
  have := this rs
  omega
end Abs
end Go.Proofs.Ytpffhaligaebaaa
