/- Plain: the text of an hour is read back. No program in sight. -/
import Derived.Test.YtnidojfnpmhjkaaDoorFmt
import Derived.Test.YtnidojfnpmhjkaaDoorRParse
import Derived.Lib.ItoaNum
namespace Go.Proofs.YtnidojfnpmhjkaaDoor.Cal
set_option linter.unusedVariables false
set_option linter.unusedSimpArgs false
open Go.PlainAid

theorem dgs2 (n : Int) : dgs n 2 = ⟨#[dig (n / 10), dig n]⟩ := by
  have e : (n / 10 ^ 0 : Int) = n := by simp
  have e1 : (n / 10 ^ 1 : Int) = n / 10 := by simp
  show ⟨#[dig (n / 10 ^ 1)]⟩ ++ (⟨#[dig (n / 10 ^ 0)]⟩ ++ (⟨#[]⟩ : ByteArray)) = _
  rw [e, e1]; apply ByteArray.ext; simp [ByteArray.data_append]
theorem dgs4 (n : Int) : dgs n 4 = ⟨#[dig (n / 1000), dig (n / 100), dig (n / 10), dig n]⟩ := by
  have e : (n / 10 ^ 0 : Int) = n := by simp
  have e1 : (n / 10 ^ 1 : Int) = n / 10 := by simp
  have e2 : (n / 10 ^ 2 : Int) = n / 100 := by simp
  have e3 : (n / 10 ^ 3 : Int) = n / 1000 := by simp
  show ⟨#[dig (n / 10 ^ 3)]⟩ ++ (⟨#[dig (n / 10 ^ 2)]⟩ ++ (⟨#[dig (n / 10 ^ 1)]⟩ ++ (⟨#[dig (n / 10 ^ 0)]⟩ ++ (⟨#[]⟩ : ByteArray)))) = _
  rw [e, e1, e2, e3]; apply ByteArray.ext; simp [ByteArray.data_append]
theorem dig_nat (u : Nat) : dig (u : Int) = UInt8.ofNat (48 + u % 10) := by unfold dig; congr 1
theorem itoa2 (u : Nat) (h : 10 ≤ u) (h' : u < 100) : (⟨(Lib.decDigits u).toArray⟩ : ByteArray) = dgs u 2 := by
  rw [dgs2, Lib.decDigits, dif_neg (by omega), Lib.decDigits, dif_pos (by omega), dig_nat, show ((u : Int) / 10) = ((u / 10 : Nat) : Int) by omega, dig_nat, show u / 10 % 10 = u / 10 by omega]
  rfl
theorem itoa1 (u : Nat) (h : u < 10) : (⟨#[48]⟩ ++ ⟨(Lib.decDigits u).toArray⟩ : ByteArray) = dgs u 2 := by
  rw [dgs2, Lib.decDigits, dif_pos h, dig_nat, show ((u : Int) / 10) = ((0 : Nat) : Int) by omega, dig_nat, show u % 10 = u by omega]
  rfl
theorem itoa4 (y : Int) (h : 1000 ≤ y) (h' : y ≤ 9999) : (⟨(Lib.itoa y).toArray⟩ : ByteArray) = dgs y 4 := by
  obtain ⟨u, rfl⟩ : ∃ u : Nat, y = u := ⟨y.toNat, by omega⟩
  have e : Lib.itoa (u : Int) = Lib.decDigits u := by unfold Lib.itoa; rw [if_neg (by omega)]; rfl
  rw [e, dgs4, Lib.decDigits, dif_neg (by omega), Lib.decDigits, dif_neg (by omega), Lib.decDigits, dif_neg (by omega), Lib.decDigits, dif_pos (by omega), dig_nat, show ((u : Int) / 10) = ((u / 10 : Nat) : Int) by omega, dig_nat, show ((u : Int) / 100) = ((u / 10 / 10 : Nat) : Int) by omega, dig_nat, show ((u : Int) / 1000) = ((u / 10 / 10 / 10 : Nat) : Int) by omega, dig_nat, show u / 10 / 10 / 10 % 10 = u / 10 / 10 / 10 by omega]
  rfl
theorem ft10_eq (y m d : Int) : ft10 y m d = ⟨#[dig (y / 1000), dig (y / 100), dig (y / 10), dig y, 45, dig (m / 10), dig m, 45, dig (d / 10), dig d]⟩ := by
  unfold ft10; rw [dgs4, dgs2, dgs2]; rfl
theorem ft13_eq (y m d h : Int) : ft10 y m d ++ ⟨#[84]⟩ ++ dgs h 2 = ⟨#[dig (y / 1000), dig (y / 100), dig (y / 10), dig y, 45, dig (m / 10), dig m, 45, dig (d / 10), dig d, 84, dig (h / 10), dig h]⟩ := by
  rw [ft10_eq, dgs2]; rfl
theorem bt_mk (l : Array UInt8) (k : Nat) (h : k < l.size) : bt ⟨l⟩ k = ((l[k]).toNat : Int) := by
  unfold bt; rw [dif_pos (show k < (ByteArray.mk l).size from h)]; rfl
theorem dig_bd (x : Int) : 48 ≤ 48 + x % 10 ∧ 48 + x % 10 ≤ 57 := by omega
theorem digs2 {s : ByteArray} {a : Nat} (h0 : 48 ≤ bt s a ∧ bt s a ≤ 57) (h1 : 48 ≤ bt s (a + 1) ∧ bt s (a + 1) ≤ 57) : digB s a 2 = true := digB_iff.2 fun i hi => by
  match i, hi with
  | 0, _ => exact h0
  | 1, _ => exact h1
theorem digs4 {s : ByteArray} (h0 : 48 ≤ bt s 0 ∧ bt s 0 ≤ 57) (h1 : 48 ≤ bt s 1 ∧ bt s 1 ≤ 57) (h2 : 48 ≤ bt s 2 ∧ bt s 2 ≤ 57) (h3 : 48 ≤ bt s 3 ∧ bt s 3 ≤ 57) : digB s 0 4 = true := digB_iff.2 fun i hi => by
  match i, hi with
  | 0, _ => exact h0
  | 1, _ => exact h1
  | 2, _ => exact h2
  | 3, _ => exact h3
theorem text_back {y m d h n : Int} (hy : 2000 ≤ y ∧ y ≤ 2099) (hm : 1 ≤ m ∧ m ≤ 12) (hd : 1 ≤ d ∧ d ≤ 31) (hh : 0 ≤ h ∧ h ≤ 23) (hv1 : hv y m d h = n) (he1 : he y m d h = 0) : pv (ft y m d h) = n ∧ pe (ft y m d h) = 0 := by
  by_cases hp : 0 < h
  · have e : ft y m d h = ⟨#[dig (y / 1000), dig (y / 100), dig (y / 10), dig y, 45, dig (m / 10), dig m, 45, dig (d / 10), dig d, 84, dig (h / 10), dig h]⟩ := by unfold ft; rw [if_pos hp, ft13_eq]
    rw [e]
    generalize hs : (⟨#[dig (y / 1000), dig (y / 100), dig (y / 10), dig y, 45, dig (m / 10), dig m, 45, dig (d / 10), dig d, 84, dig (h / 10), dig h]⟩ : ByteArray) = s
    have z : s.size = 13 := by rw [← hs]; rfl
    have b0 : bt s 0 = 48 + y / 1000 % 10 := by rw [← hs, bt_mk _ 0 (by simp)]; exact dig_toNat _
    have b1 : bt s 1 = 48 + y / 100 % 10 := by rw [← hs, bt_mk _ 1 (by simp)]; exact dig_toNat _
    have b2 : bt s 2 = 48 + y / 10 % 10 := by rw [← hs, bt_mk _ 2 (by simp)]; exact dig_toNat _
    have b3 : bt s 3 = 48 + y % 10 := by rw [← hs, bt_mk _ 3 (by simp)]; exact dig_toNat _
    have b4 : bt s 4 = 45 := by rw [← hs, bt_mk _ 4 (by simp)]; rfl
    have b5 : bt s 5 = 48 + m / 10 % 10 := by rw [← hs, bt_mk _ 5 (by simp)]; exact dig_toNat _
    have b6 : bt s 6 = 48 + m % 10 := by rw [← hs, bt_mk _ 6 (by simp)]; exact dig_toNat _
    have b7 : bt s 7 = 45 := by rw [← hs, bt_mk _ 7 (by simp)]; rfl
    have b8 : bt s 8 = 48 + d / 10 % 10 := by rw [← hs, bt_mk _ 8 (by simp)]; exact dig_toNat _
    have b9 : bt s 9 = 48 + d % 10 := by rw [← hs, bt_mk _ 9 (by simp)]; exact dig_toNat _
    have b10 : bt s 10 = 84 := by rw [← hs, bt_mk _ 10 (by simp)]; rfl
    have b11 : bt s 11 = 48 + h / 10 % 10 := by rw [← hs, bt_mk _ 11 (by simp)]; exact dig_toNat _
    have b12 : bt s 12 = 48 + h % 10 := by rw [← hs, bt_mk _ 12 (by simp)]; exact dig_toNat _
    clear hs e
    have g := p_good (good13 z (digs4 (by omega) (by omega) (by omega) (by omega)) (digs2 (a := 5) (by omega) (by show 48 ≤ bt s 6 ∧ bt s 6 ≤ 57; omega)) (digs2 (a := 8) (by omega) (by show 48 ≤ bt s 9 ∧ bt s 9 ≤ 57; omega)) b4 b7 (digs2 (a := 11) (by omega) (by show 48 ≤ bt s 12 ∧ bt s 12 ≤ 57; omega)) b10)
    have n1 : num s 0 4 = y := by simp only [num, Nat.zero_add]; omega
    have n2 : num s 5 2 = m := by simp only [num, Nat.add_zero, Nat.reduceAdd]; omega
    have n3 : num s 8 2 = d := by simp only [num, Nat.add_zero, Nat.reduceAdd]; omega
    have n4 : num s 11 2 = h := by simp only [num, Nat.add_zero, Nat.reduceAdd]; omega
    have nh : Cal.hh s = h := by unfold Cal.hh; rw [if_pos z, n4]
    rw [n1, n2, n3, nh, hv1, he1] at g
    exact g
  · have h0 : h = 0 := by omega
    subst h0
    have e : ft y m d 0 = ⟨#[dig (y / 1000), dig (y / 100), dig (y / 10), dig y, 45, dig (m / 10), dig m, 45, dig (d / 10), dig d]⟩ := by unfold ft; rw [if_neg hp, ft10_eq]
    rw [e]
    generalize hs : (⟨#[dig (y / 1000), dig (y / 100), dig (y / 10), dig y, 45, dig (m / 10), dig m, 45, dig (d / 10), dig d]⟩ : ByteArray) = s
    have z : s.size = 10 := by rw [← hs]; rfl
    have b0 : bt s 0 = 48 + y / 1000 % 10 := by rw [← hs, bt_mk _ 0 (by simp)]; exact dig_toNat _
    have b1 : bt s 1 = 48 + y / 100 % 10 := by rw [← hs, bt_mk _ 1 (by simp)]; exact dig_toNat _
    have b2 : bt s 2 = 48 + y / 10 % 10 := by rw [← hs, bt_mk _ 2 (by simp)]; exact dig_toNat _
    have b3 : bt s 3 = 48 + y % 10 := by rw [← hs, bt_mk _ 3 (by simp)]; exact dig_toNat _
    have b4 : bt s 4 = 45 := by rw [← hs, bt_mk _ 4 (by simp)]; rfl
    have b5 : bt s 5 = 48 + m / 10 % 10 := by rw [← hs, bt_mk _ 5 (by simp)]; exact dig_toNat _
    have b6 : bt s 6 = 48 + m % 10 := by rw [← hs, bt_mk _ 6 (by simp)]; exact dig_toNat _
    have b7 : bt s 7 = 45 := by rw [← hs, bt_mk _ 7 (by simp)]; rfl
    have b8 : bt s 8 = 48 + d / 10 % 10 := by rw [← hs, bt_mk _ 8 (by simp)]; exact dig_toNat _
    have b9 : bt s 9 = 48 + d % 10 := by rw [← hs, bt_mk _ 9 (by simp)]; exact dig_toNat _
    clear hs e
    have g := p_good (good10 z (digs4 (by omega) (by omega) (by omega) (by omega)) (digs2 (a := 5) (by omega) (by show 48 ≤ bt s 6 ∧ bt s 6 ≤ 57; omega)) (digs2 (a := 8) (by omega) (by show 48 ≤ bt s 9 ∧ bt s 9 ≤ 57; omega)) b4 b7)
    have n1 : num s 0 4 = y := by simp only [num, Nat.zero_add]; omega
    have n2 : num s 5 2 = m := by simp only [num, Nat.add_zero, Nat.reduceAdd]; omega
    have n3 : num s 8 2 = d := by simp only [num, Nat.add_zero, Nat.reduceAdd]; omega
    have nh : Cal.hh s = 0 := by unfold Cal.hh; rw [if_neg (by omega)]
    rw [n1, n2, n3, nh, hv1, he1] at g
    exact g
end Go.Proofs.YtnidojfnpmhjkaaDoor.Cal
