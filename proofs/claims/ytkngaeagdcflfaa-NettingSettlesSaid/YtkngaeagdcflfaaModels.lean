/- The functions' models on the typed machine, printed by a program of mine; that they are the code's is checked by the kernel. -/
import Derived.Test.YtkngaeagdcflfaaXI
import Derived.Test.YtkngaeagdcflfaaProg
import Derived.KernelRfl
namespace Go.Proofs.Ytkngaeagdcflfaa
namespace Abs
set_option maxRecDepth 100000
set_option linter.unusedVariables false
theorem mixed : Try.prog.follows .mixedOrders = true := by kernel_rfl
abbrev tS0 : Ty := .tup [(.int .i64), (.int .i64), (.int .i64)]
abbrev DS0 : Type := Int × Int × Int × Unit
def ttab : Nat → Option Ty := fun n => if Nat.beq n 3 = true then some (.int .i64) else if Nat.beq n 39 = true then some tS0 else if Nat.beq n 43 = true then some (.int .i64) else if Nat.beq n 44 = true then some (.int .i64) else none
def gtab : GXT := fun _ => none
def hcl : List Nat := [9, 21, 22, 37, 38, 39, 40, 41, 44]
/- 24 treaty/amount.Valid -/
def r24_0 : List Ins := [⟨some 2, none, .mov (.k (.bool false))⟩]
def r24_1 : List Ins := [⟨some 3, none, .mov (.t 0)⟩,
  ⟨some 4, none, .bin .leq (.k (.int .i64 (-17592186044416))) (.t 3)⟩,
  ⟨some 5, none, .mov (.t 4)⟩,
  ⟨some 6, some (5, true), .mov (.t 0)⟩,
  ⟨some 7, some (5, true), .bin .leq (.t 6) (.k (.int .i64 17592186044416))⟩,
  ⟨some 8, none, .pick (.t 5) (.t 7) (.k (.bool false))⟩,
  ⟨some 2, none, .mov (.t 8)⟩]
def x24 : XC := (.seq (.ops false r24_0) (.seq (.ops false r24_1) .ret))
theorem F24 : Fn Try.prog 24 9 x24.er [.t 2] := ⟨Try.f24, hcl, Try.func24, by kernel_rfl, by kernel_rfl, by kernel_rfl, by kernel_rfl⟩
noncomputable def m24 (a0 : Int) : Option (Bool × Unit) :=
  some (cond (iLe (-17592186044416) a0) (iLe a0 17592186044416) false, ())
noncomputable def cfg24 : Cfg := ⟨ttab, gtab, [], []⟩
theorem eqn24 (x : Int × Unit) : xfun cfg24 x24 9 [.t 2] [(.int .i64)] [.bool] x = m24 x.1 := by kernel_rfl
noncomputable def i24 : PI := ⟨24, [(.int .i64)], [.bool], fun (x : Int × Unit) => m24 x.1⟩
theorem oki24 : POk Try.prog (gx gtab) i24 := pok mixed (cfg_nil _ _ : CfgOk _ cfg24) F24 eqn24
/- 14 treaty/netting.Validate -/
def r14_0 : List Ins := [⟨some 2, none, .mov (.k (.int .i64 0))⟩]
def r14_1 : List Ins := [⟨some 5, none, .mov (.t 0)⟩,
  ⟨some 6, none, .len (.t 5)⟩,
  ⟨some 7, none, .bin .gtr (.t 6) (.k (.int .i64 65536))⟩]
def r14_2 : List Ins := [⟨some 2, none, .mov (.k (.int .i64 4))⟩]
def r14_3 : List Ins := [⟨some 8, none, .mov (.t 0)⟩,
  ⟨some 9, none, .len (.t 8)⟩,
  ⟨some 10, none, .mov (.k (.int .i64 0))⟩]
def r14_4 : List Ins := [⟨some 11, none, .bin .lss (.t 10) (.t 9)⟩]
def r14_5 : List Ins := [⟨some 12, none, .iaddr 3 (.t 8) (.t 10)⟩,
  ⟨some 13, none, .load 3 true (.t 12)⟩,
  ⟨some 4, none, .alloc 39 (.agg #[.int .i64 0, .int .i64 0, .int .i64 0])⟩,
  ⟨none, none, .store 3 (.t 4) (.t 13)⟩]
def r14_6 : List Ins := [⟨some 14, none, .faddr 0 (.t 4)⟩,
  ⟨some 15, none, .load 1 false (.t 14)⟩,
  ⟨some 16, none, .bin .lss (.t 15) (.k (.int .i64 0))⟩,
  ⟨some 17, none, .mov (.t 16)⟩,
  ⟨some 18, some (17, false), .faddr 0 (.t 4)⟩,
  ⟨some 19, some (17, false), .load 1 false (.t 18)⟩,
  ⟨some 20, some (17, false), .bin .gtr (.t 19) (.k (.int .i64 15))⟩,
  ⟨some 21, none, .pick (.t 17) (.k (.bool true)) (.t 20)⟩,
  ⟨some 22, none, .mov (.t 21)⟩,
  ⟨some 23, some (22, false), .faddr 1 (.t 4)⟩,
  ⟨some 24, some (22, false), .load 1 false (.t 23)⟩,
  ⟨some 25, some (22, false), .bin .lss (.t 24) (.k (.int .i64 0))⟩,
  ⟨some 26, none, .pick (.t 22) (.k (.bool true)) (.t 25)⟩,
  ⟨some 27, none, .mov (.t 26)⟩,
  ⟨some 28, some (27, false), .faddr 1 (.t 4)⟩,
  ⟨some 29, some (27, false), .load 1 false (.t 28)⟩,
  ⟨some 30, some (27, false), .bin .gtr (.t 29) (.k (.int .i64 15))⟩,
  ⟨some 31, none, .pick (.t 27) (.k (.bool true)) (.t 30)⟩,
  ⟨some 32, none, .mov (.t 31)⟩,
  ⟨some 33, some (32, false), .faddr 0 (.t 4)⟩,
  ⟨some 34, some (32, false), .load 1 false (.t 33)⟩,
  ⟨some 35, some (32, false), .faddr 1 (.t 4)⟩,
  ⟨some 36, some (32, false), .load 1 false (.t 35)⟩,
  ⟨some 37, some (32, false), .bin .eql (.t 34) (.t 36)⟩,
  ⟨some 38, none, .pick (.t 32) (.k (.bool true)) (.t 37)⟩]
def r14_7 : List Ins := [⟨some 2, none, .mov (.k (.int .i64 1))⟩]
def r14_8 : List Ins := [⟨some 39, none, .faddr 2 (.t 4)⟩,
  ⟨some 40, none, .load 1 false (.t 39)⟩,
  ⟨some 41, none, .bin .lss (.t 40) (.k (.int .i64 0))⟩,
  ⟨some 42, none, .mov (.t 41)⟩,
  ⟨some 43, some (42, false), .faddr 2 (.t 4)⟩,
  ⟨some 44, some (42, false), .load 1 false (.t 43)⟩,
  ⟨some 45, some (42, false), .call (.k (.func (.func 24) #[] #[])) [(.t 44)]⟩,
  ⟨some 46, some (42, false), .un .not (.t 45)⟩,
  ⟨some 47, none, .pick (.t 42) (.k (.bool true)) (.t 46)⟩]
def r14_9 : List Ins := [⟨some 2, none, .mov (.k (.int .i64 1))⟩]
def r14_10 : List Ins := [⟨some 48, none, .bin .add (.t 10) (.k (.int .i64 1))⟩,
  ⟨some 10, none, .mov (.t 48)⟩]
def r14_11 : List Ins := [⟨some 2, none, .mov (.k (.int .i64 0))⟩]
def x14 : XC := (.seq (.ops false r14_0) (.seq (.seq (.ops false r14_1) (.cond (.t 7) (.seq (.ops false r14_2) .ret) .skip)) (.seq (.seq (.ops false r14_3) (.block 0 (.loop [] ⟨49, [(8, (.list tS0)), (9, (.int .i64)), (10, (.int .i64))], [], []⟩ (.seq (.ops false r14_4) (.seq (.cond (.t 11) .skip (.exit 0)) (.seq (.block 1 (.seq (.ops false r14_5) (.seq (.seq (.ops false r14_6) (.cond (.t 38) (.seq (.ops false r14_7) .ret) .skip)) (.seq (.ops false r14_8) (.cond (.t 47) (.seq (.ops false r14_9) .ret) .skip))))) (.ops false r14_10))))))) (.seq (.ops false r14_11) .ret))))
theorem F14 : Fn Try.prog 14 49 x14.er [.t 2] := ⟨Try.f14, hcl, Try.func14, by kernel_rfl, by kernel_rfl, by kernel_rfl, by kernel_rfl⟩
noncomputable def m14 (a0 : List DS0) : Option (Int × Unit) :=
  cond (iLt 65536 (lenI a0))
  (some (4, ()))
  (loopO (S := (List DS0) × Int × Int × Unit) (R := Int × Unit) (fun s3 =>
    cond (iLt s3.2.2.1 s3.2.1)
    (cond (bnd s3.2.2.1 (lenI s3.1))
     (cond (cond (cond (cond (cond (iLt ((atI s3.1 s3.2.2.1 (0, 0, 0, ())).1) 0) true (iLt 15 ((atI s3.1 s3.2.2.1 (0, 0, 0, ())).1))) true (iLt ((atI s3.1 s3.2.2.1 (0, 0, 0, ())).2.1) 0)) true (iLt 15 ((atI s3.1 s3.2.2.1 (0, 0, 0, ())).2.1))) true (iEq ((atI s3.1 s3.2.2.1 (0, 0, 0, ())).1) ((atI s3.1 s3.2.2.1 (0, 0, 0, ())).2.1)))
      (some (.inr (1, ())))
      (cond (iLt ((atI s3.1 s3.2.2.1 (0, 0, 0, ())).2.2.1) 0)
       (some (.inr (1, ())))
       ((m24 ((atI s3.1 s3.2.2.1 (0, 0, 0, ())).2.2.1)).bind fun y4 =>
        cond (not y4.1)
        (some (.inr (1, ())))
        (some (.inl (s3.1, s3.2.1, iAdd .i64 s3.2.2.1 1, ())))))) none)
    (some (.inr (0, ()))))
   (a0, lenI a0, 0, ()))
noncomputable def cfg14 : Cfg := ⟨ttab, gtab, [i24], []⟩
theorem eqn14 (x : (List DS0) × Unit) : xfun cfg14 x14 49 [.t 2] [(.list tS0)] [(.int .i64)] x = m14 x.1 := by kernel_rfl
noncomputable def i14 : PI := ⟨14, [(.list tS0)], [(.int .i64)], fun (x : (List DS0) × Unit) => m14 x.1⟩
theorem oki14 : POk Try.prog (gx gtab) i14 := pok mixed (cfg_p oki24 (cfg_nil _ _) : CfgOk _ cfg14) F14 eqn14
/- 11 treaty/netting.Offset -/
def r11_0 : List Ins := [⟨some 2, none, .mov (.k (.slice none 0 0))⟩,
  ⟨some 3, none, .mov (.k (.int .i64 0))⟩]
def r11_1 : List Ins := [⟨some 12, none, .mov (.t 0)⟩,
  ⟨some 13, none, .call (.k (.func (.func 14) #[] #[])) [(.t 12)]⟩,
  ⟨some 4, none, .mov (.t 13)⟩]
def r11_2 : List Ins := [⟨some 14, none, .mov (.t 4)⟩,
  ⟨some 15, none, .bin .neq (.t 14) (.k (.int .i64 0))⟩]
def r11_3 : List Ins := [⟨some 16, none, .mov (.t 4)⟩,
  ⟨some 2, none, .mov (.k (.slice none 0 0))⟩,
  ⟨some 3, none, .mov (.t 16)⟩]
def r11_4 : List Ins := [⟨some 5, none, .alloca 44 1 256 (.int .i64 0)⟩]
def r11_5 : List Ins := [⟨some 17, none, .mov (.t 0)⟩,
  ⟨some 18, none, .len (.t 17)⟩,
  ⟨some 19, none, .mov (.k (.int .i64 0))⟩]
def r11_6 : List Ins := [⟨some 20, none, .bin .lss (.t 19) (.t 18)⟩]
def r11_7 : List Ins := [⟨some 21, none, .iaddr 3 (.t 17) (.t 19)⟩,
  ⟨some 22, none, .load 3 true (.t 21)⟩,
  ⟨some 7, none, .alloc 39 (.agg #[.int .i64 0, .int .i64 0, .int .i64 0])⟩,
  ⟨none, none, .store 3 (.t 7) (.t 22)⟩]
def r11_8 : List Ins := [⟨some 23, none, .faddr 0 (.t 7)⟩,
  ⟨some 24, none, .load 1 false (.t 23)⟩,
  ⟨some 25, none, .faddr 1 (.t 7)⟩,
  ⟨some 26, none, .load 1 false (.t 25)⟩,
  ⟨some 27, none, .aaddr 1 16 16 (.t 5) (.t 24)⟩,
  ⟨some 28, none, .aaddr 1 1 16 (.t 27) (.t 26)⟩,
  ⟨some 29, none, .load 1 false (.t 28)⟩,
  ⟨some 30, none, .faddr 2 (.t 7)⟩,
  ⟨some 31, none, .load 1 false (.t 30)⟩,
  ⟨some 32, none, .bin .add (.t 29) (.t 31)⟩,
  ⟨some 33, none, .aaddr 1 16 16 (.t 5) (.t 24)⟩,
  ⟨some 34, none, .aaddr 1 1 16 (.t 33) (.t 26)⟩,
  ⟨none, none, .store 1 (.t 34) (.t 32)⟩]
def r11_9 : List Ins := [⟨some 35, none, .bin .add (.t 19) (.k (.int .i64 1))⟩,
  ⟨some 19, none, .mov (.t 35)⟩]
def r11_10 : List Ins := [⟨some 8, none, .mov (.k (.slice none 0 0))⟩]
def r11_11 : List Ins := [⟨some 36, none, .mov (.k (.int .i64 0))⟩]
def r11_12 : List Ins := [⟨some 37, none, .bin .lss (.t 36) (.k (.int .i64 16))⟩]
def r11_13 : List Ins := [⟨some 38, none, .mov (.t 36)⟩,
  ⟨some 9, none, .mov (.t 38)⟩]
def r11_14 : List Ins := [⟨some 39, none, .mov (.k (.int .i64 0))⟩]
def r11_15 : List Ins := [⟨some 40, none, .bin .lss (.t 39) (.k (.int .i64 16))⟩]
def r11_16 : List Ins := [⟨some 41, none, .mov (.t 39)⟩,
  ⟨some 10, none, .mov (.t 41)⟩]
def r11_17 : List Ins := [⟨some 42, none, .mov (.t 9)⟩,
  ⟨some 43, none, .mov (.t 10)⟩,
  ⟨some 44, none, .aaddr 1 16 16 (.t 5) (.t 42)⟩,
  ⟨some 45, none, .aaddr 1 1 16 (.t 44) (.t 43)⟩,
  ⟨some 46, none, .load 1 false (.t 45)⟩,
  ⟨some 47, none, .mov (.t 10)⟩,
  ⟨some 48, none, .mov (.t 9)⟩,
  ⟨some 49, none, .aaddr 1 16 16 (.t 5) (.t 47)⟩,
  ⟨some 50, none, .aaddr 1 1 16 (.t 49) (.t 48)⟩,
  ⟨some 51, none, .load 1 false (.t 50)⟩,
  ⟨some 52, none, .bin .sub (.t 46) (.t 51)⟩,
  ⟨some 11, none, .mov (.t 52)⟩]
def r11_18 : List Ins := [⟨some 53, none, .mov (.t 11)⟩,
  ⟨some 54, none, .bin .leq (.t 53) (.k (.int .i64 0))⟩]
def r11_19 : List Ins := [⟨some 55, none, .mov (.t 11)⟩,
  ⟨some 56, none, .call (.k (.func (.func 24) #[] #[])) [(.t 55)]⟩,
  ⟨some 57, none, .un .not (.t 56)⟩]
def r11_20 : List Ins := [⟨some 2, none, .mov (.k (.slice none 0 0))⟩,
  ⟨some 3, none, .mov (.k (.int .i64 3))⟩]
def r11_21 : List Ins := [⟨some 58, none, .mov (.t 8)⟩,
  ⟨some 59, none, .mov (.t 9)⟩,
  ⟨some 60, none, .mov (.t 10)⟩,
  ⟨some 61, none, .mov (.t 11)⟩,
  ⟨some 62, none, .build [.int .i64 0, .int .i64 0, .int .i64 0] [(0, 1, (.t 59)), (1, 1, (.t 60)), (2, 1, (.t 61))]⟩,
  ⟨some 63, none, .bslice 39 3 [(.t 62)]⟩,
  ⟨some 64, none, .app 39 3 24 (.t 58) (.t 63)⟩,
  ⟨some 8, none, .mov (.t 64)⟩]
def r11_22 : List Ins := [⟨some 65, none, .bin .add (.t 39) (.k (.int .i64 1))⟩,
  ⟨some 39, none, .mov (.t 65)⟩]
def r11_23 : List Ins := [⟨some 66, none, .bin .add (.t 36) (.k (.int .i64 1))⟩,
  ⟨some 36, none, .mov (.t 66)⟩]
def r11_24 : List Ins := [⟨some 67, none, .mov (.t 8)⟩,
  ⟨some 2, none, .mov (.t 67)⟩,
  ⟨some 3, none, .mov (.k (.int .i64 0))⟩]
def x11 : XC := (.seq (.ops false r11_0) (.seq (.seq (.ops false r11_1) (.seq (.ops false r11_2) (.cond (.t 15) (.seq (.ops false r11_3) .ret) .skip))) (.seq (.ops false r11_4) (.seq (.seq (.ops false r11_5) (.block 0 (.loop [] ⟨68, [(17, (.list tS0)), (18, (.int .i64)), (19, (.int .i64))], [(5, .ptr 0 0 0)], [.row 44 (.int .i64) false]⟩ (.seq (.ops false r11_6) (.seq (.cond (.t 20) .skip (.exit 0)) (.seq (.block 1 (.seq (.ops false r11_7) (.ops true r11_8))) (.ops false r11_9))))))) (.seq (.ops false r11_10) (.seq (.seq (.ops false r11_11) (.block 2 (.loop [.gh 8 39 tS0] ⟨68, [(36, (.int .i64))], [(5, .ptr 0 0 0), (8, .row 1)], [.row 44 (.int .i64) false, .row 39 tS0 false]⟩ (.seq (.ops false r11_12) (.seq (.cond (.t 37) .skip (.exit 2)) (.seq (.block 3 (.seq (.ops false r11_13) (.seq (.ops false r11_14) (.block 4 (.loop [.gh 8 39 tS0] ⟨68, [(9, (.int .i64)), (36, (.int .i64)), (39, (.int .i64))], [(5, .ptr 0 0 0), (8, .row 1)], [.row 44 (.int .i64) false, .row 39 tS0 false]⟩ (.seq (.ops false r11_15) (.seq (.cond (.t 40) .skip (.exit 4)) (.seq (.block 5 (.seq (.ops false r11_16) (.seq (.ops true r11_17) (.seq (.seq (.ops false r11_18) (.cond (.t 54) (.exit 5) .skip)) (.seq (.seq (.ops false r11_19) (.cond (.t 57) (.seq (.ops false r11_20) .ret) .skip)) (.ops false r11_21)))))) (.ops false r11_22))))))))) (.ops false r11_23))))))) (.seq (.ops false r11_24) .ret)))))))
theorem F11 : Fn Try.prog 11 68 x11.er [.t 2, .t 3] := ⟨Try.f11, hcl, Try.func11, by kernel_rfl, by kernel_rfl, by kernel_rfl, by kernel_rfl⟩
noncomputable def m11 (a0 : List DS0) : Option ((List DS0) × Int × Unit) :=
  (m14 a0).bind fun y15 =>
  cond (iNe y15.1 0)
  (some (([] : List DS0), y15.1, ()))
  (loopO (S := (List DS0) × Int × Int × (List Int) × Unit) (R := (List DS0) × Int × Unit) (fun s16 =>
    cond (iLt s16.2.2.1 s16.2.1)
    (cond (bnd s16.2.2.1 (lenI s16.1))
     (cond (bnd ((atI s16.1 s16.2.2.1 (0, 0, 0, ())).1) ((16 : Nat) : Int))
      (cond (bnd ((atI s16.1 s16.2.2.1 (0, 0, 0, ())).2.1) ((16 : Nat) : Int))
       (cond (inB ((0 + Int.toNat ((atI s16.1 s16.2.2.1 (0, 0, 0, ())).1) * 16) + Int.toNat ((atI s16.1 s16.2.2.1 (0, 0, 0, ())).2.1) * 1) s16.2.2.2.1)
        (cond (bnd ((atI s16.1 s16.2.2.1 (0, 0, 0, ())).1) ((16 : Nat) : Int))
         (cond (bnd ((atI s16.1 s16.2.2.1 (0, 0, 0, ())).2.1) ((16 : Nat) : Int))
          (cond (inB ((0 + Int.toNat ((atI s16.1 s16.2.2.1 (0, 0, 0, ())).1) * 16) + Int.toNat ((atI s16.1 s16.2.2.1 (0, 0, 0, ())).2.1) * 1) s16.2.2.2.1)
           (some (.inl (s16.1, s16.2.1, iAdd .i64 s16.2.2.1 1, List.set s16.2.2.2.1 ((0 + Int.toNat ((atI s16.1 s16.2.2.1 (0, 0, 0, ())).1) * 16) + Int.toNat ((atI s16.1 s16.2.2.1 (0, 0, 0, ())).2.1) * 1) (iAdd .i64 (List.getD s16.2.2.2.1 ((0 + Int.toNat ((atI s16.1 s16.2.2.1 (0, 0, 0, ())).1) * 16) + Int.toNat ((atI s16.1 s16.2.2.1 (0, 0, 0, ())).2.1) * 1) 0) ((atI s16.1 s16.2.2.1 (0, 0, 0, ())).2.2.1)), ()))) none) none) none) none) none) none) none)
    (Option.map Sum.inr (loopO (S := Int × (List Int) × (List DS0) × Unit) (R := (List DS0) × Int × Unit) (fun s17 =>
       cond (iLt s17.1 16)
       (loopO (S := Int × Int × Int × (List Int) × (List DS0) × Unit) (R := (Int × (List Int) × (List DS0) × Unit) ⊕ ((List DS0) × Int × Unit)) (fun s18 =>
         cond (iLt s18.2.2.1 16)
         (cond (bnd s18.1 ((16 : Nat) : Int))
          (cond (bnd s18.2.2.1 ((16 : Nat) : Int))
           (cond (inB ((0 + Int.toNat s18.1 * 16) + Int.toNat s18.2.2.1 * 1) s18.2.2.2.1)
            (cond (bnd s18.2.2.1 ((16 : Nat) : Int))
             (cond (bnd s18.1 ((16 : Nat) : Int))
              (cond (inB ((0 + Int.toNat s18.2.2.1 * 16) + Int.toNat s18.1 * 1) s18.2.2.2.1)
               (cond (iLe (iSub .i64 (List.getD s18.2.2.2.1 ((0 + Int.toNat s18.1 * 16) + Int.toNat s18.2.2.1 * 1) 0) (List.getD s18.2.2.2.1 ((0 + Int.toNat s18.2.2.1 * 16) + Int.toNat s18.1 * 1) 0)) 0)
                (some (.inl (s18.1, s18.2.1, iAdd .i64 s18.2.2.1 1, s18.2.2.2.1, s18.2.2.2.2.1, ())))
                ((m24 (iSub .i64 (List.getD s18.2.2.2.1 ((0 + Int.toNat s18.1 * 16) + Int.toNat s18.2.2.1 * 1) 0) (List.getD s18.2.2.2.1 ((0 + Int.toNat s18.2.2.1 * 16) + Int.toNat s18.1 * 1) 0))).bind fun y19 =>
                 cond (not y19.1)
                 (some (.inr (.inr (([] : List DS0), 3, ()))))
                 (cond (fits (List.length s18.2.2.2.2.1 + List.length ([(s18.1, s18.2.2.1, iSub .i64 (List.getD s18.2.2.2.1 ((0 + Int.toNat s18.1 * 16) + Int.toNat s18.2.2.1 * 1) 0) (List.getD s18.2.2.2.1 ((0 + Int.toNat s18.2.2.1 * 16) + Int.toNat s18.1 * 1) 0), ())] : List DS0)) 24)
                  (some (.inl (s18.1, s18.2.1, iAdd .i64 s18.2.2.1 1, s18.2.2.2.1, s18.2.2.2.2.1 ++ ([(s18.1, s18.2.2.1, iSub .i64 (List.getD s18.2.2.2.1 ((0 + Int.toNat s18.1 * 16) + Int.toNat s18.2.2.1 * 1) 0) (List.getD s18.2.2.2.1 ((0 + Int.toNat s18.2.2.1 * 16) + Int.toNat s18.1 * 1) 0), ())] : List DS0), ()))) none))) none) none) none) none) none) none)
         (some (.inr (.inl (iAdd .i64 s18.2.1 1, s18.2.2.2.1, s18.2.2.2.2.1, ())))))
        (s17.1, s17.1, 0, s17.2.1, s17.2.2.1, ()))
       (some (.inr (s17.2.2.1, 0, ()))))
      (0, s16.2.2.2.1, ([] : List DS0), ()))))
   (a0, lenI a0, 0, List.replicate 256 0, ()))
noncomputable def cfg11 : Cfg := ⟨ttab, gtab, [i14, i24], []⟩
theorem eqn11 (x : (List DS0) × Unit) : xfun cfg11 x11 68 [.t 2, .t 3] [(.list tS0)] [(.list tS0), (.int .i64)] x = m11 x.1 := by kernel_rfl
noncomputable def i11 : PI := ⟨11, [(.list tS0)], [(.list tS0), (.int .i64)], fun (x : (List DS0) × Unit) => m11 x.1⟩
theorem oki11 : POk Try.prog (gx gtab) i11 := pok mixed (cfg_p oki14 (cfg_p oki24 (cfg_nil _ _)) : CfgOk _ cfg11) F11 eqn11
/- 27 treaty/netting.Payments$1 -/
def r27_0 : List Ins := [⟨some 4, none, .mov (.k (.bool false))⟩]
def r27_1 : List Ins := [⟨some 5, none, .mov (.t 0)⟩,
  ⟨some 6, none, .mov (.t 1)⟩,
  ⟨some 7, none, .bin .lss (.t 5) (.t 6)⟩,
  ⟨some 4, none, .mov (.t 7)⟩]
def x27 : XC := (.seq (.ops false r27_0) (.seq (.ops false r27_1) .ret))
theorem F27 : Fn Try.prog 27 8 x27.er [.t 4] := ⟨Try.f27, hcl, Try.func27, by kernel_rfl, by kernel_rfl, by kernel_rfl, by kernel_rfl⟩
noncomputable def m27 (a0 : Int) (a1 : Int) : Option (Bool × Unit) :=
  some (iLt a0 a1, ())
noncomputable def cfg27 : Cfg := ⟨ttab, gtab, [], []⟩
theorem eqn27 (x : Int × Int × Unit) : xfun cfg27 x27 8 [.t 4] [(.int .i64), (.int .i64)] [.bool] x = m27 x.1 x.2.1 := by kernel_rfl
noncomputable def i27 : PI := ⟨27, [(.int .i64), (.int .i64)], [.bool], fun (x : Int × Int × Unit) => m27 x.1 x.2.1⟩
theorem oki27 : POk Try.prog (gx gtab) i27 := pok mixed (cfg_nil _ _ : CfgOk _ cfg27) F27 eqn27
/- 26 treaty/netting.first[int] -/
def r26_0 : List Ins := [⟨some 4, none, .mov (.k (.int .i64 0))⟩]
def r26_1 : List Ins := [⟨some 5, none, .mov (.k (.int .i64 0))⟩]
def r26_2 : List Ins := [⟨some 7, none, .mov (.t 0)⟩,
  ⟨some 8, none, .len (.t 7)⟩,
  ⟨some 9, none, .mov (.k (.int .i64 0))⟩]
def r26_3 : List Ins := [⟨some 10, none, .bin .lss (.t 9) (.t 8)⟩]
def r26_4 : List Ins := [⟨some 11, none, .mov (.t 9)⟩,
  ⟨some 6, none, .mov (.t 11)⟩]
def r26_5 : List Ins := [⟨some 12, none, .mov (.t 1)⟩,
  ⟨some 13, none, .mov (.t 0)⟩,
  ⟨some 14, none, .mov (.t 6)⟩,
  ⟨some 15, none, .iaddr 1 (.t 13) (.t 14)⟩,
  ⟨some 16, none, .load 1 false (.t 15)⟩,
  ⟨some 17, none, .mov (.t 0)⟩,
  ⟨some 18, none, .mov (.t 5)⟩,
  ⟨some 19, none, .iaddr 1 (.t 17) (.t 18)⟩,
  ⟨some 20, none, .load 1 false (.t 19)⟩,
  ⟨some 21, none, .call (.t 12) [(.t 16), (.t 20)]⟩]
def r26_6 : List Ins := [⟨some 22, none, .mov (.t 6)⟩,
  ⟨some 5, none, .mov (.t 22)⟩]
def r26_7 : List Ins := [⟨some 23, none, .bin .add (.t 9) (.k (.int .i64 1))⟩,
  ⟨some 9, none, .mov (.t 23)⟩]
def r26_8 : List Ins := [⟨some 24, none, .mov (.t 5)⟩,
  ⟨some 4, none, .mov (.t 24)⟩]
def x26 : XC := (.seq (.ops false r26_0) (.seq (.ops false r26_1) (.seq (.seq (.ops false r26_2) (.block 0 (.loop [] ⟨25, [(0, (.list (.int .i64))), (1, (.fnc 27)), (5, (.int .i64)), (8, (.int .i64)), (9, (.int .i64))], [], []⟩ (.seq (.ops false r26_3) (.seq (.cond (.t 10) .skip (.exit 0)) (.seq (.block 1 (.seq (.ops false r26_4) (.seq (.ops true r26_5) (.cond (.t 21) (.ops false r26_6) .skip)))) (.ops false r26_7))))))) (.seq (.ops false r26_8) .ret))))
theorem F26 : Fn Try.prog 26 25 x26.er [.t 4] := ⟨Try.f26, hcl, Try.func26, by kernel_rfl, by kernel_rfl, by kernel_rfl, by kernel_rfl⟩
noncomputable def m26 (a0 : List Int) (a1 : Unit) : Option (Int × Unit) :=
  loopO (S := (List Int) × Unit × Int × Int × Int × Unit) (R := Int × Unit) (fun s26 =>
   cond (iLt s26.2.2.2.2.1 s26.2.2.2.1)
   (cond (bnd s26.2.2.2.2.1 (lenI s26.1))
    (cond (bnd s26.2.2.1 (lenI s26.1))
     ((m27 (atI s26.1 s26.2.2.2.2.1 0) (atI s26.1 s26.2.2.1 0)).bind fun y27 =>
      cond y27.1
      (some (.inl (s26.1, s26.2.1, s26.2.2.2.2.1, s26.2.2.2.1, iAdd .i64 s26.2.2.2.2.1 1, ())))
      (some (.inl (s26.1, s26.2.1, s26.2.2.1, s26.2.2.2.1, iAdd .i64 s26.2.2.2.2.1 1, ())))) none) none)
   (some (.inr (s26.2.2.1, ()))))
  (a0, (), 0, lenI a0, 0, ())
noncomputable def cfg26 : Cfg := ⟨ttab, gtab, [i27], []⟩
theorem eqn26 (x : (List Int) × Unit × Unit) : xfun cfg26 x26 25 [.t 4] [(.list (.int .i64)), (.fnc 27)] [(.int .i64)] x = m26 x.1 x.2.1 := by kernel_rfl
noncomputable def i26 : PI := ⟨26, [(.list (.int .i64)), (.fnc 27)], [(.int .i64)], fun (x : (List Int) × Unit × Unit) => m26 x.1 x.2.1⟩
theorem oki26 : POk Try.prog (gx gtab) i26 := pok mixed (cfg_p oki27 (cfg_nil _ _) : CfgOk _ cfg26) F26 eqn26
/- 28 treaty/netting.Payments$2 -/
def r28_0 : List Ins := [⟨some 4, none, .mov (.k (.bool false))⟩]
def r28_1 : List Ins := [⟨some 5, none, .mov (.t 0)⟩,
  ⟨some 6, none, .mov (.t 1)⟩,
  ⟨some 7, none, .bin .gtr (.t 5) (.t 6)⟩,
  ⟨some 4, none, .mov (.t 7)⟩]
def x28 : XC := (.seq (.ops false r28_0) (.seq (.ops false r28_1) .ret))
theorem F28 : Fn Try.prog 28 8 x28.er [.t 4] := ⟨Try.f28, hcl, Try.func28, by kernel_rfl, by kernel_rfl, by kernel_rfl, by kernel_rfl⟩
noncomputable def m28 (a0 : Int) (a1 : Int) : Option (Bool × Unit) :=
  some (iLt a1 a0, ())
noncomputable def cfg28 : Cfg := ⟨ttab, gtab, [], []⟩
theorem eqn28 (x : Int × Int × Unit) : xfun cfg28 x28 8 [.t 4] [(.int .i64), (.int .i64)] [.bool] x = m28 x.1 x.2.1 := by kernel_rfl
noncomputable def i28 : PI := ⟨28, [(.int .i64), (.int .i64)], [.bool], fun (x : Int × Int × Unit) => m28 x.1 x.2.1⟩
theorem oki28 : POk Try.prog (gx gtab) i28 := pok mixed (cfg_nil _ _ : CfgOk _ cfg28) F28 eqn28
/- 26 treaty/netting.first[int] -/
def x26_1 : XC := (.seq (.ops false r26_0) (.seq (.ops false r26_1) (.seq (.seq (.ops false r26_2) (.block 0 (.loop [] ⟨25, [(0, (.list (.int .i64))), (1, (.fnc 28)), (5, (.int .i64)), (8, (.int .i64)), (9, (.int .i64))], [], []⟩ (.seq (.ops false r26_3) (.seq (.cond (.t 10) .skip (.exit 0)) (.seq (.block 1 (.seq (.ops false r26_4) (.seq (.ops true r26_5) (.cond (.t 21) (.ops false r26_6) .skip)))) (.ops false r26_7))))))) (.seq (.ops false r26_8) .ret))))
theorem F26_1 : Fn Try.prog 26 25 x26_1.er [.t 4] := ⟨Try.f26, hcl, Try.func26, by kernel_rfl, by kernel_rfl, by kernel_rfl, by kernel_rfl⟩
noncomputable def m26_1 (a0 : List Int) (a1 : Unit) : Option (Int × Unit) :=
  loopO (S := (List Int) × Unit × Int × Int × Int × Unit) (R := Int × Unit) (fun s31 =>
   cond (iLt s31.2.2.2.2.1 s31.2.2.2.1)
   (cond (bnd s31.2.2.2.2.1 (lenI s31.1))
    (cond (bnd s31.2.2.1 (lenI s31.1))
     ((m28 (atI s31.1 s31.2.2.2.2.1 0) (atI s31.1 s31.2.2.1 0)).bind fun y32 =>
      cond y32.1
      (some (.inl (s31.1, s31.2.1, s31.2.2.2.2.1, s31.2.2.2.1, iAdd .i64 s31.2.2.2.2.1 1, ())))
      (some (.inl (s31.1, s31.2.1, s31.2.2.1, s31.2.2.2.1, iAdd .i64 s31.2.2.2.2.1 1, ())))) none) none)
   (some (.inr (s31.2.2.1, ()))))
  (a0, (), 0, lenI a0, 0, ())
noncomputable def cfg26_1 : Cfg := ⟨ttab, gtab, [i28], []⟩
theorem eqn26_1 (x : (List Int) × Unit × Unit) : xfun cfg26_1 x26_1 25 [.t 4] [(.list (.int .i64)), (.fnc 28)] [(.int .i64)] x = m26_1 x.1 x.2.1 := by kernel_rfl
noncomputable def i26_1 : PI := ⟨26, [(.list (.int .i64)), (.fnc 28)], [(.int .i64)], fun (x : (List Int) × Unit × Unit) => m26_1 x.1 x.2.1⟩
theorem oki26_1 : POk Try.prog (gx gtab) i26_1 := pok mixed (cfg_p oki28 (cfg_nil _ _) : CfgOk _ cfg26_1) F26_1 eqn26_1
/- 17 treaty/netting.Payments -/
def r17_0 : List Ins := [⟨some 2, none, .mov (.k (.slice none 0 0))⟩,
  ⟨some 3, none, .mov (.k (.int .i64 0))⟩]
def r17_1 : List Ins := [⟨some 12, none, .mov (.t 0)⟩,
  ⟨some 13, none, .len (.t 12)⟩,
  ⟨some 14, none, .bin .gtr (.t 13) (.k (.int .i64 16))⟩]
def r17_2 : List Ins := [⟨some 2, none, .mov (.k (.slice none 0 0))⟩,
  ⟨some 3, none, .mov (.k (.int .i64 4))⟩]
def r17_3 : List Ins := [⟨some 4, none, .mov (.k (.int .i64 0))⟩]
def r17_4 : List Ins := [⟨some 15, none, .mov (.t 0)⟩,
  ⟨some 16, none, .len (.t 15)⟩,
  ⟨some 17, none, .mov (.k (.int .i64 0))⟩]
def r17_5 : List Ins := [⟨some 18, none, .bin .lss (.t 17) (.t 16)⟩]
def r17_6 : List Ins := [⟨some 19, none, .iaddr 1 (.t 15) (.t 17)⟩,
  ⟨some 20, none, .load 1 false (.t 19)⟩,
  ⟨some 6, none, .mov (.t 20)⟩]
def r17_7 : List Ins := [⟨some 21, none, .mov (.t 6)⟩,
  ⟨some 22, none, .call (.k (.func (.func 24) #[] #[])) [(.t 21)]⟩,
  ⟨some 23, none, .un .not (.t 22)⟩]
def r17_8 : List Ins := [⟨some 2, none, .mov (.k (.slice none 0 0))⟩,
  ⟨some 3, none, .mov (.k (.int .i64 1))⟩]
def r17_9 : List Ins := [⟨some 24, none, .mov (.t 4)⟩,
  ⟨some 25, none, .mov (.t 6)⟩,
  ⟨some 26, none, .bin .add (.t 24) (.t 25)⟩,
  ⟨some 4, none, .mov (.t 26)⟩]
def r17_10 : List Ins := [⟨some 27, none, .bin .add (.t 17) (.k (.int .i64 1))⟩,
  ⟨some 17, none, .mov (.t 27)⟩]
def r17_11 : List Ins := [⟨some 28, none, .mov (.t 4)⟩,
  ⟨some 29, none, .bin .neq (.t 28) (.k (.int .i64 0))⟩]
def r17_12 : List Ins := [⟨some 2, none, .mov (.k (.slice none 0 0))⟩,
  ⟨some 3, none, .mov (.k (.int .i64 14))⟩]
def r17_13 : List Ins := [⟨some 7, none, .alloca 43 1 16 (.int .i64 0)⟩]
def r17_14 : List Ins := [⟨some 30, none, .aslice 1 16 (.t 7) none none⟩,
  ⟨some 31, none, .mov (.t 0)⟩,
  ⟨some 32, none, .copy 1 (.t 30) (.t 31)⟩]
def r17_15 : List Ins := [⟨some 8, none, .mov (.k (.slice none 0 0))⟩]
def r17_16 : List Ins := [⟨some 33, none, .aslice 1 16 (.t 7) none none⟩,
  ⟨some 34, none, .call (.k (.func (.func 26) #[] #[])) [(.t 33), (.k (.func (.func 27) #[] #[]))]⟩,
  ⟨some 9, none, .mov (.t 34)⟩]
def r17_17 : List Ins := [⟨some 35, none, .aslice 1 16 (.t 7) none none⟩,
  ⟨some 36, none, .call (.k (.func (.func 26) #[] #[])) [(.t 35), (.k (.func (.func 28) #[] #[]))]⟩,
  ⟨some 10, none, .mov (.t 36)⟩]
def r17_18 : List Ins := [⟨some 37, none, .mov (.t 9)⟩,
  ⟨some 38, none, .aaddr 1 1 16 (.t 7) (.t 37)⟩,
  ⟨some 39, none, .load 1 false (.t 38)⟩,
  ⟨some 40, none, .un .neg (.t 39)⟩,
  ⟨some 41, none, .mov (.t 10)⟩,
  ⟨some 42, none, .aaddr 1 1 16 (.t 7) (.t 41)⟩,
  ⟨some 43, none, .load 1 false (.t 42)⟩,
  ⟨some 44, none, .min2 (.t 40) (.t 43)⟩,
  ⟨some 11, none, .mov (.t 44)⟩]
def r17_19 : List Ins := [⟨some 45, none, .mov (.t 11)⟩,
  ⟨some 46, none, .bin .leq (.t 45) (.k (.int .i64 0))⟩]
def r17_20 : List Ins := [⟨some 47, none, .mov (.t 8)⟩,
  ⟨some 2, none, .mov (.t 47)⟩,
  ⟨some 3, none, .mov (.k (.int .i64 0))⟩]
def r17_21 : List Ins := [⟨some 48, none, .mov (.t 9)⟩,
  ⟨some 49, none, .aaddr 1 1 16 (.t 7) (.t 48)⟩,
  ⟨some 50, none, .load 1 false (.t 49)⟩,
  ⟨some 51, none, .mov (.t 11)⟩,
  ⟨some 52, none, .bin .add (.t 50) (.t 51)⟩,
  ⟨some 53, none, .aaddr 1 1 16 (.t 7) (.t 48)⟩,
  ⟨none, none, .store 1 (.t 53) (.t 52)⟩]
def r17_22 : List Ins := [⟨some 54, none, .mov (.t 10)⟩,
  ⟨some 55, none, .aaddr 1 1 16 (.t 7) (.t 54)⟩,
  ⟨some 56, none, .load 1 false (.t 55)⟩,
  ⟨some 57, none, .mov (.t 11)⟩,
  ⟨some 58, none, .bin .sub (.t 56) (.t 57)⟩,
  ⟨some 59, none, .aaddr 1 1 16 (.t 7) (.t 54)⟩,
  ⟨none, none, .store 1 (.t 59) (.t 58)⟩]
def r17_23 : List Ins := [⟨some 60, none, .mov (.t 8)⟩,
  ⟨some 61, none, .mov (.t 9)⟩,
  ⟨some 62, none, .mov (.t 10)⟩,
  ⟨some 63, none, .mov (.t 11)⟩,
  ⟨some 64, none, .build [.int .i64 0, .int .i64 0, .int .i64 0] [(0, 1, (.t 61)), (1, 1, (.t 62)), (2, 1, (.t 63))]⟩,
  ⟨some 65, none, .bslice 39 3 [(.t 64)]⟩,
  ⟨some 66, none, .app 39 3 24 (.t 60) (.t 65)⟩,
  ⟨some 8, none, .mov (.t 66)⟩]
def x17 : XC := (.seq (.ops false r17_0) (.seq (.seq (.ops false r17_1) (.cond (.t 14) (.seq (.ops false r17_2) .ret) .skip)) (.seq (.ops false r17_3) (.seq (.seq (.ops false r17_4) (.block 0 (.loop [] ⟨67, [(0, (.list (.int .i64))), (4, (.int .i64)), (15, (.list (.int .i64))), (16, (.int .i64)), (17, (.int .i64))], [], []⟩ (.seq (.ops false r17_5) (.seq (.cond (.t 18) .skip (.exit 0)) (.seq (.block 1 (.seq (.ops false r17_6) (.seq (.seq (.ops false r17_7) (.cond (.t 23) (.seq (.ops false r17_8) .ret) .skip)) (.ops false r17_9)))) (.ops false r17_10))))))) (.seq (.seq (.ops false r17_11) (.cond (.t 29) (.seq (.ops false r17_12) .ret) .skip)) (.seq (.ops false r17_13) (.seq (.ops false r17_14) (.seq (.ops false r17_15) (.block 2 (.loop [.gh 8 39 tS0] ⟨67, [], [(7, .ptr 0 0 0), (8, .row 1)], [.row 43 (.int .i64) false, .row 39 tS0 false]⟩ (.block 3 (.seq (.ops false r17_16) (.seq (.ops false r17_17) (.seq (.ops true r17_18) (.seq (.seq (.ops false r17_19) (.cond (.t 46) (.seq (.ops false r17_20) .ret) .skip)) (.seq (.ops false r17_21) (.seq (.ops false r17_22) (.ops false r17_23))))))))))))))))))
theorem F17 : Fn Try.prog 17 67 x17.er [.t 2, .t 3] := ⟨Try.f17, hcl, Try.func17, by kernel_rfl, by kernel_rfl, by kernel_rfl, by kernel_rfl⟩
noncomputable def m17 (a0 : List Int) : Option ((List DS0) × Int × Unit) :=
  cond (iLt 16 (lenI a0))
  (some (([] : List DS0), 4, ()))
  (loopO (S := (List Int) × Int × (List Int) × Int × Int × Unit) (R := (List DS0) × Int × Unit) (fun s34 =>
    cond (iLt s34.2.2.2.2.1 s34.2.2.2.1)
    (cond (bnd s34.2.2.2.2.1 (lenI s34.2.2.1))
     ((m24 (atI s34.2.2.1 s34.2.2.2.2.1 0)).bind fun y35 =>
      cond (not y35.1)
      (some (.inr (([] : List DS0), 1, ())))
      (some (.inl (s34.1, iAdd .i64 s34.2.1 (atI s34.2.2.1 s34.2.2.2.2.1 0), s34.2.2.1, s34.2.2.2.1, iAdd .i64 s34.2.2.2.2.1 1, ())))) none)
    (Option.map Sum.inr (cond (iNe s34.2.1 0)
      (some (([] : List DS0), 14, ()))
      (cond (and (and true (or (iEq 0 0) (iLt 0 ((16 : Nat) : Int)))) (leN 16 (List.replicate 16 0)))
       (cond (leN ((Int.toNat 0) + (Int.toNat (((16 : Nat) : Int) - 0))) (List.replicate 16 0))
        (loopO (S := (List Int) × (List DS0) × Unit) (R := (List DS0) × Int × Unit) (fun s36 =>
          cond (and (and true (or (iEq 0 0) (iLt 0 ((16 : Nat) : Int)))) (leN 16 s36.1))
          ((m26 (List.take (Int.toNat (((16 : Nat) : Int) - 0)) (List.drop (Int.toNat 0) s36.1)) ()).bind fun y37 =>
           cond (and (and true (or (iEq 0 0) (iLt 0 ((16 : Nat) : Int)))) (leN 16 s36.1))
           ((m26_1 (List.take (Int.toNat (((16 : Nat) : Int) - 0)) (List.drop (Int.toNat 0) s36.1)) ()).bind fun y38 =>
            cond (bnd y37.1 ((16 : Nat) : Int))
            (cond (inB (0 + Int.toNat y37.1 * 1) s36.1)
             (cond (bnd y38.1 ((16 : Nat) : Int))
              (cond (inB (0 + Int.toNat y38.1 * 1) s36.1)
               (cond (iLe (iMin (iNeg .i64 (List.getD s36.1 (0 + Int.toNat y37.1 * 1) 0)) (List.getD s36.1 (0 + Int.toNat y38.1 * 1) 0)) 0)
                (some (.inr (s36.2.1, 0, ())))
                (cond (bnd y37.1 ((16 : Nat) : Int))
                 (cond (inB (0 + Int.toNat y37.1 * 1) s36.1)
                  (cond (bnd y37.1 ((16 : Nat) : Int))
                   (cond (inB (0 + Int.toNat y37.1 * 1) s36.1)
                    (cond (bnd y38.1 ((16 : Nat) : Int))
                     (cond (inB (0 + Int.toNat y38.1 * 1) (List.set s36.1 (0 + Int.toNat y37.1 * 1) (iAdd .i64 (List.getD s36.1 (0 + Int.toNat y37.1 * 1) 0) (iMin (iNeg .i64 (List.getD s36.1 (0 + Int.toNat y37.1 * 1) 0)) (List.getD s36.1 (0 + Int.toNat y38.1 * 1) 0)))))
                      (cond (bnd y38.1 ((16 : Nat) : Int))
                       (cond (inB (0 + Int.toNat y38.1 * 1) (List.set s36.1 (0 + Int.toNat y37.1 * 1) (iAdd .i64 (List.getD s36.1 (0 + Int.toNat y37.1 * 1) 0) (iMin (iNeg .i64 (List.getD s36.1 (0 + Int.toNat y37.1 * 1) 0)) (List.getD s36.1 (0 + Int.toNat y38.1 * 1) 0)))))
                        (cond (fits (List.length s36.2.1 + List.length ([(y37.1, y38.1, iMin (iNeg .i64 (List.getD s36.1 (0 + Int.toNat y37.1 * 1) 0)) (List.getD s36.1 (0 + Int.toNat y38.1 * 1) 0), ())] : List DS0)) 24)
                         (some (.inl (List.set (List.set s36.1 (0 + Int.toNat y37.1 * 1) (iAdd .i64 (List.getD s36.1 (0 + Int.toNat y37.1 * 1) 0) (iMin (iNeg .i64 (List.getD s36.1 (0 + Int.toNat y37.1 * 1) 0)) (List.getD s36.1 (0 + Int.toNat y38.1 * 1) 0)))) (0 + Int.toNat y38.1 * 1) (iSub .i64 (List.getD (List.set s36.1 (0 + Int.toNat y37.1 * 1) (iAdd .i64 (List.getD s36.1 (0 + Int.toNat y37.1 * 1) 0) (iMin (iNeg .i64 (List.getD s36.1 (0 + Int.toNat y37.1 * 1) 0)) (List.getD s36.1 (0 + Int.toNat y38.1 * 1) 0)))) (0 + Int.toNat y38.1 * 1) 0) (iMin (iNeg .i64 (List.getD s36.1 (0 + Int.toNat y37.1 * 1) 0)) (List.getD s36.1 (0 + Int.toNat y38.1 * 1) 0))), s36.2.1 ++ ([(y37.1, y38.1, iMin (iNeg .i64 (List.getD s36.1 (0 + Int.toNat y37.1 * 1) 0)) (List.getD s36.1 (0 + Int.toNat y38.1 * 1) 0), ())] : List DS0), ()))) none) none) none) none) none) none) none) none) none)) none) none) none) none) none) none)
         (cpy (List.replicate 16 0) (Int.toNat 0) (Int.toNat (((16 : Nat) : Int) - 0)) s34.1, ([] : List DS0), ())) none) none))))
   (a0, 0, a0, lenI a0, 0, ()))
noncomputable def cfg17 : Cfg := ⟨ttab, gtab, [i24, i26, i26_1], []⟩
theorem eqn17 (x : (List Int) × Unit) : xfun cfg17 x17 67 [.t 2, .t 3] [(.list (.int .i64))] [(.list tS0), (.int .i64)] x = m17 x.1 := by kernel_rfl
noncomputable def i17 : PI := ⟨17, [(.list (.int .i64))], [(.list tS0), (.int .i64)], fun (x : (List Int) × Unit) => m17 x.1⟩
theorem oki17 : POk Try.prog (gx gtab) i17 := pok mixed (cfg_p oki24 (cfg_p oki26 (cfg_p oki26_1 (cfg_nil _ _))) : CfgOk _ cfg17) F17 eqn17
/- 13 treaty/treatyref33.SameDebts -/
def r13_0 : List Ins := [⟨some 4, none, .mov (.k (.bool false))⟩]
def r13_1 : List Ins := [⟨some 6, none, .mov (.t 0)⟩,
  ⟨some 7, none, .len (.t 6)⟩,
  ⟨some 8, none, .mov (.t 1)⟩,
  ⟨some 9, none, .len (.t 8)⟩,
  ⟨some 10, none, .bin .neq (.t 7) (.t 9)⟩]
def r13_2 : List Ins := [⟨some 4, none, .mov (.k (.bool false))⟩]
def r13_3 : List Ins := [⟨some 11, none, .mov (.t 0)⟩,
  ⟨some 12, none, .len (.t 11)⟩,
  ⟨some 13, none, .mov (.k (.int .i64 0))⟩]
def r13_4 : List Ins := [⟨some 14, none, .bin .lss (.t 13) (.t 12)⟩]
def r13_5 : List Ins := [⟨some 15, none, .mov (.t 13)⟩,
  ⟨some 5, none, .mov (.t 15)⟩]
def r13_6 : List Ins := [⟨some 16, none, .mov (.t 0)⟩,
  ⟨some 17, none, .mov (.t 5)⟩,
  ⟨some 18, none, .iaddr 3 (.t 16) (.t 17)⟩,
  ⟨some 19, none, .load 3 true (.t 18)⟩,
  ⟨some 20, none, .mov (.t 1)⟩,
  ⟨some 21, none, .mov (.t 5)⟩,
  ⟨some 22, none, .iaddr 3 (.t 20) (.t 21)⟩,
  ⟨some 23, none, .load 3 true (.t 22)⟩,
  ⟨some 24, none, .aeq true [(0, 1), (1, 1), (2, 1)] (.t 19) (.t 23)⟩]
def r13_7 : List Ins := [⟨some 4, none, .mov (.k (.bool false))⟩]
def r13_8 : List Ins := [⟨some 25, none, .bin .add (.t 13) (.k (.int .i64 1))⟩,
  ⟨some 13, none, .mov (.t 25)⟩]
def r13_9 : List Ins := [⟨some 4, none, .mov (.k (.bool true))⟩]
def x13 : XC := (.seq (.ops false r13_0) (.seq (.seq (.ops false r13_1) (.cond (.t 10) (.seq (.ops false r13_2) .ret) .skip)) (.seq (.seq (.ops false r13_3) (.block 0 (.loop [] ⟨26, [(0, (.list tS0)), (1, (.list tS0)), (12, (.int .i64)), (13, (.int .i64))], [], []⟩ (.seq (.ops false r13_4) (.seq (.cond (.t 14) .skip (.exit 0)) (.seq (.block 1 (.seq (.ops false r13_5) (.seq (.ops true r13_6) (.cond (.t 24) (.seq (.ops false r13_7) .ret) .skip)))) (.ops false r13_8))))))) (.seq (.ops false r13_9) .ret))))
theorem F13 : Fn Try.prog 13 26 x13.er [.t 4] := ⟨Try.f13, hcl, Try.func13, by kernel_rfl, by kernel_rfl, by kernel_rfl, by kernel_rfl⟩
noncomputable def m13 (a0 : List DS0) (a1 : List DS0) : Option (Bool × Unit) :=
  cond (iNe (lenI a0) (lenI a1))
  (some (false, ()))
  (loopO (S := (List DS0) × (List DS0) × Int × Int × Unit) (R := Bool × Unit) (fun s41 =>
    cond (iLt s41.2.2.2.1 s41.2.2.1)
    (cond (bnd s41.2.2.2.1 (lenI s41.1))
     (cond (bnd s41.2.2.2.1 (lenI s41.2.1))
      (cond (not (and (iEq ((atI s41.1 s41.2.2.2.1 (0, 0, 0, ())).1) ((atI s41.2.1 s41.2.2.2.1 (0, 0, 0, ())).1)) (and (iEq ((atI s41.1 s41.2.2.2.1 (0, 0, 0, ())).2.1) ((atI s41.2.1 s41.2.2.2.1 (0, 0, 0, ())).2.1)) (and (iEq ((atI s41.1 s41.2.2.2.1 (0, 0, 0, ())).2.2.1) ((atI s41.2.1 s41.2.2.2.1 (0, 0, 0, ())).2.2.1)) true))))
       (some (.inr (false, ())))
       (some (.inl (s41.1, s41.2.1, s41.2.2.1, iAdd .i64 s41.2.2.2.1 1, ())))) none) none)
    (some (.inr (true, ()))))
   (a0, a1, lenI a0, 0, ()))
noncomputable def cfg13 : Cfg := ⟨ttab, gtab, [], []⟩
theorem eqn13 (x : (List DS0) × (List DS0) × Unit) : xfun cfg13 x13 26 [.t 4] [(.list tS0), (.list tS0)] [.bool] x = m13 x.1 x.2.1 := by kernel_rfl
noncomputable def i13 : PI := ⟨13, [(.list tS0), (.list tS0)], [.bool], fun (x : (List DS0) × (List DS0) × Unit) => m13 x.1 x.2.1⟩
theorem oki13 : POk Try.prog (gx gtab) i13 := pok mixed (cfg_nil _ _ : CfgOk _ cfg13) F13 eqn13
/- 8 treaty/treatylaw35.awake -/
def r8_0 : List Ins := [⟨some 0, none, .mov (.k (.bool false))⟩]
def r8_1 : List Ins := [⟨some 6, none, .build [.int .i64 0, .int .i64 0, .int .i64 0] [(0, 1, (.k (.int .i64 1))), (1, 1, (.k (.int .i64 2))), (2, 1, (.k (.int .i64 10)))]⟩,
  ⟨some 7, none, .build [.int .i64 0, .int .i64 0, .int .i64 0] [(0, 1, (.k (.int .i64 2))), (1, 1, (.k (.int .i64 1))), (2, 1, (.k (.int .i64 4)))]⟩,
  ⟨some 8, none, .build [.int .i64 0, .int .i64 0, .int .i64 0] [(0, 1, (.k (.int .i64 1))), (1, 1, (.k (.int .i64 2))), (2, 1, (.k (.int .i64 1)))]⟩,
  ⟨some 9, none, .bslice 39 3 [(.t 6), (.t 7), (.t 8)]⟩,
  ⟨some 10, none, .call (.k (.func (.func 11) #[] #[])) [(.t 9)]⟩,
  ⟨some 5, none, .mov (.t 10)⟩,
  ⟨some 11, none, .ext 0 (.t 5)⟩,
  ⟨some 12, none, .ext 1 (.t 5)⟩,
  ⟨some 1, none, .mov (.t 11)⟩,
  ⟨some 2, none, .mov (.t 12)⟩]
def r8_2 : List Ins := [⟨some 14, none, .bslice 3 1 [(.k (.int .i64 (-7))), (.k (.int .i64 5)), (.k (.int .i64 (-3))), (.k (.int .i64 5))]⟩,
  ⟨some 15, none, .call (.k (.func (.func 17) #[] #[])) [(.t 14)]⟩,
  ⟨some 13, none, .mov (.t 15)⟩,
  ⟨some 16, none, .ext 0 (.t 13)⟩,
  ⟨some 17, none, .ext 1 (.t 13)⟩,
  ⟨some 3, none, .mov (.t 16)⟩,
  ⟨some 4, none, .mov (.t 17)⟩]
def r8_3 : List Ins := [⟨some 18, none, .mov (.t 2)⟩,
  ⟨some 19, none, .bin .eql (.t 18) (.k (.int .i64 0))⟩,
  ⟨some 20, none, .mov (.t 19)⟩,
  ⟨some 21, some (20, true), .mov (.t 4)⟩,
  ⟨some 22, some (20, true), .bin .eql (.t 21) (.k (.int .i64 0))⟩,
  ⟨some 23, none, .pick (.t 20) (.t 22) (.k (.bool false))⟩,
  ⟨some 24, none, .mov (.t 23)⟩,
  ⟨some 25, some (24, true), .mov (.t 1)⟩,
  ⟨some 26, some (24, true), .build [.int .i64 0, .int .i64 0, .int .i64 0] [(0, 1, (.k (.int .i64 1))), (1, 1, (.k (.int .i64 2))), (2, 1, (.k (.int .i64 7)))]⟩,
  ⟨some 27, some (24, true), .bslice 39 3 [(.t 26)]⟩,
  ⟨some 28, some (24, true), .call (.k (.func (.func 13) #[] #[])) [(.t 25), (.t 27)]⟩,
  ⟨some 29, none, .pick (.t 24) (.t 28) (.k (.bool false))⟩,
  ⟨some 30, none, .mov (.t 29)⟩,
  ⟨some 31, some (30, true), .mov (.t 3)⟩,
  ⟨some 32, some (30, true), .build [.int .i64 0, .int .i64 0, .int .i64 0] [(0, 1, (.k (.int .i64 0))), (1, 1, (.k (.int .i64 1))), (2, 1, (.k (.int .i64 5)))]⟩,
  ⟨some 33, some (30, true), .build [.int .i64 0, .int .i64 0, .int .i64 0] [(0, 1, (.k (.int .i64 2))), (1, 1, (.k (.int .i64 3))), (2, 1, (.k (.int .i64 3)))]⟩,
  ⟨some 34, some (30, true), .build [.int .i64 0, .int .i64 0, .int .i64 0] [(0, 1, (.k (.int .i64 0))), (1, 1, (.k (.int .i64 3))), (2, 1, (.k (.int .i64 2)))]⟩,
  ⟨some 35, some (30, true), .bslice 39 3 [(.t 32), (.t 33), (.t 34)]⟩,
  ⟨some 36, some (30, true), .call (.k (.func (.func 13) #[] #[])) [(.t 31), (.t 35)]⟩,
  ⟨some 37, none, .pick (.t 30) (.t 36) (.k (.bool false))⟩,
  ⟨some 0, none, .mov (.t 37)⟩]
def x8 : XC := (.seq (.ops false r8_0) (.seq (.ops false r8_1) (.seq (.ops false r8_2) (.seq (.ops false r8_3) .ret))))
theorem F8 : Fn Try.prog 8 38 x8.er [.t 0] := ⟨Try.f8, hcl, Try.func8, by kernel_rfl, by kernel_rfl, by kernel_rfl, by kernel_rfl⟩
noncomputable def m8 : Option (Bool × Unit) :=
  (m11 ([(1, 2, 10, ()), (2, 1, 4, ()), (1, 2, 1, ())] : List DS0)).bind fun y20 =>
  (m17 ([(-7), 5, (-3), 5] : List Int)).bind fun y39 =>
  cond (cond (iEq y20.2.1 0) (iEq y39.2.1 0) false)
  ((m13 y20.1 ([(1, 2, 7, ())] : List DS0)).bind fun y42 =>
   cond y42.1
   ((m13 y39.1 ([(0, 1, 5, ()), (2, 3, 3, ()), (0, 3, 2, ())] : List DS0)).bind fun y43 =>
    some (y43.1, ()))
   (some (false, ())))
  (some (false, ()))
noncomputable def cfg8 : Cfg := ⟨ttab, gtab, [i11, i13, i17], []⟩
theorem eqn8 (x : Unit) : xfun cfg8 x8 38 [.t 0] [] [.bool] x = m8 := by kernel_rfl
noncomputable def i8 : PI := ⟨8, [], [.bool], fun (x : Unit) => m8⟩
theorem oki8 : POk Try.prog (gx gtab) i8 := pok mixed (cfg_p oki11 (cfg_p oki13 (cfg_p oki17 (cfg_nil _ _))) : CfgOk _ cfg8) F8 eqn8
/- 23 treaty/treatymade.New -/
def r23_0 : List Ins := [⟨some 2, none, .mov (.k (.pointer none))⟩]
def r23_1 : List Ins := [⟨some 3, none, .mov (.t 0)⟩,
  ⟨some 4, none, .build [.slice none 0 0, .int .i64 0] [(0, 1, (.t 3))]⟩,
  ⟨some 5, none, .box 49 2 (.t 4)⟩,
  ⟨some 2, none, .mov (.t 5)⟩]
def x23 : XC := (.seq (.ops false r23_0) (.seq (.ops false r23_1) .ret))
theorem F23 : Fn Try.prog 23 6 x23.er [.t 2] := ⟨Try.f23, hcl, Try.func23, by kernel_rfl, by kernel_rfl, by kernel_rfl, by kernel_rfl⟩
noncomputable def m23 (a0 : List Int) : Option ((List Int) × Int × Unit) :=
  some (a0, 0, ())
noncomputable def cfg23 : Cfg := ⟨ttab, gtab, [], []⟩
def ish23 : Sh := ⟨1, [(0, (.list (.int .i64)))], [], []⟩
def osh23 : Sh := ⟨1, [], [(0, .ptr 0 0 0)], [.box 49 [.d (.list (.int .i64)), .d (.int .i64)]]⟩
theorem eqn23 (x : (List Int) × Unit) : xfunH cfg23 x23 6 [.t 2] [] ish23 osh23 x = m23 x.1 := by kernel_rfl
noncomputable def h23 : HI := ⟨23, ish23, osh23, fun (x : (List Int) × Unit) => m23 x.1⟩
theorem okh23 : HOk Try.prog (gx gtab) h23 := hok mixed (cfg_nil _ _ : CfgOk _ cfg23) F23 eqn23
/- 10 treaty/treatymade2.New -/
def r10_0 : List Ins := [⟨some 2, none, .mov (.k (.pointer none))⟩]
def r10_1 : List Ins := [⟨some 3, none, .mov (.t 0)⟩,
  ⟨some 4, none, .call (.k (.func (.func 23) #[] #[])) [(.t 3)]⟩,
  ⟨some 2, none, .mov (.t 4)⟩]
def x10 : XC := (.seq (.ops false r10_0) (.seq (.ops false r10_1) .ret))
theorem F10 : Fn Try.prog 10 5 x10.er [.t 2] := ⟨Try.f10, hcl, Try.func10, by kernel_rfl, by kernel_rfl, by kernel_rfl, by kernel_rfl⟩
noncomputable def m10 (a0 : List Int) : Option ((List Int) × Int × Unit) :=
  (m23 a0).bind fun y46 =>
  some (y46.1, y46.2.1, ())
noncomputable def cfg10 : Cfg := ⟨ttab, gtab, [], [h23]⟩
def ish10 : Sh := ⟨1, [(0, (.list (.int .i64)))], [], []⟩
def osh10 : Sh := ⟨1, [], [(0, .ptr 0 0 0)], [.box 49 [.d (.list (.int .i64)), .d (.int .i64)]]⟩
theorem eqn10 (x : (List Int) × Unit) : xfunH cfg10 x10 5 [.t 2] [] ish10 osh10 x = m10 x.1 := by kernel_rfl
noncomputable def h10 : HI := ⟨10, ish10, osh10, fun (x : (List Int) × Unit) => m10 x.1⟩
theorem okh10 : HOk Try.prog (gx gtab) h10 := hok mixed (cfg_h okh23 (cfg_nil _ _) : CfgOk _ cfg10) F10 eqn10
/- 21 (*treaty/treatymade.Deck).Next -/
def r21_0 : List Ins := [⟨some 4, none, .mov (.k (.int .i64 0))⟩]
def r21_1 : List Ins := [⟨some 5, none, .mov (.t 0)⟩,
  ⟨some 6, none, .nck (.t 5)⟩,
  ⟨some 7, none, .faddr 1 (.t 6)⟩,
  ⟨some 8, none, .load 1 false (.t 7)⟩,
  ⟨some 9, none, .mov (.t 0)⟩,
  ⟨some 10, none, .nck (.t 9)⟩,
  ⟨some 11, none, .faddr 0 (.t 10)⟩,
  ⟨some 12, none, .load 1 false (.t 11)⟩,
  ⟨some 13, none, .len (.t 12)⟩,
  ⟨some 14, none, .bin .geq (.t 8) (.t 13)⟩]
def r21_2 : List Ins := [⟨some 4, none, .mov (.k (.int .i64 0))⟩]
def r21_3 : List Ins := [⟨some 15, none, .mov (.t 0)⟩,
  ⟨some 16, none, .nck (.t 15)⟩,
  ⟨some 17, none, .faddr 1 (.t 16)⟩,
  ⟨some 18, none, .load 1 false (.t 17)⟩,
  ⟨some 19, none, .bin .add (.t 18) (.k (.int .i64 1))⟩,
  ⟨some 20, none, .nck (.t 15)⟩,
  ⟨some 21, none, .faddr 1 (.t 20)⟩,
  ⟨none, none, .store 1 (.t 21) (.t 19)⟩]
def r21_4 : List Ins := [⟨some 22, none, .mov (.t 0)⟩,
  ⟨some 23, none, .nck (.t 22)⟩,
  ⟨some 24, none, .faddr 0 (.t 23)⟩,
  ⟨some 25, none, .load 1 false (.t 24)⟩,
  ⟨some 26, none, .mov (.t 0)⟩,
  ⟨some 27, none, .nck (.t 26)⟩,
  ⟨some 28, none, .faddr 1 (.t 27)⟩,
  ⟨some 29, none, .load 1 false (.t 28)⟩,
  ⟨some 30, none, .bin .sub (.t 29) (.k (.int .i64 1))⟩,
  ⟨some 31, none, .iaddr 1 (.t 25) (.t 30)⟩,
  ⟨some 32, none, .load 1 false (.t 31)⟩,
  ⟨some 33, none, .mov (.t 1)⟩,
  ⟨some 34, none, .bin .rem (.t 32) (.t 33)⟩,
  ⟨some 35, none, .mov (.t 1)⟩,
  ⟨some 36, none, .bin .add (.t 34) (.t 35)⟩,
  ⟨some 37, none, .mov (.t 1)⟩,
  ⟨some 38, none, .bin .rem (.t 36) (.t 37)⟩,
  ⟨some 4, none, .mov (.t 38)⟩]
def x21 : XC := (.seq (.ops false r21_0) (.seq (.seq (.ops true r21_1) (.cond (.t 14) (.seq (.ops false r21_2) .ret) .skip)) (.seq (.ops false r21_3) (.seq (.ops true r21_4) .ret))))
theorem F21 : Fn Try.prog 21 39 x21.er [.t 4] := ⟨Try.f21, hcl, Try.func21, by kernel_rfl, by kernel_rfl, by kernel_rfl, by kernel_rfl⟩
noncomputable def m21 (a0 : Int) (a1 : List Int) (a2 : Int) : Option (Int × (List Int) × Int × Unit) :=
  cond (iLe (lenI a1) a2)
  (some (0, a1, a2, ()))
  (cond (bnd (iSub .i64 (iAdd .i64 a2 1) 1) (lenI a1))
   (cond (iNe a0 0)
    (cond (iNe a0 0)
     (some (iRem (iAdd .i64 (iRem (atI a1 (iSub .i64 (iAdd .i64 a2 1) 1) 0) a0) a0) a0, a1, iAdd .i64 a2 1, ())) none) none) none)
noncomputable def cfg21 : Cfg := ⟨ttab, gtab, [], []⟩
def ish21 : Sh := ⟨2, [(1, (.int .i64))], [(0, .ptr 0 0 0)], [.box 49 [.d (.list (.int .i64)), .d (.int .i64)]]⟩
def osh21 : Sh := ⟨1, [(0, (.int .i64))], [], [.box 49 [.d (.list (.int .i64)), .d (.int .i64)]]⟩
theorem eqn21 (x : Int × (List Int) × Int × Unit) : xfunH cfg21 x21 39 [.t 4] [] ish21 osh21 x = m21 x.1 x.2.1 x.2.2.1 := by kernel_rfl
noncomputable def h21 : HI := ⟨21, ish21, osh21, fun (x : Int × (List Int) × Int × Unit) => m21 x.1 x.2.1 x.2.2.1⟩
theorem okh21 : HOk Try.prog (gx gtab) h21 := hok mixed (cfg_nil _ _ : CfgOk _ cfg21) F21 eqn21
/- 22 treaty/treatymade2.Small -/
def r22_0 : List Ins := [⟨some 2, none, .mov (.k (.int .i64 0))⟩]
def r22_1 : List Ins := [⟨some 3, none, .mov (.t 0)⟩,
  ⟨some 4, none, .call (.k (.func (.func 21) #[] #[])) [(.t 3), (.k (.int .i64 4))]⟩]
def r22_2 : List Ins := [⟨some 6, none, .bin .eql (.t 4) (.k (.int .i64 0))⟩,
  ⟨some 5, none, .mov (.t 6)⟩]
def r22_3 : List Ins := [⟨some 7, none, .mov (.t 0)⟩,
  ⟨some 8, none, .call (.k (.func (.func 21) #[] #[])) [(.t 7), (.k (.int .i64 4))]⟩,
  ⟨some 2, none, .mov (.t 8)⟩]
def r22_4 : List Ins := [⟨some 10, none, .bin .eql (.t 4) (.k (.int .i64 1))⟩,
  ⟨some 9, none, .mov (.t 10)⟩]
def r22_5 : List Ins := [⟨some 11, none, .bin .eql (.t 4) (.k (.int .i64 2))⟩,
  ⟨some 9, none, .mov (.t 11)⟩]
def r22_6 : List Ins := [⟨some 12, none, .mov (.t 0)⟩,
  ⟨some 13, none, .call (.k (.func (.func 21) #[] #[])) [(.t 12), (.k (.int .i64 1000))]⟩,
  ⟨some 2, none, .mov (.t 13)⟩]
def r22_7 : List Ins := [⟨some 14, none, .mov (.t 0)⟩,
  ⟨some 15, none, .call (.k (.func (.func 21) #[] #[])) [(.t 14), (.k (.int .i64 268435456))]⟩,
  ⟨some 2, none, .mov (.t 15)⟩]
def x22 : XC := (.seq (.ops false r22_0) (.seq (.seq (.ops false r22_1) (.block 0 (.seq (.ops false r22_2) (.cond (.t 5) (.seq (.ops false r22_3) .ret) (.seq (.seq (.ops false r22_4) (.cond (.t 9) .skip (.ops false r22_5))) (.cond (.t 9) (.seq (.ops false r22_6) .ret) .skip)))))) (.seq (.ops false r22_7) .ret)))
theorem F22 : Fn Try.prog 22 16 x22.er [.t 2] := ⟨Try.f22, hcl, Try.func22, by kernel_rfl, by kernel_rfl, by kernel_rfl, by kernel_rfl⟩
noncomputable def m22 (a0 : List Int) (a1 : Int) : Option (Int × (List Int) × Int × Unit) :=
  (m21 4 a0 a1).bind fun y56 =>
  cond (iEq y56.1 0)
  ((m21 4 y56.2.1 y56.2.2.1).bind fun y57 =>
   some (y57.1, y57.2.1, y57.2.2.1, ()))
  (cond (iEq y56.1 1)
   ((m21 1000 y56.2.1 y56.2.2.1).bind fun y58 =>
    some (y58.1, y58.2.1, y58.2.2.1, ()))
   (cond (iEq y56.1 2)
    ((m21 1000 y56.2.1 y56.2.2.1).bind fun y59 =>
     some (y59.1, y59.2.1, y59.2.2.1, ()))
    ((m21 268435456 y56.2.1 y56.2.2.1).bind fun y60 =>
     some (y60.1, y60.2.1, y60.2.2.1, ()))))
noncomputable def cfg22 : Cfg := ⟨ttab, gtab, [], [h21]⟩
def ish22 : Sh := ⟨1, [], [(0, .ptr 0 0 0)], [.box 49 [.d (.list (.int .i64)), .d (.int .i64)]]⟩
def osh22 : Sh := ⟨1, [(0, (.int .i64))], [], [.box 49 [.d (.list (.int .i64)), .d (.int .i64)]]⟩
theorem eqn22 (x : (List Int) × Int × Unit) : xfunH cfg22 x22 16 [.t 2] [] ish22 osh22 x = m22 x.1 x.2.1 := by kernel_rfl
noncomputable def h22 : HI := ⟨22, ish22, osh22, fun (x : (List Int) × Int × Unit) => m22 x.1 x.2.1⟩
theorem okh22 : HOk Try.prog (gx gtab) h22 := hok mixed (cfg_h okh21 (cfg_nil _ _) : CfgOk _ cfg22) F22 eqn22
/- 9 treaty/treatymade2.Debts -/
def r9_0 : List Ins := [⟨some 4, none, .mov (.k (.slice none 0 0))⟩]
def r9_1 : List Ins := [⟨some 5, none, .mov (.k (.slice none 0 0))⟩]
def r9_2 : List Ins := [⟨some 8, none, .mov (.t 0)⟩,
  ⟨some 9, none, .mov (.t 1)⟩,
  ⟨some 10, none, .bin .add (.t 9) (.k (.int .i64 1))⟩,
  ⟨some 11, none, .call (.k (.func (.func 21) #[] #[])) [(.t 8), (.t 10)]⟩,
  ⟨some 6, none, .mov (.t 11)⟩]
def r9_3 : List Ins := [⟨some 12, none, .mov (.t 6)⟩,
  ⟨some 13, none, .bin .gtr (.t 12) (.k (.int .i64 0))⟩]
def r9_4 : List Ins := [⟨some 16, none, .mov (.t 0)⟩,
  ⟨some 17, none, .call (.k (.func (.func 21) #[] #[])) [(.t 16), (.k (.int .i64 5))]⟩,
  ⟨some 18, none, .mov (.t 0)⟩,
  ⟨some 19, none, .call (.k (.func (.func 22) #[] #[])) [(.t 18)]⟩,
  ⟨some 20, none, .build [.int .i64 0, .int .i64 0, .int .i64 0] [(0, 1, (.t 17)), (2, 1, (.t 19))]⟩,
  ⟨some 7, none, .alloc 39 (.agg #[.int .i64 0, .int .i64 0, .int .i64 0])⟩,
  ⟨none, none, .store 3 (.t 7) (.t 20)⟩]
def r9_5 : List (Nat × Ins) := [(0, ⟨some 21, none, .faddr 0 (.t 7)⟩),
  (1, ⟨some 22, none, .load 1 false (.t 21)⟩),
  (0, ⟨some 23, none, .bin .add (.t 22) (.k (.int .i64 1))⟩),
  (0, ⟨some 24, none, .mov (.t 0)⟩),
  (2, ⟨some 25, none, .call (.k (.func (.func 21) #[] #[])) [(.t 24), (.k (.int .i64 4))]⟩),
  (0, ⟨some 26, none, .bin .add (.t 23) (.t 25)⟩),
  (0, ⟨some 27, none, .bin .rem (.t 26) (.k (.int .i64 5))⟩),
  (0, ⟨some 28, none, .faddr 1 (.t 7)⟩),
  (0, ⟨none, none, .store 1 (.t 28) (.t 27)⟩)]
def r9_6 : List Ins := [⟨some 29, none, .mov (.t 5)⟩,
  ⟨some 30, none, .load 3 true (.t 7)⟩,
  ⟨some 31, none, .bslice 39 3 [(.t 30)]⟩,
  ⟨some 32, none, .app 39 3 24 (.t 29) (.t 31)⟩,
  ⟨some 5, none, .mov (.t 32)⟩]
def r9_7 : List Ins := [⟨some 14, none, .mov (.t 6)⟩,
  ⟨some 15, none, .bin .sub (.t 14) (.k (.int .i64 1))⟩,
  ⟨some 6, none, .mov (.t 15)⟩]
def r9_8 : List Ins := [⟨some 33, none, .mov (.t 5)⟩,
  ⟨some 4, none, .mov (.t 33)⟩]
def x9 : XC := (.seq (.ops false r9_0) (.seq (.ops false r9_1) (.seq (.seq (.ops false r9_2) (.block 0 (.loop [.gh 5 39 tS0] ⟨34, [(6, (.int .i64))], [(0, .ptr 0 0 0), (5, .row 1)], [.box 49 [.d (.list (.int .i64)), .d (.int .i64)], .row 39 tS0 false]⟩ (.seq (.seq (.ops false r9_3) (.cond (.t 13) .skip (.exit 0))) (.seq (.block 1 (.seq (.ops false r9_4) (.seq (.rops [0] r9_5) (.ops false r9_6)))) (.ops false r9_7)))))) (.seq (.ops false r9_8) .ret))))
theorem F9 : Fn Try.prog 9 34 x9.er [.t 4] := ⟨Try.f9, hcl, Try.func9, by kernel_rfl, by kernel_rfl, by kernel_rfl, by kernel_rfl⟩
noncomputable def m9 (a0 : Int) (a1 : List Int) (a2 : Int) : Option ((List Int) × Int × (List DS0) × Unit) :=
  (m21 (iAdd .i64 a0 1) a1 a2).bind fun y68 =>
  loopO (S := Int × (List Int) × Int × (List DS0) × Unit) (R := (List Int) × Int × (List DS0) × Unit) (fun s69 =>
   cond (iLt 0 s69.1)
   ((m21 5 s69.2.1 s69.2.2.1).bind fun y70 =>
    (m22 y70.2.1 y70.2.2.1).bind fun y71 =>
    (m21 4 y71.2.1 y71.2.2.1).bind fun y72 =>
    cond (iNe 5 0)
    (cond (fits (List.length s69.2.2.2.1 + List.length ([(y70.1, iRem (iAdd .i64 (iAdd .i64 y70.1 1) y72.1) 5, y71.1, ())] : List DS0)) 24)
     (some (.inl (iSub .i64 s69.1 1, y72.2.1, y72.2.2.1, s69.2.2.2.1 ++ ([(y70.1, iRem (iAdd .i64 (iAdd .i64 y70.1 1) y72.1) 5, y71.1, ())] : List DS0), ()))) none) none)
   (some (.inr (s69.2.1, s69.2.2.1, s69.2.2.2.1, ()))))
  (y68.1, y68.2.1, y68.2.2.1, ([] : List DS0), ())
noncomputable def cfg9 : Cfg := ⟨ttab, gtab, [], [h21, h22]⟩
def ish9 : Sh := ⟨2, [(1, (.int .i64))], [(0, .ptr 0 0 0)], [.box 49 [.d (.list (.int .i64)), .d (.int .i64)]]⟩
def osh9 : Sh := ⟨1, [], [(0, .row 1)], [.box 49 [.d (.list (.int .i64)), .d (.int .i64)], .row 39 tS0 false]⟩
theorem eqn9 (x : Int × (List Int) × Int × Unit) : xfunH cfg9 x9 34 [.t 4] [.gh 4 39 tS0] ish9 osh9 x = m9 x.1 x.2.1 x.2.2.1 := by kernel_rfl
noncomputable def h9 : HI := ⟨9, ish9, osh9, fun (x : Int × (List Int) × Int × Unit) => m9 x.1 x.2.1 x.2.2.1⟩
theorem okh9 : HOk Try.prog (gx gtab) h9 := hok mixed (cfg_h okh21 (cfg_h okh22 (cfg_nil _ _)) : CfgOk _ cfg9) F9 eqn9
/- 15 treaty/treatyref33.Debts -/
def r15_0 : List Ins := [⟨some 2, none, .mov (.k (.int .i64 0))⟩]
def r15_1 : List Ins := [⟨some 5, none, .mov (.t 0)⟩,
  ⟨some 6, none, .len (.t 5)⟩,
  ⟨some 7, none, .bin .gtr (.t 6) (.k (.int .i64 65536))⟩]
def r15_2 : List Ins := [⟨some 2, none, .mov (.k (.int .i64 4))⟩]
def r15_3 : List Ins := [⟨some 8, none, .mov (.t 0)⟩,
  ⟨some 9, none, .len (.t 8)⟩,
  ⟨some 10, none, .mov (.k (.int .i64 0))⟩]
def r15_4 : List Ins := [⟨some 11, none, .bin .lss (.t 10) (.t 9)⟩]
def r15_5 : List Ins := [⟨some 12, none, .iaddr 3 (.t 8) (.t 10)⟩,
  ⟨some 13, none, .load 3 true (.t 12)⟩,
  ⟨some 4, none, .alloc 39 (.agg #[.int .i64 0, .int .i64 0, .int .i64 0])⟩,
  ⟨none, none, .store 3 (.t 4) (.t 13)⟩]
def r15_6 : List Ins := [⟨some 14, none, .faddr 0 (.t 4)⟩,
  ⟨some 15, none, .load 1 false (.t 14)⟩,
  ⟨some 16, none, .bin .lss (.t 15) (.k (.int .i64 0))⟩,
  ⟨some 17, none, .mov (.t 16)⟩,
  ⟨some 18, some (17, false), .faddr 0 (.t 4)⟩,
  ⟨some 19, some (17, false), .load 1 false (.t 18)⟩,
  ⟨some 20, some (17, false), .bin .gtr (.t 19) (.k (.int .i64 15))⟩,
  ⟨some 21, none, .pick (.t 17) (.k (.bool true)) (.t 20)⟩,
  ⟨some 22, none, .mov (.t 21)⟩,
  ⟨some 23, some (22, false), .faddr 1 (.t 4)⟩,
  ⟨some 24, some (22, false), .load 1 false (.t 23)⟩,
  ⟨some 25, some (22, false), .bin .lss (.t 24) (.k (.int .i64 0))⟩,
  ⟨some 26, none, .pick (.t 22) (.k (.bool true)) (.t 25)⟩,
  ⟨some 27, none, .mov (.t 26)⟩,
  ⟨some 28, some (27, false), .faddr 1 (.t 4)⟩,
  ⟨some 29, some (27, false), .load 1 false (.t 28)⟩,
  ⟨some 30, some (27, false), .bin .gtr (.t 29) (.k (.int .i64 15))⟩,
  ⟨some 31, none, .pick (.t 27) (.k (.bool true)) (.t 30)⟩,
  ⟨some 32, none, .mov (.t 31)⟩,
  ⟨some 33, some (32, false), .faddr 0 (.t 4)⟩,
  ⟨some 34, some (32, false), .load 1 false (.t 33)⟩,
  ⟨some 35, some (32, false), .faddr 1 (.t 4)⟩,
  ⟨some 36, some (32, false), .load 1 false (.t 35)⟩,
  ⟨some 37, some (32, false), .bin .eql (.t 34) (.t 36)⟩,
  ⟨some 38, none, .pick (.t 32) (.k (.bool true)) (.t 37)⟩,
  ⟨some 39, none, .mov (.t 38)⟩,
  ⟨some 40, some (39, false), .faddr 2 (.t 4)⟩,
  ⟨some 41, some (39, false), .load 1 false (.t 40)⟩,
  ⟨some 42, some (39, false), .bin .lss (.t 41) (.k (.int .i64 0))⟩,
  ⟨some 43, none, .pick (.t 39) (.k (.bool true)) (.t 42)⟩,
  ⟨some 44, none, .mov (.t 43)⟩,
  ⟨some 45, some (44, false), .faddr 2 (.t 4)⟩,
  ⟨some 46, some (44, false), .load 1 false (.t 45)⟩,
  ⟨some 47, some (44, false), .bin .gtr (.t 46) (.k (.int .i64 17592186044416))⟩,
  ⟨some 48, none, .pick (.t 44) (.k (.bool true)) (.t 47)⟩]
def r15_7 : List Ins := [⟨some 2, none, .mov (.k (.int .i64 1))⟩]
def r15_8 : List Ins := [⟨some 49, none, .bin .add (.t 10) (.k (.int .i64 1))⟩,
  ⟨some 10, none, .mov (.t 49)⟩]
def r15_9 : List Ins := [⟨some 2, none, .mov (.k (.int .i64 0))⟩]
def x15 : XC := (.seq (.ops false r15_0) (.seq (.seq (.ops false r15_1) (.cond (.t 7) (.seq (.ops false r15_2) .ret) .skip)) (.seq (.seq (.ops false r15_3) (.block 0 (.loop [] ⟨50, [(8, (.list tS0)), (9, (.int .i64)), (10, (.int .i64))], [], []⟩ (.seq (.ops false r15_4) (.seq (.cond (.t 11) .skip (.exit 0)) (.seq (.block 1 (.seq (.ops false r15_5) (.seq (.ops false r15_6) (.cond (.t 48) (.seq (.ops false r15_7) .ret) .skip)))) (.ops false r15_8))))))) (.seq (.ops false r15_9) .ret))))
theorem F15 : Fn Try.prog 15 50 x15.er [.t 2] := ⟨Try.f15, hcl, Try.func15, by kernel_rfl, by kernel_rfl, by kernel_rfl, by kernel_rfl⟩
noncomputable def m15 (a0 : List DS0) : Option (Int × Unit) :=
  cond (iLt 65536 (lenI a0))
  (some (4, ()))
  (loopO (S := (List DS0) × Int × Int × Unit) (R := Int × Unit) (fun s76 =>
    cond (iLt s76.2.2.1 s76.2.1)
    (cond (bnd s76.2.2.1 (lenI s76.1))
     (cond (cond (cond (cond (cond (cond (cond (iLt ((atI s76.1 s76.2.2.1 (0, 0, 0, ())).1) 0) true (iLt 15 ((atI s76.1 s76.2.2.1 (0, 0, 0, ())).1))) true (iLt ((atI s76.1 s76.2.2.1 (0, 0, 0, ())).2.1) 0)) true (iLt 15 ((atI s76.1 s76.2.2.1 (0, 0, 0, ())).2.1))) true (iEq ((atI s76.1 s76.2.2.1 (0, 0, 0, ())).1) ((atI s76.1 s76.2.2.1 (0, 0, 0, ())).2.1))) true (iLt ((atI s76.1 s76.2.2.1 (0, 0, 0, ())).2.2.1) 0)) true (iLt 17592186044416 ((atI s76.1 s76.2.2.1 (0, 0, 0, ())).2.2.1)))
      (some (.inr (1, ())))
      (some (.inl (s76.1, s76.2.1, iAdd .i64 s76.2.2.1 1, ())))) none)
    (some (.inr (0, ()))))
   (a0, lenI a0, 0, ()))
noncomputable def cfg15 : Cfg := ⟨ttab, gtab, [], []⟩
theorem eqn15 (x : (List DS0) × Unit) : xfun cfg15 x15 50 [.t 2] [(.list tS0)] [(.int .i64)] x = m15 x.1 := by kernel_rfl
noncomputable def i15 : PI := ⟨15, [(.list tS0)], [(.int .i64)], fun (x : (List DS0) × Unit) => m15 x.1⟩
theorem oki15 : POk Try.prog (gx gtab) i15 := pok mixed (cfg_nil _ _ : CfgOk _ cfg15) F15 eqn15
/- 12 treaty/treatyref33.Offset -/
def r12_0 : List Ins := [⟨some 2, none, .mov (.k (.slice none 0 0))⟩,
  ⟨some 3, none, .mov (.k (.int .i64 0))⟩]
def r12_1 : List Ins := [⟨some 12, none, .mov (.t 0)⟩,
  ⟨some 13, none, .call (.k (.func (.func 15) #[] #[])) [(.t 12)]⟩,
  ⟨some 4, none, .mov (.t 13)⟩]
def r12_2 : List Ins := [⟨some 14, none, .mov (.t 4)⟩,
  ⟨some 15, none, .bin .neq (.t 14) (.k (.int .i64 0))⟩]
def r12_3 : List Ins := [⟨some 16, none, .mov (.t 4)⟩,
  ⟨some 2, none, .mov (.k (.slice none 0 0))⟩,
  ⟨some 3, none, .mov (.t 16)⟩]
def r12_4 : List Ins := [⟨some 5, none, .alloca 44 1 256 (.int .i64 0)⟩]
def r12_5 : List Ins := [⟨some 17, none, .mov (.t 0)⟩,
  ⟨some 18, none, .len (.t 17)⟩,
  ⟨some 19, none, .mov (.k (.int .i64 0))⟩]
def r12_6 : List Ins := [⟨some 20, none, .bin .lss (.t 19) (.t 18)⟩]
def r12_7 : List Ins := [⟨some 21, none, .iaddr 3 (.t 17) (.t 19)⟩,
  ⟨some 22, none, .load 3 true (.t 21)⟩,
  ⟨some 7, none, .alloc 39 (.agg #[.int .i64 0, .int .i64 0, .int .i64 0])⟩,
  ⟨none, none, .store 3 (.t 7) (.t 22)⟩]
def r12_8 : List Ins := [⟨some 23, none, .faddr 0 (.t 7)⟩,
  ⟨some 24, none, .load 1 false (.t 23)⟩,
  ⟨some 25, none, .faddr 1 (.t 7)⟩,
  ⟨some 26, none, .load 1 false (.t 25)⟩,
  ⟨some 27, none, .aaddr 1 16 16 (.t 5) (.t 24)⟩,
  ⟨some 28, none, .aaddr 1 1 16 (.t 27) (.t 26)⟩,
  ⟨some 29, none, .load 1 false (.t 28)⟩,
  ⟨some 30, none, .faddr 2 (.t 7)⟩,
  ⟨some 31, none, .load 1 false (.t 30)⟩,
  ⟨some 32, none, .bin .add (.t 29) (.t 31)⟩,
  ⟨some 33, none, .aaddr 1 16 16 (.t 5) (.t 24)⟩,
  ⟨some 34, none, .aaddr 1 1 16 (.t 33) (.t 26)⟩,
  ⟨none, none, .store 1 (.t 34) (.t 32)⟩]
def r12_9 : List Ins := [⟨some 35, none, .bin .add (.t 19) (.k (.int .i64 1))⟩,
  ⟨some 19, none, .mov (.t 35)⟩]
def r12_10 : List Ins := [⟨some 8, none, .mov (.k (.slice none 0 0))⟩]
def r12_11 : List Ins := [⟨some 36, none, .mov (.k (.int .i64 0))⟩]
def r12_12 : List Ins := [⟨some 37, none, .bin .lss (.t 36) (.k (.int .i64 16))⟩]
def r12_13 : List Ins := [⟨some 38, none, .mov (.t 36)⟩,
  ⟨some 9, none, .mov (.t 38)⟩]
def r12_14 : List Ins := [⟨some 39, none, .mov (.k (.int .i64 0))⟩]
def r12_15 : List Ins := [⟨some 40, none, .bin .lss (.t 39) (.k (.int .i64 16))⟩]
def r12_16 : List Ins := [⟨some 41, none, .mov (.t 39)⟩,
  ⟨some 10, none, .mov (.t 41)⟩]
def r12_17 : List Ins := [⟨some 42, none, .mov (.t 9)⟩,
  ⟨some 43, none, .mov (.t 10)⟩,
  ⟨some 44, none, .aaddr 1 16 16 (.t 5) (.t 42)⟩,
  ⟨some 45, none, .aaddr 1 1 16 (.t 44) (.t 43)⟩,
  ⟨some 46, none, .load 1 false (.t 45)⟩,
  ⟨some 47, none, .mov (.t 10)⟩,
  ⟨some 48, none, .mov (.t 9)⟩,
  ⟨some 49, none, .aaddr 1 16 16 (.t 5) (.t 47)⟩,
  ⟨some 50, none, .aaddr 1 1 16 (.t 49) (.t 48)⟩,
  ⟨some 51, none, .load 1 false (.t 50)⟩,
  ⟨some 52, none, .bin .sub (.t 46) (.t 51)⟩,
  ⟨some 11, none, .mov (.t 52)⟩]
def r12_18 : List Ins := [⟨some 53, none, .mov (.t 11)⟩,
  ⟨some 54, none, .bin .gtr (.t 53) (.k (.int .i64 17592186044416))⟩]
def r12_19 : List Ins := [⟨some 2, none, .mov (.k (.slice none 0 0))⟩,
  ⟨some 3, none, .mov (.k (.int .i64 3))⟩]
def r12_20 : List Ins := [⟨some 55, none, .mov (.t 11)⟩,
  ⟨some 56, none, .bin .gtr (.t 55) (.k (.int .i64 0))⟩]
def r12_21 : List Ins := [⟨some 57, none, .mov (.t 8)⟩,
  ⟨some 58, none, .mov (.t 9)⟩,
  ⟨some 59, none, .mov (.t 10)⟩,
  ⟨some 60, none, .mov (.t 11)⟩,
  ⟨some 61, none, .build [.int .i64 0, .int .i64 0, .int .i64 0] [(0, 1, (.t 58)), (1, 1, (.t 59)), (2, 1, (.t 60))]⟩,
  ⟨some 62, none, .bslice 39 3 [(.t 61)]⟩,
  ⟨some 63, none, .app 39 3 24 (.t 57) (.t 62)⟩,
  ⟨some 8, none, .mov (.t 63)⟩]
def r12_22 : List Ins := [⟨some 64, none, .bin .add (.t 39) (.k (.int .i64 1))⟩,
  ⟨some 39, none, .mov (.t 64)⟩]
def r12_23 : List Ins := [⟨some 65, none, .bin .add (.t 36) (.k (.int .i64 1))⟩,
  ⟨some 36, none, .mov (.t 65)⟩]
def r12_24 : List Ins := [⟨some 66, none, .mov (.t 8)⟩,
  ⟨some 2, none, .mov (.t 66)⟩,
  ⟨some 3, none, .mov (.k (.int .i64 0))⟩]
def x12 : XC := (.seq (.ops false r12_0) (.seq (.seq (.ops false r12_1) (.seq (.ops false r12_2) (.cond (.t 15) (.seq (.ops false r12_3) .ret) .skip))) (.seq (.ops false r12_4) (.seq (.seq (.ops false r12_5) (.block 0 (.loop [] ⟨67, [(17, (.list tS0)), (18, (.int .i64)), (19, (.int .i64))], [(5, .ptr 0 0 0)], [.row 44 (.int .i64) false]⟩ (.seq (.ops false r12_6) (.seq (.cond (.t 20) .skip (.exit 0)) (.seq (.block 1 (.seq (.ops false r12_7) (.ops true r12_8))) (.ops false r12_9))))))) (.seq (.ops false r12_10) (.seq (.seq (.ops false r12_11) (.block 2 (.loop [.gh 8 39 tS0] ⟨67, [(36, (.int .i64))], [(5, .ptr 0 0 0), (8, .row 1)], [.row 44 (.int .i64) false, .row 39 tS0 false]⟩ (.seq (.ops false r12_12) (.seq (.cond (.t 37) .skip (.exit 2)) (.seq (.block 3 (.seq (.ops false r12_13) (.seq (.ops false r12_14) (.block 4 (.loop [.gh 8 39 tS0] ⟨67, [(9, (.int .i64)), (36, (.int .i64)), (39, (.int .i64))], [(5, .ptr 0 0 0), (8, .row 1)], [.row 44 (.int .i64) false, .row 39 tS0 false]⟩ (.seq (.ops false r12_15) (.seq (.cond (.t 40) .skip (.exit 4)) (.seq (.block 5 (.seq (.ops false r12_16) (.seq (.ops true r12_17) (.seq (.seq (.ops false r12_18) (.cond (.t 54) (.seq (.ops false r12_19) .ret) .skip)) (.seq (.ops false r12_20) (.cond (.t 56) (.ops false r12_21) .skip)))))) (.ops false r12_22))))))))) (.ops false r12_23))))))) (.seq (.ops false r12_24) .ret)))))))
theorem F12 : Fn Try.prog 12 67 x12.er [.t 2, .t 3] := ⟨Try.f12, hcl, Try.func12, by kernel_rfl, by kernel_rfl, by kernel_rfl, by kernel_rfl⟩
noncomputable def m12 (a0 : List DS0) : Option ((List DS0) × Int × Unit) :=
  (m15 a0).bind fun y85 =>
  cond (iNe y85.1 0)
  (some (([] : List DS0), y85.1, ()))
  (loopO (S := (List DS0) × Int × Int × (List Int) × Unit) (R := (List DS0) × Int × Unit) (fun s86 =>
    cond (iLt s86.2.2.1 s86.2.1)
    (cond (bnd s86.2.2.1 (lenI s86.1))
     (cond (bnd ((atI s86.1 s86.2.2.1 (0, 0, 0, ())).1) ((16 : Nat) : Int))
      (cond (bnd ((atI s86.1 s86.2.2.1 (0, 0, 0, ())).2.1) ((16 : Nat) : Int))
       (cond (inB ((0 + Int.toNat ((atI s86.1 s86.2.2.1 (0, 0, 0, ())).1) * 16) + Int.toNat ((atI s86.1 s86.2.2.1 (0, 0, 0, ())).2.1) * 1) s86.2.2.2.1)
        (cond (bnd ((atI s86.1 s86.2.2.1 (0, 0, 0, ())).1) ((16 : Nat) : Int))
         (cond (bnd ((atI s86.1 s86.2.2.1 (0, 0, 0, ())).2.1) ((16 : Nat) : Int))
          (cond (inB ((0 + Int.toNat ((atI s86.1 s86.2.2.1 (0, 0, 0, ())).1) * 16) + Int.toNat ((atI s86.1 s86.2.2.1 (0, 0, 0, ())).2.1) * 1) s86.2.2.2.1)
           (some (.inl (s86.1, s86.2.1, iAdd .i64 s86.2.2.1 1, List.set s86.2.2.2.1 ((0 + Int.toNat ((atI s86.1 s86.2.2.1 (0, 0, 0, ())).1) * 16) + Int.toNat ((atI s86.1 s86.2.2.1 (0, 0, 0, ())).2.1) * 1) (iAdd .i64 (List.getD s86.2.2.2.1 ((0 + Int.toNat ((atI s86.1 s86.2.2.1 (0, 0, 0, ())).1) * 16) + Int.toNat ((atI s86.1 s86.2.2.1 (0, 0, 0, ())).2.1) * 1) 0) ((atI s86.1 s86.2.2.1 (0, 0, 0, ())).2.2.1)), ()))) none) none) none) none) none) none) none)
    (Option.map Sum.inr (loopO (S := Int × (List Int) × (List DS0) × Unit) (R := (List DS0) × Int × Unit) (fun s87 =>
       cond (iLt s87.1 16)
       (loopO (S := Int × Int × Int × (List Int) × (List DS0) × Unit) (R := (Int × (List Int) × (List DS0) × Unit) ⊕ ((List DS0) × Int × Unit)) (fun s88 =>
         cond (iLt s88.2.2.1 16)
         (cond (bnd s88.1 ((16 : Nat) : Int))
          (cond (bnd s88.2.2.1 ((16 : Nat) : Int))
           (cond (inB ((0 + Int.toNat s88.1 * 16) + Int.toNat s88.2.2.1 * 1) s88.2.2.2.1)
            (cond (bnd s88.2.2.1 ((16 : Nat) : Int))
             (cond (bnd s88.1 ((16 : Nat) : Int))
              (cond (inB ((0 + Int.toNat s88.2.2.1 * 16) + Int.toNat s88.1 * 1) s88.2.2.2.1)
               (cond (iLt 17592186044416 (iSub .i64 (List.getD s88.2.2.2.1 ((0 + Int.toNat s88.1 * 16) + Int.toNat s88.2.2.1 * 1) 0) (List.getD s88.2.2.2.1 ((0 + Int.toNat s88.2.2.1 * 16) + Int.toNat s88.1 * 1) 0)))
                (some (.inr (.inr (([] : List DS0), 3, ()))))
                (cond (iLt 0 (iSub .i64 (List.getD s88.2.2.2.1 ((0 + Int.toNat s88.1 * 16) + Int.toNat s88.2.2.1 * 1) 0) (List.getD s88.2.2.2.1 ((0 + Int.toNat s88.2.2.1 * 16) + Int.toNat s88.1 * 1) 0)))
                 (cond (fits (List.length s88.2.2.2.2.1 + List.length ([(s88.1, s88.2.2.1, iSub .i64 (List.getD s88.2.2.2.1 ((0 + Int.toNat s88.1 * 16) + Int.toNat s88.2.2.1 * 1) 0) (List.getD s88.2.2.2.1 ((0 + Int.toNat s88.2.2.1 * 16) + Int.toNat s88.1 * 1) 0), ())] : List DS0)) 24)
                  (some (.inl (s88.1, s88.2.1, iAdd .i64 s88.2.2.1 1, s88.2.2.2.1, s88.2.2.2.2.1 ++ ([(s88.1, s88.2.2.1, iSub .i64 (List.getD s88.2.2.2.1 ((0 + Int.toNat s88.1 * 16) + Int.toNat s88.2.2.1 * 1) 0) (List.getD s88.2.2.2.1 ((0 + Int.toNat s88.2.2.1 * 16) + Int.toNat s88.1 * 1) 0), ())] : List DS0), ()))) none)
                 (some (.inl (s88.1, s88.2.1, iAdd .i64 s88.2.2.1 1, s88.2.2.2.1, s88.2.2.2.2.1, ()))))) none) none) none) none) none) none)
         (some (.inr (.inl (iAdd .i64 s88.2.1 1, s88.2.2.2.1, s88.2.2.2.2.1, ())))))
        (s87.1, s87.1, 0, s87.2.1, s87.2.2.1, ()))
       (some (.inr (s87.2.2.1, 0, ()))))
      (0, s86.2.2.2.1, ([] : List DS0), ()))))
   (a0, lenI a0, 0, List.replicate 256 0, ()))
noncomputable def cfg12 : Cfg := ⟨ttab, gtab, [i15], []⟩
theorem eqn12 (x : (List DS0) × Unit) : xfun cfg12 x12 67 [.t 2, .t 3] [(.list tS0)] [(.list tS0), (.int .i64)] x = m12 x.1 := by kernel_rfl
noncomputable def i12 : PI := ⟨12, [(.list tS0)], [(.list tS0), (.int .i64)], fun (x : (List DS0) × Unit) => m12 x.1⟩
theorem oki12 : POk Try.prog (gx gtab) i12 := pok mixed (cfg_p oki15 (cfg_nil _ _) : CfgOk _ cfg12) F12 eqn12
/- 3 treaty/treatylaw35.NettingOffset -/
def r3_0 : List Ins := [⟨some 4, none, .mov (.k (.bool false))⟩]
def r3_1 : List Ins := [⟨some 14, none, .mov (.t 0)⟩,
  ⟨some 15, none, .len (.t 14)⟩,
  ⟨some 16, none, .bin .gtr (.t 15) (.k (.int .i64 200))⟩]
def r3_2 : List Ins := [⟨some 17, none, .call (.k (.func (.func 8) #[] #[])) []⟩,
  ⟨some 4, none, .mov (.t 17)⟩]
def r3_3 : List Ins := [⟨some 18, none, .mov (.t 1)⟩,
  ⟨some 19, none, .call (.k (.func (.func 10) #[] #[])) [(.t 18)]⟩,
  ⟨some 20, none, .call (.k (.func (.func 9) #[] #[])) [(.t 19), (.k (.int .i64 30))]⟩,
  ⟨some 5, none, .mov (.t 20)⟩]
def r3_4 : List Ins := [⟨some 22, none, .mov (.t 0)⟩,
  ⟨some 23, none, .call (.k (.func (.func 11) #[] #[])) [(.t 22)]⟩,
  ⟨some 21, none, .mov (.t 23)⟩,
  ⟨some 24, none, .ext 0 (.t 21)⟩,
  ⟨some 25, none, .ext 1 (.t 21)⟩,
  ⟨some 6, none, .mov (.t 24)⟩,
  ⟨some 7, none, .mov (.t 25)⟩]
def r3_5 : List Ins := [⟨some 27, none, .mov (.t 0)⟩,
  ⟨some 28, none, .call (.k (.func (.func 12) #[] #[])) [(.t 27)]⟩,
  ⟨some 26, none, .mov (.t 28)⟩,
  ⟨some 29, none, .ext 0 (.t 26)⟩,
  ⟨some 30, none, .ext 1 (.t 26)⟩,
  ⟨some 8, none, .mov (.t 29)⟩,
  ⟨some 9, none, .mov (.t 30)⟩]
def r3_6 : List Ins := [⟨some 32, none, .mov (.t 5)⟩,
  ⟨some 33, none, .call (.k (.func (.func 11) #[] #[])) [(.t 32)]⟩,
  ⟨some 31, none, .mov (.t 33)⟩,
  ⟨some 34, none, .ext 0 (.t 31)⟩,
  ⟨some 35, none, .ext 1 (.t 31)⟩,
  ⟨some 10, none, .mov (.t 34)⟩,
  ⟨some 11, none, .mov (.t 35)⟩]
def r3_7 : List Ins := [⟨some 37, none, .mov (.t 5)⟩,
  ⟨some 38, none, .call (.k (.func (.func 12) #[] #[])) [(.t 37)]⟩,
  ⟨some 36, none, .mov (.t 38)⟩,
  ⟨some 39, none, .ext 0 (.t 36)⟩,
  ⟨some 40, none, .ext 1 (.t 36)⟩,
  ⟨some 12, none, .mov (.t 39)⟩,
  ⟨some 13, none, .mov (.t 40)⟩]
def r3_8 : List Ins := [⟨some 41, none, .mov (.t 6)⟩,
  ⟨some 42, none, .mov (.t 8)⟩,
  ⟨some 43, none, .call (.k (.func (.func 13) #[] #[])) [(.t 41), (.t 42)]⟩,
  ⟨some 44, none, .mov (.t 43)⟩,
  ⟨some 45, some (44, true), .mov (.t 7)⟩,
  ⟨some 46, some (44, true), .mov (.t 9)⟩,
  ⟨some 47, some (44, true), .bin .eql (.t 45) (.t 46)⟩,
  ⟨some 48, none, .pick (.t 44) (.t 47) (.k (.bool false))⟩,
  ⟨some 49, none, .mov (.t 48)⟩,
  ⟨some 50, some (49, true), .mov (.t 10)⟩,
  ⟨some 51, some (49, true), .mov (.t 12)⟩,
  ⟨some 52, some (49, true), .call (.k (.func (.func 13) #[] #[])) [(.t 50), (.t 51)]⟩,
  ⟨some 53, none, .pick (.t 49) (.t 52) (.k (.bool false))⟩,
  ⟨some 54, none, .mov (.t 53)⟩,
  ⟨some 55, some (54, true), .mov (.t 11)⟩,
  ⟨some 56, some (54, true), .mov (.t 13)⟩,
  ⟨some 57, some (54, true), .bin .eql (.t 55) (.t 56)⟩,
  ⟨some 58, none, .pick (.t 54) (.t 57) (.k (.bool false))⟩,
  ⟨some 59, none, .mov (.t 58)⟩,
  ⟨some 60, some (59, true), .mov (.t 0)⟩,
  ⟨some 61, some (59, true), .call (.k (.func (.func 14) #[] #[])) [(.t 60)]⟩,
  ⟨some 62, some (59, true), .mov (.t 0)⟩,
  ⟨some 63, some (59, true), .call (.k (.func (.func 15) #[] #[])) [(.t 62)]⟩,
  ⟨some 64, some (59, true), .bin .eql (.t 61) (.t 63)⟩,
  ⟨some 65, none, .pick (.t 59) (.t 64) (.k (.bool false))⟩,
  ⟨some 66, none, .mov (.t 65)⟩,
  ⟨some 67, some (66, true), .mov (.t 5)⟩,
  ⟨some 68, some (66, true), .call (.k (.func (.func 14) #[] #[])) [(.t 67)]⟩,
  ⟨some 69, some (66, true), .bin .eql (.t 68) (.k (.int .i64 0))⟩,
  ⟨some 70, none, .pick (.t 66) (.t 69) (.k (.bool false))⟩,
  ⟨some 71, none, .mov (.t 70)⟩,
  ⟨some 72, some (71, true), .call (.k (.func (.func 8) #[] #[])) []⟩,
  ⟨some 73, none, .pick (.t 71) (.t 72) (.k (.bool false))⟩,
  ⟨some 4, none, .mov (.t 73)⟩]
def x3 : XC := (.seq (.ops false r3_0) (.seq (.seq (.ops false r3_1) (.cond (.t 16) (.seq (.ops false r3_2) .ret) .skip)) (.seq (.ops false r3_3) (.seq (.ops false r3_4) (.seq (.ops false r3_5) (.seq (.ops false r3_6) (.seq (.ops false r3_7) (.seq (.ops false r3_8) .ret))))))))
theorem F3 : Fn Try.prog 3 74 x3.er [.t 4] := ⟨Try.f3, hcl, Try.func3, by kernel_rfl, by kernel_rfl, by kernel_rfl, by kernel_rfl⟩
noncomputable def m3 (a0 : List DS0) (a1 : List Int) : Option (Bool × Unit) :=
  cond (iLt 200 (lenI a0))
  ((m8).bind fun y44 =>
   some (y44.1, ()))
  ((m10 a1).bind fun y47 =>
   (m9 30 y47.1 y47.2.1).bind fun y73 =>
   (m11 a0).bind fun y74 =>
   (m12 a0).bind fun y89 =>
   (m11 y73.2.2.1).bind fun y90 =>
   (m12 y73.2.2.1).bind fun y91 =>
   (m13 y74.1 y89.1).bind fun y92 =>
   cond (cond y92.1 (iEq y74.2.1 y89.2.1) false)
   ((m13 y90.1 y91.1).bind fun y93 =>
    cond (cond y93.1 (iEq y90.2.1 y91.2.1) false)
    ((m14 a0).bind fun y94 =>
     (m15 a0).bind fun y95 =>
     cond (iEq y94.1 y95.1)
     ((m14 y73.2.2.1).bind fun y96 =>
      cond (iEq y96.1 0)
      ((m8).bind fun y97 =>
       some (y97.1, ()))
      (some (false, ())))
     (some (false, ())))
    (some (false, ())))
   (some (false, ())))
noncomputable def cfg3 : Cfg := ⟨ttab, gtab, [i11, i12, i13, i14, i15, i8], [h10, h9]⟩
theorem eqn3 (x : (List DS0) × (List Int) × Unit) : xfun cfg3 x3 74 [.t 4] [(.list tS0), (.list (.int .i64))] [.bool] x = m3 x.1 x.2.1 := by kernel_rfl
noncomputable def i3 : PI := ⟨3, [(.list tS0), (.list (.int .i64))], [.bool], fun (x : (List DS0) × (List Int) × Unit) => m3 x.1 x.2.1⟩
theorem oki3 : POk Try.prog (gx gtab) i3 := pok mixed (cfg_p oki11 (cfg_p oki12 (cfg_p oki13 (cfg_p oki14 (cfg_p oki15 (cfg_p oki8 (cfg_h okh10 (cfg_h okh9 (cfg_nil _ _)))))))) : CfgOk _ cfg3) F3 eqn3
/- 25 treaty/treatyref01.Valid -/
def r25_0 : List Ins := [⟨some 2, none, .mov (.k (.bool false))⟩]
def r25_1 : List Ins := [⟨some 3, none, .mov (.t 0)⟩,
  ⟨some 4, none, .bin .geq (.t 3) (.k (.int .i64 (-17592186044416)))⟩,
  ⟨some 5, none, .mov (.t 4)⟩,
  ⟨some 6, some (5, true), .mov (.t 0)⟩,
  ⟨some 7, some (5, true), .bin .leq (.t 6) (.k (.int .i64 17592186044416))⟩,
  ⟨some 8, none, .pick (.t 5) (.t 7) (.k (.bool false))⟩,
  ⟨some 2, none, .mov (.t 8)⟩]
def x25 : XC := (.seq (.ops false r25_0) (.seq (.ops false r25_1) .ret))
theorem F25 : Fn Try.prog 25 9 x25.er [.t 2] := ⟨Try.f25, hcl, Try.func25, by kernel_rfl, by kernel_rfl, by kernel_rfl, by kernel_rfl⟩
noncomputable def m25 (a0 : Int) : Option (Bool × Unit) :=
  some (cond (iLe (-17592186044416) a0) (iLe a0 17592186044416) false, ())
noncomputable def cfg25 : Cfg := ⟨ttab, gtab, [], []⟩
theorem eqn25 (x : Int × Unit) : xfun cfg25 x25 9 [.t 2] [(.int .i64)] [.bool] x = m25 x.1 := by kernel_rfl
noncomputable def i25 : PI := ⟨25, [(.int .i64)], [.bool], fun (x : Int × Unit) => m25 x.1⟩
theorem oki25 : POk Try.prog (gx gtab) i25 := pok mixed (cfg_nil _ _ : CfgOk _ cfg25) F25 eqn25
/- 16 treaty/treatyref33.Positions -/
def r16_0 : List Ins := [⟨some 2, none, .mov (.k (.slice none 0 0))⟩,
  ⟨some 3, none, .mov (.k (.int .i64 0))⟩]
def r16_1 : List Ins := [⟨some 10, none, .mov (.t 0)⟩,
  ⟨some 11, none, .call (.k (.func (.func 15) #[] #[])) [(.t 10)]⟩,
  ⟨some 4, none, .mov (.t 11)⟩]
def r16_2 : List Ins := [⟨some 12, none, .mov (.t 4)⟩,
  ⟨some 13, none, .bin .neq (.t 12) (.k (.int .i64 0))⟩]
def r16_3 : List Ins := [⟨some 14, none, .mov (.t 4)⟩,
  ⟨some 2, none, .mov (.k (.slice none 0 0))⟩,
  ⟨some 3, none, .mov (.t 14)⟩]
def r16_4 : List Ins := [⟨some 15, none, .mk 3 1 8 (.int .i64 0) (.k (.int .i64 16))⟩,
  ⟨some 5, none, .mov (.t 15)⟩]
def r16_5 : List Ins := [⟨some 16, none, .mov (.t 0)⟩,
  ⟨some 17, none, .len (.t 16)⟩,
  ⟨some 18, none, .mov (.k (.int .i64 0))⟩]
def r16_6 : List Ins := [⟨some 19, none, .bin .lss (.t 18) (.t 17)⟩]
def r16_7 : List Ins := [⟨some 20, none, .iaddr 3 (.t 16) (.t 18)⟩,
  ⟨some 21, none, .load 3 true (.t 20)⟩,
  ⟨some 7, none, .alloc 39 (.agg #[.int .i64 0, .int .i64 0, .int .i64 0])⟩,
  ⟨none, none, .store 3 (.t 7) (.t 21)⟩]
def r16_8 : List Ins := [⟨some 22, none, .mov (.t 5)⟩,
  ⟨some 23, none, .faddr 1 (.t 7)⟩,
  ⟨some 24, none, .load 1 false (.t 23)⟩,
  ⟨some 25, none, .iaddr 1 (.t 22) (.t 24)⟩,
  ⟨some 26, none, .load 1 false (.t 25)⟩,
  ⟨some 27, none, .faddr 2 (.t 7)⟩,
  ⟨some 28, none, .load 1 false (.t 27)⟩,
  ⟨some 29, none, .bin .add (.t 26) (.t 28)⟩,
  ⟨some 30, none, .iaddr 1 (.t 22) (.t 24)⟩,
  ⟨none, none, .store 1 (.t 30) (.t 29)⟩]
def r16_9 : List Ins := [⟨some 31, none, .mov (.t 5)⟩,
  ⟨some 32, none, .faddr 0 (.t 7)⟩,
  ⟨some 33, none, .load 1 false (.t 32)⟩,
  ⟨some 34, none, .iaddr 1 (.t 31) (.t 33)⟩,
  ⟨some 35, none, .load 1 false (.t 34)⟩,
  ⟨some 36, none, .faddr 2 (.t 7)⟩,
  ⟨some 37, none, .load 1 false (.t 36)⟩,
  ⟨some 38, none, .bin .sub (.t 35) (.t 37)⟩,
  ⟨some 39, none, .iaddr 1 (.t 31) (.t 33)⟩,
  ⟨none, none, .store 1 (.t 39) (.t 38)⟩]
def r16_10 : List Ins := [⟨some 40, none, .bin .add (.t 18) (.k (.int .i64 1))⟩,
  ⟨some 18, none, .mov (.t 40)⟩]
def r16_11 : List Ins := [⟨some 41, none, .mov (.t 5)⟩,
  ⟨some 42, none, .len (.t 41)⟩,
  ⟨some 43, none, .mov (.k (.int .i64 0))⟩]
def r16_12 : List Ins := [⟨some 44, none, .bin .lss (.t 43) (.t 42)⟩]
def r16_13 : List Ins := [⟨some 45, none, .iaddr 1 (.t 41) (.t 43)⟩,
  ⟨some 46, none, .load 1 false (.t 45)⟩,
  ⟨some 9, none, .mov (.t 46)⟩]
def r16_14 : List Ins := [⟨some 47, none, .mov (.t 9)⟩,
  ⟨some 48, none, .call (.k (.func (.func 25) #[] #[])) [(.t 47)]⟩,
  ⟨some 49, none, .un .not (.t 48)⟩]
def r16_15 : List Ins := [⟨some 2, none, .mov (.k (.slice none 0 0))⟩,
  ⟨some 3, none, .mov (.k (.int .i64 3))⟩]
def r16_16 : List Ins := [⟨some 50, none, .bin .add (.t 43) (.k (.int .i64 1))⟩,
  ⟨some 43, none, .mov (.t 50)⟩]
def r16_17 : List Ins := [⟨some 51, none, .mov (.t 5)⟩,
  ⟨some 2, none, .mov (.t 51)⟩,
  ⟨some 3, none, .mov (.k (.int .i64 0))⟩]
def x16 : XC := (.seq (.ops false r16_0) (.seq (.seq (.ops false r16_1) (.seq (.ops false r16_2) (.cond (.t 13) (.seq (.ops false r16_3) .ret) .skip))) (.seq (.ops false r16_4) (.seq (.seq (.ops false r16_5) (.block 0 (.loop [] ⟨52, [(16, (.list tS0)), (17, (.int .i64)), (18, (.int .i64))], [(5, .row 0)], [.row 3 (.int .i64) false]⟩ (.seq (.ops false r16_6) (.seq (.cond (.t 19) .skip (.exit 0)) (.seq (.block 1 (.seq (.ops false r16_7) (.seq (.ops true r16_8) (.ops true r16_9)))) (.ops false r16_10))))))) (.seq (.seq (.ops false r16_11) (.block 2 (.loop [] ⟨52, [(42, (.int .i64)), (43, (.int .i64))], [(5, .row 0), (41, .row 0)], [.row 3 (.int .i64) false]⟩ (.seq (.ops false r16_12) (.seq (.cond (.t 44) .skip (.exit 2)) (.seq (.block 3 (.seq (.ops false r16_13) (.seq (.ops false r16_14) (.cond (.t 49) (.seq (.ops false r16_15) .ret) .skip)))) (.ops false r16_16))))))) (.seq (.ops false r16_17) .ret))))))
theorem F16 : Fn Try.prog 16 52 x16.er [.t 2, .t 3] := ⟨Try.f16, hcl, Try.func16, by kernel_rfl, by kernel_rfl, by kernel_rfl, by kernel_rfl⟩
noncomputable def m16 (a0 : List DS0) : Option ((List Int) × Int × Unit) :=
  (m15 a0).bind fun y105 =>
  cond (iNe y105.1 0)
  (some (([] : List Int), y105.1, ()))
  (cond (fitsI 16 8)
   (loopO (S := (List DS0) × Int × Int × (List Int) × Unit) (R := (List Int) × Int × Unit) (fun s106 =>
     cond (iLt s106.2.2.1 s106.2.1)
     (cond (bnd s106.2.2.1 (lenI s106.1))
      (cond (bnd ((atI s106.1 s106.2.2.1 (0, 0, 0, ())).2.1) (lenI s106.2.2.2.1))
       (cond (inB (Int.toNat ((atI s106.1 s106.2.2.1 (0, 0, 0, ())).2.1)) s106.2.2.2.1)
        (cond (bnd ((atI s106.1 s106.2.2.1 (0, 0, 0, ())).2.1) (lenI s106.2.2.2.1))
         (cond (inB (Int.toNat ((atI s106.1 s106.2.2.1 (0, 0, 0, ())).2.1)) s106.2.2.2.1)
          (cond (bnd ((atI s106.1 s106.2.2.1 (0, 0, 0, ())).1) (lenI (List.set s106.2.2.2.1 (Int.toNat ((atI s106.1 s106.2.2.1 (0, 0, 0, ())).2.1)) (iAdd .i64 (List.getD s106.2.2.2.1 (Int.toNat ((atI s106.1 s106.2.2.1 (0, 0, 0, ())).2.1)) 0) ((atI s106.1 s106.2.2.1 (0, 0, 0, ())).2.2.1)))))
           (cond (inB (Int.toNat ((atI s106.1 s106.2.2.1 (0, 0, 0, ())).1)) (List.set s106.2.2.2.1 (Int.toNat ((atI s106.1 s106.2.2.1 (0, 0, 0, ())).2.1)) (iAdd .i64 (List.getD s106.2.2.2.1 (Int.toNat ((atI s106.1 s106.2.2.1 (0, 0, 0, ())).2.1)) 0) ((atI s106.1 s106.2.2.1 (0, 0, 0, ())).2.2.1))))
            (cond (bnd ((atI s106.1 s106.2.2.1 (0, 0, 0, ())).1) (lenI (List.set s106.2.2.2.1 (Int.toNat ((atI s106.1 s106.2.2.1 (0, 0, 0, ())).2.1)) (iAdd .i64 (List.getD s106.2.2.2.1 (Int.toNat ((atI s106.1 s106.2.2.1 (0, 0, 0, ())).2.1)) 0) ((atI s106.1 s106.2.2.1 (0, 0, 0, ())).2.2.1)))))
             (cond (inB (Int.toNat ((atI s106.1 s106.2.2.1 (0, 0, 0, ())).1)) (List.set s106.2.2.2.1 (Int.toNat ((atI s106.1 s106.2.2.1 (0, 0, 0, ())).2.1)) (iAdd .i64 (List.getD s106.2.2.2.1 (Int.toNat ((atI s106.1 s106.2.2.1 (0, 0, 0, ())).2.1)) 0) ((atI s106.1 s106.2.2.1 (0, 0, 0, ())).2.2.1))))
              (some (.inl (s106.1, s106.2.1, iAdd .i64 s106.2.2.1 1, List.set (List.set s106.2.2.2.1 (Int.toNat ((atI s106.1 s106.2.2.1 (0, 0, 0, ())).2.1)) (iAdd .i64 (List.getD s106.2.2.2.1 (Int.toNat ((atI s106.1 s106.2.2.1 (0, 0, 0, ())).2.1)) 0) ((atI s106.1 s106.2.2.1 (0, 0, 0, ())).2.2.1))) (Int.toNat ((atI s106.1 s106.2.2.1 (0, 0, 0, ())).1)) (iSub .i64 (List.getD (List.set s106.2.2.2.1 (Int.toNat ((atI s106.1 s106.2.2.1 (0, 0, 0, ())).2.1)) (iAdd .i64 (List.getD s106.2.2.2.1 (Int.toNat ((atI s106.1 s106.2.2.1 (0, 0, 0, ())).2.1)) 0) ((atI s106.1 s106.2.2.1 (0, 0, 0, ())).2.2.1))) (Int.toNat ((atI s106.1 s106.2.2.1 (0, 0, 0, ())).1)) 0) ((atI s106.1 s106.2.2.1 (0, 0, 0, ())).2.2.1)), ()))) none) none) none) none) none) none) none) none) none)
     (Option.map Sum.inr (loopO (S := Int × Int × (List Int) × Unit) (R := (List Int) × Int × Unit) (fun s107 =>
        cond (iLt s107.2.1 s107.1)
        (cond (bnd s107.2.1 (lenI s107.2.2.1))
         (cond (inB (Int.toNat s107.2.1) s107.2.2.1)
          ((m25 (List.getD s107.2.2.1 (Int.toNat s107.2.1) 0)).bind fun y108 =>
           cond (not y108.1)
           (some (.inr (([] : List Int), 3, ())))
           (some (.inl (s107.1, iAdd .i64 s107.2.1 1, s107.2.2.1, ())))) none) none)
        (some (.inr (s107.2.2.1, 0, ()))))
       (lenI s106.2.2.2.1, 0, s106.2.2.2.1, ()))))
    (a0, lenI a0, 0, List.replicate (Int.toNat 16) 0, ())) none)
noncomputable def cfg16 : Cfg := ⟨ttab, gtab, [i15, i25], []⟩
theorem eqn16 (x : (List DS0) × Unit) : xfun cfg16 x16 52 [.t 2, .t 3] [(.list tS0)] [(.list (.int .i64)), (.int .i64)] x = m16 x.1 := by kernel_rfl
noncomputable def i16 : PI := ⟨16, [(.list tS0)], [(.list (.int .i64)), (.int .i64)], fun (x : (List DS0) × Unit) => m16 x.1⟩
theorem oki16 : POk Try.prog (gx gtab) i16 := pok mixed (cfg_p oki15 (cfg_p oki25 (cfg_nil _ _)) : CfgOk _ cfg16) F16 eqn16
/- 18 treaty/treatyref33.Payments -/
def r18_0 : List Ins := [⟨some 2, none, .mov (.k (.slice none 0 0))⟩,
  ⟨some 3, none, .mov (.k (.int .i64 0))⟩]
def r18_1 : List Ins := [⟨some 13, none, .mov (.t 0)⟩,
  ⟨some 14, none, .len (.t 13)⟩,
  ⟨some 15, none, .bin .gtr (.t 14) (.k (.int .i64 16))⟩]
def r18_2 : List Ins := [⟨some 2, none, .mov (.k (.slice none 0 0))⟩,
  ⟨some 3, none, .mov (.k (.int .i64 4))⟩]
def r18_3 : List Ins := [⟨some 4, none, .mov (.k (.int .i64 0))⟩]
def r18_4 : List Ins := [⟨some 16, none, .mov (.t 0)⟩,
  ⟨some 17, none, .len (.t 16)⟩,
  ⟨some 18, none, .mov (.k (.int .i64 0))⟩]
def r18_5 : List Ins := [⟨some 19, none, .bin .lss (.t 18) (.t 17)⟩]
def r18_6 : List Ins := [⟨some 20, none, .iaddr 1 (.t 16) (.t 18)⟩,
  ⟨some 21, none, .load 1 false (.t 20)⟩,
  ⟨some 6, none, .mov (.t 21)⟩]
def r18_7 : List Ins := [⟨some 22, none, .mov (.t 6)⟩,
  ⟨some 23, none, .call (.k (.func (.func 25) #[] #[])) [(.t 22)]⟩,
  ⟨some 24, none, .un .not (.t 23)⟩]
def r18_8 : List Ins := [⟨some 2, none, .mov (.k (.slice none 0 0))⟩,
  ⟨some 3, none, .mov (.k (.int .i64 1))⟩]
def r18_9 : List Ins := [⟨some 25, none, .mov (.t 4)⟩,
  ⟨some 26, none, .mov (.t 6)⟩,
  ⟨some 27, none, .bin .add (.t 25) (.t 26)⟩,
  ⟨some 4, none, .mov (.t 27)⟩]
def r18_10 : List Ins := [⟨some 28, none, .bin .add (.t 18) (.k (.int .i64 1))⟩,
  ⟨some 18, none, .mov (.t 28)⟩]
def r18_11 : List Ins := [⟨some 29, none, .mov (.t 4)⟩,
  ⟨some 30, none, .bin .neq (.t 29) (.k (.int .i64 0))⟩]
def r18_12 : List Ins := [⟨some 2, none, .mov (.k (.slice none 0 0))⟩,
  ⟨some 3, none, .mov (.k (.int .i64 14))⟩]
def r18_13 : List Ins := [⟨some 31, none, .bslice 3 1 []⟩,
  ⟨some 32, none, .mov (.t 0)⟩,
  ⟨some 33, none, .app 3 1 8 (.t 31) (.t 32)⟩,
  ⟨some 7, none, .mov (.t 33)⟩]
def r18_14 : List Ins := [⟨some 8, none, .mov (.k (.slice none 0 0))⟩]
def r18_15 : List Ins := [⟨some 9, none, .mov (.k (.int .i64 0))⟩,
  ⟨some 10, none, .mov (.k (.int .i64 0))⟩]
def r18_16 : List Ins := [⟨some 34, none, .mov (.t 7)⟩,
  ⟨some 35, none, .len (.t 34)⟩,
  ⟨some 36, none, .mov (.k (.int .i64 0))⟩]
def r18_17 : List Ins := [⟨some 37, none, .bin .lss (.t 36) (.t 35)⟩]
def r18_18 : List Ins := [⟨some 38, none, .mov (.t 36)⟩,
  ⟨some 11, none, .mov (.t 38)⟩]
def r18_19 : List Ins := [⟨some 39, none, .mov (.t 7)⟩,
  ⟨some 40, none, .mov (.t 11)⟩,
  ⟨some 41, none, .iaddr 1 (.t 39) (.t 40)⟩,
  ⟨some 42, none, .load 1 false (.t 41)⟩,
  ⟨some 43, none, .mov (.t 7)⟩,
  ⟨some 44, none, .mov (.t 9)⟩,
  ⟨some 45, none, .iaddr 1 (.t 43) (.t 44)⟩,
  ⟨some 46, none, .load 1 false (.t 45)⟩,
  ⟨some 47, none, .bin .lss (.t 42) (.t 46)⟩]
def r18_20 : List Ins := [⟨some 48, none, .mov (.t 11)⟩,
  ⟨some 9, none, .mov (.t 48)⟩]
def r18_21 : List Ins := [⟨some 49, none, .mov (.t 7)⟩,
  ⟨some 50, none, .mov (.t 11)⟩,
  ⟨some 51, none, .iaddr 1 (.t 49) (.t 50)⟩,
  ⟨some 52, none, .load 1 false (.t 51)⟩,
  ⟨some 53, none, .mov (.t 7)⟩,
  ⟨some 54, none, .mov (.t 10)⟩,
  ⟨some 55, none, .iaddr 1 (.t 53) (.t 54)⟩,
  ⟨some 56, none, .load 1 false (.t 55)⟩,
  ⟨some 57, none, .bin .gtr (.t 52) (.t 56)⟩]
def r18_22 : List Ins := [⟨some 58, none, .mov (.t 11)⟩,
  ⟨some 10, none, .mov (.t 58)⟩]
def r18_23 : List Ins := [⟨some 59, none, .bin .add (.t 36) (.k (.int .i64 1))⟩,
  ⟨some 36, none, .mov (.t 59)⟩]
def r18_24 : List Ins := [⟨some 60, none, .mov (.t 7)⟩,
  ⟨some 61, none, .len (.t 60)⟩,
  ⟨some 62, none, .bin .eql (.t 61) (.k (.int .i64 0))⟩,
  ⟨some 63, none, .mov (.t 62)⟩,
  ⟨some 64, some (63, false), .mov (.t 7)⟩,
  ⟨some 65, some (63, false), .mov (.t 10)⟩,
  ⟨some 66, some (63, false), .iaddr 1 (.t 64) (.t 65)⟩,
  ⟨some 67, some (63, false), .load 1 false (.t 66)⟩,
  ⟨some 68, some (63, false), .bin .eql (.t 67) (.k (.int .i64 0))⟩,
  ⟨some 69, none, .pick (.t 63) (.k (.bool true)) (.t 68)⟩]
def r18_25 : List Ins := [⟨some 70, none, .mov (.t 8)⟩,
  ⟨some 2, none, .mov (.t 70)⟩,
  ⟨some 3, none, .mov (.k (.int .i64 0))⟩]
def r18_26 : List Ins := [⟨some 71, none, .mov (.t 7)⟩,
  ⟨some 72, none, .mov (.t 9)⟩,
  ⟨some 73, none, .iaddr 1 (.t 71) (.t 72)⟩,
  ⟨some 74, none, .load 1 false (.t 73)⟩,
  ⟨some 75, none, .un .neg (.t 74)⟩,
  ⟨some 76, none, .mov (.t 7)⟩,
  ⟨some 77, none, .mov (.t 10)⟩,
  ⟨some 78, none, .iaddr 1 (.t 76) (.t 77)⟩,
  ⟨some 79, none, .load 1 false (.t 78)⟩,
  ⟨some 80, none, .min2 (.t 75) (.t 79)⟩,
  ⟨some 12, none, .mov (.t 80)⟩]
def r18_27 : List Ins := [⟨some 81, none, .mov (.t 7)⟩,
  ⟨some 82, none, .mov (.t 9)⟩,
  ⟨some 83, none, .iaddr 1 (.t 81) (.t 82)⟩,
  ⟨some 84, none, .load 1 false (.t 83)⟩,
  ⟨some 85, none, .mov (.t 12)⟩,
  ⟨some 86, none, .bin .add (.t 84) (.t 85)⟩,
  ⟨some 87, none, .iaddr 1 (.t 81) (.t 82)⟩,
  ⟨none, none, .store 1 (.t 87) (.t 86)⟩]
def r18_28 : List Ins := [⟨some 88, none, .mov (.t 7)⟩,
  ⟨some 89, none, .mov (.t 10)⟩,
  ⟨some 90, none, .iaddr 1 (.t 88) (.t 89)⟩,
  ⟨some 91, none, .load 1 false (.t 90)⟩,
  ⟨some 92, none, .mov (.t 12)⟩,
  ⟨some 93, none, .bin .sub (.t 91) (.t 92)⟩,
  ⟨some 94, none, .iaddr 1 (.t 88) (.t 89)⟩,
  ⟨none, none, .store 1 (.t 94) (.t 93)⟩]
def r18_29 : List Ins := [⟨some 95, none, .mov (.t 8)⟩,
  ⟨some 96, none, .mov (.t 9)⟩,
  ⟨some 97, none, .mov (.t 10)⟩,
  ⟨some 98, none, .mov (.t 12)⟩,
  ⟨some 99, none, .build [.int .i64 0, .int .i64 0, .int .i64 0] [(0, 1, (.t 96)), (1, 1, (.t 97)), (2, 1, (.t 98))]⟩,
  ⟨some 100, none, .bslice 39 3 [(.t 99)]⟩,
  ⟨some 101, none, .app 39 3 24 (.t 95) (.t 100)⟩,
  ⟨some 8, none, .mov (.t 101)⟩]
def x18 : XC := (.seq (.ops false r18_0) (.seq (.seq (.ops false r18_1) (.cond (.t 15) (.seq (.ops false r18_2) .ret) .skip)) (.seq (.ops false r18_3) (.seq (.seq (.ops false r18_4) (.block 0 (.loop [] ⟨102, [(0, (.list (.int .i64))), (4, (.int .i64)), (16, (.list (.int .i64))), (17, (.int .i64)), (18, (.int .i64))], [], []⟩ (.seq (.ops false r18_5) (.seq (.cond (.t 19) .skip (.exit 0)) (.seq (.block 1 (.seq (.ops false r18_6) (.seq (.seq (.ops false r18_7) (.cond (.t 24) (.seq (.ops false r18_8) .ret) .skip)) (.ops false r18_9)))) (.ops false r18_10))))))) (.seq (.seq (.ops false r18_11) (.cond (.t 30) (.seq (.ops false r18_12) .ret) .skip)) (.seq (.ops false r18_13) (.seq (.ops false r18_14) (.block 2 (.loop [.gh 8 39 tS0] ⟨102, [], [(7, .row 0), (8, .row 1)], [.row 3 (.int .i64) false, .row 39 tS0 false]⟩ (.block 3 (.seq (.ops false r18_15) (.seq (.seq (.ops false r18_16) (.block 4 (.loop [.gh 8 39 tS0] ⟨102, [(9, (.int .i64)), (10, (.int .i64)), (35, (.int .i64)), (36, (.int .i64))], [(7, .row 0), (8, .row 1)], [.row 3 (.int .i64) false, .row 39 tS0 false]⟩ (.seq (.ops false r18_17) (.seq (.cond (.t 37) .skip (.exit 4)) (.seq (.block 5 (.seq (.ops false r18_18) (.seq (.seq (.ops true r18_19) (.cond (.t 47) (.ops false r18_20) .skip)) (.seq (.ops true r18_21) (.cond (.t 57) (.ops false r18_22) .skip))))) (.ops false r18_23))))))) (.seq (.seq (.ops false r18_24) (.cond (.t 69) (.seq (.ops false r18_25) .ret) .skip)) (.seq (.ops true r18_26) (.seq (.ops false r18_27) (.seq (.ops false r18_28) (.ops false r18_29)))))))))))))))))
theorem F18 : Fn Try.prog 18 102 x18.er [.t 2, .t 3] := ⟨Try.f18, hcl, Try.func18, by kernel_rfl, by kernel_rfl, by kernel_rfl, by kernel_rfl⟩
noncomputable def m18 (a0 : List Int) : Option ((List DS0) × Int × Unit) :=
  cond (iLt 16 (lenI a0))
  (some (([] : List DS0), 4, ()))
  (loopO (S := (List Int) × Int × (List Int) × Int × Int × Unit) (R := (List DS0) × Int × Unit) (fun s119 =>
    cond (iLt s119.2.2.2.2.1 s119.2.2.2.1)
    (cond (bnd s119.2.2.2.2.1 (lenI s119.2.2.1))
     ((m25 (atI s119.2.2.1 s119.2.2.2.2.1 0)).bind fun y120 =>
      cond (not y120.1)
      (some (.inr (([] : List DS0), 1, ())))
      (some (.inl (s119.1, iAdd .i64 s119.2.1 (atI s119.2.2.1 s119.2.2.2.2.1 0), s119.2.2.1, s119.2.2.2.1, iAdd .i64 s119.2.2.2.2.1 1, ())))) none)
    (Option.map Sum.inr (cond (iNe s119.2.1 0)
      (some (([] : List DS0), 14, ()))
      (cond (fits (List.length ([] : List Int) + List.length s119.1) 8)
       (loopO (S := (List Int) × (List DS0) × Unit) (R := (List DS0) × Int × Unit) (fun s121 =>
         loopO (S := Int × Int × Int × Int × (List Int) × (List DS0) × Unit) (R := ((List Int) × (List DS0) × Unit) ⊕ ((List DS0) × Int × Unit)) (fun s122 =>
          cond (iLt s122.2.2.2.1 s122.2.2.1)
          (cond (bnd s122.2.2.2.1 (lenI s122.2.2.2.2.1))
           (cond (inB (Int.toNat s122.2.2.2.1) s122.2.2.2.2.1)
            (cond (bnd s122.1 (lenI s122.2.2.2.2.1))
             (cond (inB (Int.toNat s122.1) s122.2.2.2.2.1)
              (cond (iLt (List.getD s122.2.2.2.2.1 (Int.toNat s122.2.2.2.1) 0) (List.getD s122.2.2.2.2.1 (Int.toNat s122.1) 0))
               (cond (bnd s122.2.2.2.1 (lenI s122.2.2.2.2.1))
                (cond (inB (Int.toNat s122.2.2.2.1) s122.2.2.2.2.1)
                 (cond (bnd s122.2.1 (lenI s122.2.2.2.2.1))
                  (cond (inB (Int.toNat s122.2.1) s122.2.2.2.2.1)
                   (cond (iLt (List.getD s122.2.2.2.2.1 (Int.toNat s122.2.1) 0) (List.getD s122.2.2.2.2.1 (Int.toNat s122.2.2.2.1) 0))
                    (some (.inl (s122.2.2.2.1, s122.2.2.2.1, s122.2.2.1, iAdd .i64 s122.2.2.2.1 1, s122.2.2.2.2.1, s122.2.2.2.2.2.1, ())))
                    (some (.inl (s122.2.2.2.1, s122.2.1, s122.2.2.1, iAdd .i64 s122.2.2.2.1 1, s122.2.2.2.2.1, s122.2.2.2.2.2.1, ())))) none) none) none) none)
               (cond (bnd s122.2.2.2.1 (lenI s122.2.2.2.2.1))
                (cond (inB (Int.toNat s122.2.2.2.1) s122.2.2.2.2.1)
                 (cond (bnd s122.2.1 (lenI s122.2.2.2.2.1))
                  (cond (inB (Int.toNat s122.2.1) s122.2.2.2.2.1)
                   (cond (iLt (List.getD s122.2.2.2.2.1 (Int.toNat s122.2.1) 0) (List.getD s122.2.2.2.2.1 (Int.toNat s122.2.2.2.1) 0))
                    (some (.inl (s122.1, s122.2.2.2.1, s122.2.2.1, iAdd .i64 s122.2.2.2.1 1, s122.2.2.2.2.1, s122.2.2.2.2.2.1, ())))
                    (some (.inl (s122.1, s122.2.1, s122.2.2.1, iAdd .i64 s122.2.2.2.1 1, s122.2.2.2.2.1, s122.2.2.2.2.2.1, ())))) none) none) none) none)) none) none) none) none)
          (Option.map Sum.inr (cond (or (bnd s122.2.1 (lenI s122.2.2.2.2.1)) (not (bEq (iEq (lenI s122.2.2.2.2.1) 0) false)))
            (cond (or (inB (Int.toNat s122.2.1) s122.2.2.2.2.1) (not (bEq (iEq (lenI s122.2.2.2.2.1) 0) false)))
             (cond (cond (iEq (lenI s122.2.2.2.2.1) 0) true (iEq (List.getD s122.2.2.2.2.1 (Int.toNat s122.2.1) 0) 0))
              (some (.inr (s122.2.2.2.2.2.1, 0, ())))
              (cond (bnd s122.1 (lenI s122.2.2.2.2.1))
               (cond (inB (Int.toNat s122.1) s122.2.2.2.2.1)
                (cond (bnd s122.2.1 (lenI s122.2.2.2.2.1))
                 (cond (inB (Int.toNat s122.2.1) s122.2.2.2.2.1)
                  (cond (bnd s122.1 (lenI s122.2.2.2.2.1))
                   (cond (inB (Int.toNat s122.1) s122.2.2.2.2.1)
                    (cond (bnd s122.1 (lenI s122.2.2.2.2.1))
                     (cond (inB (Int.toNat s122.1) s122.2.2.2.2.1)
                      (cond (bnd s122.2.1 (lenI (List.set s122.2.2.2.2.1 (Int.toNat s122.1) (iAdd .i64 (List.getD s122.2.2.2.2.1 (Int.toNat s122.1) 0) (iMin (iNeg .i64 (List.getD s122.2.2.2.2.1 (Int.toNat s122.1) 0)) (List.getD s122.2.2.2.2.1 (Int.toNat s122.2.1) 0))))))
                       (cond (inB (Int.toNat s122.2.1) (List.set s122.2.2.2.2.1 (Int.toNat s122.1) (iAdd .i64 (List.getD s122.2.2.2.2.1 (Int.toNat s122.1) 0) (iMin (iNeg .i64 (List.getD s122.2.2.2.2.1 (Int.toNat s122.1) 0)) (List.getD s122.2.2.2.2.1 (Int.toNat s122.2.1) 0)))))
                        (cond (bnd s122.2.1 (lenI (List.set s122.2.2.2.2.1 (Int.toNat s122.1) (iAdd .i64 (List.getD s122.2.2.2.2.1 (Int.toNat s122.1) 0) (iMin (iNeg .i64 (List.getD s122.2.2.2.2.1 (Int.toNat s122.1) 0)) (List.getD s122.2.2.2.2.1 (Int.toNat s122.2.1) 0))))))
                         (cond (inB (Int.toNat s122.2.1) (List.set s122.2.2.2.2.1 (Int.toNat s122.1) (iAdd .i64 (List.getD s122.2.2.2.2.1 (Int.toNat s122.1) 0) (iMin (iNeg .i64 (List.getD s122.2.2.2.2.1 (Int.toNat s122.1) 0)) (List.getD s122.2.2.2.2.1 (Int.toNat s122.2.1) 0)))))
                          (cond (fits (List.length s122.2.2.2.2.2.1 + List.length ([(s122.1, s122.2.1, iMin (iNeg .i64 (List.getD s122.2.2.2.2.1 (Int.toNat s122.1) 0)) (List.getD s122.2.2.2.2.1 (Int.toNat s122.2.1) 0), ())] : List DS0)) 24)
                           (some (.inl (List.set (List.set s122.2.2.2.2.1 (Int.toNat s122.1) (iAdd .i64 (List.getD s122.2.2.2.2.1 (Int.toNat s122.1) 0) (iMin (iNeg .i64 (List.getD s122.2.2.2.2.1 (Int.toNat s122.1) 0)) (List.getD s122.2.2.2.2.1 (Int.toNat s122.2.1) 0)))) (Int.toNat s122.2.1) (iSub .i64 (List.getD (List.set s122.2.2.2.2.1 (Int.toNat s122.1) (iAdd .i64 (List.getD s122.2.2.2.2.1 (Int.toNat s122.1) 0) (iMin (iNeg .i64 (List.getD s122.2.2.2.2.1 (Int.toNat s122.1) 0)) (List.getD s122.2.2.2.2.1 (Int.toNat s122.2.1) 0)))) (Int.toNat s122.2.1) 0) (iMin (iNeg .i64 (List.getD s122.2.2.2.2.1 (Int.toNat s122.1) 0)) (List.getD s122.2.2.2.2.1 (Int.toNat s122.2.1) 0))), s122.2.2.2.2.2.1 ++ ([(s122.1, s122.2.1, iMin (iNeg .i64 (List.getD s122.2.2.2.2.1 (Int.toNat s122.1) 0)) (List.getD s122.2.2.2.2.1 (Int.toNat s122.2.1) 0), ())] : List DS0), ()))) none) none) none) none) none) none) none) none) none) none) none) none) none)) none) none)))
         (0, 0, lenI s121.1, 0, s121.1, s121.2.1, ()))
        (([] : List Int) ++ s119.1, ([] : List DS0), ())) none))))
   (a0, 0, a0, lenI a0, 0, ()))
noncomputable def cfg18 : Cfg := ⟨ttab, gtab, [i25], []⟩
theorem eqn18 (x : (List Int) × Unit) : xfun cfg18 x18 102 [.t 2, .t 3] [(.list (.int .i64))] [(.list tS0), (.int .i64)] x = m18 x.1 := by kernel_rfl
noncomputable def i18 : PI := ⟨18, [(.list (.int .i64))], [(.list tS0), (.int .i64)], fun (x : (List Int) × Unit) => m18 x.1⟩
theorem oki18 : POk Try.prog (gx gtab) i18 := pok mixed (cfg_p oki25 (cfg_nil _ _) : CfgOk _ cfg18) F18 eqn18
/- 4 treaty/treatylaw35.NettingPayments -/
def r4_0 : List Ins := [⟨some 4, none, .mov (.k (.bool false))⟩]
def r4_1 : List Ins := [⟨some 15, none, .mov (.t 0)⟩,
  ⟨some 16, none, .len (.t 15)⟩,
  ⟨some 17, none, .bin .gtr (.t 16) (.k (.int .i64 100))⟩]
def r4_2 : List Ins := [⟨some 18, none, .call (.k (.func (.func 8) #[] #[])) []⟩,
  ⟨some 4, none, .mov (.t 18)⟩]
def r4_3 : List Ins := [⟨some 20, none, .mov (.t 1)⟩,
  ⟨some 21, none, .call (.k (.func (.func 10) #[] #[])) [(.t 20)]⟩,
  ⟨some 22, none, .call (.k (.func (.func 9) #[] #[])) [(.t 21), (.k (.int .i64 30))]⟩,
  ⟨some 23, none, .call (.k (.func (.func 16) #[] #[])) [(.t 22)]⟩,
  ⟨some 19, none, .mov (.t 23)⟩,
  ⟨some 24, none, .ext 0 (.t 19)⟩,
  ⟨some 25, none, .ext 1 (.t 19)⟩,
  ⟨some 5, none, .mov (.t 24)⟩,
  ⟨some 6, none, .mov (.t 25)⟩]
def r4_4 : List Ins := [⟨some 26, none, .mov (.t 6)⟩,
  ⟨some 27, none, .bin .neq (.t 26) (.k (.int .i64 0))⟩]
def r4_5 : List Ins := [⟨some 4, none, .mov (.k (.bool false))⟩]
def r4_6 : List Ins := [⟨some 29, none, .mov (.t 0)⟩,
  ⟨some 30, none, .call (.k (.func (.func 17) #[] #[])) [(.t 29)]⟩,
  ⟨some 28, none, .mov (.t 30)⟩,
  ⟨some 31, none, .ext 0 (.t 28)⟩,
  ⟨some 32, none, .ext 1 (.t 28)⟩,
  ⟨some 7, none, .mov (.t 31)⟩,
  ⟨some 8, none, .mov (.t 32)⟩]
def r4_7 : List Ins := [⟨some 34, none, .mov (.t 0)⟩,
  ⟨some 35, none, .call (.k (.func (.func 18) #[] #[])) [(.t 34)]⟩,
  ⟨some 33, none, .mov (.t 35)⟩,
  ⟨some 36, none, .ext 0 (.t 33)⟩,
  ⟨some 37, none, .ext 1 (.t 33)⟩,
  ⟨some 9, none, .mov (.t 36)⟩,
  ⟨some 10, none, .mov (.t 37)⟩]
def r4_8 : List Ins := [⟨some 39, none, .mov (.t 5)⟩,
  ⟨some 40, none, .call (.k (.func (.func 17) #[] #[])) [(.t 39)]⟩,
  ⟨some 38, none, .mov (.t 40)⟩,
  ⟨some 41, none, .ext 0 (.t 38)⟩,
  ⟨some 42, none, .ext 1 (.t 38)⟩,
  ⟨some 11, none, .mov (.t 41)⟩,
  ⟨some 12, none, .mov (.t 42)⟩]
def r4_9 : List Ins := [⟨some 44, none, .mov (.t 5)⟩,
  ⟨some 45, none, .call (.k (.func (.func 18) #[] #[])) [(.t 44)]⟩,
  ⟨some 43, none, .mov (.t 45)⟩,
  ⟨some 46, none, .ext 0 (.t 43)⟩,
  ⟨some 47, none, .ext 1 (.t 43)⟩,
  ⟨some 13, none, .mov (.t 46)⟩,
  ⟨some 14, none, .mov (.t 47)⟩]
def r4_10 : List Ins := [⟨some 48, none, .mov (.t 7)⟩,
  ⟨some 49, none, .mov (.t 9)⟩,
  ⟨some 50, none, .call (.k (.func (.func 13) #[] #[])) [(.t 48), (.t 49)]⟩,
  ⟨some 51, none, .mov (.t 50)⟩,
  ⟨some 52, some (51, true), .mov (.t 8)⟩,
  ⟨some 53, some (51, true), .mov (.t 10)⟩,
  ⟨some 54, some (51, true), .bin .eql (.t 52) (.t 53)⟩,
  ⟨some 55, none, .pick (.t 51) (.t 54) (.k (.bool false))⟩,
  ⟨some 56, none, .mov (.t 55)⟩,
  ⟨some 57, some (56, true), .mov (.t 11)⟩,
  ⟨some 58, some (56, true), .mov (.t 13)⟩,
  ⟨some 59, some (56, true), .call (.k (.func (.func 13) #[] #[])) [(.t 57), (.t 58)]⟩,
  ⟨some 60, none, .pick (.t 56) (.t 59) (.k (.bool false))⟩,
  ⟨some 61, none, .mov (.t 60)⟩,
  ⟨some 62, some (61, true), .mov (.t 12)⟩,
  ⟨some 63, some (61, true), .mov (.t 14)⟩,
  ⟨some 64, some (61, true), .bin .eql (.t 62) (.t 63)⟩,
  ⟨some 65, none, .pick (.t 61) (.t 64) (.k (.bool false))⟩,
  ⟨some 66, none, .mov (.t 65)⟩,
  ⟨some 67, some (66, true), .call (.k (.func (.func 8) #[] #[])) []⟩,
  ⟨some 68, none, .pick (.t 66) (.t 67) (.k (.bool false))⟩,
  ⟨some 4, none, .mov (.t 68)⟩]
def x4 : XC := (.seq (.ops false r4_0) (.seq (.seq (.ops false r4_1) (.cond (.t 17) (.seq (.ops false r4_2) .ret) .skip)) (.seq (.ops false r4_3) (.seq (.seq (.ops false r4_4) (.cond (.t 27) (.seq (.ops false r4_5) .ret) .skip)) (.seq (.ops false r4_6) (.seq (.ops false r4_7) (.seq (.ops false r4_8) (.seq (.ops false r4_9) (.seq (.ops false r4_10) .ret)))))))))
theorem F4 : Fn Try.prog 4 69 x4.er [.t 4] := ⟨Try.f4, hcl, Try.func4, by kernel_rfl, by kernel_rfl, by kernel_rfl, by kernel_rfl⟩
noncomputable def m4 (a0 : List Int) (a1 : List Int) : Option (Bool × Unit) :=
  cond (iLt 100 (lenI a0))
  ((m8).bind fun y98 =>
   some (y98.1, ()))
  ((m10 a1).bind fun y99 =>
   (m9 30 y99.1 y99.2.1).bind fun y100 =>
   (m16 y100.2.2.1).bind fun y109 =>
   cond (iNe y109.2.1 0)
   (some (false, ()))
   ((m17 a0).bind fun y110 =>
    (m18 a0).bind fun y123 =>
    (m17 y109.1).bind fun y124 =>
    (m18 y109.1).bind fun y125 =>
    (m13 y110.1 y123.1).bind fun y126 =>
    cond (cond y126.1 (iEq y110.2.1 y123.2.1) false)
    ((m13 y124.1 y125.1).bind fun y127 =>
     cond (cond y127.1 (iEq y124.2.1 y125.2.1) false)
     ((m8).bind fun y128 =>
      some (y128.1, ()))
     (some (false, ())))
    (some (false, ()))))
noncomputable def cfg4 : Cfg := ⟨ttab, gtab, [i13, i16, i17, i18, i8], [h10, h9]⟩
theorem eqn4 (x : (List Int) × (List Int) × Unit) : xfun cfg4 x4 69 [.t 4] [(.list (.int .i64)), (.list (.int .i64))] [.bool] x = m4 x.1 x.2.1 := by kernel_rfl
noncomputable def i4 : PI := ⟨4, [(.list (.int .i64)), (.list (.int .i64))], [.bool], fun (x : (List Int) × (List Int) × Unit) => m4 x.1 x.2.1⟩
theorem oki4 : POk Try.prog (gx gtab) i4 := pok mixed (cfg_p oki13 (cfg_p oki16 (cfg_p oki17 (cfg_p oki18 (cfg_p oki8 (cfg_h okh10 (cfg_h okh9 (cfg_nil _ _))))))) : CfgOk _ cfg4) F4 eqn4
/- 19 treaty/netting.Positions -/
def r19_0 : List Ins := [⟨some 2, none, .mov (.k (.slice none 0 0))⟩,
  ⟨some 3, none, .mov (.k (.int .i64 0))⟩]
def r19_1 : List Ins := [⟨some 10, none, .mov (.t 0)⟩,
  ⟨some 11, none, .call (.k (.func (.func 14) #[] #[])) [(.t 10)]⟩,
  ⟨some 4, none, .mov (.t 11)⟩]
def r19_2 : List Ins := [⟨some 12, none, .mov (.t 4)⟩,
  ⟨some 13, none, .bin .neq (.t 12) (.k (.int .i64 0))⟩]
def r19_3 : List Ins := [⟨some 14, none, .mov (.t 4)⟩,
  ⟨some 2, none, .mov (.k (.slice none 0 0))⟩,
  ⟨some 3, none, .mov (.t 14)⟩]
def r19_4 : List Ins := [⟨some 15, none, .mk 3 1 8 (.int .i64 0) (.k (.int .i64 16))⟩,
  ⟨some 5, none, .mov (.t 15)⟩]
def r19_5 : List Ins := [⟨some 16, none, .mov (.t 0)⟩,
  ⟨some 17, none, .len (.t 16)⟩,
  ⟨some 18, none, .mov (.k (.int .i64 0))⟩]
def r19_6 : List Ins := [⟨some 19, none, .bin .lss (.t 18) (.t 17)⟩]
def r19_7 : List Ins := [⟨some 20, none, .iaddr 3 (.t 16) (.t 18)⟩,
  ⟨some 21, none, .load 3 true (.t 20)⟩,
  ⟨some 7, none, .alloc 39 (.agg #[.int .i64 0, .int .i64 0, .int .i64 0])⟩,
  ⟨none, none, .store 3 (.t 7) (.t 21)⟩]
def r19_8 : List Ins := [⟨some 22, none, .mov (.t 5)⟩,
  ⟨some 23, none, .faddr 0 (.t 7)⟩,
  ⟨some 24, none, .load 1 false (.t 23)⟩,
  ⟨some 25, none, .iaddr 1 (.t 22) (.t 24)⟩,
  ⟨some 26, none, .load 1 false (.t 25)⟩,
  ⟨some 27, none, .faddr 2 (.t 7)⟩,
  ⟨some 28, none, .load 1 false (.t 27)⟩,
  ⟨some 29, none, .bin .sub (.t 26) (.t 28)⟩,
  ⟨some 30, none, .iaddr 1 (.t 22) (.t 24)⟩,
  ⟨none, none, .store 1 (.t 30) (.t 29)⟩]
def r19_9 : List Ins := [⟨some 31, none, .mov (.t 5)⟩,
  ⟨some 32, none, .faddr 1 (.t 7)⟩,
  ⟨some 33, none, .load 1 false (.t 32)⟩,
  ⟨some 34, none, .iaddr 1 (.t 31) (.t 33)⟩,
  ⟨some 35, none, .load 1 false (.t 34)⟩,
  ⟨some 36, none, .faddr 2 (.t 7)⟩,
  ⟨some 37, none, .load 1 false (.t 36)⟩,
  ⟨some 38, none, .bin .add (.t 35) (.t 37)⟩,
  ⟨some 39, none, .iaddr 1 (.t 31) (.t 33)⟩,
  ⟨none, none, .store 1 (.t 39) (.t 38)⟩]
def r19_10 : List Ins := [⟨some 40, none, .bin .add (.t 18) (.k (.int .i64 1))⟩,
  ⟨some 18, none, .mov (.t 40)⟩]
def r19_11 : List Ins := [⟨some 41, none, .mov (.t 5)⟩,
  ⟨some 42, none, .len (.t 41)⟩,
  ⟨some 43, none, .mov (.k (.int .i64 0))⟩]
def r19_12 : List Ins := [⟨some 44, none, .bin .lss (.t 43) (.t 42)⟩]
def r19_13 : List Ins := [⟨some 45, none, .iaddr 1 (.t 41) (.t 43)⟩,
  ⟨some 46, none, .load 1 false (.t 45)⟩,
  ⟨some 9, none, .mov (.t 46)⟩]
def r19_14 : List Ins := [⟨some 47, none, .mov (.t 9)⟩,
  ⟨some 48, none, .call (.k (.func (.func 24) #[] #[])) [(.t 47)]⟩,
  ⟨some 49, none, .un .not (.t 48)⟩]
def r19_15 : List Ins := [⟨some 2, none, .mov (.k (.slice none 0 0))⟩,
  ⟨some 3, none, .mov (.k (.int .i64 3))⟩]
def r19_16 : List Ins := [⟨some 50, none, .bin .add (.t 43) (.k (.int .i64 1))⟩,
  ⟨some 43, none, .mov (.t 50)⟩]
def r19_17 : List Ins := [⟨some 51, none, .mov (.t 5)⟩,
  ⟨some 2, none, .mov (.t 51)⟩,
  ⟨some 3, none, .mov (.k (.int .i64 0))⟩]
def x19 : XC := (.seq (.ops false r19_0) (.seq (.seq (.ops false r19_1) (.seq (.ops false r19_2) (.cond (.t 13) (.seq (.ops false r19_3) .ret) .skip))) (.seq (.ops false r19_4) (.seq (.seq (.ops false r19_5) (.block 0 (.loop [] ⟨52, [(16, (.list tS0)), (17, (.int .i64)), (18, (.int .i64))], [(5, .row 0)], [.row 3 (.int .i64) false]⟩ (.seq (.ops false r19_6) (.seq (.cond (.t 19) .skip (.exit 0)) (.seq (.block 1 (.seq (.ops false r19_7) (.seq (.ops true r19_8) (.ops true r19_9)))) (.ops false r19_10))))))) (.seq (.seq (.ops false r19_11) (.block 2 (.loop [] ⟨52, [(42, (.int .i64)), (43, (.int .i64))], [(5, .row 0), (41, .row 0)], [.row 3 (.int .i64) false]⟩ (.seq (.ops false r19_12) (.seq (.cond (.t 44) .skip (.exit 2)) (.seq (.block 3 (.seq (.ops false r19_13) (.seq (.ops false r19_14) (.cond (.t 49) (.seq (.ops false r19_15) .ret) .skip)))) (.ops false r19_16))))))) (.seq (.ops false r19_17) .ret))))))
theorem F19 : Fn Try.prog 19 52 x19.er [.t 2, .t 3] := ⟨Try.f19, hcl, Try.func19, by kernel_rfl, by kernel_rfl, by kernel_rfl, by kernel_rfl⟩
noncomputable def m19 (a0 : List DS0) : Option ((List Int) × Int × Unit) :=
  (m14 a0).bind fun y136 =>
  cond (iNe y136.1 0)
  (some (([] : List Int), y136.1, ()))
  (cond (fitsI 16 8)
   (loopO (S := (List DS0) × Int × Int × (List Int) × Unit) (R := (List Int) × Int × Unit) (fun s137 =>
     cond (iLt s137.2.2.1 s137.2.1)
     (cond (bnd s137.2.2.1 (lenI s137.1))
      (cond (bnd ((atI s137.1 s137.2.2.1 (0, 0, 0, ())).1) (lenI s137.2.2.2.1))
       (cond (inB (Int.toNat ((atI s137.1 s137.2.2.1 (0, 0, 0, ())).1)) s137.2.2.2.1)
        (cond (bnd ((atI s137.1 s137.2.2.1 (0, 0, 0, ())).1) (lenI s137.2.2.2.1))
         (cond (inB (Int.toNat ((atI s137.1 s137.2.2.1 (0, 0, 0, ())).1)) s137.2.2.2.1)
          (cond (bnd ((atI s137.1 s137.2.2.1 (0, 0, 0, ())).2.1) (lenI (List.set s137.2.2.2.1 (Int.toNat ((atI s137.1 s137.2.2.1 (0, 0, 0, ())).1)) (iSub .i64 (List.getD s137.2.2.2.1 (Int.toNat ((atI s137.1 s137.2.2.1 (0, 0, 0, ())).1)) 0) ((atI s137.1 s137.2.2.1 (0, 0, 0, ())).2.2.1)))))
           (cond (inB (Int.toNat ((atI s137.1 s137.2.2.1 (0, 0, 0, ())).2.1)) (List.set s137.2.2.2.1 (Int.toNat ((atI s137.1 s137.2.2.1 (0, 0, 0, ())).1)) (iSub .i64 (List.getD s137.2.2.2.1 (Int.toNat ((atI s137.1 s137.2.2.1 (0, 0, 0, ())).1)) 0) ((atI s137.1 s137.2.2.1 (0, 0, 0, ())).2.2.1))))
            (cond (bnd ((atI s137.1 s137.2.2.1 (0, 0, 0, ())).2.1) (lenI (List.set s137.2.2.2.1 (Int.toNat ((atI s137.1 s137.2.2.1 (0, 0, 0, ())).1)) (iSub .i64 (List.getD s137.2.2.2.1 (Int.toNat ((atI s137.1 s137.2.2.1 (0, 0, 0, ())).1)) 0) ((atI s137.1 s137.2.2.1 (0, 0, 0, ())).2.2.1)))))
             (cond (inB (Int.toNat ((atI s137.1 s137.2.2.1 (0, 0, 0, ())).2.1)) (List.set s137.2.2.2.1 (Int.toNat ((atI s137.1 s137.2.2.1 (0, 0, 0, ())).1)) (iSub .i64 (List.getD s137.2.2.2.1 (Int.toNat ((atI s137.1 s137.2.2.1 (0, 0, 0, ())).1)) 0) ((atI s137.1 s137.2.2.1 (0, 0, 0, ())).2.2.1))))
              (some (.inl (s137.1, s137.2.1, iAdd .i64 s137.2.2.1 1, List.set (List.set s137.2.2.2.1 (Int.toNat ((atI s137.1 s137.2.2.1 (0, 0, 0, ())).1)) (iSub .i64 (List.getD s137.2.2.2.1 (Int.toNat ((atI s137.1 s137.2.2.1 (0, 0, 0, ())).1)) 0) ((atI s137.1 s137.2.2.1 (0, 0, 0, ())).2.2.1))) (Int.toNat ((atI s137.1 s137.2.2.1 (0, 0, 0, ())).2.1)) (iAdd .i64 (List.getD (List.set s137.2.2.2.1 (Int.toNat ((atI s137.1 s137.2.2.1 (0, 0, 0, ())).1)) (iSub .i64 (List.getD s137.2.2.2.1 (Int.toNat ((atI s137.1 s137.2.2.1 (0, 0, 0, ())).1)) 0) ((atI s137.1 s137.2.2.1 (0, 0, 0, ())).2.2.1))) (Int.toNat ((atI s137.1 s137.2.2.1 (0, 0, 0, ())).2.1)) 0) ((atI s137.1 s137.2.2.1 (0, 0, 0, ())).2.2.1)), ()))) none) none) none) none) none) none) none) none) none)
     (Option.map Sum.inr (loopO (S := Int × Int × (List Int) × Unit) (R := (List Int) × Int × Unit) (fun s138 =>
        cond (iLt s138.2.1 s138.1)
        (cond (bnd s138.2.1 (lenI s138.2.2.1))
         (cond (inB (Int.toNat s138.2.1) s138.2.2.1)
          ((m24 (List.getD s138.2.2.1 (Int.toNat s138.2.1) 0)).bind fun y139 =>
           cond (not y139.1)
           (some (.inr (([] : List Int), 3, ())))
           (some (.inl (s138.1, iAdd .i64 s138.2.1 1, s138.2.2.1, ())))) none) none)
        (some (.inr (s138.2.2.1, 0, ()))))
       (lenI s137.2.2.2.1, 0, s137.2.2.2.1, ()))))
    (a0, lenI a0, 0, List.replicate (Int.toNat 16) 0, ())) none)
noncomputable def cfg19 : Cfg := ⟨ttab, gtab, [i14, i24], []⟩
theorem eqn19 (x : (List DS0) × Unit) : xfun cfg19 x19 52 [.t 2, .t 3] [(.list tS0)] [(.list (.int .i64)), (.int .i64)] x = m19 x.1 := by kernel_rfl
noncomputable def i19 : PI := ⟨19, [(.list tS0)], [(.list (.int .i64)), (.int .i64)], fun (x : (List DS0) × Unit) => m19 x.1⟩
theorem oki19 : POk Try.prog (gx gtab) i19 := pok mixed (cfg_p oki14 (cfg_p oki24 (cfg_nil _ _)) : CfgOk _ cfg19) F19 eqn19
/- 20 treaty/treatyref01.SameInts -/
def r20_0 : List Ins := [⟨some 4, none, .mov (.k (.bool false))⟩]
def r20_1 : List Ins := [⟨some 6, none, .mov (.t 0)⟩,
  ⟨some 7, none, .len (.t 6)⟩,
  ⟨some 8, none, .mov (.t 1)⟩,
  ⟨some 9, none, .len (.t 8)⟩,
  ⟨some 10, none, .bin .neq (.t 7) (.t 9)⟩]
def r20_2 : List Ins := [⟨some 4, none, .mov (.k (.bool false))⟩]
def r20_3 : List Ins := [⟨some 5, none, .mov (.k (.int .i64 0))⟩]
def r20_4 : List Ins := [⟨some 11, none, .mov (.t 5)⟩,
  ⟨some 12, none, .mov (.t 0)⟩,
  ⟨some 13, none, .len (.t 12)⟩,
  ⟨some 14, none, .bin .lss (.t 11) (.t 13)⟩]
def r20_5 : List Ins := [⟨some 17, none, .mov (.t 0)⟩,
  ⟨some 18, none, .mov (.t 5)⟩,
  ⟨some 19, none, .iaddr 1 (.t 17) (.t 18)⟩,
  ⟨some 20, none, .load 1 false (.t 19)⟩,
  ⟨some 21, none, .mov (.t 1)⟩,
  ⟨some 22, none, .mov (.t 5)⟩,
  ⟨some 23, none, .iaddr 1 (.t 21) (.t 22)⟩,
  ⟨some 24, none, .load 1 false (.t 23)⟩,
  ⟨some 25, none, .bin .neq (.t 20) (.t 24)⟩]
def r20_6 : List Ins := [⟨some 4, none, .mov (.k (.bool false))⟩]
def r20_7 : List Ins := [⟨some 15, none, .mov (.t 5)⟩,
  ⟨some 16, none, .bin .add (.t 15) (.k (.int .i64 1))⟩,
  ⟨some 5, none, .mov (.t 16)⟩]
def r20_8 : List Ins := [⟨some 4, none, .mov (.k (.bool true))⟩]
def x20 : XC := (.seq (.ops false r20_0) (.seq (.seq (.ops false r20_1) (.cond (.t 10) (.seq (.ops false r20_2) .ret) .skip)) (.seq (.seq (.ops false r20_3) (.block 0 (.loop [] ⟨26, [(0, (.list (.int .i64))), (1, (.list (.int .i64))), (5, (.int .i64))], [], []⟩ (.seq (.seq (.ops false r20_4) (.cond (.t 14) .skip (.exit 0))) (.seq (.block 1 (.seq (.ops true r20_5) (.cond (.t 25) (.seq (.ops false r20_6) .ret) .skip))) (.ops false r20_7)))))) (.seq (.ops false r20_8) .ret))))
theorem F20 : Fn Try.prog 20 26 x20.er [.t 4] := ⟨Try.f20, hcl, Try.func20, by kernel_rfl, by kernel_rfl, by kernel_rfl, by kernel_rfl⟩
noncomputable def m20 (a0 : List Int) (a1 : List Int) : Option (Bool × Unit) :=
  cond (iNe (lenI a0) (lenI a1))
  (some (false, ()))
  (loopO (S := (List Int) × (List Int) × Int × Unit) (R := Bool × Unit) (fun s145 =>
    cond (iLt s145.2.2.1 (lenI s145.1))
    (cond (bnd s145.2.2.1 (lenI s145.1))
     (cond (bnd s145.2.2.1 (lenI s145.2.1))
      (cond (iNe (atI s145.1 s145.2.2.1 0) (atI s145.2.1 s145.2.2.1 0))
       (some (.inr (false, ())))
       (some (.inl (s145.1, s145.2.1, iAdd .i64 s145.2.2.1 1, ())))) none) none)
    (some (.inr (true, ()))))
   (a0, a1, 0, ()))
noncomputable def cfg20 : Cfg := ⟨ttab, gtab, [], []⟩
theorem eqn20 (x : (List Int) × (List Int) × Unit) : xfun cfg20 x20 26 [.t 4] [(.list (.int .i64)), (.list (.int .i64))] [.bool] x = m20 x.1 x.2.1 := by kernel_rfl
noncomputable def i20 : PI := ⟨20, [(.list (.int .i64)), (.list (.int .i64))], [.bool], fun (x : (List Int) × (List Int) × Unit) => m20 x.1 x.2.1⟩
theorem oki20 : POk Try.prog (gx gtab) i20 := pok mixed (cfg_nil _ _ : CfgOk _ cfg20) F20 eqn20
/- 5 treaty/treatylaw35.NettingPositions -/
def r5_0 : List Ins := [⟨some 4, none, .mov (.k (.bool false))⟩]
def r5_1 : List Ins := [⟨some 14, none, .mov (.t 0)⟩,
  ⟨some 15, none, .len (.t 14)⟩,
  ⟨some 16, none, .bin .gtr (.t 15) (.k (.int .i64 200))⟩]
def r5_2 : List Ins := [⟨some 17, none, .call (.k (.func (.func 8) #[] #[])) []⟩,
  ⟨some 4, none, .mov (.t 17)⟩]
def r5_3 : List Ins := [⟨some 18, none, .mov (.t 1)⟩,
  ⟨some 19, none, .call (.k (.func (.func 10) #[] #[])) [(.t 18)]⟩,
  ⟨some 20, none, .call (.k (.func (.func 9) #[] #[])) [(.t 19), (.k (.int .i64 30))]⟩,
  ⟨some 5, none, .mov (.t 20)⟩]
def r5_4 : List Ins := [⟨some 22, none, .mov (.t 0)⟩,
  ⟨some 23, none, .call (.k (.func (.func 19) #[] #[])) [(.t 22)]⟩,
  ⟨some 21, none, .mov (.t 23)⟩,
  ⟨some 24, none, .ext 0 (.t 21)⟩,
  ⟨some 25, none, .ext 1 (.t 21)⟩,
  ⟨some 6, none, .mov (.t 24)⟩,
  ⟨some 7, none, .mov (.t 25)⟩]
def r5_5 : List Ins := [⟨some 27, none, .mov (.t 0)⟩,
  ⟨some 28, none, .call (.k (.func (.func 16) #[] #[])) [(.t 27)]⟩,
  ⟨some 26, none, .mov (.t 28)⟩,
  ⟨some 29, none, .ext 0 (.t 26)⟩,
  ⟨some 30, none, .ext 1 (.t 26)⟩,
  ⟨some 8, none, .mov (.t 29)⟩,
  ⟨some 9, none, .mov (.t 30)⟩]
def r5_6 : List Ins := [⟨some 32, none, .mov (.t 5)⟩,
  ⟨some 33, none, .call (.k (.func (.func 19) #[] #[])) [(.t 32)]⟩,
  ⟨some 31, none, .mov (.t 33)⟩,
  ⟨some 34, none, .ext 0 (.t 31)⟩,
  ⟨some 35, none, .ext 1 (.t 31)⟩,
  ⟨some 10, none, .mov (.t 34)⟩,
  ⟨some 11, none, .mov (.t 35)⟩]
def r5_7 : List Ins := [⟨some 37, none, .mov (.t 5)⟩,
  ⟨some 38, none, .call (.k (.func (.func 16) #[] #[])) [(.t 37)]⟩,
  ⟨some 36, none, .mov (.t 38)⟩,
  ⟨some 39, none, .ext 0 (.t 36)⟩,
  ⟨some 40, none, .ext 1 (.t 36)⟩,
  ⟨some 12, none, .mov (.t 39)⟩,
  ⟨some 13, none, .mov (.t 40)⟩]
def r5_8 : List Ins := [⟨some 41, none, .mov (.t 6)⟩,
  ⟨some 42, none, .mov (.t 8)⟩,
  ⟨some 43, none, .call (.k (.func (.func 20) #[] #[])) [(.t 41), (.t 42)]⟩,
  ⟨some 44, none, .mov (.t 43)⟩,
  ⟨some 45, some (44, true), .mov (.t 7)⟩,
  ⟨some 46, some (44, true), .mov (.t 9)⟩,
  ⟨some 47, some (44, true), .bin .eql (.t 45) (.t 46)⟩,
  ⟨some 48, none, .pick (.t 44) (.t 47) (.k (.bool false))⟩,
  ⟨some 49, none, .mov (.t 48)⟩,
  ⟨some 50, some (49, true), .mov (.t 10)⟩,
  ⟨some 51, some (49, true), .mov (.t 12)⟩,
  ⟨some 52, some (49, true), .call (.k (.func (.func 20) #[] #[])) [(.t 50), (.t 51)]⟩,
  ⟨some 53, none, .pick (.t 49) (.t 52) (.k (.bool false))⟩,
  ⟨some 54, none, .mov (.t 53)⟩,
  ⟨some 55, some (54, true), .mov (.t 11)⟩,
  ⟨some 56, some (54, true), .mov (.t 13)⟩,
  ⟨some 57, some (54, true), .bin .eql (.t 55) (.t 56)⟩,
  ⟨some 58, none, .pick (.t 54) (.t 57) (.k (.bool false))⟩,
  ⟨some 59, none, .mov (.t 58)⟩,
  ⟨some 60, some (59, true), .call (.k (.func (.func 8) #[] #[])) []⟩,
  ⟨some 61, none, .pick (.t 59) (.t 60) (.k (.bool false))⟩,
  ⟨some 4, none, .mov (.t 61)⟩]
def x5 : XC := (.seq (.ops false r5_0) (.seq (.seq (.ops false r5_1) (.cond (.t 16) (.seq (.ops false r5_2) .ret) .skip)) (.seq (.ops false r5_3) (.seq (.ops false r5_4) (.seq (.ops false r5_5) (.seq (.ops false r5_6) (.seq (.ops false r5_7) (.seq (.ops false r5_8) .ret))))))))
theorem F5 : Fn Try.prog 5 62 x5.er [.t 4] := ⟨Try.f5, hcl, Try.func5, by kernel_rfl, by kernel_rfl, by kernel_rfl, by kernel_rfl⟩
noncomputable def m5 (a0 : List DS0) (a1 : List Int) : Option (Bool × Unit) :=
  cond (iLt 200 (lenI a0))
  ((m8).bind fun y129 =>
   some (y129.1, ()))
  ((m10 a1).bind fun y130 =>
   (m9 30 y130.1 y130.2.1).bind fun y131 =>
   (m19 a0).bind fun y140 =>
   (m16 a0).bind fun y141 =>
   (m19 y131.2.2.1).bind fun y142 =>
   (m16 y131.2.2.1).bind fun y143 =>
   (m20 y140.1 y141.1).bind fun y146 =>
   cond (cond y146.1 (iEq y140.2.1 y141.2.1) false)
   ((m20 y142.1 y143.1).bind fun y147 =>
    cond (cond y147.1 (iEq y142.2.1 y143.2.1) false)
    ((m8).bind fun y148 =>
     some (y148.1, ()))
    (some (false, ())))
   (some (false, ())))
noncomputable def cfg5 : Cfg := ⟨ttab, gtab, [i16, i19, i20, i8], [h10, h9]⟩
theorem eqn5 (x : (List DS0) × (List Int) × Unit) : xfun cfg5 x5 62 [.t 4] [(.list tS0), (.list (.int .i64))] [.bool] x = m5 x.1 x.2.1 := by kernel_rfl
noncomputable def i5 : PI := ⟨5, [(.list tS0), (.list (.int .i64))], [.bool], fun (x : (List DS0) × (List Int) × Unit) => m5 x.1 x.2.1⟩
theorem oki5 : POk Try.prog (gx gtab) i5 := pok mixed (cfg_p oki16 (cfg_p oki19 (cfg_p oki20 (cfg_p oki8 (cfg_h okh10 (cfg_h okh9 (cfg_nil _ _)))))) : CfgOk _ cfg5) F5 eqn5
/- 6 treaty/treatylaw35.NettingPreserves -/
def r6_0 : List Ins := [⟨some 2, none, .mov (.k (.bool false))⟩]
def r6_1 : List Ins := [⟨some 14, none, .mov (.t 0)⟩,
  ⟨some 15, none, .call (.k (.func (.func 10) #[] #[])) [(.t 14)]⟩,
  ⟨some 16, none, .call (.k (.func (.func 9) #[] #[])) [(.t 15), (.k (.int .i64 30))]⟩,
  ⟨some 3, none, .mov (.t 16)⟩]
def r6_2 : List Ins := [⟨some 18, none, .mov (.t 3)⟩,
  ⟨some 19, none, .call (.k (.func (.func 11) #[] #[])) [(.t 18)]⟩,
  ⟨some 17, none, .mov (.t 19)⟩,
  ⟨some 20, none, .ext 0 (.t 17)⟩,
  ⟨some 21, none, .ext 1 (.t 17)⟩,
  ⟨some 4, none, .mov (.t 20)⟩,
  ⟨some 5, none, .mov (.t 21)⟩]
def r6_3 : List Ins := [⟨some 23, none, .mov (.t 3)⟩,
  ⟨some 24, none, .call (.k (.func (.func 19) #[] #[])) [(.t 23)]⟩,
  ⟨some 22, none, .mov (.t 24)⟩,
  ⟨some 25, none, .ext 0 (.t 22)⟩,
  ⟨some 26, none, .ext 1 (.t 22)⟩,
  ⟨some 6, none, .mov (.t 25)⟩,
  ⟨some 7, none, .mov (.t 26)⟩]
def r6_4 : List Ins := [⟨some 28, none, .mov (.t 4)⟩,
  ⟨some 29, none, .call (.k (.func (.func 19) #[] #[])) [(.t 28)]⟩,
  ⟨some 27, none, .mov (.t 29)⟩,
  ⟨some 30, none, .ext 0 (.t 27)⟩,
  ⟨some 31, none, .ext 1 (.t 27)⟩,
  ⟨some 8, none, .mov (.t 30)⟩,
  ⟨some 9, none, .mov (.t 31)⟩]
def r6_5 : List Ins := [⟨some 32, none, .mov (.t 5)⟩,
  ⟨some 33, none, .bin .neq (.t 32) (.k (.int .i64 0))⟩,
  ⟨some 34, none, .mov (.t 33)⟩,
  ⟨some 35, some (34, false), .mov (.t 7)⟩,
  ⟨some 36, some (34, false), .bin .neq (.t 35) (.k (.int .i64 0))⟩,
  ⟨some 37, none, .pick (.t 34) (.k (.bool true)) (.t 36)⟩,
  ⟨some 38, none, .mov (.t 37)⟩,
  ⟨some 39, some (38, false), .mov (.t 9)⟩,
  ⟨some 40, some (38, false), .bin .neq (.t 39) (.k (.int .i64 0))⟩,
  ⟨some 41, none, .pick (.t 38) (.k (.bool true)) (.t 40)⟩,
  ⟨some 42, none, .mov (.t 41)⟩,
  ⟨some 43, some (42, false), .mov (.t 6)⟩,
  ⟨some 44, some (42, false), .mov (.t 8)⟩,
  ⟨some 45, some (42, false), .call (.k (.func (.func 20) #[] #[])) [(.t 43), (.t 44)]⟩,
  ⟨some 46, some (42, false), .un .not (.t 45)⟩,
  ⟨some 47, none, .pick (.t 42) (.k (.bool true)) (.t 46)⟩]
def r6_6 : List Ins := [⟨some 2, none, .mov (.k (.bool false))⟩]
def r6_7 : List Ins := [⟨some 48, none, .mov (.t 4)⟩,
  ⟨some 49, none, .len (.t 48)⟩,
  ⟨some 50, none, .mov (.k (.int .i64 0))⟩]
def r6_8 : List Ins := [⟨some 51, none, .bin .lss (.t 50) (.t 49)⟩]
def r6_9 : List Ins := [⟨some 52, none, .mov (.t 50)⟩,
  ⟨some 53, none, .iaddr 3 (.t 48) (.t 50)⟩,
  ⟨some 54, none, .load 3 true (.t 53)⟩,
  ⟨some 11, none, .alloc 39 (.agg #[.int .i64 0, .int .i64 0, .int .i64 0])⟩,
  ⟨some 10, none, .mov (.t 52)⟩,
  ⟨none, none, .store 3 (.t 11) (.t 54)⟩]
def r6_10 : List Ins := [⟨some 55, none, .faddr 2 (.t 11)⟩,
  ⟨some 56, none, .load 1 false (.t 55)⟩,
  ⟨some 57, none, .bin .leq (.t 56) (.k (.int .i64 0))⟩]
def r6_11 : List Ins := [⟨some 2, none, .mov (.k (.bool false))⟩]
def r6_12 : List Ins := [⟨some 58, none, .mov (.t 4)⟩,
  ⟨some 59, none, .mov (.t 10)⟩,
  ⟨some 60, none, .slice 3 (.t 58) none (some (.t 59))⟩,
  ⟨some 61, none, .len (.t 60)⟩,
  ⟨some 62, none, .mov (.k (.int .i64 0))⟩]
def r6_13 : List Ins := [⟨some 63, none, .bin .lss (.t 62) (.t 61)⟩]
def r6_14 : List Ins := [⟨some 64, none, .iaddr 3 (.t 60) (.t 62)⟩,
  ⟨some 65, none, .load 3 true (.t 64)⟩,
  ⟨some 13, none, .alloc 39 (.agg #[.int .i64 0, .int .i64 0, .int .i64 0])⟩,
  ⟨none, none, .store 3 (.t 13) (.t 65)⟩]
def r6_15 : List Ins := [⟨some 66, none, .faddr 0 (.t 11)⟩,
  ⟨some 67, none, .load 1 false (.t 66)⟩,
  ⟨some 68, none, .faddr 0 (.t 13)⟩,
  ⟨some 69, none, .load 1 false (.t 68)⟩,
  ⟨some 70, none, .bin .eql (.t 67) (.t 69)⟩,
  ⟨some 71, none, .mov (.t 70)⟩,
  ⟨some 72, some (71, true), .faddr 1 (.t 11)⟩,
  ⟨some 73, some (71, true), .load 1 false (.t 72)⟩,
  ⟨some 74, some (71, true), .faddr 1 (.t 13)⟩,
  ⟨some 75, some (71, true), .load 1 false (.t 74)⟩,
  ⟨some 76, some (71, true), .bin .eql (.t 73) (.t 75)⟩,
  ⟨some 77, none, .pick (.t 71) (.t 76) (.k (.bool false))⟩,
  ⟨some 78, none, .mov (.t 77)⟩,
  ⟨some 79, some (78, false), .faddr 0 (.t 11)⟩,
  ⟨some 80, some (78, false), .load 1 false (.t 79)⟩,
  ⟨some 81, some (78, false), .faddr 1 (.t 13)⟩,
  ⟨some 82, some (78, false), .load 1 false (.t 81)⟩,
  ⟨some 83, some (78, false), .bin .eql (.t 80) (.t 82)⟩,
  ⟨some 84, some (78, false), .mov (.t 83)⟩,
  ⟨some 85, some (84, true), .faddr 1 (.t 11)⟩,
  ⟨some 86, some (84, true), .load 1 false (.t 85)⟩,
  ⟨some 87, some (84, true), .faddr 0 (.t 13)⟩,
  ⟨some 88, some (84, true), .load 1 false (.t 87)⟩,
  ⟨some 89, some (84, true), .bin .eql (.t 86) (.t 88)⟩,
  ⟨some 90, some (78, false), .pick (.t 84) (.t 89) (.k (.bool false))⟩,
  ⟨some 91, none, .pick (.t 78) (.k (.bool true)) (.t 90)⟩]
def r6_16 : List Ins := [⟨some 2, none, .mov (.k (.bool false))⟩]
def r6_17 : List Ins := [⟨some 92, none, .bin .add (.t 62) (.k (.int .i64 1))⟩,
  ⟨some 62, none, .mov (.t 92)⟩]
def r6_18 : List Ins := [⟨some 93, none, .bin .add (.t 50) (.k (.int .i64 1))⟩,
  ⟨some 50, none, .mov (.t 93)⟩]
def r6_19 : List Ins := [⟨some 94, none, .call (.k (.func (.func 8) #[] #[])) []⟩,
  ⟨some 2, none, .mov (.t 94)⟩]
def x6 : XC := (.seq (.ops false r6_0) (.seq (.ops false r6_1) (.seq (.ops false r6_2) (.seq (.ops false r6_3) (.seq (.ops false r6_4) (.seq (.seq (.ops false r6_5) (.cond (.t 47) (.seq (.ops false r6_6) .ret) .skip)) (.seq (.seq (.ops false r6_7) (.block 0 (.loop [] ⟨95, [(4, (.list tS0)), (48, (.list tS0)), (49, (.int .i64)), (50, (.int .i64))], [], []⟩ (.seq (.ops false r6_8) (.seq (.cond (.t 51) .skip (.exit 0)) (.seq (.block 1 (.seq (.ops false r6_9) (.seq (.seq (.ops false r6_10) (.cond (.t 57) (.seq (.ops false r6_11) .ret) .skip)) (.seq (.ops false r6_12) (.block 2 (.loop [] ⟨95, [(4, (.list tS0)), (48, (.list tS0)), (49, (.int .i64)), (50, (.int .i64)), (60, (.list tS0)), (61, (.int .i64)), (62, (.int .i64))], [(11, .ptr 0 0 0)], [.box 39 [.d (.int .i64), .d (.int .i64), .d (.int .i64)]]⟩ (.seq (.ops false r6_13) (.seq (.cond (.t 63) .skip (.exit 2)) (.seq (.block 3 (.seq (.ops false r6_14) (.seq (.ops false r6_15) (.cond (.t 91) (.seq (.ops false r6_16) .ret) .skip)))) (.ops false r6_17)))))))))) (.ops false r6_18))))))) (.seq (.ops false r6_19) .ret))))))))
theorem F6 : Fn Try.prog 6 95 x6.er [.t 2] := ⟨Try.f6, hcl, Try.func6, by kernel_rfl, by kernel_rfl, by kernel_rfl, by kernel_rfl⟩
noncomputable def m6 (a0 : List Int) : Option (Bool × Unit) :=
  (m10 a0).bind fun y158 =>
  (m9 30 y158.1 y158.2.1).bind fun y159 =>
  (m11 y159.2.2.1).bind fun y160 =>
  (m19 y159.2.2.1).bind fun y161 =>
  (m19 y160.1).bind fun y162 =>
  cond (cond (cond (iNe y160.2.1 0) true (iNe y161.2.1 0)) true (iNe y162.2.1 0))
  (some (false, ()))
  ((m20 y161.1 y162.1).bind fun y163 =>
   cond (not y163.1)
   (some (false, ()))
   (loopO (S := (List DS0) × (List DS0) × Int × Int × Unit) (R := Bool × Unit) (fun s164 =>
     cond (iLt s164.2.2.2.1 s164.2.2.1)
     (cond (bnd s164.2.2.2.1 (lenI s164.2.1))
      (cond (iLe ((atI s164.2.1 s164.2.2.2.1 (0, 0, 0, ())).2.2.1) 0)
       (some (.inr (false, ())))
       (cond (cutOk 0 s164.2.2.2.1 (List.length s164.1))
        (loopO (S := (List DS0) × (List DS0) × Int × Int × (List DS0) × Int × Int × Int × Int × Int × Unit) (R := ((List DS0) × (List DS0) × Int × Int × Unit) ⊕ (Bool × Unit)) (fun s165 =>
          cond (iLt s165.2.2.2.2.2.2.1 s165.2.2.2.2.2.1)
          (cond (bnd s165.2.2.2.2.2.2.1 (lenI s165.2.2.2.2.1))
           (cond (cond (iEq s165.2.2.2.2.2.2.2.1 ((atI s165.2.2.2.2.1 s165.2.2.2.2.2.2.1 (0, 0, 0, ())).1)) (iEq s165.2.2.2.2.2.2.2.2.1 ((atI s165.2.2.2.2.1 s165.2.2.2.2.2.2.1 (0, 0, 0, ())).2.1)) false)
            (some (.inr (.inr (false, ()))))
            (cond (cond (iEq s165.2.2.2.2.2.2.2.1 ((atI s165.2.2.2.2.1 s165.2.2.2.2.2.2.1 (0, 0, 0, ())).2.1)) (iEq s165.2.2.2.2.2.2.2.2.1 ((atI s165.2.2.2.2.1 s165.2.2.2.2.2.2.1 (0, 0, 0, ())).1)) false)
             (some (.inr (.inr (false, ()))))
             (some (.inl (s165.1, s165.2.1, s165.2.2.1, s165.2.2.2.1, s165.2.2.2.2.1, s165.2.2.2.2.2.1, iAdd .i64 s165.2.2.2.2.2.2.1 1, s165.2.2.2.2.2.2.2.1, s165.2.2.2.2.2.2.2.2.1, s165.2.2.2.2.2.2.2.2.2.1, ()))))) none)
          (some (.inr (.inl (s165.1, s165.2.1, s165.2.2.1, iAdd .i64 s165.2.2.2.1 1, ())))))
         (s164.1, s164.2.1, s164.2.2.1, s164.2.2.2.1, cutL 0 s164.2.2.2.1 s164.1, lenI (cutL 0 s164.2.2.2.1 s164.1), 0, (atI s164.2.1 s164.2.2.2.1 (0, 0, 0, ())).1, (atI s164.2.1 s164.2.2.2.1 (0, 0, 0, ())).2.1, (atI s164.2.1 s164.2.2.2.1 (0, 0, 0, ())).2.2.1, ())) none)) none)
     (Option.map Sum.inr ((m8).bind fun y166 =>
       some (y166.1, ()))))
    (y160.1, y160.1, lenI y160.1, 0, ())))
noncomputable def cfg6 : Cfg := ⟨ttab, gtab, [i11, i19, i20, i8], [h10, h9]⟩
theorem eqn6 (x : (List Int) × Unit) : xfun cfg6 x6 95 [.t 2] [(.list (.int .i64))] [.bool] x = m6 x.1 := by kernel_rfl
noncomputable def i6 : PI := ⟨6, [(.list (.int .i64))], [.bool], fun (x : (List Int) × Unit) => m6 x.1⟩
theorem oki6 : POk Try.prog (gx gtab) i6 := pok mixed (cfg_p oki11 (cfg_p oki19 (cfg_p oki20 (cfg_p oki8 (cfg_h okh10 (cfg_h okh9 (cfg_nil _ _)))))) : CfgOk _ cfg6) F6 eqn6
/- 7 treaty/treatylaw35.NettingSettles -/
def r7_0 : List Ins := [⟨some 2, none, .mov (.k (.bool false))⟩]
def r7_1 : List Ins := [⟨some 16, none, .mov (.t 0)⟩,
  ⟨some 17, none, .call (.k (.func (.func 10) #[] #[])) [(.t 16)]⟩,
  ⟨some 18, none, .call (.k (.func (.func 9) #[] #[])) [(.t 17), (.k (.int .i64 30))]⟩,
  ⟨some 3, none, .mov (.t 18)⟩]
def r7_2 : List Ins := [⟨some 20, none, .mov (.t 3)⟩,
  ⟨some 21, none, .call (.k (.func (.func 19) #[] #[])) [(.t 20)]⟩,
  ⟨some 19, none, .mov (.t 21)⟩,
  ⟨some 22, none, .ext 0 (.t 19)⟩,
  ⟨some 23, none, .ext 1 (.t 19)⟩,
  ⟨some 4, none, .mov (.t 22)⟩,
  ⟨some 5, none, .mov (.t 23)⟩]
def r7_3 : List Ins := [⟨some 25, none, .mov (.t 4)⟩,
  ⟨some 26, none, .call (.k (.func (.func 17) #[] #[])) [(.t 25)]⟩,
  ⟨some 24, none, .mov (.t 26)⟩,
  ⟨some 27, none, .ext 0 (.t 24)⟩,
  ⟨some 28, none, .ext 1 (.t 24)⟩,
  ⟨some 6, none, .mov (.t 27)⟩,
  ⟨some 7, none, .mov (.t 28)⟩]
def r7_4 : List Ins := [⟨some 30, none, .mov (.t 6)⟩,
  ⟨some 31, none, .call (.k (.func (.func 19) #[] #[])) [(.t 30)]⟩,
  ⟨some 29, none, .mov (.t 31)⟩,
  ⟨some 32, none, .ext 0 (.t 29)⟩,
  ⟨some 33, none, .ext 1 (.t 29)⟩,
  ⟨some 8, none, .mov (.t 32)⟩,
  ⟨some 9, none, .mov (.t 33)⟩]
def r7_5 : List Ins := [⟨some 34, none, .mov (.t 5)⟩,
  ⟨some 35, none, .bin .neq (.t 34) (.k (.int .i64 0))⟩,
  ⟨some 36, none, .mov (.t 35)⟩,
  ⟨some 37, some (36, false), .mov (.t 7)⟩,
  ⟨some 38, some (36, false), .bin .neq (.t 37) (.k (.int .i64 0))⟩,
  ⟨some 39, none, .pick (.t 36) (.k (.bool true)) (.t 38)⟩,
  ⟨some 40, none, .mov (.t 39)⟩,
  ⟨some 41, some (40, false), .mov (.t 9)⟩,
  ⟨some 42, some (40, false), .bin .neq (.t 41) (.k (.int .i64 0))⟩,
  ⟨some 43, none, .pick (.t 40) (.k (.bool true)) (.t 42)⟩,
  ⟨some 44, none, .mov (.t 43)⟩,
  ⟨some 45, some (44, false), .mov (.t 4)⟩,
  ⟨some 46, some (44, false), .mov (.t 8)⟩,
  ⟨some 47, some (44, false), .call (.k (.func (.func 20) #[] #[])) [(.t 45), (.t 46)]⟩,
  ⟨some 48, some (44, false), .un .not (.t 47)⟩,
  ⟨some 49, none, .pick (.t 44) (.k (.bool true)) (.t 48)⟩,
  ⟨some 50, none, .mov (.t 49)⟩,
  ⟨some 51, some (50, false), .mov (.t 4)⟩,
  ⟨some 52, some (50, false), .len (.t 51)⟩,
  ⟨some 53, some (50, false), .bin .neq (.t 52) (.k (.int .i64 16))⟩,
  ⟨some 54, none, .pick (.t 50) (.k (.bool true)) (.t 53)⟩]
def r7_6 : List Ins := [⟨some 2, none, .mov (.k (.bool false))⟩]
def r7_7 : List Ins := [⟨some 10, none, .mov (.k (.int .i64 0))⟩,
  ⟨some 11, none, .mov (.k (.int .i64 0))⟩]
def r7_8 : List Ins := [⟨some 55, none, .mov (.t 4)⟩,
  ⟨some 56, none, .len (.t 55)⟩,
  ⟨some 57, none, .mov (.k (.int .i64 0))⟩]
def r7_9 : List Ins := [⟨some 58, none, .bin .lss (.t 57) (.t 56)⟩]
def r7_10 : List Ins := [⟨some 59, none, .iaddr 1 (.t 55) (.t 57)⟩,
  ⟨some 60, none, .load 1 false (.t 59)⟩,
  ⟨some 13, none, .mov (.t 60)⟩]
def r7_11 : List Ins := [⟨some 61, none, .mov (.t 11)⟩,
  ⟨some 62, none, .mov (.t 13)⟩,
  ⟨some 63, none, .bin .add (.t 61) (.t 62)⟩,
  ⟨some 11, none, .mov (.t 63)⟩]
def r7_12 : List Ins := [⟨some 64, none, .mov (.t 13)⟩,
  ⟨some 65, none, .bin .neq (.t 64) (.k (.int .i64 0))⟩]
def r7_13 : List Ins := [⟨some 66, none, .mov (.t 10)⟩,
  ⟨some 67, none, .bin .add (.t 66) (.k (.int .i64 1))⟩,
  ⟨some 10, none, .mov (.t 67)⟩]
def r7_14 : List Ins := [⟨some 68, none, .bin .add (.t 57) (.k (.int .i64 1))⟩,
  ⟨some 57, none, .mov (.t 68)⟩]
def r7_15 : List Ins := [⟨some 69, none, .mov (.t 6)⟩,
  ⟨some 70, none, .len (.t 69)⟩,
  ⟨some 71, none, .mov (.k (.int .i64 0))⟩]
def r7_16 : List Ins := [⟨some 72, none, .bin .lss (.t 71) (.t 70)⟩]
def r7_17 : List Ins := [⟨some 73, none, .iaddr 3 (.t 69) (.t 71)⟩,
  ⟨some 74, none, .load 3 true (.t 73)⟩,
  ⟨some 15, none, .alloc 39 (.agg #[.int .i64 0, .int .i64 0, .int .i64 0])⟩,
  ⟨none, none, .store 3 (.t 15) (.t 74)⟩]
def r7_18 : List Ins := [⟨some 75, none, .faddr 2 (.t 15)⟩,
  ⟨some 76, none, .load 1 false (.t 75)⟩,
  ⟨some 77, none, .bin .leq (.t 76) (.k (.int .i64 0))⟩,
  ⟨some 78, none, .mov (.t 77)⟩,
  ⟨some 79, some (78, false), .mov (.t 4)⟩,
  ⟨some 80, some (78, false), .faddr 0 (.t 15)⟩,
  ⟨some 81, some (78, false), .load 1 false (.t 80)⟩,
  ⟨some 82, some (78, false), .iaddr 1 (.t 79) (.t 81)⟩,
  ⟨some 83, some (78, false), .load 1 false (.t 82)⟩,
  ⟨some 84, some (78, false), .bin .geq (.t 83) (.k (.int .i64 0))⟩,
  ⟨some 85, none, .pick (.t 78) (.k (.bool true)) (.t 84)⟩,
  ⟨some 86, none, .mov (.t 85)⟩,
  ⟨some 87, some (86, false), .mov (.t 4)⟩,
  ⟨some 88, some (86, false), .faddr 1 (.t 15)⟩,
  ⟨some 89, some (86, false), .load 1 false (.t 88)⟩,
  ⟨some 90, some (86, false), .iaddr 1 (.t 87) (.t 89)⟩,
  ⟨some 91, some (86, false), .load 1 false (.t 90)⟩,
  ⟨some 92, some (86, false), .bin .leq (.t 91) (.k (.int .i64 0))⟩,
  ⟨some 93, none, .pick (.t 86) (.k (.bool true)) (.t 92)⟩]
def r7_19 : List Ins := [⟨some 2, none, .mov (.k (.bool false))⟩]
def r7_20 : List Ins := [⟨some 94, none, .bin .add (.t 71) (.k (.int .i64 1))⟩,
  ⟨some 71, none, .mov (.t 94)⟩]
def r7_21 : List Ins := [⟨some 95, none, .mov (.t 11)⟩,
  ⟨some 96, none, .bin .eql (.t 95) (.k (.int .i64 0))⟩,
  ⟨some 97, none, .mov (.t 96)⟩,
  ⟨some 98, some (97, true), .mov (.t 6)⟩,
  ⟨some 99, some (97, true), .len (.t 98)⟩,
  ⟨some 100, some (97, true), .mov (.t 10)⟩,
  ⟨some 101, some (97, true), .bin .sub (.t 100) (.k (.int .i64 1))⟩,
  ⟨some 102, some (97, true), .max2 (.t 101) (.k (.int .i64 0))⟩,
  ⟨some 103, some (97, true), .bin .leq (.t 99) (.t 102)⟩,
  ⟨some 104, none, .pick (.t 97) (.t 103) (.k (.bool false))⟩,
  ⟨some 105, none, .mov (.t 104)⟩,
  ⟨some 106, some (105, true), .call (.k (.func (.func 8) #[] #[])) []⟩,
  ⟨some 107, none, .pick (.t 105) (.t 106) (.k (.bool false))⟩,
  ⟨some 2, none, .mov (.t 107)⟩]
def x7 : XC := (.seq (.ops false r7_0) (.seq (.ops false r7_1) (.seq (.ops false r7_2) (.seq (.ops false r7_3) (.seq (.ops false r7_4) (.seq (.seq (.ops false r7_5) (.cond (.t 54) (.seq (.ops false r7_6) .ret) .skip)) (.seq (.ops false r7_7) (.seq (.seq (.ops false r7_8) (.block 0 (.loop [] ⟨108, [(4, (.list (.int .i64))), (6, (.list tS0)), (10, (.int .i64)), (11, (.int .i64)), (55, (.list (.int .i64))), (56, (.int .i64)), (57, (.int .i64))], [], []⟩ (.seq (.ops false r7_9) (.seq (.cond (.t 58) .skip (.exit 0)) (.seq (.block 1 (.seq (.ops false r7_10) (.seq (.ops false r7_11) (.seq (.ops false r7_12) (.cond (.t 65) (.ops false r7_13) .skip))))) (.ops false r7_14))))))) (.seq (.seq (.ops false r7_15) (.block 2 (.loop [] ⟨108, [(4, (.list (.int .i64))), (6, (.list tS0)), (10, (.int .i64)), (11, (.int .i64)), (69, (.list tS0)), (70, (.int .i64)), (71, (.int .i64))], [], []⟩ (.seq (.ops false r7_16) (.seq (.cond (.t 72) .skip (.exit 2)) (.seq (.block 3 (.seq (.ops false r7_17) (.seq (.ops false r7_18) (.cond (.t 93) (.seq (.ops false r7_19) .ret) .skip)))) (.ops false r7_20))))))) (.seq (.ops false r7_21) .ret))))))))))
theorem F7 : Fn Try.prog 7 108 x7.er [.t 2] := ⟨Try.f7, hcl, Try.func7, by kernel_rfl, by kernel_rfl, by kernel_rfl, by kernel_rfl⟩
noncomputable def m7 (a0 : List Int) : Option (Bool × Unit) :=
  (m10 a0).bind fun y176 =>
  (m9 30 y176.1 y176.2.1).bind fun y177 =>
  (m19 y177.2.2.1).bind fun y178 =>
  (m17 y178.1).bind fun y179 =>
  (m19 y179.1).bind fun y180 =>
  cond (cond (cond (iNe y178.2.1 0) true (iNe y179.2.1 0)) true (iNe y180.2.1 0))
  (some (false, ()))
  ((m20 y178.1 y180.1).bind fun y181 =>
   cond (cond (not y181.1) true (iNe (lenI y178.1) 16))
   (some (false, ()))
   (loopO (S := (List Int) × (List DS0) × Int × Int × (List Int) × Int × Int × Unit) (R := Bool × Unit) (fun s182 =>
     cond (iLt s182.2.2.2.2.2.2.1 s182.2.2.2.2.2.1)
     (cond (bnd s182.2.2.2.2.2.2.1 (lenI s182.2.2.2.2.1))
      (cond (iNe (atI s182.2.2.2.2.1 s182.2.2.2.2.2.2.1 0) 0)
       (some (.inl (s182.1, s182.2.1, iAdd .i64 s182.2.2.1 1, iAdd .i64 s182.2.2.2.1 (atI s182.2.2.2.2.1 s182.2.2.2.2.2.2.1 0), s182.2.2.2.2.1, s182.2.2.2.2.2.1, iAdd .i64 s182.2.2.2.2.2.2.1 1, ())))
       (some (.inl (s182.1, s182.2.1, s182.2.2.1, iAdd .i64 s182.2.2.2.1 (atI s182.2.2.2.2.1 s182.2.2.2.2.2.2.1 0), s182.2.2.2.2.1, s182.2.2.2.2.2.1, iAdd .i64 s182.2.2.2.2.2.2.1 1, ())))) none)
     (Option.map Sum.inr (loopO (S := (List Int) × (List DS0) × Int × Int × (List DS0) × Int × Int × Unit) (R := Bool × Unit) (fun s183 =>
        cond (iLt s183.2.2.2.2.2.2.1 s183.2.2.2.2.2.1)
        (cond (bnd s183.2.2.2.2.2.2.1 (lenI s183.2.2.2.2.1))
         (cond (or (bnd ((atI s183.2.2.2.2.1 s183.2.2.2.2.2.2.1 (0, 0, 0, ())).1) (lenI s183.1)) (not (bEq (iLe ((atI s183.2.2.2.2.1 s183.2.2.2.2.2.2.1 (0, 0, 0, ())).2.2.1) 0) false)))
          (cond (or (bnd ((atI s183.2.2.2.2.1 s183.2.2.2.2.2.2.1 (0, 0, 0, ())).2.1) (lenI s183.1)) (not (bEq (cond (iLe ((atI s183.2.2.2.2.1 s183.2.2.2.2.2.2.1 (0, 0, 0, ())).2.2.1) 0) true (iLe 0 (atI s183.1 ((atI s183.2.2.2.2.1 s183.2.2.2.2.2.2.1 (0, 0, 0, ())).1) 0))) false)))
           (cond (cond (cond (iLe ((atI s183.2.2.2.2.1 s183.2.2.2.2.2.2.1 (0, 0, 0, ())).2.2.1) 0) true (iLe 0 (atI s183.1 ((atI s183.2.2.2.2.1 s183.2.2.2.2.2.2.1 (0, 0, 0, ())).1) 0))) true (iLe (atI s183.1 ((atI s183.2.2.2.2.1 s183.2.2.2.2.2.2.1 (0, 0, 0, ())).2.1) 0) 0))
            (some (.inr (false, ())))
            (some (.inl (s183.1, s183.2.1, s183.2.2.1, s183.2.2.2.1, s183.2.2.2.2.1, s183.2.2.2.2.2.1, iAdd .i64 s183.2.2.2.2.2.2.1 1, ())))) none) none) none)
        (Option.map Sum.inr (cond (cond (iEq s183.2.2.2.1 0) (iLe (lenI s183.2.1) (iMax (iSub .i64 s183.2.2.1 1) 0)) false)
          ((m8).bind fun y184 =>
           some (y184.1, ()))
          (some (false, ())))))
       (s182.1, s182.2.1, s182.2.2.1, s182.2.2.2.1, s182.2.1, lenI s182.2.1, 0, ()))))
    (y178.1, y179.1, 0, 0, y178.1, lenI y178.1, 0, ())))
noncomputable def cfg7 : Cfg := ⟨ttab, gtab, [i17, i19, i20, i8], [h10, h9]⟩
theorem eqn7 (x : (List Int) × Unit) : xfun cfg7 x7 108 [.t 2] [(.list (.int .i64))] [.bool] x = m7 x.1 := by kernel_rfl
noncomputable def i7 : PI := ⟨7, [(.list (.int .i64))], [.bool], fun (x : (List Int) × Unit) => m7 x.1⟩
theorem oki7 : POk Try.prog (gx gtab) i7 := pok mixed (cfg_p oki17 (cfg_p oki19 (cfg_p oki20 (cfg_p oki8 (cfg_h okh10 (cfg_h okh9 (cfg_nil _ _)))))) : CfgOk _ cfg7) F7 eqn7
end Abs
end Go.Proofs.Ytkngaeagdcflfaa
