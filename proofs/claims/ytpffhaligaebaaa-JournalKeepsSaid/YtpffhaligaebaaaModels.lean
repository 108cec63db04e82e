/- The functions' models on the typed machine, printed by a program of mine; that they are the code's is checked by the kernel. -/
import Derived.Test.YtpffhaligaebaaaXI
import Derived.Test.YtpffhaligaebaaaProg
import Derived.KernelRfl
namespace Go.Proofs.Ytpffhaligaebaaa
namespace Abs
set_option maxRecDepth 100000
set_option linter.unusedVariables false
theorem mixed : Try.prog.follows .mixedOrders = true := by kernel_rfl
abbrev tS0 : Ty := .tup [(.list (.int .u8)), (.int .i64), (.int .i64), (.int .i64), .bool]
abbrev DS0 : Type := (List Int) × Int × Int × Int × Bool × Unit
def ttab : Nat → Option Ty := fun n => if Nat.beq n 5 = true then some (.int .u8) else if Nat.beq n 22 = true then some (.list (.int .u8)) else none
def gtab : GXT := fun _ => none
/- 7 treaty/treatylaw41.short -/
def r7_0 : List Ins := [⟨some 2, none, .mov (.k (.slice none 0 0))⟩]
def r7_1 : List Ins := [⟨some 3, none, .mov (.t 0)⟩,
  ⟨some 4, none, .mov (.t 0)⟩,
  ⟨some 5, none, .len (.t 4)⟩,
  ⟨some 6, none, .min2 (.t 5) (.k (.int .i64 300))⟩,
  ⟨some 7, none, .slice 1 (.t 3) none (some (.t 6))⟩,
  ⟨some 2, none, .mov (.t 7)⟩]
def x7 : XC := (.seq (.ops false r7_0) (.seq (.ops false r7_1) .ret))
theorem F7 : Fn Try.prog 7 8 x7.er [.t 2] := ⟨Try.f7, Try.func7, by kernel_rfl, by kernel_rfl, by kernel_rfl⟩
noncomputable def m7 (a0 : List Int) : Option ((List Int) × Unit) :=
  cond (cutOk 0 (iMin (lenI a0) 300) (List.length a0))
  (some (cutL 0 (iMin (lenI a0) 300) a0, ())) none
noncomputable def cfg7 : Cfg := ⟨ttab, gtab, [], []⟩
theorem eqn7 (x : (List Int) × Unit) : xfun cfg7 x7 8 [.t 2] [(.list (.int .u8))] [(.list (.int .u8))] x = m7 x.1 := by kernel_rfl
noncomputable def i7 : PI := ⟨7, [(.list (.int .u8))], [(.list (.int .u8))], fun (x : (List Int) × Unit) => m7 x.1⟩
theorem oki7 : POk Try.prog (gx gtab) i7 := pok mixed (cfg_nil _ _ : CfgOk _ cfg7) F7 eqn7
/- 14 treaty/journal.Checksum -/
def r14_0 : List Ins := [⟨some 2, none, .mov (.k (.int .u32 0))⟩]
def r14_1 : List Ins := [⟨some 3, none, .mov (.k (.int .u32 2166136261))⟩]
def r14_2 : List Ins := [⟨some 6, none, .mov (.t 0)⟩,
  ⟨some 7, none, .len (.t 6)⟩,
  ⟨some 8, none, .mov (.k (.int .i64 0))⟩]
def r14_3 : List Ins := [⟨some 9, none, .bin .lss (.t 8) (.t 7)⟩]
def r14_4 : List Ins := [⟨some 10, none, .iaddr 1 (.t 6) (.t 8)⟩,
  ⟨some 11, none, .load 1 false (.t 10)⟩,
  ⟨some 5, none, .mov (.t 11)⟩]
def r14_5 : List Ins := [⟨some 12, none, .mov (.t 3)⟩,
  ⟨some 13, none, .mov (.t 5)⟩,
  ⟨some 14, none, .conv .u32 (.t 13)⟩,
  ⟨some 15, none, .bin .xor (.t 12) (.t 14)⟩,
  ⟨some 16, none, .bin .mul (.t 15) (.k (.int .u32 16777619))⟩,
  ⟨some 3, none, .mov (.t 16)⟩]
def r14_6 : List Ins := [⟨some 17, none, .bin .add (.t 8) (.k (.int .i64 1))⟩,
  ⟨some 8, none, .mov (.t 17)⟩]
def r14_7 : List Ins := [⟨some 18, none, .mov (.t 3)⟩,
  ⟨some 2, none, .mov (.t 18)⟩]
def x14 : XC := (.seq (.ops false r14_0) (.seq (.ops false r14_1) (.seq (.seq (.ops false r14_2) (.block 0 (.loop [] ⟨19, [(3, (.int .u32)), (6, (.list (.int .u8))), (7, (.int .i64)), (8, (.int .i64))], [], []⟩ (.seq (.ops false r14_3) (.seq (.cond (.t 9) .skip (.exit 0)) (.seq (.block 1 (.seq (.ops false r14_4) (.ops false r14_5))) (.ops false r14_6))))))) (.seq (.ops false r14_7) .ret))))
theorem F14 : Fn Try.prog 14 19 x14.er [.t 2] := ⟨Try.f14, Try.func14, by kernel_rfl, by kernel_rfl, by kernel_rfl⟩
noncomputable def m14 (a0 : List Int) : Option (Int × Unit) :=
  loopO (S := Int × (List Int) × Int × Int × Unit) (R := Int × Unit) (fun s5 =>
   cond (iLt s5.2.2.2.1 s5.2.2.1)
   (cond (bnd s5.2.2.2.1 (lenI s5.2.1))
    (some (.inl (iMul .u32 (iXor .u32 s5.1 (IntKind.wrap .u32 (atI s5.2.1 s5.2.2.2.1 0))) 16777619, s5.2.1, s5.2.2.1, iAdd .i64 s5.2.2.2.1 1, ()))) none)
   (some (.inr (s5.1, ()))))
  (2166136261, a0, lenI a0, 0, ())
noncomputable def cfg14 : Cfg := ⟨ttab, gtab, [], []⟩
theorem eqn14 (x : (List Int) × Unit) : xfun cfg14 x14 19 [.t 2] [(.list (.int .u8))] [(.int .u32)] x = m14 x.1 := by kernel_rfl
noncomputable def i14 : PI := ⟨14, [(.list (.int .u8))], [(.int .u32)], fun (x : (List Int) × Unit) => m14 x.1⟩
theorem oki14 : POk Try.prog (gx gtab) i14 := pok mixed (cfg_nil _ _ : CfgOk _ cfg14) F14 eqn14
/- 8 treaty/journal.Frame -/
def r8_0 : List Ins := [⟨some 2, none, .mov (.k (.slice none 0 0))⟩,
  ⟨some 3, none, .mov (.k (.int .i64 0))⟩]
def r8_1 : List Ins := [⟨some 7, none, .mov (.t 0)⟩,
  ⟨some 8, none, .len (.t 7)⟩,
  ⟨some 4, none, .mov (.t 8)⟩]
def r8_2 : List Ins := [⟨some 9, none, .mov (.t 4)⟩,
  ⟨some 10, none, .bin .eql (.t 9) (.k (.int .i64 0))⟩]
def r8_3 : List Ins := [⟨some 2, none, .mov (.k (.slice none 0 0))⟩,
  ⟨some 3, none, .mov (.k (.int .i64 19))⟩]
def r8_4 : List Ins := [⟨some 11, none, .mov (.t 4)⟩,
  ⟨some 12, none, .bin .gtr (.t 11) (.k (.int .i64 8192))⟩]
def r8_5 : List Ins := [⟨some 2, none, .mov (.k (.slice none 0 0))⟩,
  ⟨some 3, none, .mov (.k (.int .i64 4))⟩]
def r8_6 : List Ins := [⟨some 13, none, .mov (.t 0)⟩,
  ⟨some 14, none, .call 14 [(.t 13)]⟩,
  ⟨some 5, none, .mov (.t 14)⟩]
def r8_7 : List Ins := [⟨some 15, none, .mov (.t 4)⟩,
  ⟨some 16, none, .bin .shr (.t 15) (.k (.int .u64 8))⟩,
  ⟨some 17, none, .conv .u8 (.t 16)⟩,
  ⟨some 18, none, .mov (.t 4)⟩,
  ⟨some 19, none, .conv .u8 (.t 18)⟩,
  ⟨some 20, none, .mov (.t 5)⟩,
  ⟨some 21, none, .bin .shr (.t 20) (.k (.int .u64 24))⟩,
  ⟨some 22, none, .conv .u8 (.t 21)⟩,
  ⟨some 23, none, .mov (.t 5)⟩,
  ⟨some 24, none, .bin .shr (.t 23) (.k (.int .u64 16))⟩,
  ⟨some 25, none, .conv .u8 (.t 24)⟩,
  ⟨some 26, none, .mov (.t 5)⟩,
  ⟨some 27, none, .bin .shr (.t 26) (.k (.int .u64 8))⟩,
  ⟨some 28, none, .conv .u8 (.t 27)⟩,
  ⟨some 29, none, .mov (.t 5)⟩,
  ⟨some 30, none, .conv .u8 (.t 29)⟩,
  ⟨some 31, none, .bslice 5 1 [(.t 17), (.t 19), (.t 22), (.t 25), (.t 28), (.t 30)]⟩,
  ⟨some 6, none, .mov (.t 31)⟩]
def r8_8 : List Ins := [⟨some 32, none, .mov (.t 6)⟩,
  ⟨some 33, none, .mov (.t 0)⟩,
  ⟨some 34, none, .app 5 1 1 (.t 32) (.t 33)⟩,
  ⟨some 2, none, .mov (.t 34)⟩,
  ⟨some 3, none, .mov (.k (.int .i64 0))⟩]
def x8 : XC := (.seq (.ops false r8_0) (.seq (.ops false r8_1) (.seq (.seq (.ops false r8_2) (.cond (.t 10) (.seq (.ops false r8_3) .ret) .skip)) (.seq (.seq (.ops false r8_4) (.cond (.t 12) (.seq (.ops false r8_5) .ret) .skip)) (.seq (.ops false r8_6) (.seq (.ops false r8_7) (.seq (.ops false r8_8) .ret)))))))
theorem F8 : Fn Try.prog 8 35 x8.er [.t 2, .t 3] := ⟨Try.f8, Try.func8, by kernel_rfl, by kernel_rfl, by kernel_rfl⟩
noncomputable def m8 (a0 : List Int) : Option ((List Int) × Int × Unit) :=
  cond (iEq (lenI a0) 0)
  (some (([] : List Int), 19, ()))
  (cond (iLt 8192 (lenI a0))
   (some (([] : List Int), 4, ()))
   ((m14 a0).bind fun y6 =>
    cond (iLe 0 8)
    (cond (iLe 0 24)
     (cond (iLe 0 16)
      (cond (iLe 0 8)
       (cond (fits (List.length ([IntKind.wrap .u8 (iShr .i64 (lenI a0) 8), IntKind.wrap .u8 (lenI a0), IntKind.wrap .u8 (iShr .u32 y6.1 24), IntKind.wrap .u8 (iShr .u32 y6.1 16), IntKind.wrap .u8 (iShr .u32 y6.1 8), IntKind.wrap .u8 y6.1] : List Int) + List.length a0) 1)
        (some (([IntKind.wrap .u8 (iShr .i64 (lenI a0) 8), IntKind.wrap .u8 (lenI a0), IntKind.wrap .u8 (iShr .u32 y6.1 24), IntKind.wrap .u8 (iShr .u32 y6.1 16), IntKind.wrap .u8 (iShr .u32 y6.1 8), IntKind.wrap .u8 y6.1] : List Int) ++ a0, 0, ())) none) none) none) none) none))
noncomputable def cfg8 : Cfg := ⟨ttab, gtab, [i14], []⟩
theorem eqn8 (x : (List Int) × Unit) : xfun cfg8 x8 35 [.t 2, .t 3] [(.list (.int .u8))] [(.list (.int .u8)), (.int .i64)] x = m8 x.1 := by kernel_rfl
noncomputable def i8 : PI := ⟨8, [(.list (.int .u8))], [(.list (.int .u8)), (.int .i64)], fun (x : (List Int) × Unit) => m8 x.1⟩
theorem oki8 : POk Try.prog (gx gtab) i8 := pok mixed (cfg_p oki14 (cfg_nil _ _) : CfgOk _ cfg8) F8 eqn8
/- 15 treaty/treatyref40.Checksum -/
def r15_0 : List Ins := [⟨some 2, none, .mov (.k (.int .u32 0))⟩]
def r15_1 : List Ins := [⟨some 3, none, .mov (.k (.int .u32 2166136261))⟩]
def r15_2 : List Ins := [⟨some 6, none, .mov (.t 0)⟩,
  ⟨some 7, none, .len (.t 6)⟩,
  ⟨some 8, none, .mov (.k (.int .i64 0))⟩]
def r15_3 : List Ins := [⟨some 9, none, .bin .lss (.t 8) (.t 7)⟩]
def r15_4 : List Ins := [⟨some 10, none, .iaddr 1 (.t 6) (.t 8)⟩,
  ⟨some 11, none, .load 1 false (.t 10)⟩,
  ⟨some 5, none, .mov (.t 11)⟩]
def r15_5 : List Ins := [⟨some 12, none, .mov (.t 3)⟩,
  ⟨some 13, none, .mov (.t 5)⟩,
  ⟨some 14, none, .conv .u32 (.t 13)⟩,
  ⟨some 15, none, .bin .xor (.t 12) (.t 14)⟩,
  ⟨some 16, none, .bin .mul (.t 15) (.k (.int .u32 16777619))⟩,
  ⟨some 3, none, .mov (.t 16)⟩]
def r15_6 : List Ins := [⟨some 17, none, .bin .add (.t 8) (.k (.int .i64 1))⟩,
  ⟨some 8, none, .mov (.t 17)⟩]
def r15_7 : List Ins := [⟨some 18, none, .mov (.t 3)⟩,
  ⟨some 2, none, .mov (.t 18)⟩]
def x15 : XC := (.seq (.ops false r15_0) (.seq (.ops false r15_1) (.seq (.seq (.ops false r15_2) (.block 0 (.loop [] ⟨19, [(3, (.int .u32)), (6, (.list (.int .u8))), (7, (.int .i64)), (8, (.int .i64))], [], []⟩ (.seq (.ops false r15_3) (.seq (.cond (.t 9) .skip (.exit 0)) (.seq (.block 1 (.seq (.ops false r15_4) (.ops false r15_5))) (.ops false r15_6))))))) (.seq (.ops false r15_7) .ret))))
theorem F15 : Fn Try.prog 15 19 x15.er [.t 2] := ⟨Try.f15, Try.func15, by kernel_rfl, by kernel_rfl, by kernel_rfl⟩
noncomputable def m15 (a0 : List Int) : Option (Int × Unit) :=
  loopO (S := Int × (List Int) × Int × Int × Unit) (R := Int × Unit) (fun s9 =>
   cond (iLt s9.2.2.2.1 s9.2.2.1)
   (cond (bnd s9.2.2.2.1 (lenI s9.2.1))
    (some (.inl (iMul .u32 (iXor .u32 s9.1 (IntKind.wrap .u32 (atI s9.2.1 s9.2.2.2.1 0))) 16777619, s9.2.1, s9.2.2.1, iAdd .i64 s9.2.2.2.1 1, ()))) none)
   (some (.inr (s9.1, ()))))
  (2166136261, a0, lenI a0, 0, ())
noncomputable def cfg15 : Cfg := ⟨ttab, gtab, [], []⟩
theorem eqn15 (x : (List Int) × Unit) : xfun cfg15 x15 19 [.t 2] [(.list (.int .u8))] [(.int .u32)] x = m15 x.1 := by kernel_rfl
noncomputable def i15 : PI := ⟨15, [(.list (.int .u8))], [(.int .u32)], fun (x : (List Int) × Unit) => m15 x.1⟩
theorem oki15 : POk Try.prog (gx gtab) i15 := pok mixed (cfg_nil _ _ : CfgOk _ cfg15) F15 eqn15
/- 9 treaty/treatyref40.Frame -/
def r9_0 : List Ins := [⟨some 2, none, .mov (.k (.slice none 0 0))⟩,
  ⟨some 3, none, .mov (.k (.int .i64 0))⟩]
def r9_1 : List Ins := [⟨some 5, none, .mov (.t 0)⟩,
  ⟨some 6, none, .len (.t 5)⟩,
  ⟨some 7, none, .bin .eql (.t 6) (.k (.int .i64 0))⟩]
def r9_2 : List Ins := [⟨some 2, none, .mov (.k (.slice none 0 0))⟩,
  ⟨some 3, none, .mov (.k (.int .i64 19))⟩]
def r9_3 : List Ins := [⟨some 8, none, .mov (.t 0)⟩,
  ⟨some 9, none, .len (.t 8)⟩,
  ⟨some 10, none, .bin .gtr (.t 9) (.k (.int .i64 8192))⟩]
def r9_4 : List Ins := [⟨some 2, none, .mov (.k (.slice none 0 0))⟩,
  ⟨some 3, none, .mov (.k (.int .i64 4))⟩]
def r9_5 : List Ins := [⟨some 11, none, .mov (.t 0)⟩,
  ⟨some 12, none, .call 15 [(.t 11)]⟩,
  ⟨some 4, none, .mov (.t 12)⟩]
def r9_6 : List Ins := [⟨some 13, none, .mov (.t 0)⟩,
  ⟨some 14, none, .len (.t 13)⟩,
  ⟨some 15, none, .bin .quo (.t 14) (.k (.int .i64 256))⟩,
  ⟨some 16, none, .conv .u8 (.t 15)⟩,
  ⟨some 17, none, .mov (.t 0)⟩,
  ⟨some 18, none, .len (.t 17)⟩,
  ⟨some 19, none, .bin .rem (.t 18) (.k (.int .i64 256))⟩,
  ⟨some 20, none, .conv .u8 (.t 19)⟩,
  ⟨some 21, none, .mov (.t 4)⟩,
  ⟨some 22, none, .bin .shr (.t 21) (.k (.int .u64 24))⟩,
  ⟨some 23, none, .conv .u8 (.t 22)⟩,
  ⟨some 24, none, .mov (.t 4)⟩,
  ⟨some 25, none, .bin .shr (.t 24) (.k (.int .u64 16))⟩,
  ⟨some 26, none, .conv .u8 (.t 25)⟩,
  ⟨some 27, none, .mov (.t 4)⟩,
  ⟨some 28, none, .bin .shr (.t 27) (.k (.int .u64 8))⟩,
  ⟨some 29, none, .conv .u8 (.t 28)⟩,
  ⟨some 30, none, .mov (.t 4)⟩,
  ⟨some 31, none, .conv .u8 (.t 30)⟩,
  ⟨some 32, none, .bslice 5 1 [(.t 16), (.t 20), (.t 23), (.t 26), (.t 29), (.t 31)]⟩,
  ⟨some 33, none, .mov (.t 0)⟩,
  ⟨some 34, none, .app 5 1 1 (.t 32) (.t 33)⟩,
  ⟨some 2, none, .mov (.t 34)⟩,
  ⟨some 3, none, .mov (.k (.int .i64 0))⟩]
def x9 : XC := (.seq (.ops false r9_0) (.seq (.seq (.ops false r9_1) (.cond (.t 7) (.seq (.ops false r9_2) .ret) .skip)) (.seq (.seq (.ops false r9_3) (.cond (.t 10) (.seq (.ops false r9_4) .ret) .skip)) (.seq (.ops false r9_5) (.seq (.ops false r9_6) .ret)))))
theorem F9 : Fn Try.prog 9 35 x9.er [.t 2, .t 3] := ⟨Try.f9, Try.func9, by kernel_rfl, by kernel_rfl, by kernel_rfl⟩
noncomputable def m9 (a0 : List Int) : Option ((List Int) × Int × Unit) :=
  cond (iEq (lenI a0) 0)
  (some (([] : List Int), 19, ()))
  (cond (iLt 8192 (lenI a0))
   (some (([] : List Int), 4, ()))
   ((m15 a0).bind fun y10 =>
    cond (iNe 256 0)
    (cond (iNe 256 0)
     (cond (iLe 0 24)
      (cond (iLe 0 16)
       (cond (iLe 0 8)
        (cond (fits (List.length ([IntKind.wrap .u8 (iQuo .i64 (lenI a0) 256), IntKind.wrap .u8 (iRem (lenI a0) 256), IntKind.wrap .u8 (iShr .u32 y10.1 24), IntKind.wrap .u8 (iShr .u32 y10.1 16), IntKind.wrap .u8 (iShr .u32 y10.1 8), IntKind.wrap .u8 y10.1] : List Int) + List.length a0) 1)
         (some (([IntKind.wrap .u8 (iQuo .i64 (lenI a0) 256), IntKind.wrap .u8 (iRem (lenI a0) 256), IntKind.wrap .u8 (iShr .u32 y10.1 24), IntKind.wrap .u8 (iShr .u32 y10.1 16), IntKind.wrap .u8 (iShr .u32 y10.1 8), IntKind.wrap .u8 y10.1] : List Int) ++ a0, 0, ())) none) none) none) none) none) none))
noncomputable def cfg9 : Cfg := ⟨ttab, gtab, [i15], []⟩
theorem eqn9 (x : (List Int) × Unit) : xfun cfg9 x9 35 [.t 2, .t 3] [(.list (.int .u8))] [(.list (.int .u8)), (.int .i64)] x = m9 x.1 := by kernel_rfl
noncomputable def i9 : PI := ⟨9, [(.list (.int .u8))], [(.list (.int .u8)), (.int .i64)], fun (x : (List Int) × Unit) => m9 x.1⟩
theorem oki9 : POk Try.prog (gx gtab) i9 := pok mixed (cfg_p oki15 (cfg_nil _ _) : CfgOk _ cfg9) F9 eqn9
/- 25 treaty/journal.copied -/
def r25_0 : List Ins := [⟨some 1, none, .box 24 5 (.t 0)⟩,
  ⟨some 2, none, .alloc 24 (.agg #[.slice none 0 0, .int .i64 0, .int .i64 0, .int .i64 0, .bool false])⟩]
def r25_1 : List Ins := [⟨some 3, none, .faddr 0 (.t 1)⟩,
  ⟨some 4, none, .load 1 false (.t 3)⟩,
  ⟨some 5, none, .app 5 1 1 (.k (.slice none 0 0)) (.t 4)⟩,
  ⟨some 6, none, .faddr 0 (.t 1)⟩,
  ⟨none, none, .store 1 (.t 6) (.t 5)⟩]
def r25_2 : List Ins := [⟨some 7, none, .load 5 true (.t 1)⟩,
  ⟨none, none, .store 5 (.t 2) (.t 7)⟩]
def x25 : XC := (.seq (.ops false r25_0) (.seq (.ops false r25_1) (.seq (.ops false r25_2) .ret)))
theorem F25 : Fn Try.prog 25 8 x25.er [.c 2 5 true] := ⟨Try.f25, Try.func25, by kernel_rfl, by kernel_rfl, by kernel_rfl⟩
noncomputable def m25 (a0 : DS0) : Option (DS0 × Unit) :=
  cond (fits (List.length a0.1) 1)
  (some ((a0.1, a0.2.1, a0.2.2.1, a0.2.2.2.1, a0.2.2.2.2.1, ()), ())) none
noncomputable def cfg25 : Cfg := ⟨ttab, gtab, [], []⟩
theorem eqn25 (x : DS0 × Unit) : xfun cfg25 x25 8 [.c 2 5 true] [tS0] [tS0] x = m25 x.1 := by kernel_rfl
noncomputable def i25 : PI := ⟨25, [tS0], [tS0], fun (x : DS0 × Unit) => m25 x.1⟩
theorem oki25 : POk Try.prog (gx gtab) i25 := pok mixed (cfg_nil _ _ : CfgOk _ cfg25) F25 eqn25
/- 25 treaty/journal.copied -/
def x25_1 : XC := (.seq (.ops false r25_0) (.seq (.ops false r25_1) (.seq (.ops false r25_2) .ret)))
theorem F25_1 : Fn Try.prog 25 8 x25_1.er [.c 2 5 true] := ⟨Try.f25, Try.func25, by kernel_rfl, by kernel_rfl, by kernel_rfl⟩
noncomputable def m25_1 (a0 : DS0) : Option (Int × Int × Int × Bool × (List Int) × Unit) :=
  cond (fits (List.length a0.1) 1)
  (some (a0.2.1, a0.2.2.1, a0.2.2.2.1, a0.2.2.2.2.1, a0.1, ())) none
noncomputable def cfg25_1 : Cfg := ⟨ttab, gtab, [], []⟩
def ish25_1 : Sh := ⟨1, [(0, tS0)], [], []⟩
def osh25_1 : Sh := ⟨1, [], [(0, .agg [.row 0, .d (.int .i64), .d (.int .i64), .d (.int .i64), .d .bool])], [.row 5 (.int .u8) false]⟩
theorem eqn25_1 (x : DS0 × Unit) : xfunH cfg25_1 x25_1 8 [.c 2 5 true] [] ish25_1 osh25_1 x = m25_1 x.1 := by kernel_rfl
noncomputable def h25_1 : HI := ⟨25, ish25_1, osh25_1, fun (x : DS0 × Unit) => m25_1 x.1⟩
theorem okh25_1 : HOk Try.prog (gx gtab) h25_1 := hok mixed (cfg_nil _ _ : CfgOk _ cfg25_1) F25_1 eqn25_1
/- 17 treaty/journal.Write -/
def r17_0 : List Ins := [⟨some 2, none, .box 24 5 (.t 0)⟩,
  ⟨some 4, none, .alloc 24 (.agg #[.slice none 0 0, .int .i64 0, .int .i64 0, .int .i64 0, .bool false])⟩,
  ⟨some 5, none, .mov (.k (.int .i64 0))⟩]
def r17_1 : List Ins := [⟨some 6, none, .load 5 true (.t 2)⟩,
  ⟨some 7, none, .call 25 [(.t 6)]⟩,
  ⟨none, none, .store 5 (.t 2) (.t 7)⟩]
def r17_2 : List Ins := [⟨some 8, none, .faddr 4 (.t 2)⟩,
  ⟨some 9, none, .load 1 false (.t 8)⟩]
def r17_3 : List Ins := [⟨some 10, none, .load 5 true (.t 2)⟩,
  ⟨none, none, .store 5 (.t 4) (.t 10)⟩,
  ⟨some 5, none, .mov (.k (.int .i64 18))⟩]
def r17_4 : List Ins := [⟨some 11, none, .faddr 1 (.t 2)⟩,
  ⟨some 12, none, .load 1 false (.t 11)⟩,
  ⟨some 13, none, .bin .add (.t 12) (.k (.int .i64 1))⟩,
  ⟨some 14, none, .faddr 1 (.t 2)⟩,
  ⟨none, none, .store 1 (.t 14) (.t 13)⟩]
def r17_5 : List Ins := [⟨some 15, none, .faddr 1 (.t 2)⟩,
  ⟨some 16, none, .load 1 false (.t 15)⟩,
  ⟨some 17, none, .faddr 2 (.t 2)⟩,
  ⟨some 18, none, .load 1 false (.t 17)⟩,
  ⟨some 19, none, .bin .neq (.t 16) (.t 18)⟩]
def r17_6 : List Ins := [⟨some 20, none, .faddr 0 (.t 2)⟩,
  ⟨some 21, none, .load 1 false (.t 20)⟩,
  ⟨some 22, none, .mov (.t 1)⟩,
  ⟨some 23, none, .app 5 1 1 (.t 21) (.t 22)⟩,
  ⟨some 24, none, .faddr 0 (.t 2)⟩,
  ⟨none, none, .store 1 (.t 24) (.t 23)⟩]
def r17_7 : List Ins := [⟨some 25, none, .load 5 true (.t 2)⟩,
  ⟨none, none, .store 5 (.t 4) (.t 25)⟩,
  ⟨some 5, none, .mov (.k (.int .i64 0))⟩]
def r17_8 : List Ins := [⟨some 26, none, .faddr 0 (.t 2)⟩,
  ⟨some 27, none, .load 1 false (.t 26)⟩,
  ⟨some 28, none, .mov (.t 1)⟩,
  ⟨some 29, none, .faddr 3 (.t 2)⟩,
  ⟨some 30, none, .load 1 false (.t 29)⟩,
  ⟨some 31, none, .max2 (.t 30) (.k (.int .i64 0))⟩,
  ⟨some 32, none, .mov (.t 1)⟩,
  ⟨some 33, none, .len (.t 32)⟩,
  ⟨some 34, none, .min2 (.t 31) (.t 33)⟩,
  ⟨some 35, none, .slice 1 (.t 28) none (some (.t 34))⟩,
  ⟨some 36, none, .app 5 1 1 (.t 27) (.t 35)⟩,
  ⟨some 37, none, .faddr 0 (.t 2)⟩,
  ⟨none, none, .store 1 (.t 37) (.t 36)⟩]
def r17_9 : List Ins := [⟨some 38, none, .faddr 4 (.t 2)⟩,
  ⟨none, none, .store 1 (.t 38) (.k (.bool true))⟩]
def r17_10 : List Ins := [⟨some 39, none, .load 5 true (.t 2)⟩,
  ⟨none, none, .store 5 (.t 4) (.t 39)⟩,
  ⟨some 5, none, .mov (.k (.int .i64 18))⟩]
def x17 : XC := (.seq (.ops false r17_0) (.seq (.ops false r17_1) (.seq (.seq (.ops false r17_2) (.cond (.t 9) (.seq (.ops false r17_3) .ret) .skip)) (.seq (.ops false r17_4) (.seq (.seq (.ops false r17_5) (.cond (.t 19) (.seq (.ops false r17_6) (.seq (.ops false r17_7) .ret)) .skip)) (.seq (.ops true r17_8) (.seq (.ops false r17_9) (.seq (.ops false r17_10) .ret))))))))
theorem F17 : Fn Try.prog 17 40 x17.er [.c 4 5 true, .t 5] := ⟨Try.f17, Try.func17, by kernel_rfl, by kernel_rfl, by kernel_rfl⟩
noncomputable def m17 (a0 : DS0) (a1 : List Int) : Option (DS0 × Int × Unit) :=
  (m25_1 (a0.1, a0.2.1, a0.2.2.1, a0.2.2.2.1, a0.2.2.2.2.1, ())).bind fun y15 =>
  cond y15.2.2.2.1
  (some ((y15.2.2.2.2.1, y15.1, y15.2.1, y15.2.2.1, y15.2.2.2.1, ()), 18, ()))
  (cond (iNe (iAdd .i64 y15.1 1) y15.2.1)
   (cond (fits (List.length y15.2.2.2.2.1 + List.length a1) 1)
    (some ((y15.2.2.2.2.1 ++ a1, iAdd .i64 y15.1 1, y15.2.1, y15.2.2.1, y15.2.2.2.1, ()), 0, ())) none)
   (cond (cutOk 0 (iMin (iMax y15.2.2.1 0) (lenI a1)) (List.length a1))
    (cond (fits (List.length y15.2.2.2.2.1 + List.length (cutL 0 (iMin (iMax y15.2.2.1 0) (lenI a1)) a1)) 1)
     (some ((y15.2.2.2.2.1 ++ (cutL 0 (iMin (iMax y15.2.2.1 0) (lenI a1)) a1), iAdd .i64 y15.1 1, y15.2.1, y15.2.2.1, true, ()), 18, ())) none) none))
noncomputable def cfg17 : Cfg := ⟨ttab, gtab, [], [h25_1]⟩
theorem eqn17 (x : DS0 × (List Int) × Unit) : xfun cfg17 x17 40 [.c 4 5 true, .t 5] [tS0, (.list (.int .u8))] [tS0, (.int .i64)] x = m17 x.1 x.2.1 := by kernel_rfl
noncomputable def i17 : PI := ⟨17, [tS0, (.list (.int .u8))], [tS0, (.int .i64)], fun (x : DS0 × (List Int) × Unit) => m17 x.1 x.2.1⟩
theorem oki17 : POk Try.prog (gx gtab) i17 := pok mixed (cfg_h okh25_1 (cfg_nil _ _) : CfgOk _ cfg17) F17 eqn17
/- 10 treaty/journal.Append -/
def r10_0 : List Ins := [⟨some 2, none, .box 24 5 (.t 0)⟩,
  ⟨some 4, none, .alloc 24 (.agg #[.slice none 0 0, .int .i64 0, .int .i64 0, .int .i64 0, .bool false])⟩,
  ⟨some 5, none, .mov (.k (.int .i64 0))⟩]
def r10_1 : List Ins := [⟨some 9, none, .mov (.t 1)⟩,
  ⟨some 10, none, .call 8 [(.t 9)]⟩,
  ⟨some 8, none, .mov (.t 10)⟩,
  ⟨some 11, none, .ext 0 (.t 8)⟩,
  ⟨some 12, none, .ext 1 (.t 8)⟩,
  ⟨some 6, none, .mov (.t 11)⟩,
  ⟨some 7, none, .mov (.t 12)⟩]
def r10_2 : List Ins := [⟨some 13, none, .mov (.t 7)⟩,
  ⟨some 14, none, .bin .neq (.t 13) (.k (.int .i64 0))⟩]
def r10_3 : List Ins := [⟨some 15, none, .load 5 true (.t 2)⟩,
  ⟨some 16, none, .call 25 [(.t 15)]⟩,
  ⟨some 17, none, .mov (.t 7)⟩,
  ⟨none, none, .store 5 (.t 4) (.t 16)⟩,
  ⟨some 5, none, .mov (.t 17)⟩]
def r10_4 : List Ins := [⟨some 18, none, .load 5 true (.t 2)⟩,
  ⟨some 19, none, .mov (.t 6)⟩,
  ⟨some 20, none, .call 17 [(.t 18), (.t 19)]⟩,
  ⟨some 21, none, .ext 0 (.t 20)⟩,
  ⟨some 22, none, .ext 1 (.t 20)⟩,
  ⟨none, none, .store 5 (.t 4) (.t 21)⟩,
  ⟨some 5, none, .mov (.t 22)⟩]
def x10 : XC := (.seq (.ops false r10_0) (.seq (.ops false r10_1) (.seq (.seq (.ops false r10_2) (.cond (.t 14) (.seq (.ops false r10_3) .ret) .skip)) (.seq (.ops false r10_4) .ret))))
theorem F10 : Fn Try.prog 10 23 x10.er [.c 4 5 true, .t 5] := ⟨Try.f10, Try.func10, by kernel_rfl, by kernel_rfl, by kernel_rfl⟩
noncomputable def m10 (a0 : DS0) (a1 : List Int) : Option (DS0 × Int × Unit) :=
  (m8 a1).bind fun y12 =>
  cond (iNe y12.2.1 0)
  ((m25 (a0.1, a0.2.1, a0.2.2.1, a0.2.2.2.1, a0.2.2.2.2.1, ())).bind fun y13 =>
   some ((y13.1.1, y13.1.2.1, y13.1.2.2.1, y13.1.2.2.2.1, y13.1.2.2.2.2.1, ()), y12.2.1, ()))
  ((m17 (a0.1, a0.2.1, a0.2.2.1, a0.2.2.2.1, a0.2.2.2.2.1, ()) y12.1).bind fun y16 =>
   some ((y16.1.1, y16.1.2.1, y16.1.2.2.1, y16.1.2.2.2.1, y16.1.2.2.2.2.1, ()), y16.2.1, ()))
noncomputable def cfg10 : Cfg := ⟨ttab, gtab, [i17, i25, i8], []⟩
theorem eqn10 (x : DS0 × (List Int) × Unit) : xfun cfg10 x10 23 [.c 4 5 true, .t 5] [tS0, (.list (.int .u8))] [tS0, (.int .i64)] x = m10 x.1 x.2.1 := by kernel_rfl
noncomputable def i10 : PI := ⟨10, [tS0, (.list (.int .u8))], [tS0, (.int .i64)], fun (x : DS0 × (List Int) × Unit) => m10 x.1 x.2.1⟩
theorem oki10 : POk Try.prog (gx gtab) i10 := pok mixed (cfg_p oki17 (cfg_p oki25 (cfg_p oki8 (cfg_nil _ _))) : CfgOk _ cfg10) F10 eqn10
/- 26 treaty/treatyref40.Write -/
def r26_0 : List Ins := [⟨some 2, none, .box 24 5 (.t 0)⟩,
  ⟨some 4, none, .alloc 24 (.agg #[.slice none 0 0, .int .i64 0, .int .i64 0, .int .i64 0, .bool false])⟩,
  ⟨some 5, none, .mov (.k (.int .i64 0))⟩]
def r26_1 : List Ins := [⟨some 6, none, .faddr 4 (.t 2)⟩,
  ⟨some 7, none, .load 1 false (.t 6)⟩]
def r26_2 : List Ins := [⟨some 8, none, .load 5 true (.t 2)⟩,
  ⟨none, none, .store 5 (.t 4) (.t 8)⟩,
  ⟨some 5, none, .mov (.k (.int .i64 18))⟩]
def r26_3 : List Ins := [⟨some 9, none, .bslice 5 1 []⟩,
  ⟨some 10, none, .faddr 0 (.t 2)⟩,
  ⟨some 11, none, .load 1 false (.t 10)⟩,
  ⟨some 12, none, .app 5 1 1 (.t 9) (.t 11)⟩,
  ⟨some 13, none, .mov (.t 1)⟩,
  ⟨some 14, none, .app 5 1 1 (.t 12) (.t 13)⟩,
  ⟨some 15, none, .faddr 0 (.t 2)⟩,
  ⟨none, none, .store 1 (.t 15) (.t 14)⟩]
def r26_4 : List Ins := [⟨some 16, none, .faddr 1 (.t 2)⟩,
  ⟨some 17, none, .load 1 false (.t 16)⟩,
  ⟨some 18, none, .bin .add (.t 17) (.k (.int .i64 1))⟩,
  ⟨some 19, none, .faddr 1 (.t 2)⟩,
  ⟨none, none, .store 1 (.t 19) (.t 18)⟩]
def r26_5 : List Ins := [⟨some 20, none, .faddr 1 (.t 2)⟩,
  ⟨some 21, none, .load 1 false (.t 20)⟩,
  ⟨some 22, none, .faddr 2 (.t 2)⟩,
  ⟨some 23, none, .load 1 false (.t 22)⟩,
  ⟨some 24, none, .bin .eql (.t 21) (.t 23)⟩]
def r26_6 : List Ins := [⟨some 25, none, .faddr 4 (.t 2)⟩,
  ⟨none, none, .store 1 (.t 25) (.k (.bool true))⟩]
def r26_7 : List Ins := [⟨some 26, none, .faddr 0 (.t 2)⟩,
  ⟨some 27, none, .load 1 false (.t 26)⟩,
  ⟨some 28, none, .faddr 0 (.t 2)⟩,
  ⟨some 29, none, .load 1 false (.t 28)⟩,
  ⟨some 30, none, .len (.t 29)⟩,
  ⟨some 31, none, .mov (.t 1)⟩,
  ⟨some 32, none, .len (.t 31)⟩,
  ⟨some 33, none, .bin .sub (.t 30) (.t 32)⟩,
  ⟨some 34, none, .faddr 3 (.t 2)⟩,
  ⟨some 35, none, .load 1 false (.t 34)⟩,
  ⟨some 36, none, .mov (.t 1)⟩,
  ⟨some 37, none, .len (.t 36)⟩,
  ⟨some 38, none, .min2 (.t 35) (.t 37)⟩,
  ⟨some 39, none, .max2 (.t 38) (.k (.int .i64 0))⟩,
  ⟨some 40, none, .bin .add (.t 33) (.t 39)⟩,
  ⟨some 41, none, .slice 1 (.t 27) none (some (.t 40))⟩,
  ⟨some 42, none, .faddr 0 (.t 2)⟩,
  ⟨none, none, .store 1 (.t 42) (.t 41)⟩]
def r26_8 : List Ins := [⟨some 43, none, .load 5 true (.t 2)⟩,
  ⟨none, none, .store 5 (.t 4) (.t 43)⟩,
  ⟨some 5, none, .mov (.k (.int .i64 18))⟩]
def r26_9 : List Ins := [⟨some 44, none, .load 5 true (.t 2)⟩,
  ⟨none, none, .store 5 (.t 4) (.t 44)⟩,
  ⟨some 5, none, .mov (.k (.int .i64 0))⟩]
def x26 : XC := (.seq (.ops false r26_0) (.seq (.seq (.ops false r26_1) (.cond (.t 7) (.seq (.ops false r26_2) .ret) .skip)) (.seq (.ops false r26_3) (.seq (.ops false r26_4) (.seq (.seq (.ops false r26_5) (.cond (.t 24) (.seq (.ops false r26_6) (.seq (.ops false r26_7) (.seq (.ops false r26_8) .ret))) .skip)) (.seq (.ops false r26_9) .ret))))))
theorem F26 : Fn Try.prog 26 45 x26.er [.c 4 5 true, .t 5] := ⟨Try.f26, Try.func26, by kernel_rfl, by kernel_rfl, by kernel_rfl⟩
noncomputable def m26 (a0 : DS0) (a1 : List Int) : Option (DS0 × Int × Unit) :=
  cond a0.2.2.2.2.1
  (some ((a0.1, a0.2.1, a0.2.2.1, a0.2.2.2.1, a0.2.2.2.2.1, ()), 18, ()))
  (cond (fits (List.length ([] : List Int) + List.length a0.1) 1)
   (cond (fits (List.length (([] : List Int) ++ a0.1) + List.length a1) 1)
    (cond (iEq (iAdd .i64 a0.2.1 1) a0.2.2.1)
     (cond (and (cutOk 0 (iAdd .i64 (iSub .i64 (lenI ((([] : List Int) ++ a0.1) ++ a1)) (lenI a1)) (iMax (iMin a0.2.2.2.1 (lenI a1)) 0)) (List.length ((([] : List Int) ++ a0.1) ++ a1))) true)
      (some ((List.take (Int.toNat ((iAdd .i64 (iSub .i64 (lenI ((([] : List Int) ++ a0.1) ++ a1)) (lenI a1)) (iMax (iMin a0.2.2.2.1 (lenI a1)) 0)) - 0)) (List.drop 0 ((([] : List Int) ++ a0.1) ++ a1)), iAdd .i64 a0.2.1 1, a0.2.2.1, a0.2.2.2.1, true, ()), 18, ())) none)
     (some (((([] : List Int) ++ a0.1) ++ a1, iAdd .i64 a0.2.1 1, a0.2.2.1, a0.2.2.2.1, a0.2.2.2.2.1, ()), 0, ()))) none) none)
noncomputable def cfg26 : Cfg := ⟨ttab, gtab, [], []⟩
theorem eqn26 (x : DS0 × (List Int) × Unit) : xfun cfg26 x26 45 [.c 4 5 true, .t 5] [tS0, (.list (.int .u8))] [tS0, (.int .i64)] x = m26 x.1 x.2.1 := by kernel_rfl
noncomputable def i26 : PI := ⟨26, [tS0, (.list (.int .u8))], [tS0, (.int .i64)], fun (x : DS0 × (List Int) × Unit) => m26 x.1 x.2.1⟩
theorem oki26 : POk Try.prog (gx gtab) i26 := pok mixed (cfg_nil _ _ : CfgOk _ cfg26) F26 eqn26
/- 11 treaty/treatyref40.Append -/
def r11_0 : List Ins := [⟨some 2, none, .box 24 5 (.t 0)⟩,
  ⟨some 4, none, .alloc 24 (.agg #[.slice none 0 0, .int .i64 0, .int .i64 0, .int .i64 0, .bool false])⟩,
  ⟨some 5, none, .mov (.k (.int .i64 0))⟩]
def r11_1 : List Ins := [⟨some 9, none, .mov (.t 1)⟩,
  ⟨some 10, none, .call 9 [(.t 9)]⟩,
  ⟨some 8, none, .mov (.t 10)⟩,
  ⟨some 11, none, .ext 0 (.t 8)⟩,
  ⟨some 12, none, .ext 1 (.t 8)⟩,
  ⟨some 6, none, .mov (.t 11)⟩,
  ⟨some 7, none, .mov (.t 12)⟩]
def r11_2 : List Ins := [⟨some 13, none, .mov (.t 7)⟩,
  ⟨some 14, none, .bin .neq (.t 13) (.k (.int .i64 0))⟩]
def r11_3 : List Ins := [⟨some 15, none, .load 5 true (.t 2)⟩,
  ⟨some 16, none, .mov (.t 7)⟩,
  ⟨none, none, .store 5 (.t 4) (.t 15)⟩,
  ⟨some 5, none, .mov (.t 16)⟩]
def r11_4 : List Ins := [⟨some 17, none, .load 5 true (.t 2)⟩,
  ⟨some 18, none, .mov (.t 6)⟩,
  ⟨some 19, none, .call 26 [(.t 17), (.t 18)]⟩,
  ⟨some 20, none, .ext 0 (.t 19)⟩,
  ⟨some 21, none, .ext 1 (.t 19)⟩,
  ⟨none, none, .store 5 (.t 4) (.t 20)⟩,
  ⟨some 5, none, .mov (.t 21)⟩]
def x11 : XC := (.seq (.ops false r11_0) (.seq (.ops false r11_1) (.seq (.seq (.ops false r11_2) (.cond (.t 14) (.seq (.ops false r11_3) .ret) .skip)) (.seq (.ops false r11_4) .ret))))
theorem F11 : Fn Try.prog 11 22 x11.er [.c 4 5 true, .t 5] := ⟨Try.f11, Try.func11, by kernel_rfl, by kernel_rfl, by kernel_rfl⟩
noncomputable def m11 (a0 : DS0) (a1 : List Int) : Option (DS0 × Int × Unit) :=
  (m9 a1).bind fun y18 =>
  cond (iNe y18.2.1 0)
  (some ((a0.1, a0.2.1, a0.2.2.1, a0.2.2.2.1, a0.2.2.2.2.1, ()), y18.2.1, ()))
  ((m26 (a0.1, a0.2.1, a0.2.2.1, a0.2.2.2.1, a0.2.2.2.2.1, ()) y18.1).bind fun y19 =>
   some ((y19.1.1, y19.1.2.1, y19.1.2.2.1, y19.1.2.2.2.1, y19.1.2.2.2.2.1, ()), y19.2.1, ()))
noncomputable def cfg11 : Cfg := ⟨ttab, gtab, [i26, i9], []⟩
theorem eqn11 (x : DS0 × (List Int) × Unit) : xfun cfg11 x11 22 [.c 4 5 true, .t 5] [tS0, (.list (.int .u8))] [tS0, (.int .i64)] x = m11 x.1 x.2.1 := by kernel_rfl
noncomputable def i11 : PI := ⟨11, [tS0, (.list (.int .u8))], [tS0, (.int .i64)], fun (x : DS0 × (List Int) × Unit) => m11 x.1 x.2.1⟩
theorem oki11 : POk Try.prog (gx gtab) i11 := pok mixed (cfg_p oki26 (cfg_p oki9 (cfg_nil _ _)) : CfgOk _ cfg11) F11 eqn11
/- 12 treaty/treatyref40.Same -/
def r12_0 : List Ins := [⟨some 4, none, .mov (.k (.bool false))⟩]
def r12_1 : List Ins := [⟨some 6, none, .mov (.t 0)⟩,
  ⟨some 7, none, .len (.t 6)⟩,
  ⟨some 8, none, .mov (.t 1)⟩,
  ⟨some 9, none, .len (.t 8)⟩,
  ⟨some 10, none, .bin .neq (.t 7) (.t 9)⟩]
def r12_2 : List Ins := [⟨some 4, none, .mov (.k (.bool false))⟩]
def r12_3 : List Ins := [⟨some 11, none, .mov (.t 0)⟩,
  ⟨some 12, none, .len (.t 11)⟩,
  ⟨some 13, none, .mov (.k (.int .i64 0))⟩]
def r12_4 : List Ins := [⟨some 14, none, .bin .lss (.t 13) (.t 12)⟩]
def r12_5 : List Ins := [⟨some 15, none, .mov (.t 13)⟩,
  ⟨some 5, none, .mov (.t 15)⟩]
def r12_6 : List Ins := [⟨some 16, none, .mov (.t 0)⟩,
  ⟨some 17, none, .mov (.t 5)⟩,
  ⟨some 18, none, .iaddr 1 (.t 16) (.t 17)⟩,
  ⟨some 19, none, .load 1 false (.t 18)⟩,
  ⟨some 20, none, .mov (.t 1)⟩,
  ⟨some 21, none, .mov (.t 5)⟩,
  ⟨some 22, none, .iaddr 1 (.t 20) (.t 21)⟩,
  ⟨some 23, none, .load 1 false (.t 22)⟩,
  ⟨some 24, none, .bin .neq (.t 19) (.t 23)⟩]
def r12_7 : List Ins := [⟨some 4, none, .mov (.k (.bool false))⟩]
def r12_8 : List Ins := [⟨some 25, none, .bin .add (.t 13) (.k (.int .i64 1))⟩,
  ⟨some 13, none, .mov (.t 25)⟩]
def r12_9 : List Ins := [⟨some 4, none, .mov (.k (.bool true))⟩]
def x12 : XC := (.seq (.ops false r12_0) (.seq (.seq (.ops false r12_1) (.cond (.t 10) (.seq (.ops false r12_2) .ret) .skip)) (.seq (.seq (.ops false r12_3) (.block 0 (.loop [] ⟨26, [(0, (.list (.int .u8))), (1, (.list (.int .u8))), (12, (.int .i64)), (13, (.int .i64))], [], []⟩ (.seq (.ops false r12_4) (.seq (.cond (.t 14) .skip (.exit 0)) (.seq (.block 1 (.seq (.ops false r12_5) (.seq (.ops true r12_6) (.cond (.t 24) (.seq (.ops false r12_7) .ret) .skip)))) (.ops false r12_8))))))) (.seq (.ops false r12_9) .ret))))
theorem F12 : Fn Try.prog 12 26 x12.er [.t 4] := ⟨Try.f12, Try.func12, by kernel_rfl, by kernel_rfl, by kernel_rfl⟩
noncomputable def m12 (a0 : List Int) (a1 : List Int) : Option (Bool × Unit) :=
  cond (iNe (lenI a0) (lenI a1))
  (some (false, ()))
  (loopO (S := (List Int) × (List Int) × Int × Int × Unit) (R := Bool × Unit) (fun s22 =>
    cond (iLt s22.2.2.2.1 s22.2.2.1)
    (cond (bnd s22.2.2.2.1 (lenI s22.1))
     (cond (bnd s22.2.2.2.1 (lenI s22.2.1))
      (cond (iNe (atI s22.1 s22.2.2.2.1 0) (atI s22.2.1 s22.2.2.2.1 0))
       (some (.inr (false, ())))
       (some (.inl (s22.1, s22.2.1, s22.2.2.1, iAdd .i64 s22.2.2.2.1 1, ())))) none) none)
    (some (.inr (true, ()))))
   (a0, a1, lenI a0, 0, ()))
noncomputable def cfg12 : Cfg := ⟨ttab, gtab, [], []⟩
theorem eqn12 (x : (List Int) × (List Int) × Unit) : xfun cfg12 x12 26 [.t 4] [(.list (.int .u8)), (.list (.int .u8))] [.bool] x = m12 x.1 x.2.1 := by kernel_rfl
noncomputable def i12 : PI := ⟨12, [(.list (.int .u8)), (.list (.int .u8))], [.bool], fun (x : (List Int) × (List Int) × Unit) => m12 x.1 x.2.1⟩
theorem oki12 : POk Try.prog (gx gtab) i12 := pok mixed (cfg_nil _ _ : CfgOk _ cfg12) F12 eqn12
/- 13 treaty/treatyref40.SameDisk -/
def r13_0 : List Ins := [⟨some 2, none, .box 24 5 (.t 0)⟩,
  ⟨some 3, none, .box 24 5 (.t 1)⟩,
  ⟨some 4, none, .mov (.k (.bool false))⟩]
def r13_1 : List Ins := [⟨some 5, none, .faddr 0 (.t 2)⟩,
  ⟨some 6, none, .load 1 false (.t 5)⟩,
  ⟨some 7, none, .faddr 0 (.t 3)⟩,
  ⟨some 8, none, .load 1 false (.t 7)⟩,
  ⟨some 9, none, .call 12 [(.t 6), (.t 8)]⟩,
  ⟨some 10, none, .mov (.t 9)⟩,
  ⟨some 11, some (10, true), .faddr 1 (.t 2)⟩,
  ⟨some 12, some (10, true), .load 1 false (.t 11)⟩,
  ⟨some 13, some (10, true), .faddr 1 (.t 3)⟩,
  ⟨some 14, some (10, true), .load 1 false (.t 13)⟩,
  ⟨some 15, some (10, true), .bin .eql (.t 12) (.t 14)⟩,
  ⟨some 16, none, .pick (.t 10) (.t 15) (.k (.bool false))⟩,
  ⟨some 17, none, .mov (.t 16)⟩,
  ⟨some 18, some (17, true), .faddr 2 (.t 2)⟩,
  ⟨some 19, some (17, true), .load 1 false (.t 18)⟩,
  ⟨some 20, some (17, true), .faddr 2 (.t 3)⟩,
  ⟨some 21, some (17, true), .load 1 false (.t 20)⟩,
  ⟨some 22, some (17, true), .bin .eql (.t 19) (.t 21)⟩,
  ⟨some 23, none, .pick (.t 17) (.t 22) (.k (.bool false))⟩,
  ⟨some 24, none, .mov (.t 23)⟩,
  ⟨some 25, some (24, true), .faddr 3 (.t 2)⟩,
  ⟨some 26, some (24, true), .load 1 false (.t 25)⟩,
  ⟨some 27, some (24, true), .faddr 3 (.t 3)⟩,
  ⟨some 28, some (24, true), .load 1 false (.t 27)⟩,
  ⟨some 29, some (24, true), .bin .eql (.t 26) (.t 28)⟩,
  ⟨some 30, none, .pick (.t 24) (.t 29) (.k (.bool false))⟩,
  ⟨some 31, none, .mov (.t 30)⟩,
  ⟨some 32, some (31, true), .faddr 4 (.t 2)⟩,
  ⟨some 33, some (31, true), .load 1 false (.t 32)⟩,
  ⟨some 34, some (31, true), .faddr 4 (.t 3)⟩,
  ⟨some 35, some (31, true), .load 1 false (.t 34)⟩,
  ⟨some 36, some (31, true), .beq false (.t 33) (.t 35)⟩,
  ⟨some 37, none, .pick (.t 31) (.t 36) (.k (.bool false))⟩,
  ⟨some 4, none, .mov (.t 37)⟩]
def x13 : XC := (.seq (.ops false r13_0) (.seq (.ops false r13_1) .ret))
theorem F13 : Fn Try.prog 13 38 x13.er [.t 4] := ⟨Try.f13, Try.func13, by kernel_rfl, by kernel_rfl, by kernel_rfl⟩
noncomputable def m13 (a0 : DS0) (a1 : DS0) : Option (Bool × Unit) :=
  (m12 a0.1 a1.1).bind fun y24 =>
  some (cond (cond (cond (cond y24.1 (iEq a0.2.1 a1.2.1) false) (iEq a0.2.2.1 a1.2.2.1) false) (iEq a0.2.2.2.1 a1.2.2.2.1) false) (bEq a0.2.2.2.2.1 a1.2.2.2.2.1) false, ())
noncomputable def cfg13 : Cfg := ⟨ttab, gtab, [i12], []⟩
theorem eqn13 (x : DS0 × DS0 × Unit) : xfun cfg13 x13 38 [.t 4] [tS0, tS0] [.bool] x = m13 x.1 x.2.1 := by kernel_rfl
noncomputable def i13 : PI := ⟨13, [tS0, tS0], [.bool], fun (x : DS0 × DS0 × Unit) => m13 x.1 x.2.1⟩
theorem oki13 : POk Try.prog (gx gtab) i13 := pok mixed (cfg_p oki12 (cfg_nil _ _) : CfgOk _ cfg13) F13 eqn13
/- 24 treaty/journal.Cut -/
def r24_0 : List Ins := [⟨some 3, none, .box 24 5 (.t 0)⟩,
  ⟨some 6, none, .alloc 24 (.agg #[.slice none 0 0, .int .i64 0, .int .i64 0, .int .i64 0, .bool false])⟩]
def r24_1 : List Ins := [⟨some 7, none, .load 5 true (.t 3)⟩,
  ⟨some 8, none, .call 25 [(.t 7)]⟩,
  ⟨none, none, .store 5 (.t 3) (.t 8)⟩]
def r24_2 : List Ins := [⟨some 9, none, .mov (.t 1)⟩,
  ⟨some 10, none, .mov (.t 2)⟩,
  ⟨some 11, none, .faddr 2 (.t 3)⟩,
  ⟨none, none, .store 1 (.t 11) (.t 9)⟩,
  ⟨some 12, none, .faddr 3 (.t 3)⟩,
  ⟨none, none, .store 1 (.t 12) (.t 10)⟩]
def r24_3 : List Ins := [⟨some 13, none, .load 5 true (.t 3)⟩,
  ⟨none, none, .store 5 (.t 6) (.t 13)⟩]
def x24 : XC := (.seq (.ops false r24_0) (.seq (.ops false r24_1) (.seq (.ops false r24_2) (.seq (.ops false r24_3) .ret))))
theorem F24 : Fn Try.prog 24 14 x24.er [.c 6 5 true] := ⟨Try.f24, Try.func24, by kernel_rfl, by kernel_rfl, by kernel_rfl⟩
noncomputable def m24 (a0 : DS0) (a1 : Int) (a2 : Int) : Option (DS0 × Unit) :=
  (m25 (a0.1, a0.2.1, a0.2.2.1, a0.2.2.2.1, a0.2.2.2.2.1, ())).bind fun y28 =>
  some ((y28.1.1, y28.1.2.1, a1, a2, y28.1.2.2.2.2.1, ()), ())
noncomputable def cfg24 : Cfg := ⟨ttab, gtab, [i25], []⟩
theorem eqn24 (x : DS0 × Int × Int × Unit) : xfun cfg24 x24 14 [.c 6 5 true] [tS0, (.int .i64), (.int .i64)] [tS0] x = m24 x.1 x.2.1 x.2.2.1 := by kernel_rfl
noncomputable def i24 : PI := ⟨24, [tS0, (.int .i64), (.int .i64)], [tS0], fun (x : DS0 × Int × Int × Unit) => m24 x.1 x.2.1 x.2.2.1⟩
theorem oki24 : POk Try.prog (gx gtab) i24 := pok mixed (cfg_p oki25 (cfg_nil _ _) : CfgOk _ cfg24) F24 eqn24
/- 27 treaty/journal.first -/
def r27_0 : List Ins := [⟨some 2, none, .mov (.k (.slice none 0 0))⟩]
def r27_1 : List Ins := [⟨some 6, none, .mov (.t 0)⟩,
  ⟨some 7, none, .len (.t 6)⟩,
  ⟨some 8, none, .bin .lss (.t 7) (.k (.int .i64 6))⟩]
def r27_2 : List Ins := [⟨some 2, none, .mov (.k (.slice none 0 0))⟩]
def r27_3 : List Ins := [⟨some 9, none, .mov (.t 0)⟩,
  ⟨some 10, none, .iaddr 1 (.t 9) (.k (.int .i64 0))⟩,
  ⟨some 11, none, .load 1 false (.t 10)⟩,
  ⟨some 12, none, .conv .i64 (.t 11)⟩,
  ⟨some 13, none, .bin .shl (.t 12) (.k (.int .u64 8))⟩,
  ⟨some 14, none, .mov (.t 0)⟩,
  ⟨some 15, none, .iaddr 1 (.t 14) (.k (.int .i64 1))⟩,
  ⟨some 16, none, .load 1 false (.t 15)⟩,
  ⟨some 17, none, .conv .i64 (.t 16)⟩,
  ⟨some 18, none, .bin .or (.t 13) (.t 17)⟩,
  ⟨some 3, none, .mov (.t 18)⟩]
def r27_4 : List Ins := [⟨some 19, none, .mov (.t 3)⟩,
  ⟨some 20, none, .bin .eql (.t 19) (.k (.int .i64 0))⟩,
  ⟨some 21, none, .mov (.t 20)⟩,
  ⟨some 22, some (21, false), .mov (.t 3)⟩,
  ⟨some 23, some (21, false), .bin .gtr (.t 22) (.k (.int .i64 8192))⟩,
  ⟨some 24, none, .pick (.t 21) (.k (.bool true)) (.t 23)⟩,
  ⟨some 25, none, .mov (.t 24)⟩,
  ⟨some 26, some (25, false), .mov (.t 0)⟩,
  ⟨some 27, some (25, false), .len (.t 26)⟩,
  ⟨some 28, some (25, false), .bin .sub (.t 27) (.k (.int .i64 6))⟩,
  ⟨some 29, some (25, false), .mov (.t 3)⟩,
  ⟨some 30, some (25, false), .bin .lss (.t 28) (.t 29)⟩,
  ⟨some 31, none, .pick (.t 25) (.k (.bool true)) (.t 30)⟩]
def r27_5 : List Ins := [⟨some 2, none, .mov (.k (.slice none 0 0))⟩]
def r27_6 : List Ins := [⟨some 32, none, .mov (.t 0)⟩,
  ⟨some 33, none, .iaddr 1 (.t 32) (.k (.int .i64 2))⟩,
  ⟨some 34, none, .load 1 false (.t 33)⟩,
  ⟨some 35, none, .conv .u32 (.t 34)⟩,
  ⟨some 36, none, .bin .shl (.t 35) (.k (.int .u64 24))⟩,
  ⟨some 37, none, .mov (.t 0)⟩,
  ⟨some 38, none, .iaddr 1 (.t 37) (.k (.int .i64 3))⟩,
  ⟨some 39, none, .load 1 false (.t 38)⟩,
  ⟨some 40, none, .conv .u32 (.t 39)⟩,
  ⟨some 41, none, .bin .shl (.t 40) (.k (.int .u64 16))⟩,
  ⟨some 42, none, .bin .or (.t 36) (.t 41)⟩,
  ⟨some 43, none, .mov (.t 0)⟩,
  ⟨some 44, none, .iaddr 1 (.t 43) (.k (.int .i64 4))⟩,
  ⟨some 45, none, .load 1 false (.t 44)⟩,
  ⟨some 46, none, .conv .u32 (.t 45)⟩,
  ⟨some 47, none, .bin .shl (.t 46) (.k (.int .u64 8))⟩,
  ⟨some 48, none, .bin .or (.t 42) (.t 47)⟩,
  ⟨some 49, none, .mov (.t 0)⟩,
  ⟨some 50, none, .iaddr 1 (.t 49) (.k (.int .i64 5))⟩,
  ⟨some 51, none, .load 1 false (.t 50)⟩,
  ⟨some 52, none, .conv .u32 (.t 51)⟩,
  ⟨some 53, none, .bin .or (.t 48) (.t 52)⟩,
  ⟨some 4, none, .mov (.t 53)⟩]
def r27_7 : List Ins := [⟨some 54, none, .mov (.t 0)⟩,
  ⟨some 55, none, .mov (.t 3)⟩,
  ⟨some 56, none, .bin .add (.k (.int .i64 6)) (.t 55)⟩,
  ⟨some 57, none, .slice 1 (.t 54) (some (.k (.int .i64 6))) (some (.t 56))⟩,
  ⟨some 5, none, .mov (.t 57)⟩]
def r27_8 : List Ins := [⟨some 58, none, .mov (.t 5)⟩,
  ⟨some 59, none, .call 14 [(.t 58)]⟩,
  ⟨some 60, none, .mov (.t 4)⟩,
  ⟨some 61, none, .bin .neq (.t 59) (.t 60)⟩]
def r27_9 : List Ins := [⟨some 2, none, .mov (.k (.slice none 0 0))⟩]
def r27_10 : List Ins := [⟨some 62, none, .mov (.t 5)⟩,
  ⟨some 2, none, .mov (.t 62)⟩]
def x27 : XC := (.seq (.ops false r27_0) (.seq (.seq (.ops false r27_1) (.cond (.t 8) (.seq (.ops false r27_2) .ret) .skip)) (.seq (.ops true r27_3) (.seq (.seq (.ops false r27_4) (.cond (.t 31) (.seq (.ops false r27_5) .ret) .skip)) (.seq (.ops true r27_6) (.seq (.ops false r27_7) (.seq (.seq (.ops false r27_8) (.cond (.t 61) (.seq (.ops false r27_9) .ret) .skip)) (.seq (.ops false r27_10) .ret))))))))
theorem F27 : Fn Try.prog 27 63 x27.er [.t 2] := ⟨Try.f27, Try.func27, by kernel_rfl, by kernel_rfl, by kernel_rfl⟩
noncomputable def m27 (a0 : List Int) : Option ((Option (List Int)) × Unit) :=
  cond (iLt (lenI a0) 6)
  (some (none, ()))
  (cond (bnd 0 (lenI a0))
   (cond (iLe 0 8)
    (cond (bnd 1 (lenI a0))
     (cond (cond (cond (iEq (iOr .i64 (iShl .i64 (IntKind.wrap .i64 (atI a0 0 0)) 8) (IntKind.wrap .i64 (atI a0 1 0))) 0) true (iLt 8192 (iOr .i64 (iShl .i64 (IntKind.wrap .i64 (atI a0 0 0)) 8) (IntKind.wrap .i64 (atI a0 1 0))))) true (iLt (iSub .i64 (lenI a0) 6) (iOr .i64 (iShl .i64 (IntKind.wrap .i64 (atI a0 0 0)) 8) (IntKind.wrap .i64 (atI a0 1 0)))))
      (some (none, ()))
      (cond (bnd 2 (lenI a0))
       (cond (iLe 0 24)
        (cond (bnd 3 (lenI a0))
         (cond (iLe 0 16)
          (cond (bnd 4 (lenI a0))
           (cond (iLe 0 8)
            (cond (bnd 5 (lenI a0))
             (cond (cutOk 6 (iAdd .i64 6 (iOr .i64 (iShl .i64 (IntKind.wrap .i64 (atI a0 0 0)) 8) (IntKind.wrap .i64 (atI a0 1 0)))) (List.length a0))
              ((m14 (cutL 6 (iAdd .i64 6 (iOr .i64 (iShl .i64 (IntKind.wrap .i64 (atI a0 0 0)) 8) (IntKind.wrap .i64 (atI a0 1 0)))) a0)).bind fun y32 =>
               cond (iNe y32.1 (iOr .u32 (iOr .u32 (iOr .u32 (iShl .u32 (IntKind.wrap .u32 (atI a0 2 0)) 24) (iShl .u32 (IntKind.wrap .u32 (atI a0 3 0)) 16)) (iShl .u32 (IntKind.wrap .u32 (atI a0 4 0)) 8)) (IntKind.wrap .u32 (atI a0 5 0))))
               (some (none, ()))
               (some ((some (cutL 6 (iAdd .i64 6 (iOr .i64 (iShl .i64 (IntKind.wrap .i64 (atI a0 0 0)) 8) (IntKind.wrap .i64 (atI a0 1 0)))) a0)), ()))) none) none) none) none) none) none) none) none)) none) none) none)
noncomputable def cfg27 : Cfg := ⟨ttab, gtab, [i14], []⟩
theorem eqn27 (x : (List Int) × Unit) : xfun cfg27 x27 63 [.t 2] [(.list (.int .u8))] [(.listF (.int .u8))] x = m27 x.1 := by kernel_rfl
noncomputable def i27 : PI := ⟨27, [(.list (.int .u8))], [(.listF (.int .u8))], fun (x : (List Int) × Unit) => m27 x.1⟩
theorem oki27 : POk Try.prog (gx gtab) i27 := pok mixed (cfg_p oki14 (cfg_nil _ _) : CfgOk _ cfg27) F27 eqn27
/- 19 treaty/journal.Records -/
def r19_0 : List Ins := [⟨some 2, none, .mov (.k (.slice none 0 0))⟩,
  ⟨some 3, none, .mov (.k (.int .i64 0))⟩]
def r19_1 : List Ins := [⟨some 4, none, .mov (.k (.slice none 0 0))⟩]
def r19_2 : List Ins := [⟨some 5, none, .mov (.k (.int .i64 0))⟩]
def r19_3 : List Ins := [⟨some 7, none, .mov (.t 0)⟩,
  ⟨some 8, none, .mov (.t 5)⟩,
  ⟨some 9, none, .slice 1 (.t 7) (some (.t 8)) none⟩,
  ⟨some 10, none, .call 27 [(.t 9)]⟩,
  ⟨some 6, none, .mov (.t 10)⟩]
def r19_4 : List Ins := [⟨some 11, none, .mov (.t 6)⟩,
  ⟨some 12, none, .nilq false (.t 11)⟩]
def r19_5 : List Ins := [⟨some 13, none, .mov (.t 4)⟩,
  ⟨some 14, none, .mov (.t 5)⟩,
  ⟨some 2, none, .mov (.t 13)⟩,
  ⟨some 3, none, .mov (.t 14)⟩]
def r19_6 : List Ins := [⟨some 15, none, .mov (.t 4)⟩,
  ⟨some 16, none, .mov (.t 6)⟩,
  ⟨some 17, none, .app 5 1 1 (.k (.slice none 0 0)) (.t 16)⟩,
  ⟨some 18, none, .bslice 22 1 [(.t 17)]⟩,
  ⟨some 19, none, .app 22 1 24 (.t 15) (.t 18)⟩,
  ⟨some 4, none, .mov (.t 19)⟩]
def r19_7 : List Ins := [⟨some 20, none, .mov (.t 5)⟩,
  ⟨some 21, none, .mov (.t 6)⟩,
  ⟨some 22, none, .len (.t 21)⟩,
  ⟨some 23, none, .bin .add (.k (.int .i64 6)) (.t 22)⟩,
  ⟨some 24, none, .bin .add (.t 20) (.t 23)⟩,
  ⟨some 5, none, .mov (.t 24)⟩]
def x19 : XC := (.seq (.ops false r19_0) (.seq (.ops false r19_1) (.seq (.ops false r19_2) (.block 0 (.loop [.gh 4 22 (.list (.int .u8))] ⟨25, [(0, (.list (.int .u8))), (5, (.int .i64))], [(4, .row 0)], [.row 22 (.list (.int .u8)) false]⟩ (.block 1 (.seq (.ops false r19_3) (.seq (.seq (.ops false r19_4) (.cond (.t 12) (.seq (.ops false r19_5) .ret) .skip)) (.seq (.ops false r19_6) (.ops false r19_7))))))))))
theorem F19 : Fn Try.prog 19 25 x19.er [.t 2, .t 3] := ⟨Try.f19, Try.func19, by kernel_rfl, by kernel_rfl, by kernel_rfl⟩
noncomputable def m19 (a0 : List Int) : Option ((List (List Int)) × Int × Unit) :=
  loopO (S := (List Int) × Int × (List (List Int)) × Unit) (R := (List (List Int)) × Int × Unit) (fun s34 =>
   cond (cutOk s34.2.1 ((List.length s34.1 : Nat) : Int) (List.length s34.1))
   ((m27 (cutL s34.2.1 ((List.length s34.1 : Nat) : Int) s34.1)).bind fun y35 =>
    cond ((match y35.1 with | none => true | some xs => someE xs))
    (cond (Option.isNone y35.1)
     (some (.inr (s34.2.2.1, s34.2.1, ())))
     (cond (fits (List.length (Option.getD y35.1 [])) 1)
      (cond (fits (List.length s34.2.2.1 + List.length ([Option.getD y35.1 []] : List (List Int))) 24)
       (some (.inl (s34.1, iAdd .i64 s34.2.1 (iAdd .i64 6 (lenI (Option.getD y35.1 []))), s34.2.2.1 ++ ([Option.getD y35.1 []] : List (List Int)), ()))) none) none)) none) none)
  (a0, 0, ([] : List (List Int)), ())
noncomputable def cfg19 : Cfg := ⟨ttab, gtab, [i27], []⟩
theorem eqn19 (x : (List Int) × Unit) : xfun cfg19 x19 25 [.t 2, .t 3] [(.list (.int .u8))] [(.list (.list (.int .u8))), (.int .i64)] x = m19 x.1 := by kernel_rfl
noncomputable def i19 : PI := ⟨19, [(.list (.int .u8))], [(.list (.list (.int .u8))), (.int .i64)], fun (x : (List Int) × Unit) => m19 x.1⟩
theorem oki19 : POk Try.prog (gx gtab) i19 := pok mixed (cfg_p oki27 (cfg_nil _ _) : CfgOk _ cfg19) F19 eqn19
/- 16 treaty/treatylaw41.awake -/
def r16_0 : List Ins := [⟨some 0, none, .mov (.k (.bool false))⟩]
def r16_1 : List Ins := [⟨some 8, none, .build [.slice none 0 0, .int .i64 0, .int .i64 0, .int .i64 0, .bool false] []⟩,
  ⟨some 9, none, .call 24 [(.t 8), (.k (.int .i64 1)), (.k (.int .i64 3))]⟩,
  ⟨some 10, none, .bslice 5 1 [(.k (.int .u8 7))]⟩,
  ⟨some 11, none, .call 10 [(.t 9), (.t 10)]⟩,
  ⟨some 7, none, .mov (.t 11)⟩,
  ⟨some 12, none, .ext 0 (.t 7)⟩,
  ⟨some 13, none, .ext 1 (.t 7)⟩,
  ⟨some 1, none, .alloc 24 (.agg #[.slice none 0 0, .int .i64 0, .int .i64 0, .int .i64 0, .bool false])⟩,
  ⟨none, none, .store 5 (.t 1) (.t 12)⟩,
  ⟨some 2, none, .mov (.t 13)⟩]
def r16_2 : List Ins := [⟨some 15, none, .faddr 0 (.t 1)⟩,
  ⟨some 16, none, .load 1 false (.t 15)⟩,
  ⟨some 17, none, .call 19 [(.t 16)]⟩,
  ⟨some 14, none, .mov (.t 17)⟩,
  ⟨some 18, none, .ext 0 (.t 14)⟩,
  ⟨some 19, none, .ext 1 (.t 14)⟩,
  ⟨some 3, none, .mov (.t 18)⟩,
  ⟨some 4, none, .mov (.t 19)⟩]
def r16_3 : List Ins := [⟨some 21, none, .bslice 5 1 [(.k (.int .u8 7))]⟩,
  ⟨some 22, none, .call 8 [(.t 21)]⟩,
  ⟨some 20, none, .mov (.t 22)⟩,
  ⟨some 23, none, .ext 0 (.t 20)⟩,
  ⟨some 24, none, .ext 1 (.t 20)⟩,
  ⟨some 5, none, .mov (.t 23)⟩,
  ⟨some 6, none, .mov (.t 24)⟩]
def r16_4 : List Ins := [⟨some 25, none, .mov (.t 2)⟩,
  ⟨some 26, none, .bin .eql (.t 25) (.k (.int .i64 18))⟩,
  ⟨some 27, none, .mov (.t 26)⟩,
  ⟨some 28, some (27, true), .mov (.t 6)⟩,
  ⟨some 29, some (27, true), .bin .eql (.t 28) (.k (.int .i64 0))⟩,
  ⟨some 30, none, .pick (.t 27) (.t 29) (.k (.bool false))⟩,
  ⟨some 31, none, .mov (.t 30)⟩,
  ⟨some 32, some (31, true), .faddr 4 (.t 1)⟩,
  ⟨some 33, some (31, true), .load 1 false (.t 32)⟩,
  ⟨some 34, none, .pick (.t 31) (.t 33) (.k (.bool false))⟩,
  ⟨some 35, none, .mov (.t 34)⟩,
  ⟨some 36, some (35, true), .faddr 0 (.t 1)⟩,
  ⟨some 37, some (35, true), .load 1 false (.t 36)⟩,
  ⟨some 38, some (35, true), .len (.t 37)⟩,
  ⟨some 39, some (35, true), .bin .eql (.t 38) (.k (.int .i64 3))⟩,
  ⟨some 40, none, .pick (.t 35) (.t 39) (.k (.bool false))⟩,
  ⟨some 41, none, .mov (.t 40)⟩,
  ⟨some 42, some (41, true), .mov (.t 3)⟩,
  ⟨some 43, some (41, true), .len (.t 42)⟩,
  ⟨some 44, some (41, true), .bin .eql (.t 43) (.k (.int .i64 0))⟩,
  ⟨some 45, none, .pick (.t 41) (.t 44) (.k (.bool false))⟩,
  ⟨some 46, none, .mov (.t 45)⟩,
  ⟨some 47, some (46, true), .mov (.t 4)⟩,
  ⟨some 48, some (46, true), .bin .eql (.t 47) (.k (.int .i64 0))⟩,
  ⟨some 49, none, .pick (.t 46) (.t 48) (.k (.bool false))⟩,
  ⟨some 50, none, .mov (.t 49)⟩,
  ⟨some 51, some (50, true), .mov (.t 5)⟩,
  ⟨some 52, some (50, true), .len (.t 51)⟩,
  ⟨some 53, some (50, true), .bin .eql (.t 52) (.k (.int .i64 7))⟩,
  ⟨some 54, none, .pick (.t 50) (.t 53) (.k (.bool false))⟩,
  ⟨some 55, none, .mov (.t 54)⟩,
  ⟨some 56, some (55, true), .mov (.t 5)⟩,
  ⟨some 57, some (55, true), .iaddr 1 (.t 56) (.k (.int .i64 1))⟩,
  ⟨some 58, some (55, true), .load 1 false (.t 57)⟩,
  ⟨some 59, some (55, true), .bin .eql (.t 58) (.k (.int .u8 1))⟩,
  ⟨some 60, none, .pick (.t 55) (.t 59) (.k (.bool false))⟩,
  ⟨some 61, none, .mov (.t 60)⟩,
  ⟨some 62, some (61, true), .mov (.t 5)⟩,
  ⟨some 63, some (61, true), .iaddr 1 (.t 62) (.k (.int .i64 6))⟩,
  ⟨some 64, some (61, true), .load 1 false (.t 63)⟩,
  ⟨some 65, some (61, true), .bin .eql (.t 64) (.k (.int .u8 7))⟩,
  ⟨some 66, none, .pick (.t 61) (.t 65) (.k (.bool false))⟩,
  ⟨some 67, none, .mov (.t 66)⟩,
  ⟨some 68, some (67, true), .call 14 [(.k (.slice none 0 0))]⟩,
  ⟨some 69, some (67, true), .bin .eql (.t 68) (.k (.int .u32 2166136261))⟩,
  ⟨some 70, none, .pick (.t 67) (.t 69) (.k (.bool false))⟩,
  ⟨some 0, none, .mov (.t 70)⟩]
def x16 : XC := (.seq (.ops false r16_0) (.seq (.ops false r16_1) (.seq (.ops false r16_2) (.seq (.ops false r16_3) (.seq (.ops false r16_4) .ret)))))
theorem F16 : Fn Try.prog 16 71 x16.er [.t 0] := ⟨Try.f16, Try.func16, by kernel_rfl, by kernel_rfl, by kernel_rfl⟩
noncomputable def m16 : Option (Bool × Unit) :=
  (m24 (([] : List Int), 0, 0, 0, false, ()) 1 3).bind fun y29 =>
  (m10 y29.1 ([7] : List Int)).bind fun y30 =>
  (m19 y30.1.1).bind fun y36 =>
  (m8 ([7] : List Int)).bind fun y37 =>
  cond (or (bnd 1 (lenI y37.1)) (not (bEq (cond (cond (cond (cond (cond (cond (iEq y30.2.1 18) (iEq y37.2.1 0) false) y30.1.2.2.2.2.1 false) (iEq (lenI y30.1.1) 3) false) (iEq (lenI y36.1) 0) false) (iEq y36.2.1 0) false) (iEq (lenI y37.1) 7) false) true)))
  (cond (or (bnd 6 (lenI y37.1)) (not (bEq (cond (cond (cond (cond (cond (cond (cond (iEq y30.2.1 18) (iEq y37.2.1 0) false) y30.1.2.2.2.2.1 false) (iEq (lenI y30.1.1) 3) false) (iEq (lenI y36.1) 0) false) (iEq y36.2.1 0) false) (iEq (lenI y37.1) 7) false) (iEq (atI y37.1 1 0) 1) false) true)))
   (cond (cond (cond (cond (cond (cond (cond (cond (cond (iEq y30.2.1 18) (iEq y37.2.1 0) false) y30.1.2.2.2.2.1 false) (iEq (lenI y30.1.1) 3) false) (iEq (lenI y36.1) 0) false) (iEq y36.2.1 0) false) (iEq (lenI y37.1) 7) false) (iEq (atI y37.1 1 0) 1) false) (iEq (atI y37.1 6 0) 7) false)
    ((m14 ([] : List Int)).bind fun y38 =>
     some (iEq y38.1 2166136261, ()))
    (some (false, ()))) none) none
noncomputable def cfg16 : Cfg := ⟨ttab, gtab, [i10, i14, i19, i24, i8], []⟩
theorem eqn16 (x : Unit) : xfun cfg16 x16 71 [.t 0] [] [.bool] x = m16 := by kernel_rfl
noncomputable def i16 : PI := ⟨16, [], [.bool], fun (x : Unit) => m16⟩
theorem oki16 : POk Try.prog (gx gtab) i16 := pok mixed (cfg_p oki10 (cfg_p oki14 (cfg_p oki19 (cfg_p oki24 (cfg_p oki8 (cfg_nil _ _))))) : CfgOk _ cfg16) F16 eqn16
/- 3 treaty/treatylaw41.JournalFrame -/
def r3_0 : List Ins := [⟨some 3, none, .box 24 5 (.t 0)⟩,
  ⟨some 6, none, .mov (.k (.bool false))⟩]
def r3_1 : List Ins := [⟨some 18, none, .faddr 0 (.t 3)⟩,
  ⟨some 19, none, .load 1 false (.t 18)⟩,
  ⟨some 20, none, .call 7 [(.t 19)]⟩,
  ⟨some 21, none, .mov (.t 1)⟩,
  ⟨some 22, none, .call 7 [(.t 21)]⟩,
  ⟨some 23, none, .faddr 0 (.t 3)⟩,
  ⟨none, none, .store 1 (.t 23) (.t 20)⟩,
  ⟨some 1, none, .mov (.t 22)⟩]
def r3_2 : List Ins := [⟨some 24, none, .faddr 1 (.t 3)⟩,
  ⟨some 25, none, .load 1 false (.t 24)⟩,
  ⟨some 26, none, .bin .and (.t 25) (.k (.int .i64 1099511627775))⟩,
  ⟨some 27, none, .faddr 1 (.t 3)⟩,
  ⟨none, none, .store 1 (.t 27) (.t 26)⟩]
def r3_3 : List Ins := [⟨some 28, none, .mov (.t 2)⟩,
  ⟨some 29, none, .conv .i64 (.t 28)⟩,
  ⟨some 30, none, .bin .rem (.t 29) (.k (.int .i64 9000))⟩,
  ⟨some 31, none, .mk 5 1 1 (.int .u8 0) (.t 30)⟩,
  ⟨some 7, none, .mov (.t 31)⟩]
def r3_4 : List Ins := [⟨some 32, none, .mov (.t 1)⟩,
  ⟨some 33, none, .mov (.t 7)⟩,
  ⟨some 34, none, .bslice 22 1 [(.t 32), (.t 33)]⟩,
  ⟨some 35, none, .len (.t 34)⟩,
  ⟨some 36, none, .mov (.k (.int .i64 0))⟩]
def r3_5 : List Ins := [⟨some 37, none, .bin .lss (.t 36) (.t 35)⟩]
def r3_6 : List Ins := [⟨some 38, none, .iaddr 1 (.t 34) (.t 36)⟩,
  ⟨some 39, none, .load 1 false (.t 38)⟩,
  ⟨some 9, none, .mov (.t 39)⟩]
def r3_7 : List Ins := [⟨some 41, none, .mov (.t 9)⟩,
  ⟨some 42, none, .call 8 [(.t 41)]⟩,
  ⟨some 40, none, .mov (.t 42)⟩,
  ⟨some 43, none, .ext 0 (.t 40)⟩,
  ⟨some 44, none, .ext 1 (.t 40)⟩,
  ⟨some 10, none, .mov (.t 43)⟩,
  ⟨some 11, none, .mov (.t 44)⟩]
def r3_8 : List Ins := [⟨some 46, none, .mov (.t 9)⟩,
  ⟨some 47, none, .call 9 [(.t 46)]⟩,
  ⟨some 45, none, .mov (.t 47)⟩,
  ⟨some 48, none, .ext 0 (.t 45)⟩,
  ⟨some 49, none, .ext 1 (.t 45)⟩,
  ⟨some 12, none, .mov (.t 48)⟩,
  ⟨some 13, none, .mov (.t 49)⟩]
def r3_9 : List Ins := [⟨some 51, none, .load 5 true (.t 3)⟩,
  ⟨some 52, none, .mov (.t 9)⟩,
  ⟨some 53, none, .call 10 [(.t 51), (.t 52)]⟩,
  ⟨some 50, none, .mov (.t 53)⟩,
  ⟨some 54, none, .ext 0 (.t 50)⟩,
  ⟨some 55, none, .ext 1 (.t 50)⟩,
  ⟨some 14, none, .alloc 24 (.agg #[.slice none 0 0, .int .i64 0, .int .i64 0, .int .i64 0, .bool false])⟩,
  ⟨none, none, .store 5 (.t 14) (.t 54)⟩,
  ⟨some 15, none, .mov (.t 55)⟩]
def r3_10 : List Ins := [⟨some 57, none, .load 5 true (.t 3)⟩,
  ⟨some 58, none, .mov (.t 9)⟩,
  ⟨some 59, none, .call 11 [(.t 57), (.t 58)]⟩,
  ⟨some 56, none, .mov (.t 59)⟩,
  ⟨some 60, none, .ext 0 (.t 56)⟩,
  ⟨some 61, none, .ext 1 (.t 56)⟩,
  ⟨some 16, none, .alloc 24 (.agg #[.slice none 0 0, .int .i64 0, .int .i64 0, .int .i64 0, .bool false])⟩,
  ⟨none, none, .store 5 (.t 16) (.t 60)⟩,
  ⟨some 17, none, .mov (.t 61)⟩]
def r3_11 : List Ins := [⟨some 62, none, .mov (.t 10)⟩,
  ⟨some 63, none, .mov (.t 12)⟩,
  ⟨some 64, none, .call 12 [(.t 62), (.t 63)]⟩,
  ⟨some 65, none, .un .not (.t 64)⟩,
  ⟨some 66, none, .mov (.t 65)⟩,
  ⟨some 67, some (66, false), .mov (.t 11)⟩,
  ⟨some 68, some (66, false), .mov (.t 13)⟩,
  ⟨some 69, some (66, false), .bin .neq (.t 67) (.t 68)⟩,
  ⟨some 70, none, .pick (.t 66) (.k (.bool true)) (.t 69)⟩,
  ⟨some 71, none, .mov (.t 70)⟩,
  ⟨some 72, some (71, false), .load 5 true (.t 14)⟩,
  ⟨some 73, some (71, false), .load 5 true (.t 16)⟩,
  ⟨some 74, some (71, false), .call 13 [(.t 72), (.t 73)]⟩,
  ⟨some 75, some (71, false), .un .not (.t 74)⟩,
  ⟨some 76, none, .pick (.t 71) (.k (.bool true)) (.t 75)⟩,
  ⟨some 77, none, .mov (.t 76)⟩,
  ⟨some 78, some (77, false), .mov (.t 15)⟩,
  ⟨some 79, some (77, false), .mov (.t 17)⟩,
  ⟨some 80, some (77, false), .bin .neq (.t 78) (.t 79)⟩,
  ⟨some 81, none, .pick (.t 77) (.k (.bool true)) (.t 80)⟩,
  ⟨some 82, none, .mov (.t 81)⟩,
  ⟨some 83, some (82, false), .mov (.t 9)⟩,
  ⟨some 84, some (82, false), .call 14 [(.t 83)]⟩,
  ⟨some 85, some (82, false), .mov (.t 9)⟩,
  ⟨some 86, some (82, false), .call 15 [(.t 85)]⟩,
  ⟨some 87, some (82, false), .bin .neq (.t 84) (.t 86)⟩,
  ⟨some 88, none, .pick (.t 82) (.k (.bool true)) (.t 87)⟩]
def r3_12 : List Ins := [⟨some 6, none, .mov (.k (.bool false))⟩]
def r3_13 : List Ins := [⟨some 89, none, .bin .add (.t 36) (.k (.int .i64 1))⟩,
  ⟨some 36, none, .mov (.t 89)⟩]
def r3_14 : List Ins := [⟨some 90, none, .call 16 []⟩,
  ⟨some 6, none, .mov (.t 90)⟩]
def x3 : XC := (.seq (.ops false r3_0) (.seq (.ops false r3_1) (.seq (.ops false r3_2) (.seq (.ops false r3_3) (.seq (.seq (.ops false r3_4) (.block 0 (.loop [] ⟨91, [(35, (.int .i64)), (36, (.int .i64))], [(3, .ptr 0 0 0), (34, .row 1)], [.box 24 [.d (.list (.int .u8)), .d (.int .i64), .d (.int .i64), .d (.int .i64), .d .bool], .row 22 (.list (.int .u8)) false]⟩ (.seq (.ops false r3_5) (.seq (.cond (.t 37) .skip (.exit 0)) (.seq (.block 1 (.seq (.ops false r3_6) (.seq (.ops false r3_7) (.seq (.ops false r3_8) (.seq (.ops false r3_9) (.seq (.ops false r3_10) (.seq (.ops false r3_11) (.cond (.t 88) (.seq (.ops false r3_12) .ret) .skip)))))))) (.ops false r3_13))))))) (.seq (.ops false r3_14) .ret))))))
theorem F3 : Fn Try.prog 3 91 x3.er [.t 6] := ⟨Try.f3, Try.func3, by kernel_rfl, by kernel_rfl, by kernel_rfl⟩
noncomputable def m3 (a0 : DS0) (a1 : List Int) (a2 : Int) : Option (Bool × Unit) :=
  (m7 a0.1).bind fun y40 =>
  (m7 a1).bind fun y41 =>
  cond (iNe 9000 0)
  (cond (fitsI (iRem (IntKind.wrap .i64 a2) 9000) 1)
   (loopO (S := Int × Int × (List Int) × Int × Int × Int × Bool × (List (List Int)) × Unit) (R := Bool × Unit) (fun s42 =>
     cond (iLt s42.2.1 s42.1)
     (cond (bnd s42.2.1 (lenI s42.2.2.2.2.2.2.2.1))
      (cond (inB (Int.toNat s42.2.1) s42.2.2.2.2.2.2.2.1)
       ((m8 (List.getD s42.2.2.2.2.2.2.2.1 (Int.toNat s42.2.1) [])).bind fun y43 =>
        (m9 (List.getD s42.2.2.2.2.2.2.2.1 (Int.toNat s42.2.1) [])).bind fun y44 =>
        (m10 (s42.2.2.1, s42.2.2.2.1, s42.2.2.2.2.1, s42.2.2.2.2.2.1, s42.2.2.2.2.2.2.1, ()) (List.getD s42.2.2.2.2.2.2.2.1 (Int.toNat s42.2.1) [])).bind fun y45 =>
        (m11 (s42.2.2.1, s42.2.2.2.1, s42.2.2.2.2.1, s42.2.2.2.2.2.1, s42.2.2.2.2.2.2.1, ()) (List.getD s42.2.2.2.2.2.2.2.1 (Int.toNat s42.2.1) [])).bind fun y46 =>
        (m12 y43.1 y44.1).bind fun y47 =>
        cond (cond (not y47.1) true (iNe y43.2.1 y44.2.1))
        (some (.inr (false, ())))
        ((m13 (y45.1.1, y45.1.2.1, y45.1.2.2.1, y45.1.2.2.2.1, y45.1.2.2.2.2.1, ()) (y46.1.1, y46.1.2.1, y46.1.2.2.1, y46.1.2.2.2.1, y46.1.2.2.2.2.1, ())).bind fun y48 =>
         cond (cond (not y48.1) true (iNe y45.2.1 y46.2.1))
         (some (.inr (false, ())))
         ((m14 (List.getD s42.2.2.2.2.2.2.2.1 (Int.toNat s42.2.1) [])).bind fun y49 =>
          (m15 (List.getD s42.2.2.2.2.2.2.2.1 (Int.toNat s42.2.1) [])).bind fun y50 =>
          cond (iNe y49.1 y50.1)
          (some (.inr (false, ())))
          (some (.inl (s42.1, iAdd .i64 s42.2.1 1, s42.2.2.1, s42.2.2.2.1, s42.2.2.2.2.1, s42.2.2.2.2.2.1, s42.2.2.2.2.2.2.1, s42.2.2.2.2.2.2.2.1, ())))))) none) none)
     (Option.map Sum.inr ((m16).bind fun y51 =>
       some (y51.1, ()))))
    (lenI ([y41.1, List.replicate (Int.toNat (iRem (IntKind.wrap .i64 a2) 9000)) 0] : List (List Int)), 0, y40.1, iAnd .i64 a0.2.1 1099511627775, a0.2.2.1, a0.2.2.2.1, a0.2.2.2.2.1, ([y41.1, List.replicate (Int.toNat (iRem (IntKind.wrap .i64 a2) 9000)) 0] : List (List Int)), ())) none) none
noncomputable def cfg3 : Cfg := ⟨ttab, gtab, [i10, i11, i12, i13, i14, i15, i16, i7, i8, i9], []⟩
theorem eqn3 (x : DS0 × (List Int) × Int × Unit) : xfun cfg3 x3 91 [.t 6] [tS0, (.list (.int .u8)), (.int .u16)] [.bool] x = m3 x.1 x.2.1 x.2.2.1 := by kernel_rfl
noncomputable def i3 : PI := ⟨3, [tS0, (.list (.int .u8)), (.int .u16)], [.bool], fun (x : DS0 × (List Int) × Int × Unit) => m3 x.1 x.2.1 x.2.2.1⟩
theorem oki3 : POk Try.prog (gx gtab) i3 := pok mixed (cfg_p oki10 (cfg_p oki11 (cfg_p oki12 (cfg_p oki13 (cfg_p oki14 (cfg_p oki15 (cfg_p oki16 (cfg_p oki7 (cfg_p oki8 (cfg_p oki9 (cfg_nil _ _)))))))))) : CfgOk _ cfg3) F3 eqn3
/- 4 treaty/treatylaw41.JournalGrows -/
def r4_0 : List Ins := [⟨some 2, none, .box 24 5 (.t 0)⟩,
  ⟨some 4, none, .mov (.k (.bool false))⟩]
def r4_1 : List Ins := [⟨some 9, none, .faddr 0 (.t 2)⟩,
  ⟨some 10, none, .load 1 false (.t 9)⟩,
  ⟨some 11, none, .call 7 [(.t 10)]⟩,
  ⟨some 12, none, .mov (.t 1)⟩,
  ⟨some 13, none, .call 7 [(.t 12)]⟩,
  ⟨some 14, none, .faddr 0 (.t 2)⟩,
  ⟨none, none, .store 1 (.t 14) (.t 11)⟩,
  ⟨some 1, none, .mov (.t 13)⟩]
def r4_2 : List Ins := [⟨some 15, none, .faddr 1 (.t 2)⟩,
  ⟨some 16, none, .load 1 false (.t 15)⟩,
  ⟨some 17, none, .bin .and (.t 16) (.k (.int .i64 1099511627775))⟩,
  ⟨some 18, none, .faddr 1 (.t 2)⟩,
  ⟨none, none, .store 1 (.t 18) (.t 17)⟩]
def r4_3 : List Ins := [⟨some 20, none, .load 5 true (.t 2)⟩,
  ⟨some 21, none, .mov (.t 1)⟩,
  ⟨some 22, none, .call 17 [(.t 20), (.t 21)]⟩,
  ⟨some 19, none, .mov (.t 22)⟩,
  ⟨some 23, none, .ext 0 (.t 19)⟩,
  ⟨some 24, none, .ext 1 (.t 19)⟩,
  ⟨some 5, none, .alloc 24 (.agg #[.slice none 0 0, .int .i64 0, .int .i64 0, .int .i64 0, .bool false])⟩,
  ⟨none, none, .store 5 (.t 5) (.t 23)⟩,
  ⟨some 6, none, .mov (.t 24)⟩]
def r4_4 : List Ins := [⟨some 25, none, .faddr 0 (.t 5)⟩,
  ⟨some 26, none, .load 1 false (.t 25)⟩,
  ⟨some 27, none, .len (.t 26)⟩,
  ⟨some 28, none, .faddr 0 (.t 2)⟩,
  ⟨some 29, none, .load 1 false (.t 28)⟩,
  ⟨some 30, none, .len (.t 29)⟩,
  ⟨some 31, none, .bin .lss (.t 27) (.t 30)⟩,
  ⟨some 32, none, .mov (.t 31)⟩,
  ⟨some 33, some (32, false), .faddr 0 (.t 5)⟩,
  ⟨some 34, some (32, false), .load 1 false (.t 33)⟩,
  ⟨some 35, some (32, false), .len (.t 34)⟩,
  ⟨some 36, some (32, false), .faddr 0 (.t 2)⟩,
  ⟨some 37, some (32, false), .load 1 false (.t 36)⟩,
  ⟨some 38, some (32, false), .len (.t 37)⟩,
  ⟨some 39, some (32, false), .mov (.t 1)⟩,
  ⟨some 40, some (32, false), .len (.t 39)⟩,
  ⟨some 41, some (32, false), .bin .add (.t 38) (.t 40)⟩,
  ⟨some 42, some (32, false), .bin .gtr (.t 35) (.t 41)⟩,
  ⟨some 43, none, .pick (.t 32) (.k (.bool true)) (.t 42)⟩,
  ⟨some 44, none, .mov (.t 43)⟩,
  ⟨some 45, some (44, false), .faddr 0 (.t 5)⟩,
  ⟨some 46, some (44, false), .load 1 false (.t 45)⟩,
  ⟨some 47, some (44, false), .faddr 0 (.t 2)⟩,
  ⟨some 48, some (44, false), .load 1 false (.t 47)⟩,
  ⟨some 49, some (44, false), .len (.t 48)⟩,
  ⟨some 50, some (44, false), .slice 1 (.t 46) none (some (.t 49))⟩,
  ⟨some 51, some (44, false), .faddr 0 (.t 2)⟩,
  ⟨some 52, some (44, false), .load 1 false (.t 51)⟩,
  ⟨some 53, some (44, false), .call 12 [(.t 50), (.t 52)]⟩,
  ⟨some 54, some (44, false), .un .not (.t 53)⟩,
  ⟨some 55, none, .pick (.t 44) (.k (.bool true)) (.t 54)⟩]
def r4_5 : List Ins := [⟨some 4, none, .mov (.k (.bool false))⟩]
def r4_6 : List Ins := [⟨some 56, none, .mov (.t 6)⟩,
  ⟨some 57, none, .bin .eql (.t 56) (.k (.int .i64 0))⟩,
  ⟨some 58, none, .mov (.t 57)⟩,
  ⟨some 59, some (58, true), .faddr 0 (.t 5)⟩,
  ⟨some 60, some (58, true), .load 1 false (.t 59)⟩,
  ⟨some 61, some (58, true), .faddr 0 (.t 2)⟩,
  ⟨some 62, some (58, true), .load 1 false (.t 61)⟩,
  ⟨some 63, some (58, true), .len (.t 62)⟩,
  ⟨some 64, some (58, true), .slice 1 (.t 60) (some (.t 63)) none⟩,
  ⟨some 65, some (58, true), .mov (.t 1)⟩,
  ⟨some 66, some (58, true), .call 12 [(.t 64), (.t 65)]⟩,
  ⟨some 67, some (58, true), .un .not (.t 66)⟩,
  ⟨some 68, none, .pick (.t 58) (.t 67) (.k (.bool false))⟩]
def r4_7 : List Ins := [⟨some 4, none, .mov (.k (.bool false))⟩]
def r4_8 : List Ins := [⟨some 69, none, .faddr 4 (.t 2)⟩,
  ⟨none, none, .store 1 (.t 69) (.k (.bool true))⟩]
def r4_9 : List Ins := [⟨some 71, none, .load 5 true (.t 2)⟩,
  ⟨some 72, none, .mov (.t 1)⟩,
  ⟨some 73, none, .call 17 [(.t 71), (.t 72)]⟩,
  ⟨some 70, none, .mov (.t 73)⟩,
  ⟨some 74, none, .ext 0 (.t 70)⟩,
  ⟨some 75, none, .ext 1 (.t 70)⟩,
  ⟨some 7, none, .alloc 24 (.agg #[.slice none 0 0, .int .i64 0, .int .i64 0, .int .i64 0, .bool false])⟩,
  ⟨none, none, .store 5 (.t 7) (.t 74)⟩,
  ⟨some 8, none, .mov (.t 75)⟩]
def r4_10 : List Ins := [⟨some 76, none, .mov (.t 8)⟩,
  ⟨some 77, none, .bin .eql (.t 76) (.k (.int .i64 18))⟩,
  ⟨some 78, none, .mov (.t 77)⟩,
  ⟨some 79, some (78, true), .load 5 true (.t 7)⟩,
  ⟨some 80, some (78, true), .load 5 true (.t 2)⟩,
  ⟨some 81, some (78, true), .call 13 [(.t 79), (.t 80)]⟩,
  ⟨some 82, none, .pick (.t 78) (.t 81) (.k (.bool false))⟩,
  ⟨some 83, none, .mov (.t 82)⟩,
  ⟨some 84, some (83, true), .call 16 []⟩,
  ⟨some 85, none, .pick (.t 83) (.t 84) (.k (.bool false))⟩,
  ⟨some 4, none, .mov (.t 85)⟩]
def x4 : XC := (.seq (.ops false r4_0) (.seq (.ops false r4_1) (.seq (.ops false r4_2) (.seq (.ops false r4_3) (.seq (.seq (.ops true r4_4) (.cond (.t 55) (.seq (.ops false r4_5) .ret) .skip)) (.seq (.seq (.ops false r4_6) (.cond (.t 68) (.seq (.ops false r4_7) .ret) .skip)) (.seq (.ops false r4_8) (.seq (.ops false r4_9) (.seq (.ops false r4_10) .ret)))))))))
theorem F4 : Fn Try.prog 4 86 x4.er [.t 4] := ⟨Try.f4, Try.func4, by kernel_rfl, by kernel_rfl, by kernel_rfl⟩
noncomputable def m4 (a0 : DS0) (a1 : List Int) : Option (Bool × Unit) :=
  (m7 a0.1).bind fun y52 =>
  (m7 a1).bind fun y53 =>
  (m17 (y52.1, iAnd .i64 a0.2.1 1099511627775, a0.2.2.1, a0.2.2.2.1, a0.2.2.2.2.1, ()) y53.1).bind fun y54 =>
  cond (or (cutOk 0 (lenI y52.1) (List.length y54.1.1)) (not (bEq (cond (iLt (lenI y54.1.1) (lenI y52.1)) true (iLt (iAdd .i64 (lenI y52.1) (lenI y53.1)) (lenI y54.1.1))) false)))
  (cond (cond (iLt (lenI y54.1.1) (lenI y52.1)) true (iLt (iAdd .i64 (lenI y52.1) (lenI y53.1)) (lenI y54.1.1)))
   (some (false, ()))
   ((m12 (cutL 0 (lenI y52.1) y54.1.1) y52.1).bind fun y55 =>
    cond (not y55.1)
    (some (false, ()))
    (cond (or (cutOk (lenI y52.1) ((List.length y54.1.1 : Nat) : Int) (List.length y54.1.1)) (not (bEq (iEq y54.2.1 0) true)))
     (cond (iEq y54.2.1 0)
      ((m12 (cutL (lenI y52.1) ((List.length y54.1.1 : Nat) : Int) y54.1.1) y53.1).bind fun y56 =>
       cond (not y56.1)
       (some (false, ()))
       ((m17 (y52.1, iAnd .i64 a0.2.1 1099511627775, a0.2.2.1, a0.2.2.2.1, true, ()) y53.1).bind fun y57 =>
        cond (iEq y57.2.1 18)
        ((m13 (y57.1.1, y57.1.2.1, y57.1.2.2.1, y57.1.2.2.2.1, y57.1.2.2.2.2.1, ()) (y52.1, iAnd .i64 a0.2.1 1099511627775, a0.2.2.1, a0.2.2.2.1, true, ())).bind fun y58 =>
         cond y58.1
         ((m16).bind fun y59 =>
          some (y59.1, ()))
         (some (false, ())))
        (some (false, ()))))
      ((m17 (y52.1, iAnd .i64 a0.2.1 1099511627775, a0.2.2.1, a0.2.2.2.1, true, ()) y53.1).bind fun y60 =>
       cond (iEq y60.2.1 18)
       ((m13 (y60.1.1, y60.1.2.1, y60.1.2.2.1, y60.1.2.2.2.1, y60.1.2.2.2.2.1, ()) (y52.1, iAnd .i64 a0.2.1 1099511627775, a0.2.2.1, a0.2.2.2.1, true, ())).bind fun y61 =>
        cond y61.1
        ((m16).bind fun y62 =>
         some (y62.1, ()))
        (some (false, ())))
       (some (false, ())))) none))) none
noncomputable def cfg4 : Cfg := ⟨ttab, gtab, [i12, i13, i16, i17, i7], []⟩
theorem eqn4 (x : DS0 × (List Int) × Unit) : xfun cfg4 x4 86 [.t 4] [tS0, (.list (.int .u8))] [.bool] x = m4 x.1 x.2.1 := by kernel_rfl
noncomputable def i4 : PI := ⟨4, [tS0, (.list (.int .u8))], [.bool], fun (x : DS0 × (List Int) × Unit) => m4 x.1 x.2.1⟩
theorem oki4 : POk Try.prog (gx gtab) i4 := pok mixed (cfg_p oki12 (cfg_p oki13 (cfg_p oki16 (cfg_p oki17 (cfg_p oki7 (cfg_nil _ _))))) : CfgOk _ cfg4) F4 eqn4
/- 18 treaty/treatylaw41.records -/
def r18_0 : List Ins := [⟨some 2, none, .mov (.k (.slice none 0 0))⟩]
def r18_1 : List Ins := [⟨some 3, none, .mov (.k (.slice none 0 0))⟩]
def r18_2 : List Ins := [⟨some 4, none, .mov (.k (.int .i64 0))⟩]
def r18_3 : List Ins := [⟨some 5, none, .mov (.t 4)⟩,
  ⟨some 6, none, .mov (.t 0)⟩,
  ⟨some 7, none, .len (.t 6)⟩,
  ⟨some 8, none, .bin .lss (.t 5) (.t 7)⟩,
  ⟨some 9, none, .mov (.t 8)⟩,
  ⟨some 10, some (9, true), .mov (.t 4)⟩,
  ⟨some 11, some (9, true), .bin .lss (.t 10) (.k (.int .i64 6))⟩,
  ⟨some 12, none, .pick (.t 9) (.t 11) (.k (.bool false))⟩]
def r18_4 : List (Nat × Ins) := [(0, ⟨some 15, none, .mov (.t 3)⟩),
  (0, ⟨some 16, none, .mov (.t 4)⟩),
  (0, ⟨some 17, none, .conv .u8 (.t 16)⟩),
  (2, ⟨some 18, none, .bslice 5 1 [(.t 17)]⟩),
  (0, ⟨some 19, none, .mov (.t 0)⟩),
  (0, ⟨some 20, none, .mov (.t 4)⟩),
  (0, ⟨some 21, none, .iaddr 1 (.t 19) (.t 20)⟩),
  (1, ⟨some 22, none, .load 1 false (.t 21)⟩),
  (0, ⟨some 23, none, .mov (.t 0)⟩),
  (0, ⟨some 24, none, .mov (.t 4)⟩),
  (0, ⟨some 25, none, .iaddr 1 (.t 23) (.t 24)⟩),
  (1, ⟨some 26, none, .load 1 false (.t 25)⟩),
  (0, ⟨some 27, none, .len (.t 26)⟩),
  (0, ⟨some 28, none, .min2 (.t 27) (.k (.int .i64 40))⟩),
  (0, ⟨some 29, none, .slice 1 (.t 22) none (some (.t 28))⟩),
  (0, ⟨some 30, none, .app 5 1 1 (.t 18) (.t 29)⟩),
  (0, ⟨some 31, none, .bslice 22 1 [(.t 30)]⟩),
  (0, ⟨some 32, none, .app 22 1 24 (.t 15) (.t 31)⟩),
  (0, ⟨some 3, none, .mov (.t 32)⟩)]
def r18_5 : List Ins := [⟨some 13, none, .mov (.t 4)⟩,
  ⟨some 14, none, .bin .add (.t 13) (.k (.int .i64 1))⟩,
  ⟨some 4, none, .mov (.t 14)⟩]
def r18_6 : List Ins := [⟨some 33, none, .mov (.t 3)⟩,
  ⟨some 2, none, .mov (.t 33)⟩]
def x18 : XC := (.seq (.ops false r18_0) (.seq (.ops false r18_1) (.seq (.seq (.ops false r18_2) (.block 0 (.loop [.gh 3 22 (.list (.int .u8))] ⟨34, [(0, (.list (.list (.int .u8)))), (4, (.int .i64))], [(3, .row 0)], [.row 22 (.list (.int .u8)) false]⟩ (.seq (.seq (.ops false r18_3) (.cond (.t 12) .skip (.exit 0))) (.seq (.block 1 (.rops r18_4)) (.ops false r18_5)))))) (.seq (.ops false r18_6) .ret))))
theorem F18 : Fn Try.prog 18 34 x18.er [.t 2] := ⟨Try.f18, Try.func18, by kernel_rfl, by kernel_rfl, by kernel_rfl⟩
noncomputable def m18 (a0 : List (List Int)) : Option ((List (List Int)) × Unit) :=
  loopO (S := (List (List Int)) × Int × (List (List Int)) × Unit) (R := (List (List Int)) × Unit) (fun s65 =>
   cond (cond (iLt s65.2.1 (lenI s65.1)) (iLt s65.2.1 6) false)
   (cond (bnd s65.2.1 (lenI s65.1))
    (cond (bnd s65.2.1 (lenI s65.1))
     (cond (cutOk 0 (iMin (lenI (atI s65.1 s65.2.1 [])) 40) (List.length (atI s65.1 s65.2.1 [])))
      (cond (fits (List.length ([IntKind.wrap .u8 s65.2.1] : List Int) + List.length (cutL 0 (iMin (lenI (atI s65.1 s65.2.1 [])) 40) (atI s65.1 s65.2.1 []))) 1)
       (cond (fits (List.length s65.2.2.1 + List.length ([([IntKind.wrap .u8 s65.2.1] : List Int) ++ (cutL 0 (iMin (lenI (atI s65.1 s65.2.1 [])) 40) (atI s65.1 s65.2.1 []))] : List (List Int))) 24)
        (some (.inl (s65.1, iAdd .i64 s65.2.1 1, s65.2.2.1 ++ ([([IntKind.wrap .u8 s65.2.1] : List Int) ++ (cutL 0 (iMin (lenI (atI s65.1 s65.2.1 [])) 40) (atI s65.1 s65.2.1 []))] : List (List Int)), ()))) none) none) none) none) none)
   (some (.inr (s65.2.2.1, ()))))
  (a0, 0, ([] : List (List Int)), ())
noncomputable def cfg18 : Cfg := ⟨ttab, gtab, [], []⟩
theorem eqn18 (x : (List (List Int)) × Unit) : xfun cfg18 x18 34 [.t 2] [(.list (.list (.int .u8)))] [(.list (.list (.int .u8)))] x = m18 x.1 := by kernel_rfl
noncomputable def i18 : PI := ⟨18, [(.list (.list (.int .u8)))], [(.list (.list (.int .u8)))], fun (x : (List (List Int)) × Unit) => m18 x.1⟩
theorem oki18 : POk Try.prog (gx gtab) i18 := pok mixed (cfg_nil _ _ : CfgOk _ cfg18) F18 eqn18
/- 20 treaty/treatyref40.Records -/
def r20_0 : List Ins := [⟨some 2, none, .mov (.k (.slice none 0 0))⟩,
  ⟨some 3, none, .mov (.k (.int .i64 0))⟩]
def r20_1 : List Ins := [⟨some 4, none, .mov (.k (.slice none 0 0))⟩]
def r20_2 : List Ins := [⟨some 5, none, .mov (.k (.int .i64 0))⟩]
def r20_3 : List Ins := [⟨some 9, none, .mov (.t 0)⟩,
  ⟨some 10, none, .len (.t 9)⟩,
  ⟨some 11, none, .mov (.t 5)⟩,
  ⟨some 12, none, .bin .sub (.t 10) (.t 11)⟩,
  ⟨some 13, none, .bin .geq (.t 12) (.k (.int .i64 6))⟩]
def r20_4 : List Ins := [⟨some 14, none, .mov (.t 0)⟩,
  ⟨some 15, none, .mov (.t 5)⟩,
  ⟨some 16, none, .iaddr 1 (.t 14) (.t 15)⟩,
  ⟨some 17, none, .load 1 false (.t 16)⟩,
  ⟨some 18, none, .conv .i64 (.t 17)⟩,
  ⟨some 19, none, .bin .mul (.k (.int .i64 256)) (.t 18)⟩,
  ⟨some 20, none, .mov (.t 0)⟩,
  ⟨some 21, none, .mov (.t 5)⟩,
  ⟨some 22, none, .bin .add (.t 21) (.k (.int .i64 1))⟩,
  ⟨some 23, none, .iaddr 1 (.t 20) (.t 22)⟩,
  ⟨some 24, none, .load 1 false (.t 23)⟩,
  ⟨some 25, none, .conv .i64 (.t 24)⟩,
  ⟨some 26, none, .bin .add (.t 19) (.t 25)⟩,
  ⟨some 6, none, .mov (.t 26)⟩]
def r20_5 : List Ins := [⟨some 27, none, .mov (.t 6)⟩,
  ⟨some 28, none, .bin .eql (.t 27) (.k (.int .i64 0))⟩,
  ⟨some 29, none, .mov (.t 28)⟩,
  ⟨some 30, some (29, false), .mov (.t 6)⟩,
  ⟨some 31, some (29, false), .bin .gtr (.t 30) (.k (.int .i64 8192))⟩,
  ⟨some 32, none, .pick (.t 29) (.k (.bool true)) (.t 31)⟩,
  ⟨some 33, none, .mov (.t 32)⟩,
  ⟨some 34, some (33, false), .mov (.t 0)⟩,
  ⟨some 35, some (33, false), .len (.t 34)⟩,
  ⟨some 36, some (33, false), .mov (.t 5)⟩,
  ⟨some 37, some (33, false), .bin .sub (.t 35) (.t 36)⟩,
  ⟨some 38, some (33, false), .bin .sub (.t 37) (.k (.int .i64 6))⟩,
  ⟨some 39, some (33, false), .mov (.t 6)⟩,
  ⟨some 40, some (33, false), .bin .lss (.t 38) (.t 39)⟩,
  ⟨some 41, none, .pick (.t 33) (.k (.bool true)) (.t 40)⟩]
def r20_6 : List Ins := [⟨some 42, none, .bslice 5 1 []⟩,
  ⟨some 43, none, .mov (.t 0)⟩,
  ⟨some 44, none, .mov (.t 5)⟩,
  ⟨some 45, none, .bin .add (.t 44) (.k (.int .i64 6))⟩,
  ⟨some 46, none, .mov (.t 5)⟩,
  ⟨some 47, none, .bin .add (.t 46) (.k (.int .i64 6))⟩,
  ⟨some 48, none, .mov (.t 6)⟩,
  ⟨some 49, none, .bin .add (.t 47) (.t 48)⟩,
  ⟨some 50, none, .slice 1 (.t 43) (some (.t 45)) (some (.t 49))⟩,
  ⟨some 51, none, .app 5 1 1 (.t 42) (.t 50)⟩,
  ⟨some 7, none, .mov (.t 51)⟩]
def r20_7 : List Ins := [⟨some 52, none, .mov (.t 7)⟩,
  ⟨some 53, none, .call 15 [(.t 52)]⟩,
  ⟨some 8, none, .mov (.t 53)⟩]
def r20_8 : List Ins := [⟨some 54, none, .mov (.t 0)⟩,
  ⟨some 55, none, .mov (.t 5)⟩,
  ⟨some 56, none, .bin .add (.t 55) (.k (.int .i64 2))⟩,
  ⟨some 57, none, .mov (.t 5)⟩,
  ⟨some 58, none, .bin .add (.t 57) (.k (.int .i64 6))⟩,
  ⟨some 59, none, .slice 1 (.t 54) (some (.t 56)) (some (.t 58))⟩,
  ⟨some 60, none, .mov (.t 8)⟩,
  ⟨some 61, none, .bin .shr (.t 60) (.k (.int .u64 24))⟩,
  ⟨some 62, none, .conv .u8 (.t 61)⟩,
  ⟨some 63, none, .mov (.t 8)⟩,
  ⟨some 64, none, .bin .shr (.t 63) (.k (.int .u64 16))⟩,
  ⟨some 65, none, .conv .u8 (.t 64)⟩,
  ⟨some 66, none, .mov (.t 8)⟩,
  ⟨some 67, none, .bin .shr (.t 66) (.k (.int .u64 8))⟩,
  ⟨some 68, none, .conv .u8 (.t 67)⟩,
  ⟨some 69, none, .mov (.t 8)⟩,
  ⟨some 70, none, .conv .u8 (.t 69)⟩,
  ⟨some 71, none, .bslice 5 1 [(.t 62), (.t 65), (.t 68), (.t 70)]⟩,
  ⟨some 72, none, .call 12 [(.t 59), (.t 71)]⟩,
  ⟨some 73, none, .un .not (.t 72)⟩]
def r20_9 : List Ins := [⟨some 74, none, .mov (.t 4)⟩,
  ⟨some 75, none, .mov (.t 7)⟩,
  ⟨some 76, none, .bslice 22 1 [(.t 75)]⟩,
  ⟨some 77, none, .app 22 1 24 (.t 74) (.t 76)⟩,
  ⟨some 4, none, .mov (.t 77)⟩]
def r20_10 : List Ins := [⟨some 78, none, .mov (.t 5)⟩,
  ⟨some 79, none, .mov (.t 6)⟩,
  ⟨some 80, none, .bin .add (.k (.int .i64 6)) (.t 79)⟩,
  ⟨some 81, none, .bin .add (.t 78) (.t 80)⟩,
  ⟨some 5, none, .mov (.t 81)⟩]
def r20_11 : List Ins := [⟨some 82, none, .mov (.t 4)⟩,
  ⟨some 83, none, .mov (.t 5)⟩,
  ⟨some 2, none, .mov (.t 82)⟩,
  ⟨some 3, none, .mov (.t 83)⟩]
def x20 : XC := (.seq (.ops false r20_0) (.seq (.ops false r20_1) (.seq (.ops false r20_2) (.seq (.block 0 (.loop [.gh 4 22 (.list (.int .u8))] ⟨84, [(0, (.list (.int .u8))), (5, (.int .i64))], [(4, .row 0)], [.row 22 (.list (.int .u8)) false]⟩ (.seq (.seq (.ops false r20_3) (.cond (.t 13) .skip (.exit 0))) (.block 1 (.seq (.ops true r20_4) (.seq (.seq (.ops false r20_5) (.cond (.t 41) (.exit 0) .skip)) (.seq (.ops false r20_6) (.seq (.ops false r20_7) (.seq (.seq (.ops false r20_8) (.cond (.t 73) (.exit 0) .skip)) (.seq (.ops false r20_9) (.ops false r20_10))))))))))) (.seq (.ops false r20_11) .ret)))))
theorem F20 : Fn Try.prog 20 84 x20.er [.t 2, .t 3] := ⟨Try.f20, Try.func20, by kernel_rfl, by kernel_rfl, by kernel_rfl⟩
noncomputable def m20 (a0 : List Int) : Option ((List (List Int)) × Int × Unit) :=
  loopO (S := (List Int) × Int × (List (List Int)) × Unit) (R := (List (List Int)) × Int × Unit) (fun s78 =>
   cond (iLe 6 (iSub .i64 (lenI s78.1) s78.2.1))
   (cond (bnd s78.2.1 (lenI s78.1))
    (cond (bnd (iAdd .i64 s78.2.1 1) (lenI s78.1))
     (cond (cond (cond (iEq (iAdd .i64 (iMul .i64 256 (IntKind.wrap .i64 (atI s78.1 s78.2.1 0))) (IntKind.wrap .i64 (atI s78.1 (iAdd .i64 s78.2.1 1) 0))) 0) true (iLt 8192 (iAdd .i64 (iMul .i64 256 (IntKind.wrap .i64 (atI s78.1 s78.2.1 0))) (IntKind.wrap .i64 (atI s78.1 (iAdd .i64 s78.2.1 1) 0))))) true (iLt (iSub .i64 (iSub .i64 (lenI s78.1) s78.2.1) 6) (iAdd .i64 (iMul .i64 256 (IntKind.wrap .i64 (atI s78.1 s78.2.1 0))) (IntKind.wrap .i64 (atI s78.1 (iAdd .i64 s78.2.1 1) 0)))))
      (some (.inr (s78.2.2.1, s78.2.1, ())))
      (cond (cutOk (iAdd .i64 s78.2.1 6) (iAdd .i64 (iAdd .i64 s78.2.1 6) (iAdd .i64 (iMul .i64 256 (IntKind.wrap .i64 (atI s78.1 s78.2.1 0))) (IntKind.wrap .i64 (atI s78.1 (iAdd .i64 s78.2.1 1) 0)))) (List.length s78.1))
       (cond (fits (List.length ([] : List Int) + List.length (cutL (iAdd .i64 s78.2.1 6) (iAdd .i64 (iAdd .i64 s78.2.1 6) (iAdd .i64 (iMul .i64 256 (IntKind.wrap .i64 (atI s78.1 s78.2.1 0))) (IntKind.wrap .i64 (atI s78.1 (iAdd .i64 s78.2.1 1) 0)))) s78.1)) 1)
        ((m15 (([] : List Int) ++ (cutL (iAdd .i64 s78.2.1 6) (iAdd .i64 (iAdd .i64 s78.2.1 6) (iAdd .i64 (iMul .i64 256 (IntKind.wrap .i64 (atI s78.1 s78.2.1 0))) (IntKind.wrap .i64 (atI s78.1 (iAdd .i64 s78.2.1 1) 0)))) s78.1))).bind fun y79 =>
         cond (cutOk (iAdd .i64 s78.2.1 2) (iAdd .i64 s78.2.1 6) (List.length s78.1))
         (cond (iLe 0 24)
          (cond (iLe 0 16)
           (cond (iLe 0 8)
            ((m12 (cutL (iAdd .i64 s78.2.1 2) (iAdd .i64 s78.2.1 6) s78.1) ([IntKind.wrap .u8 (iShr .u32 y79.1 24), IntKind.wrap .u8 (iShr .u32 y79.1 16), IntKind.wrap .u8 (iShr .u32 y79.1 8), IntKind.wrap .u8 y79.1] : List Int)).bind fun y80 =>
             cond (not y80.1)
             (some (.inr (s78.2.2.1, s78.2.1, ())))
             (cond (fits (List.length s78.2.2.1 + List.length ([([] : List Int) ++ (cutL (iAdd .i64 s78.2.1 6) (iAdd .i64 (iAdd .i64 s78.2.1 6) (iAdd .i64 (iMul .i64 256 (IntKind.wrap .i64 (atI s78.1 s78.2.1 0))) (IntKind.wrap .i64 (atI s78.1 (iAdd .i64 s78.2.1 1) 0)))) s78.1)] : List (List Int))) 24)
              (some (.inl (s78.1, iAdd .i64 s78.2.1 (iAdd .i64 6 (iAdd .i64 (iMul .i64 256 (IntKind.wrap .i64 (atI s78.1 s78.2.1 0))) (IntKind.wrap .i64 (atI s78.1 (iAdd .i64 s78.2.1 1) 0)))), s78.2.2.1 ++ ([([] : List Int) ++ (cutL (iAdd .i64 s78.2.1 6) (iAdd .i64 (iAdd .i64 s78.2.1 6) (iAdd .i64 (iMul .i64 256 (IntKind.wrap .i64 (atI s78.1 s78.2.1 0))) (IntKind.wrap .i64 (atI s78.1 (iAdd .i64 s78.2.1 1) 0)))) s78.1)] : List (List Int)), ()))) none)) none) none) none) none) none) none)) none) none)
   (some (.inr (s78.2.2.1, s78.2.1, ()))))
  (a0, 0, ([] : List (List Int)), ())
noncomputable def cfg20 : Cfg := ⟨ttab, gtab, [i12, i15], []⟩
theorem eqn20 (x : (List Int) × Unit) : xfun cfg20 x20 84 [.t 2, .t 3] [(.list (.int .u8))] [(.list (.list (.int .u8))), (.int .i64)] x = m20 x.1 := by kernel_rfl
noncomputable def i20 : PI := ⟨20, [(.list (.int .u8))], [(.list (.list (.int .u8))), (.int .i64)], fun (x : (List Int) × Unit) => m20 x.1⟩
theorem oki20 : POk Try.prog (gx gtab) i20 := pok mixed (cfg_p oki12 (cfg_p oki15 (cfg_nil _ _)) : CfgOk _ cfg20) F20 eqn20
/- 21 treaty/treatyref40.SameLists -/
def r21_0 : List Ins := [⟨some 4, none, .mov (.k (.bool false))⟩]
def r21_1 : List Ins := [⟨some 6, none, .mov (.t 0)⟩,
  ⟨some 7, none, .len (.t 6)⟩,
  ⟨some 8, none, .mov (.t 1)⟩,
  ⟨some 9, none, .len (.t 8)⟩,
  ⟨some 10, none, .bin .neq (.t 7) (.t 9)⟩]
def r21_2 : List Ins := [⟨some 4, none, .mov (.k (.bool false))⟩]
def r21_3 : List Ins := [⟨some 11, none, .mov (.t 0)⟩,
  ⟨some 12, none, .len (.t 11)⟩,
  ⟨some 13, none, .mov (.k (.int .i64 0))⟩]
def r21_4 : List Ins := [⟨some 14, none, .bin .lss (.t 13) (.t 12)⟩]
def r21_5 : List Ins := [⟨some 15, none, .mov (.t 13)⟩,
  ⟨some 5, none, .mov (.t 15)⟩]
def r21_6 : List Ins := [⟨some 16, none, .mov (.t 0)⟩,
  ⟨some 17, none, .mov (.t 5)⟩,
  ⟨some 18, none, .iaddr 1 (.t 16) (.t 17)⟩,
  ⟨some 19, none, .load 1 false (.t 18)⟩,
  ⟨some 20, none, .mov (.t 1)⟩,
  ⟨some 21, none, .mov (.t 5)⟩,
  ⟨some 22, none, .iaddr 1 (.t 20) (.t 21)⟩,
  ⟨some 23, none, .load 1 false (.t 22)⟩,
  ⟨some 24, none, .call 12 [(.t 19), (.t 23)]⟩,
  ⟨some 25, none, .un .not (.t 24)⟩]
def r21_7 : List Ins := [⟨some 4, none, .mov (.k (.bool false))⟩]
def r21_8 : List Ins := [⟨some 26, none, .bin .add (.t 13) (.k (.int .i64 1))⟩,
  ⟨some 13, none, .mov (.t 26)⟩]
def r21_9 : List Ins := [⟨some 4, none, .mov (.k (.bool true))⟩]
def x21 : XC := (.seq (.ops false r21_0) (.seq (.seq (.ops false r21_1) (.cond (.t 10) (.seq (.ops false r21_2) .ret) .skip)) (.seq (.seq (.ops false r21_3) (.block 0 (.loop [] ⟨27, [(0, (.list (.list (.int .u8)))), (1, (.list (.list (.int .u8)))), (12, (.int .i64)), (13, (.int .i64))], [], []⟩ (.seq (.ops false r21_4) (.seq (.cond (.t 14) .skip (.exit 0)) (.seq (.block 1 (.seq (.ops false r21_5) (.seq (.ops true r21_6) (.cond (.t 25) (.seq (.ops false r21_7) .ret) .skip)))) (.ops false r21_8))))))) (.seq (.ops false r21_9) .ret))))
theorem F21 : Fn Try.prog 21 27 x21.er [.t 4] := ⟨Try.f21, Try.func21, by kernel_rfl, by kernel_rfl, by kernel_rfl⟩
noncomputable def m21 (a0 : List (List Int)) (a1 : List (List Int)) : Option (Bool × Unit) :=
  cond (iNe (lenI a0) (lenI a1))
  (some (false, ()))
  (loopO (S := (List (List Int)) × (List (List Int)) × Int × Int × Unit) (R := Bool × Unit) (fun s84 =>
    cond (iLt s84.2.2.2.1 s84.2.2.1)
    (cond (bnd s84.2.2.2.1 (lenI s84.1))
     (cond (bnd s84.2.2.2.1 (lenI s84.2.1))
      ((m12 (atI s84.1 s84.2.2.2.1 []) (atI s84.2.1 s84.2.2.2.1 [])).bind fun y85 =>
       cond (not y85.1)
       (some (.inr (false, ())))
       (some (.inl (s84.1, s84.2.1, s84.2.2.1, iAdd .i64 s84.2.2.2.1 1, ())))) none) none)
    (some (.inr (true, ()))))
   (a0, a1, lenI a0, 0, ()))
noncomputable def cfg21 : Cfg := ⟨ttab, gtab, [i12], []⟩
theorem eqn21 (x : (List (List Int)) × (List (List Int)) × Unit) : xfun cfg21 x21 27 [.t 4] [(.list (.list (.int .u8))), (.list (.list (.int .u8)))] [.bool] x = m21 x.1 x.2.1 := by kernel_rfl
noncomputable def i21 : PI := ⟨21, [(.list (.list (.int .u8))), (.list (.list (.int .u8)))], [.bool], fun (x : (List (List Int)) × (List (List Int)) × Unit) => m21 x.1 x.2.1⟩
theorem oki21 : POk Try.prog (gx gtab) i21 := pok mixed (cfg_p oki12 (cfg_nil _ _) : CfgOk _ cfg21) F21 eqn21
/- 22 treaty/journal.Restart -/
def r22_0 : List Ins := [⟨some 1, none, .box 24 5 (.t 0)⟩,
  ⟨some 2, none, .alloc 24 (.agg #[.slice none 0 0, .int .i64 0, .int .i64 0, .int .i64 0, .bool false])⟩]
def r22_1 : List Ins := [⟨some 6, none, .faddr 0 (.t 1)⟩,
  ⟨some 7, none, .load 1 false (.t 6)⟩,
  ⟨some 8, none, .call 19 [(.t 7)]⟩,
  ⟨some 5, none, .mov (.t 8)⟩,
  ⟨some 9, none, .ext 0 (.t 5)⟩,
  ⟨some 10, none, .ext 1 (.t 5)⟩,
  ⟨some 3, none, .mov (.t 9)⟩,
  ⟨some 4, none, .mov (.t 10)⟩]
def r22_2 : List (Nat × Ins) := [(0, ⟨some 11, none, .faddr 0 (.t 1)⟩),
  (0, ⟨some 12, none, .load 1 false (.t 11)⟩),
  (0, ⟨some 13, none, .mov (.t 4)⟩),
  (0, ⟨some 14, none, .slice 1 (.t 12) none (some (.t 13))⟩),
  (2, ⟨some 15, none, .app 5 1 1 (.k (.slice none 0 0)) (.t 14)⟩),
  (0, ⟨some 16, none, .faddr 1 (.t 1)⟩),
  (1, ⟨some 17, none, .load 1 false (.t 16)⟩),
  (0, ⟨some 18, none, .build [.slice none 0 0, .int .i64 0, .int .i64 0, .int .i64 0, .bool false] [(0, 1, (.t 15)), (1, 1, (.t 17))]⟩),
  (0, ⟨none, none, .store 5 (.t 2) (.t 18)⟩)]
def x22 : XC := (.seq (.ops false r22_0) (.seq (.ops false r22_1) (.seq (.rops r22_2) .ret)))
theorem F22 : Fn Try.prog 22 19 x22.er [.c 2 5 true] := ⟨Try.f22, Try.func22, by kernel_rfl, by kernel_rfl, by kernel_rfl⟩
noncomputable def m22 (a0 : DS0) : Option (DS0 × Unit) :=
  (m19 a0.1).bind fun y87 =>
  cond (cutOk 0 y87.2.1 (List.length a0.1))
  (cond (fits (List.length (cutL 0 y87.2.1 a0.1)) 1)
   (some ((cutL 0 y87.2.1 a0.1, a0.2.1, 0, 0, false, ()), ())) none) none
noncomputable def cfg22 : Cfg := ⟨ttab, gtab, [i19], []⟩
theorem eqn22 (x : DS0 × Unit) : xfun cfg22 x22 19 [.c 2 5 true] [tS0] [tS0] x = m22 x.1 := by kernel_rfl
noncomputable def i22 : PI := ⟨22, [tS0], [tS0], fun (x : DS0 × Unit) => m22 x.1⟩
theorem oki22 : POk Try.prog (gx gtab) i22 := pok mixed (cfg_p oki19 (cfg_nil _ _) : CfgOk _ cfg22) F22 eqn22
/- 23 treaty/treatyref40.Restart -/
def r23_0 : List Ins := [⟨some 1, none, .box 24 5 (.t 0)⟩,
  ⟨some 2, none, .alloc 24 (.agg #[.slice none 0 0, .int .i64 0, .int .i64 0, .int .i64 0, .bool false])⟩]
def r23_1 : List Ins := [⟨some 6, none, .faddr 0 (.t 1)⟩,
  ⟨some 7, none, .load 1 false (.t 6)⟩,
  ⟨some 8, none, .call 20 [(.t 7)]⟩,
  ⟨some 5, none, .mov (.t 8)⟩,
  ⟨some 9, none, .ext 0 (.t 5)⟩,
  ⟨some 10, none, .ext 1 (.t 5)⟩,
  ⟨some 3, none, .mov (.t 9)⟩,
  ⟨some 4, none, .mov (.t 10)⟩]
def r23_2 : List (Nat × Ins) := [(2, ⟨some 11, none, .bslice 5 1 []⟩),
  (0, ⟨some 12, none, .faddr 0 (.t 1)⟩),
  (1, ⟨some 13, none, .load 1 false (.t 12)⟩),
  (0, ⟨some 14, none, .mov (.t 4)⟩),
  (0, ⟨some 15, none, .slice 1 (.t 13) none (some (.t 14))⟩),
  (2, ⟨some 16, none, .app 5 1 1 (.t 11) (.t 15)⟩),
  (0, ⟨some 17, none, .faddr 1 (.t 1)⟩),
  (1, ⟨some 18, none, .load 1 false (.t 17)⟩),
  (0, ⟨some 19, none, .build [.slice none 0 0, .int .i64 0, .int .i64 0, .int .i64 0, .bool false] [(0, 1, (.t 16)), (1, 1, (.t 18))]⟩),
  (0, ⟨none, none, .store 5 (.t 2) (.t 19)⟩)]
def x23 : XC := (.seq (.ops false r23_0) (.seq (.ops false r23_1) (.seq (.rops r23_2) .ret)))
theorem F23 : Fn Try.prog 23 20 x23.er [.c 2 5 true] := ⟨Try.f23, Try.func23, by kernel_rfl, by kernel_rfl, by kernel_rfl⟩
noncomputable def m23 (a0 : DS0) : Option (DS0 × Unit) :=
  (m20 a0.1).bind fun y89 =>
  cond (cutOk 0 y89.2.1 (List.length a0.1))
  (cond (fits (List.length ([] : List Int) + List.length (cutL 0 y89.2.1 a0.1)) 1)
   (some ((([] : List Int) ++ (cutL 0 y89.2.1 a0.1), a0.2.1, 0, 0, false, ()), ())) none) none
noncomputable def cfg23 : Cfg := ⟨ttab, gtab, [i20], []⟩
theorem eqn23 (x : DS0 × Unit) : xfun cfg23 x23 20 [.c 2 5 true] [tS0] [tS0] x = m23 x.1 := by kernel_rfl
noncomputable def i23 : PI := ⟨23, [tS0], [tS0], fun (x : DS0 × Unit) => m23 x.1⟩
theorem oki23 : POk Try.prog (gx gtab) i23 := pok mixed (cfg_p oki20 (cfg_nil _ _) : CfgOk _ cfg23) F23 eqn23
/- 5 treaty/treatylaw41.JournalRecords -/
def r5_0 : List Ins := [⟨some 11, none, .box 24 5 (.t 5)⟩,
  ⟨some 12, none, .mov (.k (.bool false))⟩]
def r5_1 : List Ins := [⟨some 24, none, .mov (.t 0)⟩,
  ⟨some 25, none, .call 7 [(.t 24)]⟩,
  ⟨some 0, none, .mov (.t 25)⟩]
def r5_2 : List Ins := [⟨some 13, none, .mov (.k (.slice none 0 0))⟩]
def r5_3 : List Ins := [⟨some 26, none, .mov (.t 1)⟩,
  ⟨some 27, none, .call 18 [(.t 26)]⟩,
  ⟨some 28, none, .len (.t 27)⟩,
  ⟨some 29, none, .mov (.k (.int .i64 0))⟩]
def r5_4 : List Ins := [⟨some 30, none, .bin .lss (.t 29) (.t 28)⟩]
def r5_5 : List Ins := [⟨some 31, none, .iaddr 1 (.t 27) (.t 29)⟩,
  ⟨some 32, none, .load 1 false (.t 31)⟩,
  ⟨some 15, none, .mov (.t 32)⟩]
def r5_6 : List Ins := [⟨some 34, none, .mov (.t 15)⟩,
  ⟨some 35, none, .call 9 [(.t 34)]⟩,
  ⟨some 33, none, .mov (.t 35)⟩,
  ⟨some 36, none, .ext 0 (.t 33)⟩,
  ⟨some 37, none, .ext 1 (.t 33)⟩,
  ⟨some 16, none, .mov (.t 36)⟩,
  ⟨some 17, none, .mov (.t 37)⟩]
def r5_7 : List Ins := [⟨some 38, none, .mov (.t 13)⟩,
  ⟨some 39, none, .mov (.t 16)⟩,
  ⟨some 40, none, .app 5 1 1 (.t 38) (.t 39)⟩,
  ⟨some 13, none, .mov (.t 40)⟩]
def r5_8 : List Ins := [⟨some 41, none, .bin .add (.t 29) (.k (.int .i64 1))⟩,
  ⟨some 29, none, .mov (.t 41)⟩]
def r5_9 : List Ins := [⟨some 42, none, .mov (.t 13)⟩,
  ⟨some 43, none, .len (.t 42)⟩,
  ⟨some 44, none, .bin .gtr (.t 43) (.k (.int .i64 0))⟩]
def r5_10 : List Ins := [⟨some 45, none, .mov (.t 13)⟩,
  ⟨some 46, none, .mov (.t 2)⟩,
  ⟨some 47, none, .bin .and (.t 46) (.k (.int .i64 1023))⟩,
  ⟨some 48, none, .mov (.t 13)⟩,
  ⟨some 49, none, .len (.t 48)⟩,
  ⟨some 50, none, .bin .rem (.t 47) (.t 49)⟩,
  ⟨some 51, none, .iaddr 1 (.t 45) (.t 50)⟩,
  ⟨some 52, none, .load 1 false (.t 51)⟩,
  ⟨some 53, none, .mov (.t 4)⟩,
  ⟨some 54, none, .bin .xor (.t 52) (.t 53)⟩,
  ⟨some 55, none, .iaddr 1 (.t 45) (.t 50)⟩,
  ⟨none, none, .store 1 (.t 55) (.t 54)⟩]
def r5_11 : List Ins := [⟨some 56, none, .mov (.t 13)⟩,
  ⟨some 57, none, .mov (.t 13)⟩,
  ⟨some 58, none, .len (.t 57)⟩,
  ⟨some 59, none, .mov (.t 3)⟩,
  ⟨some 60, none, .bin .and (.t 59) (.k (.int .i64 15))⟩,
  ⟨some 61, none, .mov (.t 13)⟩,
  ⟨some 62, none, .len (.t 61)⟩,
  ⟨some 63, none, .bin .add (.t 62) (.k (.int .i64 1))⟩,
  ⟨some 64, none, .bin .rem (.t 60) (.t 63)⟩,
  ⟨some 65, none, .bin .sub (.t 58) (.t 64)⟩,
  ⟨some 66, none, .slice 1 (.t 56) none (some (.t 65))⟩,
  ⟨some 13, none, .mov (.t 66)⟩]
def r5_12 : List Ins := [⟨some 67, none, .mov (.t 0)⟩,
  ⟨some 68, none, .mov (.t 13)⟩,
  ⟨some 69, none, .bslice 22 1 [(.t 67), (.t 68)]⟩,
  ⟨some 70, none, .len (.t 69)⟩,
  ⟨some 71, none, .mov (.k (.int .i64 0))⟩]
def r5_13 : List Ins := [⟨some 72, none, .bin .lss (.t 71) (.t 70)⟩]
def r5_14 : List Ins := [⟨some 73, none, .iaddr 1 (.t 69) (.t 71)⟩,
  ⟨some 74, none, .load 1 false (.t 73)⟩,
  ⟨some 19, none, .mov (.t 74)⟩]
def r5_15 : List Ins := [⟨some 76, none, .mov (.t 19)⟩,
  ⟨some 77, none, .call 19 [(.t 76)]⟩,
  ⟨some 75, none, .mov (.t 77)⟩,
  ⟨some 78, none, .ext 0 (.t 75)⟩,
  ⟨some 79, none, .ext 1 (.t 75)⟩,
  ⟨some 20, none, .mov (.t 78)⟩,
  ⟨some 21, none, .mov (.t 79)⟩]
def r5_16 : List Ins := [⟨some 81, none, .mov (.t 19)⟩,
  ⟨some 82, none, .call 20 [(.t 81)]⟩,
  ⟨some 80, none, .mov (.t 82)⟩,
  ⟨some 83, none, .ext 0 (.t 80)⟩,
  ⟨some 84, none, .ext 1 (.t 80)⟩,
  ⟨some 22, none, .mov (.t 83)⟩,
  ⟨some 23, none, .mov (.t 84)⟩]
def r5_17 : List Ins := [⟨some 85, none, .mov (.t 19)⟩,
  ⟨some 86, none, .faddr 0 (.t 11)⟩,
  ⟨none, none, .store 1 (.t 86) (.t 85)⟩]
def r5_18 : List Ins := [⟨some 87, none, .mov (.t 20)⟩,
  ⟨some 88, none, .mov (.t 22)⟩,
  ⟨some 89, none, .call 21 [(.t 87), (.t 88)]⟩,
  ⟨some 90, none, .un .not (.t 89)⟩,
  ⟨some 91, none, .mov (.t 90)⟩,
  ⟨some 92, some (91, false), .mov (.t 21)⟩,
  ⟨some 93, some (91, false), .mov (.t 23)⟩,
  ⟨some 94, some (91, false), .bin .neq (.t 92) (.t 93)⟩,
  ⟨some 95, none, .pick (.t 91) (.k (.bool true)) (.t 94)⟩,
  ⟨some 96, none, .mov (.t 95)⟩,
  ⟨some 97, some (96, false), .load 5 true (.t 11)⟩,
  ⟨some 98, some (96, false), .call 22 [(.t 97)]⟩,
  ⟨some 99, some (96, false), .load 5 true (.t 11)⟩,
  ⟨some 100, some (96, false), .call 23 [(.t 99)]⟩,
  ⟨some 101, some (96, false), .call 13 [(.t 98), (.t 100)]⟩,
  ⟨some 102, some (96, false), .un .not (.t 101)⟩,
  ⟨some 103, none, .pick (.t 96) (.k (.bool true)) (.t 102)⟩]
def r5_19 : List Ins := [⟨some 12, none, .mov (.k (.bool false))⟩]
def r5_20 : List Ins := [⟨some 104, none, .bin .add (.t 71) (.k (.int .i64 1))⟩,
  ⟨some 71, none, .mov (.t 104)⟩]
def r5_21 : List Ins := [⟨some 105, none, .call 16 []⟩,
  ⟨some 12, none, .mov (.t 105)⟩]
def x5 : XC := (.seq (.ops false r5_0) (.seq (.ops false r5_1) (.seq (.ops false r5_2) (.seq (.seq (.ops false r5_3) (.block 0 (.loop [.gh 13 5 (.int .u8)] ⟨106, [(0, (.list (.int .u8))), (2, (.int .i64)), (3, (.int .i64)), (4, (.int .u8)), (27, (.list (.list (.int .u8)))), (28, (.int .i64)), (29, (.int .i64))], [(11, .ptr 0 0 0), (13, .row 1)], [.box 24 [.d (.list (.int .u8)), .d (.int .i64), .d (.int .i64), .d (.int .i64), .d .bool], .row 5 (.int .u8) false]⟩ (.seq (.ops false r5_4) (.seq (.cond (.t 30) .skip (.exit 0)) (.seq (.block 1 (.seq (.ops false r5_5) (.seq (.ops false r5_6) (.ops false r5_7)))) (.ops false r5_8))))))) (.seq (.seq (.ops false r5_9) (.cond (.t 44) (.seq (.ops false r5_10) (.ops false r5_11)) .skip)) (.seq (.seq (.ops false r5_12) (.block 2 (.loop [] ⟨106, [(70, (.int .i64)), (71, (.int .i64))], [(11, .ptr 0 0 0), (69, .row 1)], [.box 24 [.d (.list (.int .u8)), .d (.int .i64), .d (.int .i64), .d (.int .i64), .d .bool], .row 22 (.list (.int .u8)) false]⟩ (.seq (.ops false r5_13) (.seq (.cond (.t 72) .skip (.exit 2)) (.seq (.block 3 (.seq (.ops false r5_14) (.seq (.ops false r5_15) (.seq (.ops false r5_16) (.seq (.ops false r5_17) (.seq (.ops true r5_18) (.cond (.t 103) (.seq (.ops false r5_19) .ret) .skip))))))) (.ops false r5_20))))))) (.seq (.ops false r5_21) .ret)))))))
theorem F5 : Fn Try.prog 5 106 x5.er [.t 12] := ⟨Try.f5, Try.func5, by kernel_rfl, by kernel_rfl, by kernel_rfl⟩
noncomputable def m5 (a0 : List Int) (a1 : List (List Int)) (a2 : Int) (a3 : Int) (a4 : Int) (a5 : DS0) : Option (Bool × Unit) :=
  (m7 a0).bind fun y101 =>
  (m18 a1).bind fun y102 =>
  loopO (S := (List Int) × Int × Int × Int × (List (List Int)) × Int × Int × (List Int) × Int × Int × Int × Bool × (List Int) × Unit) (R := Bool × Unit) (fun s103 =>
   cond (iLt s103.2.2.2.2.2.2.1 s103.2.2.2.2.2.1)
   (cond (bnd s103.2.2.2.2.2.2.1 (lenI s103.2.2.2.2.1))
    ((m9 (atI s103.2.2.2.2.1 s103.2.2.2.2.2.2.1 [])).bind fun y104 =>
     cond (fits (List.length s103.2.2.2.2.2.2.2.2.2.2.2.2.1 + List.length y104.1) 1)
     (some (.inl (s103.1, s103.2.1, s103.2.2.1, s103.2.2.2.1, s103.2.2.2.2.1, s103.2.2.2.2.2.1, iAdd .i64 s103.2.2.2.2.2.2.1 1, s103.2.2.2.2.2.2.2.1, s103.2.2.2.2.2.2.2.2.1, s103.2.2.2.2.2.2.2.2.2.1, s103.2.2.2.2.2.2.2.2.2.2.1, s103.2.2.2.2.2.2.2.2.2.2.2.1, s103.2.2.2.2.2.2.2.2.2.2.2.2.1 ++ y104.1, ()))) none) none)
   (Option.map Sum.inr (cond (iLt 0 (lenI s103.2.2.2.2.2.2.2.2.2.2.2.2.1))
     (cond (iNe (lenI s103.2.2.2.2.2.2.2.2.2.2.2.2.1) 0)
      (cond (bnd (iRem (iAnd .i64 s103.2.1 1023) (lenI s103.2.2.2.2.2.2.2.2.2.2.2.2.1)) (lenI s103.2.2.2.2.2.2.2.2.2.2.2.2.1))
       (cond (inB (Int.toNat (iRem (iAnd .i64 s103.2.1 1023) (lenI s103.2.2.2.2.2.2.2.2.2.2.2.2.1))) s103.2.2.2.2.2.2.2.2.2.2.2.2.1)
        (cond (bnd (iRem (iAnd .i64 s103.2.1 1023) (lenI s103.2.2.2.2.2.2.2.2.2.2.2.2.1)) (lenI s103.2.2.2.2.2.2.2.2.2.2.2.2.1))
         (cond (inB (Int.toNat (iRem (iAnd .i64 s103.2.1 1023) (lenI s103.2.2.2.2.2.2.2.2.2.2.2.2.1))) s103.2.2.2.2.2.2.2.2.2.2.2.2.1)
          (cond (iNe (iAdd .i64 (lenI (List.set s103.2.2.2.2.2.2.2.2.2.2.2.2.1 (Int.toNat (iRem (iAnd .i64 s103.2.1 1023) (lenI s103.2.2.2.2.2.2.2.2.2.2.2.2.1))) (iXor .u8 (List.getD s103.2.2.2.2.2.2.2.2.2.2.2.2.1 (Int.toNat (iRem (iAnd .i64 s103.2.1 1023) (lenI s103.2.2.2.2.2.2.2.2.2.2.2.2.1))) 0) s103.2.2.2.1))) 1) 0)
           (cond (and (cutOk 0 (iSub .i64 (lenI (List.set s103.2.2.2.2.2.2.2.2.2.2.2.2.1 (Int.toNat (iRem (iAnd .i64 s103.2.1 1023) (lenI s103.2.2.2.2.2.2.2.2.2.2.2.2.1))) (iXor .u8 (List.getD s103.2.2.2.2.2.2.2.2.2.2.2.2.1 (Int.toNat (iRem (iAnd .i64 s103.2.1 1023) (lenI s103.2.2.2.2.2.2.2.2.2.2.2.2.1))) 0) s103.2.2.2.1))) (iRem (iAnd .i64 s103.2.2.1 15) (iAdd .i64 (lenI (List.set s103.2.2.2.2.2.2.2.2.2.2.2.2.1 (Int.toNat (iRem (iAnd .i64 s103.2.1 1023) (lenI s103.2.2.2.2.2.2.2.2.2.2.2.2.1))) (iXor .u8 (List.getD s103.2.2.2.2.2.2.2.2.2.2.2.2.1 (Int.toNat (iRem (iAnd .i64 s103.2.1 1023) (lenI s103.2.2.2.2.2.2.2.2.2.2.2.2.1))) 0) s103.2.2.2.1))) 1))) (List.length (List.set s103.2.2.2.2.2.2.2.2.2.2.2.2.1 (Int.toNat (iRem (iAnd .i64 s103.2.1 1023) (lenI s103.2.2.2.2.2.2.2.2.2.2.2.2.1))) (iXor .u8 (List.getD s103.2.2.2.2.2.2.2.2.2.2.2.2.1 (Int.toNat (iRem (iAnd .i64 s103.2.1 1023) (lenI s103.2.2.2.2.2.2.2.2.2.2.2.2.1))) 0) s103.2.2.2.1)))) true)
            (loopO (S := Int × Int × (List Int) × Int × Int × Int × Bool × (List (List Int)) × Unit) (R := Bool × Unit) (fun s105 =>
              cond (iLt s105.2.1 s105.1)
              (cond (bnd s105.2.1 (lenI s105.2.2.2.2.2.2.2.1))
               (cond (inB (Int.toNat s105.2.1) s105.2.2.2.2.2.2.2.1)
                ((m19 (List.getD s105.2.2.2.2.2.2.2.1 (Int.toNat s105.2.1) [])).bind fun y106 =>
                 (m20 (List.getD s105.2.2.2.2.2.2.2.1 (Int.toNat s105.2.1) [])).bind fun y107 =>
                 (m21 y106.1 y107.1).bind fun y108 =>
                 cond (cond (not y108.1) true (iNe y106.2.1 y107.2.1))
                 (some (.inr (false, ())))
                 ((m22 (List.getD s105.2.2.2.2.2.2.2.1 (Int.toNat s105.2.1) [], s105.2.2.2.1, s105.2.2.2.2.1, s105.2.2.2.2.2.1, s105.2.2.2.2.2.2.1, ())).bind fun y109 =>
                  (m23 (List.getD s105.2.2.2.2.2.2.2.1 (Int.toNat s105.2.1) [], s105.2.2.2.1, s105.2.2.2.2.1, s105.2.2.2.2.2.1, s105.2.2.2.2.2.2.1, ())).bind fun y110 =>
                  (m13 y109.1 y110.1).bind fun y111 =>
                  cond (not y111.1)
                  (some (.inr (false, ())))
                  (some (.inl (s105.1, iAdd .i64 s105.2.1 1, List.getD s105.2.2.2.2.2.2.2.1 (Int.toNat s105.2.1) [], s105.2.2.2.1, s105.2.2.2.2.1, s105.2.2.2.2.2.1, s105.2.2.2.2.2.2.1, s105.2.2.2.2.2.2.2.1, ()))))) none) none)
              (Option.map Sum.inr ((m16).bind fun y112 =>
                some (y112.1, ()))))
             (lenI ([s103.1, List.take (Int.toNat ((iSub .i64 (lenI (List.set s103.2.2.2.2.2.2.2.2.2.2.2.2.1 (Int.toNat (iRem (iAnd .i64 s103.2.1 1023) (lenI s103.2.2.2.2.2.2.2.2.2.2.2.2.1))) (iXor .u8 (List.getD s103.2.2.2.2.2.2.2.2.2.2.2.2.1 (Int.toNat (iRem (iAnd .i64 s103.2.1 1023) (lenI s103.2.2.2.2.2.2.2.2.2.2.2.2.1))) 0) s103.2.2.2.1))) (iRem (iAnd .i64 s103.2.2.1 15) (iAdd .i64 (lenI (List.set s103.2.2.2.2.2.2.2.2.2.2.2.2.1 (Int.toNat (iRem (iAnd .i64 s103.2.1 1023) (lenI s103.2.2.2.2.2.2.2.2.2.2.2.2.1))) (iXor .u8 (List.getD s103.2.2.2.2.2.2.2.2.2.2.2.2.1 (Int.toNat (iRem (iAnd .i64 s103.2.1 1023) (lenI s103.2.2.2.2.2.2.2.2.2.2.2.2.1))) 0) s103.2.2.2.1))) 1))) - 0)) (List.drop 0 (List.set s103.2.2.2.2.2.2.2.2.2.2.2.2.1 (Int.toNat (iRem (iAnd .i64 s103.2.1 1023) (lenI s103.2.2.2.2.2.2.2.2.2.2.2.2.1))) (iXor .u8 (List.getD s103.2.2.2.2.2.2.2.2.2.2.2.2.1 (Int.toNat (iRem (iAnd .i64 s103.2.1 1023) (lenI s103.2.2.2.2.2.2.2.2.2.2.2.2.1))) 0) s103.2.2.2.1)))] : List (List Int)), 0, s103.2.2.2.2.2.2.2.1, s103.2.2.2.2.2.2.2.2.1, s103.2.2.2.2.2.2.2.2.2.1, s103.2.2.2.2.2.2.2.2.2.2.1, s103.2.2.2.2.2.2.2.2.2.2.2.1, ([s103.1, List.take (Int.toNat ((iSub .i64 (lenI (List.set s103.2.2.2.2.2.2.2.2.2.2.2.2.1 (Int.toNat (iRem (iAnd .i64 s103.2.1 1023) (lenI s103.2.2.2.2.2.2.2.2.2.2.2.2.1))) (iXor .u8 (List.getD s103.2.2.2.2.2.2.2.2.2.2.2.2.1 (Int.toNat (iRem (iAnd .i64 s103.2.1 1023) (lenI s103.2.2.2.2.2.2.2.2.2.2.2.2.1))) 0) s103.2.2.2.1))) (iRem (iAnd .i64 s103.2.2.1 15) (iAdd .i64 (lenI (List.set s103.2.2.2.2.2.2.2.2.2.2.2.2.1 (Int.toNat (iRem (iAnd .i64 s103.2.1 1023) (lenI s103.2.2.2.2.2.2.2.2.2.2.2.2.1))) (iXor .u8 (List.getD s103.2.2.2.2.2.2.2.2.2.2.2.2.1 (Int.toNat (iRem (iAnd .i64 s103.2.1 1023) (lenI s103.2.2.2.2.2.2.2.2.2.2.2.2.1))) 0) s103.2.2.2.1))) 1))) - 0)) (List.drop 0 (List.set s103.2.2.2.2.2.2.2.2.2.2.2.2.1 (Int.toNat (iRem (iAnd .i64 s103.2.1 1023) (lenI s103.2.2.2.2.2.2.2.2.2.2.2.2.1))) (iXor .u8 (List.getD s103.2.2.2.2.2.2.2.2.2.2.2.2.1 (Int.toNat (iRem (iAnd .i64 s103.2.1 1023) (lenI s103.2.2.2.2.2.2.2.2.2.2.2.2.1))) 0) s103.2.2.2.1)))] : List (List Int)), ())) none) none) none) none) none) none) none)
     (loopO (S := Int × Int × (List Int) × Int × Int × Int × Bool × (List (List Int)) × Unit) (R := Bool × Unit) (fun s113 =>
       cond (iLt s113.2.1 s113.1)
       (cond (bnd s113.2.1 (lenI s113.2.2.2.2.2.2.2.1))
        (cond (inB (Int.toNat s113.2.1) s113.2.2.2.2.2.2.2.1)
         ((m19 (List.getD s113.2.2.2.2.2.2.2.1 (Int.toNat s113.2.1) [])).bind fun y114 =>
          (m20 (List.getD s113.2.2.2.2.2.2.2.1 (Int.toNat s113.2.1) [])).bind fun y115 =>
          (m21 y114.1 y115.1).bind fun y116 =>
          cond (cond (not y116.1) true (iNe y114.2.1 y115.2.1))
          (some (.inr (false, ())))
          ((m22 (List.getD s113.2.2.2.2.2.2.2.1 (Int.toNat s113.2.1) [], s113.2.2.2.1, s113.2.2.2.2.1, s113.2.2.2.2.2.1, s113.2.2.2.2.2.2.1, ())).bind fun y117 =>
           (m23 (List.getD s113.2.2.2.2.2.2.2.1 (Int.toNat s113.2.1) [], s113.2.2.2.1, s113.2.2.2.2.1, s113.2.2.2.2.2.1, s113.2.2.2.2.2.2.1, ())).bind fun y118 =>
           (m13 y117.1 y118.1).bind fun y119 =>
           cond (not y119.1)
           (some (.inr (false, ())))
           (some (.inl (s113.1, iAdd .i64 s113.2.1 1, List.getD s113.2.2.2.2.2.2.2.1 (Int.toNat s113.2.1) [], s113.2.2.2.1, s113.2.2.2.2.1, s113.2.2.2.2.2.1, s113.2.2.2.2.2.2.1, s113.2.2.2.2.2.2.2.1, ()))))) none) none)
       (Option.map Sum.inr ((m16).bind fun y120 =>
         some (y120.1, ()))))
      (lenI ([s103.1, s103.2.2.2.2.2.2.2.2.2.2.2.2.1] : List (List Int)), 0, s103.2.2.2.2.2.2.2.1, s103.2.2.2.2.2.2.2.2.1, s103.2.2.2.2.2.2.2.2.2.1, s103.2.2.2.2.2.2.2.2.2.2.1, s103.2.2.2.2.2.2.2.2.2.2.2.1, ([s103.1, s103.2.2.2.2.2.2.2.2.2.2.2.2.1] : List (List Int)), ())))))
  (y101.1, a2, a3, a4, y102.1, lenI y102.1, 0, a5.1, a5.2.1, a5.2.2.1, a5.2.2.2.1, a5.2.2.2.2.1, ([] : List Int), ())
noncomputable def cfg5 : Cfg := ⟨ttab, gtab, [i13, i16, i18, i19, i20, i21, i22, i23, i7, i9], []⟩
theorem eqn5 (x : (List Int) × (List (List Int)) × Int × Int × Int × DS0 × Unit) : xfun cfg5 x5 106 [.t 12] [(.list (.int .u8)), (.list (.list (.int .u8))), (.int .i64), (.int .i64), (.int .u8), tS0] [.bool] x = m5 x.1 x.2.1 x.2.2.1 x.2.2.2.1 x.2.2.2.2.1 x.2.2.2.2.2.1 := by kernel_rfl
noncomputable def i5 : PI := ⟨5, [(.list (.int .u8)), (.list (.list (.int .u8))), (.int .i64), (.int .i64), (.int .u8), tS0], [.bool], fun (x : (List Int) × (List (List Int)) × Int × Int × Int × DS0 × Unit) => m5 x.1 x.2.1 x.2.2.1 x.2.2.2.1 x.2.2.2.2.1 x.2.2.2.2.2.1⟩
theorem oki5 : POk Try.prog (gx gtab) i5 := pok mixed (cfg_p oki13 (cfg_p oki16 (cfg_p oki18 (cfg_p oki19 (cfg_p oki20 (cfg_p oki21 (cfg_p oki22 (cfg_p oki23 (cfg_p oki7 (cfg_p oki9 (cfg_nil _ _)))))))))) : CfgOk _ cfg5) F5 eqn5
/- 6 treaty/treatylaw41.JournalKeeps -/
def r6_0 : List Ins := [⟨some 8, none, .mov (.k (.bool false))⟩]
def r6_1 : List Ins := [⟨some 21, none, .mov (.t 0)⟩,
  ⟨some 22, none, .call 18 [(.t 21)]⟩,
  ⟨some 9, none, .mov (.t 22)⟩]
def r6_2 : List Ins := [⟨some 23, none, .mov (.t 9)⟩,
  ⟨some 24, none, .len (.t 23)⟩,
  ⟨some 25, none, .bin .eql (.t 24) (.k (.int .i64 0))⟩]
def r6_3 : List Ins := [⟨some 26, none, .call 16 []⟩,
  ⟨some 8, none, .mov (.t 26)⟩]
def r6_4 : List Ins := [⟨some 27, none, .mov (.t 1)⟩,
  ⟨some 28, none, .conv .i64 (.t 27)⟩,
  ⟨some 29, none, .mov (.t 9)⟩,
  ⟨some 30, none, .len (.t 29)⟩,
  ⟨some 31, none, .bin .rem (.t 28) (.t 30)⟩,
  ⟨some 10, none, .mov (.t 31)⟩]
def r6_5 : List Ins := [⟨some 32, none, .mov (.t 2)⟩,
  ⟨some 33, none, .conv .i64 (.t 32)⟩,
  ⟨some 34, none, .bin .rem (.t 33) (.k (.int .i64 60))⟩,
  ⟨some 11, none, .mov (.t 34)⟩]
def r6_6 : List Ins := [⟨some 35, none, .build [.slice none 0 0, .int .i64 0, .int .i64 0, .int .i64 0, .bool false] []⟩,
  ⟨some 36, none, .mov (.t 10)⟩,
  ⟨some 37, none, .bin .add (.t 36) (.k (.int .i64 1))⟩,
  ⟨some 38, none, .mov (.t 11)⟩,
  ⟨some 39, none, .call 24 [(.t 35), (.t 37), (.t 38)]⟩,
  ⟨some 12, none, .alloc 24 (.agg #[.slice none 0 0, .int .i64 0, .int .i64 0, .int .i64 0, .bool false])⟩,
  ⟨none, none, .store 5 (.t 12) (.t 39)⟩]
def r6_7 : List Ins := [⟨some 13, none, .mov (.k (.int .i64 0))⟩]
def r6_8 : List Ins := [⟨some 40, none, .mov (.t 13)⟩,
  ⟨some 41, none, .mov (.t 10)⟩,
  ⟨some 42, none, .bin .leq (.t 40) (.t 41)⟩]
def r6_9 : List (Nat × Ins) := [(1, ⟨some 46, none, .load 5 true (.t 12)⟩),
  (0, ⟨some 47, none, .mov (.t 9)⟩),
  (0, ⟨some 48, none, .mov (.t 13)⟩),
  (0, ⟨some 49, none, .iaddr 1 (.t 47) (.t 48)⟩),
  (1, ⟨some 50, none, .load 1 false (.t 49)⟩),
  (1, ⟨some 51, none, .call 10 [(.t 46), (.t 50)]⟩),
  (0, ⟨some 45, none, .mov (.t 51)⟩),
  (0, ⟨some 52, none, .ext 0 (.t 45)⟩),
  (0, ⟨some 53, none, .ext 1 (.t 45)⟩),
  (2, ⟨some 14, none, .alloc 24 (.agg #[.slice none 0 0, .int .i64 0, .int .i64 0, .int .i64 0, .bool false])⟩),
  (0, ⟨none, none, .store 5 (.t 14) (.t 52)⟩),
  (0, ⟨some 15, none, .mov (.t 53)⟩)]
def r6_10 : List Ins := [⟨some 54, none, .mov (.t 15)⟩,
  ⟨some 55, none, .bin .eql (.t 54) (.k (.int .i64 0))⟩,
  ⟨some 56, none, .mov (.t 13)⟩,
  ⟨some 57, none, .mov (.t 10)⟩,
  ⟨some 58, none, .bin .lss (.t 56) (.t 57)⟩,
  ⟨some 59, none, .beq true (.t 55) (.t 58)⟩,
  ⟨some 60, none, .mov (.t 59)⟩,
  ⟨some 61, some (60, false), .mov (.t 15)⟩,
  ⟨some 62, some (60, false), .bin .neq (.t 61) (.k (.int .i64 0))⟩,
  ⟨some 63, some (60, false), .mov (.t 62)⟩,
  ⟨some 64, some (63, true), .mov (.t 15)⟩,
  ⟨some 65, some (63, true), .bin .neq (.t 64) (.k (.int .i64 18))⟩,
  ⟨some 66, some (60, false), .pick (.t 63) (.t 65) (.k (.bool false))⟩,
  ⟨some 67, none, .pick (.t 60) (.k (.bool true)) (.t 66)⟩]
def r6_11 : List Ins := [⟨some 8, none, .mov (.k (.bool false))⟩]
def r6_12 : List Ins := [⟨some 68, none, .load 5 true (.t 14)⟩,
  ⟨none, none, .store 5 (.t 12) (.t 68)⟩]
def r6_13 : List Ins := [⟨some 43, none, .mov (.t 13)⟩,
  ⟨some 44, none, .bin .add (.t 43) (.k (.int .i64 1))⟩,
  ⟨some 13, none, .mov (.t 44)⟩]
def r6_14 : List Ins := [⟨some 69, none, .load 5 true (.t 12)⟩,
  ⟨some 70, none, .call 22 [(.t 69)]⟩,
  ⟨none, none, .store 5 (.t 12) (.t 70)⟩]
def r6_15 : List Ins := [⟨some 72, none, .faddr 0 (.t 12)⟩,
  ⟨some 73, none, .load 1 false (.t 72)⟩,
  ⟨some 74, none, .call 19 [(.t 73)]⟩,
  ⟨some 71, none, .mov (.t 74)⟩,
  ⟨some 75, none, .ext 0 (.t 71)⟩,
  ⟨some 76, none, .ext 1 (.t 71)⟩,
  ⟨some 16, none, .mov (.t 75)⟩,
  ⟨some 17, none, .mov (.t 76)⟩]
def r6_16 : List Ins := [⟨some 77, none, .mov (.t 9)⟩,
  ⟨some 78, none, .mov (.t 10)⟩,
  ⟨some 79, none, .slice 1 (.t 77) none (some (.t 78))⟩,
  ⟨some 18, none, .mov (.t 79)⟩]
def r6_17 : List Ins := [⟨some 80, none, .mov (.t 11)⟩,
  ⟨some 81, none, .mov (.t 9)⟩,
  ⟨some 82, none, .mov (.t 10)⟩,
  ⟨some 83, none, .iaddr 1 (.t 81) (.t 82)⟩,
  ⟨some 84, none, .load 1 false (.t 83)⟩,
  ⟨some 85, none, .len (.t 84)⟩,
  ⟨some 86, none, .bin .add (.t 85) (.k (.int .i64 6))⟩,
  ⟨some 87, none, .bin .geq (.t 80) (.t 86)⟩]
def r6_18 : List Ins := [⟨some 88, none, .mov (.t 9)⟩,
  ⟨some 89, none, .mov (.t 10)⟩,
  ⟨some 90, none, .bin .add (.t 89) (.k (.int .i64 1))⟩,
  ⟨some 91, none, .slice 1 (.t 88) none (some (.t 90))⟩,
  ⟨some 18, none, .mov (.t 91)⟩]
def r6_19 : List Ins := [⟨some 92, none, .mov (.t 16)⟩,
  ⟨some 93, none, .mov (.t 18)⟩,
  ⟨some 94, none, .call 21 [(.t 92), (.t 93)]⟩,
  ⟨some 95, none, .un .not (.t 94)⟩,
  ⟨some 96, none, .mov (.t 95)⟩,
  ⟨some 97, some (96, false), .mov (.t 17)⟩,
  ⟨some 98, some (96, false), .faddr 0 (.t 12)⟩,
  ⟨some 99, some (96, false), .load 1 false (.t 98)⟩,
  ⟨some 100, some (96, false), .len (.t 99)⟩,
  ⟨some 101, some (96, false), .bin .neq (.t 97) (.t 100)⟩,
  ⟨some 102, none, .pick (.t 96) (.k (.bool true)) (.t 101)⟩,
  ⟨some 103, none, .mov (.t 102)⟩,
  ⟨some 104, some (103, false), .faddr 4 (.t 12)⟩,
  ⟨some 105, some (103, false), .load 1 false (.t 104)⟩,
  ⟨some 106, none, .pick (.t 103) (.k (.bool true)) (.t 105)⟩]
def r6_20 : List Ins := [⟨some 8, none, .mov (.k (.bool false))⟩]
def r6_21 : List Ins := [⟨some 107, none, .bslice 5 1 [(.k (.int .u8 9))]⟩,
  ⟨some 108, none, .mov (.t 3)⟩,
  ⟨some 109, none, .call 7 [(.t 108)]⟩,
  ⟨some 110, none, .app 5 1 1 (.t 107) (.t 109)⟩,
  ⟨some 19, none, .mov (.t 110)⟩]
def r6_22 : List Ins := [⟨some 112, none, .load 5 true (.t 12)⟩,
  ⟨some 113, none, .mov (.t 19)⟩,
  ⟨some 114, none, .call 10 [(.t 112), (.t 113)]⟩,
  ⟨some 111, none, .mov (.t 114)⟩,
  ⟨some 115, none, .ext 0 (.t 111)⟩,
  ⟨some 116, none, .ext 1 (.t 111)⟩,
  ⟨none, none, .store 5 (.t 12) (.t 115)⟩,
  ⟨some 20, none, .mov (.t 116)⟩]
def r6_23 : List Ins := [⟨some 118, none, .faddr 0 (.t 12)⟩,
  ⟨some 119, none, .load 1 false (.t 118)⟩,
  ⟨some 120, none, .call 19 [(.t 119)]⟩,
  ⟨some 117, none, .mov (.t 120)⟩,
  ⟨some 121, none, .ext 0 (.t 117)⟩,
  ⟨some 122, none, .ext 1 (.t 117)⟩,
  ⟨some 16, none, .mov (.t 121)⟩]
def r6_24 : List Ins := [⟨some 123, none, .mov (.t 20)⟩,
  ⟨some 124, none, .bin .eql (.t 123) (.k (.int .i64 0))⟩,
  ⟨some 125, none, .mov (.t 124)⟩,
  ⟨some 126, some (125, true), .mov (.t 16)⟩,
  ⟨some 127, some (125, true), .bslice 22 1 []⟩,
  ⟨some 128, some (125, true), .mov (.t 18)⟩,
  ⟨some 129, some (125, true), .app 22 1 24 (.t 127) (.t 128)⟩,
  ⟨some 130, some (125, true), .mov (.t 19)⟩,
  ⟨some 131, some (125, true), .bslice 22 1 [(.t 130)]⟩,
  ⟨some 132, some (125, true), .app 22 1 24 (.t 129) (.t 131)⟩,
  ⟨some 133, some (125, true), .call 21 [(.t 126), (.t 132)]⟩,
  ⟨some 134, none, .pick (.t 125) (.t 133) (.k (.bool false))⟩,
  ⟨some 135, none, .mov (.t 134)⟩,
  ⟨some 136, some (135, true), .call 16 []⟩,
  ⟨some 137, none, .pick (.t 135) (.t 136) (.k (.bool false))⟩,
  ⟨some 8, none, .mov (.t 137)⟩]
def x6 : XC := (.seq (.ops false r6_0) (.seq (.ops false r6_1) (.seq (.seq (.ops false r6_2) (.cond (.t 25) (.seq (.ops false r6_3) .ret) .skip)) (.seq (.ops false r6_4) (.seq (.ops false r6_5) (.seq (.ops false r6_6) (.seq (.seq (.ops false r6_7) (.block 0 (.loop [] ⟨138, [(3, (.list (.int .u8))), (9, (.list (.list (.int .u8)))), (10, (.int .i64)), (11, (.int .i64)), (13, (.int .i64))], [(12, .ptr 0 0 0)], [.box 24 [.d (.list (.int .u8)), .d (.int .i64), .d (.int .i64), .d (.int .i64), .d .bool]]⟩ (.seq (.seq (.ops false r6_8) (.cond (.t 42) .skip (.exit 0))) (.seq (.block 1 (.seq (.rops r6_9) (.seq (.seq (.ops false r6_10) (.cond (.t 67) (.seq (.ops false r6_11) .ret) .skip)) (.ops false r6_12)))) (.ops false r6_13)))))) (.seq (.ops false r6_14) (.seq (.ops false r6_15) (.seq (.ops false r6_16) (.seq (.seq (.ops false r6_17) (.cond (.t 87) (.ops false r6_18) .skip)) (.seq (.seq (.ops false r6_19) (.cond (.t 106) (.seq (.ops false r6_20) .ret) .skip)) (.seq (.ops false r6_21) (.seq (.ops false r6_22) (.seq (.ops false r6_23) (.seq (.ops false r6_24) .ret))))))))))))))))
theorem F6 : Fn Try.prog 6 138 x6.er [.t 8] := ⟨Try.f6, Try.func6, by kernel_rfl, by kernel_rfl, by kernel_rfl⟩
noncomputable def m6 (a0 : List (List Int)) (a1 : Int) (a2 : Int) (a3 : List Int) : Option (Bool × Unit) :=
  (m18 a0).bind fun y140 =>
  cond (iEq (lenI y140.1) 0)
  ((m16).bind fun y141 =>
   some (y141.1, ()))
  (cond (iNe (lenI y140.1) 0)
   (cond (iNe 60 0)
    ((m24 (([] : List Int), 0, 0, 0, false, ()) (iAdd .i64 (iRem (IntKind.wrap .i64 a1) (lenI y140.1)) 1) (iRem (IntKind.wrap .i64 a2) 60)).bind fun y142 =>
     loopO (S := (List Int) × (List (List Int)) × Int × Int × Int × (List Int) × Int × Int × Int × Bool × Unit) (R := Bool × Unit) (fun s143 =>
      cond (iLe s143.2.2.2.2.1 s143.2.2.1)
      (cond (bnd s143.2.2.2.2.1 (lenI s143.2.1))
       ((m10 (s143.2.2.2.2.2.1, s143.2.2.2.2.2.2.1, s143.2.2.2.2.2.2.2.1, s143.2.2.2.2.2.2.2.2.1, s143.2.2.2.2.2.2.2.2.2.1, ()) (atI s143.2.1 s143.2.2.2.2.1 [])).bind fun y144 =>
        cond (not (bEq (iEq y144.2.1 0) (iLt s143.2.2.2.2.1 s143.2.2.1)))
        (some (.inr (false, ())))
        (cond (cond (iNe y144.2.1 0) (iNe y144.2.1 18) false)
         (some (.inr (false, ())))
         (some (.inl (s143.1, s143.2.1, s143.2.2.1, s143.2.2.2.1, iAdd .i64 s143.2.2.2.2.1 1, y144.1.1, y144.1.2.1, y144.1.2.2.1, y144.1.2.2.2.1, y144.1.2.2.2.2.1, ()))))) none)
      (Option.map Sum.inr ((m22 (s143.2.2.2.2.2.1, s143.2.2.2.2.2.2.1, s143.2.2.2.2.2.2.2.1, s143.2.2.2.2.2.2.2.2.1, s143.2.2.2.2.2.2.2.2.2.1, ())).bind fun y145 =>
        (m19 y145.1.1).bind fun y146 =>
        cond (cutOk 0 s143.2.2.1 (List.length s143.2.1))
        (cond (bnd s143.2.2.1 (lenI s143.2.1))
         (cond (iLe (iAdd .i64 (lenI (atI s143.2.1 s143.2.2.1 [])) 6) s143.2.2.2.1)
          (cond (cutOk 0 (iAdd .i64 s143.2.2.1 1) (List.length s143.2.1))
           ((m21 y146.1 (cutL 0 (iAdd .i64 s143.2.2.1 1) s143.2.1)).bind fun y147 =>
            cond (cond (cond (not y147.1) true (iNe y146.2.1 (lenI y145.1.1))) true y145.1.2.2.2.2.1)
            (some (false, ()))
            ((m7 s143.1).bind fun y148 =>
             cond (fits (List.length ([9] : List Int) + List.length y148.1) 1)
             ((m10 (y145.1.1, y145.1.2.1, y145.1.2.2.1, y145.1.2.2.2.1, y145.1.2.2.2.2.1, ()) (([9] : List Int) ++ y148.1)).bind fun y149 =>
              (m19 y149.1.1).bind fun y150 =>
              cond (iEq y149.2.1 0)
              (cond (fits (List.length ([] : List (List Int)) + List.length (cutL 0 (iAdd .i64 s143.2.2.1 1) s143.2.1)) 24)
               (cond (fits (List.length (([] : List (List Int)) ++ (cutL 0 (iAdd .i64 s143.2.2.1 1) s143.2.1)) + List.length ([([9] : List Int) ++ y148.1] : List (List Int))) 24)
                ((m21 y150.1 ((([] : List (List Int)) ++ (cutL 0 (iAdd .i64 s143.2.2.1 1) s143.2.1)) ++ ([([9] : List Int) ++ y148.1] : List (List Int)))).bind fun y151 =>
                 cond y151.1
                 ((m16).bind fun y152 =>
                  some (y152.1, ()))
                 (some (false, ()))) none) none)
              (some (false, ()))) none)) none)
          ((m21 y146.1 (cutL 0 s143.2.2.1 s143.2.1)).bind fun y153 =>
           cond (cond (cond (not y153.1) true (iNe y146.2.1 (lenI y145.1.1))) true y145.1.2.2.2.2.1)
           (some (false, ()))
           ((m7 s143.1).bind fun y154 =>
            cond (fits (List.length ([9] : List Int) + List.length y154.1) 1)
            ((m10 (y145.1.1, y145.1.2.1, y145.1.2.2.1, y145.1.2.2.2.1, y145.1.2.2.2.2.1, ()) (([9] : List Int) ++ y154.1)).bind fun y155 =>
             (m19 y155.1.1).bind fun y156 =>
             cond (iEq y155.2.1 0)
             (cond (fits (List.length ([] : List (List Int)) + List.length (cutL 0 s143.2.2.1 s143.2.1)) 24)
              (cond (fits (List.length (([] : List (List Int)) ++ (cutL 0 s143.2.2.1 s143.2.1)) + List.length ([([9] : List Int) ++ y154.1] : List (List Int))) 24)
               ((m21 y156.1 ((([] : List (List Int)) ++ (cutL 0 s143.2.2.1 s143.2.1)) ++ ([([9] : List Int) ++ y154.1] : List (List Int)))).bind fun y157 =>
                cond y157.1
                ((m16).bind fun y158 =>
                 some (y158.1, ()))
                (some (false, ()))) none) none)
             (some (false, ()))) none))) none) none)))
     (a3, y140.1, iRem (IntKind.wrap .i64 a1) (lenI y140.1), iRem (IntKind.wrap .i64 a2) 60, 0, y142.1.1, y142.1.2.1, y142.1.2.2.1, y142.1.2.2.2.1, y142.1.2.2.2.2.1, ())) none) none)
noncomputable def cfg6 : Cfg := ⟨ttab, gtab, [i10, i16, i18, i19, i21, i22, i24, i7], []⟩
theorem eqn6 (x : (List (List Int)) × Int × Int × (List Int) × Unit) : xfun cfg6 x6 138 [.t 8] [(.list (.list (.int .u8))), (.int .u8), (.int .u16), (.list (.int .u8))] [.bool] x = m6 x.1 x.2.1 x.2.2.1 x.2.2.2.1 := by kernel_rfl
noncomputable def i6 : PI := ⟨6, [(.list (.list (.int .u8))), (.int .u8), (.int .u16), (.list (.int .u8))], [.bool], fun (x : (List (List Int)) × Int × Int × (List Int) × Unit) => m6 x.1 x.2.1 x.2.2.1 x.2.2.2.1⟩
theorem oki6 : POk Try.prog (gx gtab) i6 := pok mixed (cfg_p oki10 (cfg_p oki16 (cfg_p oki18 (cfg_p oki19 (cfg_p oki21 (cfg_p oki22 (cfg_p oki24 (cfg_p oki7 (cfg_nil _ _)))))))) : CfgOk _ cfg6) F6 eqn6
end Abs
end Go.Proofs.Ytpffhaligaebaaa
