/- The functions' models on the typed machine, printed by a program of mine; that they are the code's is checked by the kernel. -/
import Derived.Test.YtbghnjkieghloaaXI
import Derived.Test.YtbghnjkieghloaaProg
import Derived.KernelRfl
namespace Go.Proofs.Ytbghnjkieghloaa
namespace Abs
set_option maxRecDepth 100000
set_option linter.unusedVariables false
theorem mixed : Try.prog.follows .mixedOrders = true := by kernel_rfl
abbrev tS0 : Ty := .tup [(.int .i64), (.int .i64), (.int .i64), (.int .i64), (.int .i64), (.int .i64), (.int .i64), (.int .i64), (.int .i64), (.int .i64)]
abbrev DS0 : Type := Int × Int × Int × Int × Int × Int × Int × Int × Int × Int × Unit
abbrev tS1 : Ty := .tup [(.int .i64), (.list tS0), (.int .i64), (.int .i64), (.int .i64), (.int .i64)]
abbrev DS1 : Type := Int × (List DS0) × Int × Int × Int × Int × Unit
abbrev tS2 : Ty := .tup [(.int .i64), (.int .i64)]
abbrev DS2 : Type := Int × Int × Unit
abbrev tS3 : Ty := .tup [(.int .i64), (.int .i64), tS2, (.list (.int .i64)), (.list (.int .i64)), (.int .i64), (.int .i64), (.int .i64), (.int .i64), (.int .i64), (.int .i64), (.int .i64), (.int .i64), (.int .i64), (.int .i64), (.list (.int .i64)), .bool, (.int .i64), (.list (.int .i64)), (.list tS2)]
abbrev DS3 : Type := Int × Int × DS2 × (List Int) × (List Int) × Int × Int × Int × Int × Int × Int × Int × Int × Int × Int × (List Int) × Bool × Int × (List Int) × (List DS2) × Unit
abbrev tS4 : Ty := .tup [(.int .i64), (.int .i64), (.int .i64)]
abbrev DS4 : Type := Int × Int × Int × Unit
abbrev tS5 : Ty := .tup [(.int .i64), (.int .i64), (.int .i64), (.int .i64), (.int .i64)]
abbrev DS5 : Type := Int × Int × Int × Int × Int × Unit
abbrev tS6 : Ty := .tup [(.int .i64), (.int .i64), tS5]
abbrev DS6 : Type := Int × Int × DS5 × Unit
abbrev tS7 : Ty := .tup [(.int .i64), (.int .i64), (.int .i64), (.list tS6)]
abbrev DS7 : Type := Int × Int × Int × (List DS6) × Unit
abbrev tS8 : Ty := .tup [(.int .i64), (.list tS3), (.list tS2), (.list tS4)]
abbrev DS8 : Type := Int × (List DS3) × (List DS2) × (List DS4) × Unit
def ttab : Nat → Option Ty := fun n => if Nat.beq n 3 = true then some (.int .i64) else if Nat.beq n 5 = true then some (.int .u8) else if Nat.beq n 22 = true then some (.list (.int .u8)) else if Nat.beq n 38 = true then some tS1 else if Nat.beq n 50 = true then some tS7 else if Nat.beq n 76 = true then some tS0 else if Nat.beq n 92 = true then some tS5 else if Nat.beq n 94 = true then some tS6 else if Nat.beq n 107 = true then some tS3 else if Nat.beq n 116 = true then some tS2 else none
def gtab : GXT := fun _ => none
def hcl : List Nat := [11, 18, 25, 32, 36, 37, 38, 44, 45, 46, 47, 48, 50, 52, 53, 54, 55, 56, 57, 58, 59, 62, 64, 65, 66, 79, 80, 81, 82, 83, 86]
/- 33 treaty/amount.Valid -/
def r33_0 : List Ins := [⟨some 2, none, .mov (.k (.bool false))⟩]
def r33_1 : List Ins := [⟨some 3, none, .mov (.t 0)⟩,
  ⟨some 4, none, .bin .leq (.k (.int .i64 (-17592186044416))) (.t 3)⟩,
  ⟨some 5, none, .mov (.t 4)⟩,
  ⟨some 6, some (5, true), .mov (.t 0)⟩,
  ⟨some 7, some (5, true), .bin .leq (.t 6) (.k (.int .i64 17592186044416))⟩,
  ⟨some 8, none, .pick (.t 5) (.t 7) (.k (.bool false))⟩,
  ⟨some 2, none, .mov (.t 8)⟩]
def x33 : XC := (.seq (.ops false r33_0) (.seq (.ops false r33_1) .ret))
theorem F33 : Fn Try.prog 33 9 x33.er [.t 2] := ⟨Try.f33, hcl, Try.func33, by kernel_rfl, by kernel_rfl, by kernel_rfl, by kernel_rfl⟩
noncomputable def m33 (a0 : Int) : Option (Bool × Unit) :=
  some (cond (iLe (-17592186044416) a0) (iLe a0 17592186044416) false, ())
noncomputable def cfg33 : Cfg := ⟨ttab, gtab, [], []⟩
theorem eqn33 (x : Int × Unit) : xfun cfg33 x33 9 [.t 2] [(.int .i64)] [.bool] x = m33 x.1 := by kernel_rfl
noncomputable def i33 : PI := ⟨33, [(.int .i64)], [.bool], fun (x : Int × Unit) => m33 x.1⟩
theorem oki33 : POk Try.prog (gx gtab) i33 := pok mixed (cfg_nil _ _ : CfgOk _ cfg33) F33 eqn33
/- 34 treaty/codec.appendTo -/
def r34_0 : List Ins := [⟨some 4, none, .mov (.k (.slice none 0 0))⟩]
def r34_1 : List Ins := [⟨some 6, none, .mov (.t 1)⟩,
  ⟨some 7, none, .conv .u64 (.t 6)⟩,
  ⟨some 8, none, .bin .shl (.t 7) (.k (.int .u64 1))⟩,
  ⟨some 5, none, .mov (.t 8)⟩]
def r34_2 : List Ins := [⟨some 9, none, .mov (.t 1)⟩,
  ⟨some 10, none, .bin .lss (.t 9) (.k (.int .i64 0))⟩]
def r34_3 : List Ins := [⟨some 11, none, .mov (.t 1)⟩,
  ⟨some 12, none, .un .neg (.t 11)⟩,
  ⟨some 13, none, .conv .u64 (.t 12)⟩,
  ⟨some 14, none, .bin .shl (.t 13) (.k (.int .u64 1))⟩,
  ⟨some 15, none, .bin .sub (.t 14) (.k (.int .u64 1))⟩,
  ⟨some 5, none, .mov (.t 15)⟩]
def r34_4 : List Ins := [⟨some 16, none, .mov (.t 5)⟩,
  ⟨some 17, none, .bin .geq (.t 16) (.k (.int .u64 128))⟩]
def r34_5 : List Ins := [⟨some 18, none, .mov (.t 0)⟩,
  ⟨some 19, none, .mov (.t 5)⟩,
  ⟨some 20, none, .bin .and (.t 19) (.k (.int .u64 127))⟩,
  ⟨some 21, none, .conv .u8 (.t 20)⟩,
  ⟨some 22, none, .bin .or (.t 21) (.k (.int .u8 128))⟩,
  ⟨some 23, none, .bslice 5 1 [(.t 22)]⟩,
  ⟨some 24, none, .app 5 1 1 (.t 18) (.t 23)⟩,
  ⟨some 0, none, .mov (.t 24)⟩]
def r34_6 : List Ins := [⟨some 25, none, .mov (.t 5)⟩,
  ⟨some 26, none, .bin .shr (.t 25) (.k (.int .u64 7))⟩,
  ⟨some 5, none, .mov (.t 26)⟩]
def r34_7 : List Ins := [⟨some 27, none, .mov (.t 0)⟩,
  ⟨some 28, none, .mov (.t 5)⟩,
  ⟨some 29, none, .conv .u8 (.t 28)⟩,
  ⟨some 30, none, .bslice 5 1 [(.t 29)]⟩,
  ⟨some 31, none, .app 5 1 1 (.t 27) (.t 30)⟩,
  ⟨some 4, none, .mov (.t 31)⟩]
def x34 : XC := (.seq (.ops false r34_0) (.seq (.ops false r34_1) (.seq (.seq (.ops false r34_2) (.cond (.t 10) (.ops false r34_3) .skip)) (.seq (.block 0 (.loop [] ⟨32, [(5, (.int .u64))], [(0, .row 0)], [.row 5 (.int .u8) false]⟩ (.seq (.seq (.ops false r34_4) (.cond (.t 17) .skip (.exit 0))) (.block 1 (.seq (.ops false r34_5) (.ops false r34_6)))))) (.seq (.ops false r34_7) .ret)))))
theorem F34 : Fn Try.prog 34 32 x34.er [.t 4] := ⟨Try.f34, hcl, Try.func34, by kernel_rfl, by kernel_rfl, by kernel_rfl, by kernel_rfl⟩
noncomputable def m34 (a0 : Int) (a1 : List Int) : Option ((List Int) × Unit) :=
  cond (iLe 0 1)
  (cond (iLt a0 0)
   (cond (iLe 0 1)
    (loopO (S := Int × (List Int) × Unit) (R := (List Int) × Unit) (fun s6 =>
      cond (iLe 128 s6.1)
      (cond (fits (List.length s6.2.1 + List.length ([iOr .u8 (IntKind.wrap .u8 (iAnd .u64 s6.1 127)) 128] : List Int)) 1)
       (cond (iLe 0 7)
        (some (.inl (iShr .u64 s6.1 7, s6.2.1 ++ ([iOr .u8 (IntKind.wrap .u8 (iAnd .u64 s6.1 127)) 128] : List Int), ()))) none) none)
      (Option.map Sum.inr (cond (fits (List.length s6.2.1 + List.length ([IntKind.wrap .u8 s6.1] : List Int)) 1)
        (some (s6.2.1 ++ ([IntKind.wrap .u8 s6.1] : List Int), ())) none)))
     (iSub .u64 (iShl .u64 (IntKind.wrap .u64 (iNeg .i64 a0)) 1) 1, a1, ())) none)
   (loopO (S := Int × (List Int) × Unit) (R := (List Int) × Unit) (fun s7 =>
     cond (iLe 128 s7.1)
     (cond (fits (List.length s7.2.1 + List.length ([iOr .u8 (IntKind.wrap .u8 (iAnd .u64 s7.1 127)) 128] : List Int)) 1)
      (cond (iLe 0 7)
       (some (.inl (iShr .u64 s7.1 7, s7.2.1 ++ ([iOr .u8 (IntKind.wrap .u8 (iAnd .u64 s7.1 127)) 128] : List Int), ()))) none) none)
     (Option.map Sum.inr (cond (fits (List.length s7.2.1 + List.length ([IntKind.wrap .u8 s7.1] : List Int)) 1)
       (some (s7.2.1 ++ ([IntKind.wrap .u8 s7.1] : List Int), ())) none)))
    (iShl .u64 (IntKind.wrap .u64 a0) 1, a1, ()))) none
noncomputable def cfg34 : Cfg := ⟨ttab, gtab, [], []⟩
def ish34 : Sh := ⟨2, [(1, (.int .i64))], [(0, .row 0)], [.row 5 (.int .u8) false]⟩
def osh34 : Sh := ⟨1, [], [(0, .row 0)], [.row 5 (.int .u8) false]⟩
theorem eqn34 (x : Int × (List Int) × Unit) : xfunH cfg34 x34 32 [.t 4] [] ish34 osh34 x = m34 x.1 x.2.1 := by kernel_rfl
noncomputable def h34 : HI := ⟨34, ish34, osh34, fun (x : Int × (List Int) × Unit) => m34 x.1 x.2.1⟩
theorem okh34 : HOk Try.prog (gx gtab) h34 := hok mixed (cfg_nil _ _ : CfgOk _ cfg34) F34 eqn34
/- 13 treaty/codec.AppendNumber -/
def r13_0 : List Ins := [⟨some 4, none, .mov (.k (.slice none 0 0))⟩,
  ⟨some 5, none, .mov (.k (.int .i64 0))⟩]
def r13_1 : List Ins := [⟨some 6, none, .mov (.t 1)⟩,
  ⟨some 7, none, .call (.k (.func (.func 33) #[] #[])) [(.t 6)]⟩,
  ⟨some 8, none, .un .not (.t 7)⟩]
def r13_2 : List Ins := [⟨some 4, none, .mov (.k (.slice none 0 0))⟩,
  ⟨some 5, none, .mov (.k (.int .i64 1))⟩]
def r13_3 : List Ins := [⟨some 9, none, .mov (.t 0)⟩,
  ⟨some 10, none, .app 5 1 1 (.k (.slice none 0 0)) (.t 9)⟩,
  ⟨some 11, none, .mov (.t 1)⟩,
  ⟨some 12, none, .call (.k (.func (.func 34) #[] #[])) [(.t 10), (.t 11)]⟩,
  ⟨some 4, none, .mov (.t 12)⟩,
  ⟨some 5, none, .mov (.k (.int .i64 0))⟩]
def x13 : XC := (.seq (.ops false r13_0) (.seq (.seq (.ops false r13_1) (.cond (.t 8) (.seq (.ops false r13_2) .ret) .skip)) (.seq (.ops false r13_3) .ret)))
theorem F13 : Fn Try.prog 13 13 x13.er [.t 4, .t 5] := ⟨Try.f13, hcl, Try.func13, by kernel_rfl, by kernel_rfl, by kernel_rfl, by kernel_rfl⟩
noncomputable def m13 (a0 : List Int) (a1 : Int) : Option ((List Int) × Int × Unit) :=
  (m33 a1).bind fun y1 =>
  cond (not y1.1)
  (some (([] : List Int), 1, ()))
  (cond (fits (List.length a0) 1)
   ((m34 a1 a0).bind fun y8 =>
    some (y8.1, 0, ())) none)
noncomputable def cfg13 : Cfg := ⟨ttab, gtab, [i33], [h34]⟩
theorem eqn13 (x : (List Int) × Int × Unit) : xfun cfg13 x13 13 [.t 4, .t 5] [(.list (.int .u8)), (.int .i64)] [(.list (.int .u8)), (.int .i64)] x = m13 x.1 x.2.1 := by kernel_rfl
noncomputable def i13 : PI := ⟨13, [(.list (.int .u8)), (.int .i64)], [(.list (.int .u8)), (.int .i64)], fun (x : (List Int) × Int × Unit) => m13 x.1 x.2.1⟩
theorem oki13 : POk Try.prog (gx gtab) i13 := pok mixed (cfg_p oki33 (cfg_h okh34 (cfg_nil _ _)) : CfgOk _ cfg13) F13 eqn13
/- 39 treaty/codec.known -/
def r39_0 : List Ins := [⟨some 2, none, .mov (.k (.bool false))⟩]
def r39_1 : List Ins := [⟨some 3, none, .mov (.t 0)⟩,
  ⟨some 4, none, .bin .geq (.t 3) (.k (.int .i64 1))⟩,
  ⟨some 5, none, .mov (.t 4)⟩,
  ⟨some 6, some (5, true), .mov (.t 0)⟩,
  ⟨some 7, some (5, true), .bin .leq (.t 6) (.k (.int .i64 5))⟩,
  ⟨some 8, none, .pick (.t 5) (.t 7) (.k (.bool false))⟩,
  ⟨some 2, none, .mov (.t 8)⟩]
def x39 : XC := (.seq (.ops false r39_0) (.seq (.ops false r39_1) .ret))
theorem F39 : Fn Try.prog 39 9 x39.er [.t 2] := ⟨Try.f39, hcl, Try.func39, by kernel_rfl, by kernel_rfl, by kernel_rfl, by kernel_rfl⟩
noncomputable def m39 (a0 : Int) : Option (Bool × Unit) :=
  some (cond (iLe 1 a0) (iLe a0 5) false, ())
noncomputable def cfg39 : Cfg := ⟨ttab, gtab, [], []⟩
theorem eqn39 (x : Int × Unit) : xfun cfg39 x39 9 [.t 2] [(.int .i64)] [.bool] x = m39 x.1 := by kernel_rfl
noncomputable def i39 : PI := ⟨39, [(.int .i64)], [.bool], fun (x : Int × Unit) => m39 x.1⟩
theorem oki39 : POk Try.prog (gx gtab) i39 := pok mixed (cfg_nil _ _ : CfgOk _ cfg39) F39 eqn39
/- 40 treaty/codec.plain -/
def r40_0 : List Ins := [⟨some 1, none, .box 38 6 (.t 0)⟩,
  ⟨some 2, none, .mov (.k (.slice none 0 0))⟩,
  ⟨some 3, none, .alloc 38 (.agg #[.int .i64 0, .slice none 0 0, .int .i64 0, .int .i64 0, .int .i64 0, .int .i64 0])⟩]
def r40_1 : List Ins := [⟨some 5, none, .faddr 0 (.t 1)⟩,
  ⟨some 6, none, .load 1 false (.t 5)⟩,
  ⟨some 7, none, .build [.int .i64 0, .slice none 0 0, .int .i64 0, .int .i64 0, .int .i64 0, .int .i64 0] [(0, 1, (.t 6))]⟩,
  ⟨some 4, none, .alloc 38 (.agg #[.int .i64 0, .slice none 0 0, .int .i64 0, .int .i64 0, .int .i64 0, .int .i64 0])⟩,
  ⟨none, none, .store 6 (.t 4) (.t 7)⟩]
def r40_2 : List Ins := [⟨some 8, none, .faddr 0 (.t 1)⟩,
  ⟨some 9, none, .load 1 false (.t 8)⟩]
def r40_3 : List Ins := [⟨some 11, none, .bin .eql (.t 9) (.k (.int .i64 3))⟩,
  ⟨some 10, none, .mov (.t 11)⟩]
def r40_4 : List (Nat × Ins) := [(0, ⟨some 12, none, .faddr 2 (.t 1)⟩),
  (0, ⟨some 13, none, .load 1 false (.t 12)⟩),
  (0, ⟨some 14, none, .faddr 4 (.t 1)⟩),
  (1, ⟨some 15, none, .load 1 false (.t 14)⟩),
  (0, ⟨some 16, none, .faddr 2 (.t 4)⟩),
  (2, ⟨none, none, .store 1 (.t 16) (.t 13)⟩),
  (0, ⟨some 17, none, .faddr 4 (.t 4)⟩),
  (0, ⟨none, none, .store 1 (.t 17) (.t 15)⟩)]
def r40_5 : List (Nat × Ins) := [(0, ⟨some 18, none, .faddr 2 (.t 1)⟩),
  (0, ⟨some 19, none, .load 1 false (.t 18)⟩),
  (0, ⟨some 20, none, .faddr 4 (.t 1)⟩),
  (0, ⟨some 21, none, .load 1 false (.t 20)⟩),
  (2, ⟨some 22, none, .bslice 3 1 [(.t 19), (.t 21)]⟩),
  (1, ⟨some 23, none, .load 6 true (.t 4)⟩),
  (0, ⟨some 2, none, .mov (.t 22)⟩),
  (0, ⟨none, none, .store 6 (.t 3) (.t 23)⟩)]
def r40_6 : List Ins := [⟨some 25, none, .bin .eql (.t 9) (.k (.int .i64 4))⟩,
  ⟨some 24, none, .mov (.t 25)⟩]
def r40_7 : List (Nat × Ins) := [(0, ⟨some 26, none, .faddr 2 (.t 1)⟩),
  (0, ⟨some 27, none, .load 1 false (.t 26)⟩),
  (0, ⟨some 28, none, .faddr 4 (.t 1)⟩),
  (1, ⟨some 29, none, .load 1 false (.t 28)⟩),
  (0, ⟨some 30, none, .faddr 5 (.t 1)⟩),
  (1, ⟨some 31, none, .load 1 false (.t 30)⟩),
  (0, ⟨some 32, none, .faddr 2 (.t 4)⟩),
  (2, ⟨none, none, .store 1 (.t 32) (.t 27)⟩),
  (0, ⟨some 33, none, .faddr 4 (.t 4)⟩),
  (2, ⟨none, none, .store 1 (.t 33) (.t 29)⟩),
  (0, ⟨some 34, none, .faddr 5 (.t 4)⟩),
  (0, ⟨none, none, .store 1 (.t 34) (.t 31)⟩)]
def r40_8 : List (Nat × Ins) := [(0, ⟨some 35, none, .faddr 2 (.t 1)⟩),
  (0, ⟨some 36, none, .load 1 false (.t 35)⟩),
  (0, ⟨some 37, none, .faddr 4 (.t 1)⟩),
  (0, ⟨some 38, none, .load 1 false (.t 37)⟩),
  (0, ⟨some 39, none, .faddr 5 (.t 1)⟩),
  (0, ⟨some 40, none, .load 1 false (.t 39)⟩),
  (2, ⟨some 41, none, .bslice 3 1 [(.t 36), (.t 38), (.t 40)]⟩),
  (1, ⟨some 42, none, .load 6 true (.t 4)⟩),
  (0, ⟨some 2, none, .mov (.t 41)⟩),
  (0, ⟨none, none, .store 6 (.t 3) (.t 42)⟩)]
def r40_9 : List Ins := [⟨some 44, none, .bin .eql (.t 9) (.k (.int .i64 5))⟩,
  ⟨some 43, none, .mov (.t 44)⟩]
def r40_10 : List (Nat × Ins) := [(0, ⟨some 45, none, .faddr 2 (.t 1)⟩),
  (0, ⟨some 46, none, .load 1 false (.t 45)⟩),
  (0, ⟨some 47, none, .faddr 3 (.t 1)⟩),
  (1, ⟨some 48, none, .load 1 false (.t 47)⟩),
  (0, ⟨some 49, none, .faddr 2 (.t 4)⟩),
  (2, ⟨none, none, .store 1 (.t 49) (.t 46)⟩),
  (0, ⟨some 50, none, .faddr 3 (.t 4)⟩),
  (0, ⟨none, none, .store 1 (.t 50) (.t 48)⟩)]
def r40_11 : List (Nat × Ins) := [(0, ⟨some 51, none, .faddr 2 (.t 1)⟩),
  (0, ⟨some 52, none, .load 1 false (.t 51)⟩),
  (0, ⟨some 53, none, .faddr 3 (.t 1)⟩),
  (0, ⟨some 54, none, .load 1 false (.t 53)⟩),
  (2, ⟨some 55, none, .bslice 3 1 [(.t 52), (.t 54)]⟩),
  (1, ⟨some 56, none, .load 6 true (.t 4)⟩),
  (0, ⟨some 2, none, .mov (.t 55)⟩),
  (0, ⟨none, none, .store 6 (.t 3) (.t 56)⟩)]
def r40_12 : List Ins := [⟨some 57, none, .load 6 true (.t 4)⟩,
  ⟨some 2, none, .mov (.k (.slice none 0 0))⟩,
  ⟨none, none, .store 6 (.t 3) (.t 57)⟩]
def x40 : XC := (.seq (.ops false r40_0) (.seq (.ops false r40_1) (.seq (.seq (.ops false r40_2) (.block 0 (.seq (.ops false r40_3) (.cond (.t 10) (.seq (.rops [2] r40_4) (.seq (.rops [] r40_5) .ret)) (.seq (.ops false r40_6) (.cond (.t 24) (.seq (.rops [2] r40_7) (.seq (.rops [] r40_8) .ret)) (.seq (.ops false r40_9) (.cond (.t 43) (.seq (.rops [2] r40_10) (.seq (.rops [] r40_11) .ret)) .skip)))))))) (.seq (.ops true r40_12) .ret))))
theorem F40 : Fn Try.prog 40 58 x40.er [.t 2, .c 3 6 true] := ⟨Try.f40, hcl, Try.func40, by kernel_rfl, by kernel_rfl, by kernel_rfl, by kernel_rfl⟩
noncomputable def m40 (a0 : DS1) : Option ((List Int) × DS1 × Unit) :=
  cond (iEq a0.1 3)
  (some (([a0.2.2.1, a0.2.2.2.2.1] : List Int), (a0.1, ([] : List DS0), a0.2.2.1, 0, a0.2.2.2.2.1, 0, ()), ()))
  (cond (iEq a0.1 4)
   (some (([a0.2.2.1, a0.2.2.2.2.1, a0.2.2.2.2.2.1] : List Int), (a0.1, ([] : List DS0), a0.2.2.1, 0, a0.2.2.2.2.1, a0.2.2.2.2.2.1, ()), ()))
   (cond (iEq a0.1 5)
    (some (([a0.2.2.1, a0.2.2.2.1] : List Int), (a0.1, ([] : List DS0), a0.2.2.1, a0.2.2.2.1, 0, 0, ()), ()))
    (some (([] : List Int), (a0.1, ([] : List DS0), 0, 0, 0, 0, ()), ()))))
noncomputable def cfg40 : Cfg := ⟨ttab, gtab, [], []⟩
theorem eqn40 (x : DS1 × Unit) : xfun cfg40 x40 58 [.t 2, .c 3 6 true] [tS1] [(.list (.int .i64)), tS1] x = m40 x.1 := by kernel_rfl
noncomputable def i40 : PI := ⟨40, [tS1], [(.list (.int .i64)), tS1], fun (x : DS1 × Unit) => m40 x.1⟩
theorem oki40 : POk Try.prog (gx gtab) i40 := pok mixed (cfg_nil _ _ : CfgOk _ cfg40) F40 eqn40
/- 34 treaty/codec.appendTo -/
def x34_1 : XC := (.seq (.ops false r34_0) (.seq (.ops false r34_1) (.seq (.seq (.ops false r34_2) (.cond (.t 10) (.ops false r34_3) .skip)) (.seq (.block 0 (.loop [.gh 0 5 (.int .u8)] ⟨32, [(5, (.int .u64))], [(0, .row 0)], [.row 5 (.int .u8) false]⟩ (.seq (.seq (.ops false r34_4) (.cond (.t 17) .skip (.exit 0))) (.block 1 (.seq (.ops false r34_5) (.ops false r34_6)))))) (.seq (.ops false r34_7) .ret)))))
theorem F34_1 : Fn Try.prog 34 32 x34_1.er [.t 4] := ⟨Try.f34, hcl, Try.func34, by kernel_rfl, by kernel_rfl, by kernel_rfl, by kernel_rfl⟩
noncomputable def m34_1 (a0 : Int) : Option ((List Int) × Unit) :=
  cond (iLe 0 1)
  (cond (iLt a0 0)
   (cond (iLe 0 1)
    (loopO (S := Int × (List Int) × Unit) (R := (List Int) × Unit) (fun s16 =>
      cond (iLe 128 s16.1)
      (cond (fits (List.length s16.2.1 + List.length ([iOr .u8 (IntKind.wrap .u8 (iAnd .u64 s16.1 127)) 128] : List Int)) 1)
       (cond (iLe 0 7)
        (some (.inl (iShr .u64 s16.1 7, s16.2.1 ++ ([iOr .u8 (IntKind.wrap .u8 (iAnd .u64 s16.1 127)) 128] : List Int), ()))) none) none)
      (Option.map Sum.inr (cond (fits (List.length s16.2.1 + List.length ([IntKind.wrap .u8 s16.1] : List Int)) 1)
        (some (s16.2.1 ++ ([IntKind.wrap .u8 s16.1] : List Int), ())) none)))
     (iSub .u64 (iShl .u64 (IntKind.wrap .u64 (iNeg .i64 a0)) 1) 1, ([] : List Int), ())) none)
   (loopO (S := Int × (List Int) × Unit) (R := (List Int) × Unit) (fun s17 =>
     cond (iLe 128 s17.1)
     (cond (fits (List.length s17.2.1 + List.length ([iOr .u8 (IntKind.wrap .u8 (iAnd .u64 s17.1 127)) 128] : List Int)) 1)
      (cond (iLe 0 7)
       (some (.inl (iShr .u64 s17.1 7, s17.2.1 ++ ([iOr .u8 (IntKind.wrap .u8 (iAnd .u64 s17.1 127)) 128] : List Int), ()))) none) none)
     (Option.map Sum.inr (cond (fits (List.length s17.2.1 + List.length ([IntKind.wrap .u8 s17.1] : List Int)) 1)
       (some (s17.2.1 ++ ([IntKind.wrap .u8 s17.1] : List Int), ())) none)))
    (iShl .u64 (IntKind.wrap .u64 a0) 1, ([] : List Int), ()))) none
noncomputable def cfg34_1 : Cfg := ⟨ttab, gtab, [], []⟩
def ish34_1 : Sh := ⟨2, [(1, (.int .i64))], [(0, .nil)], []⟩
def osh34_1 : Sh := ⟨1, [], [(0, .row 0)], [.row 5 (.int .u8) false]⟩
theorem eqn34_1 (x : Int × Unit) : xfunH cfg34_1 x34_1 32 [.t 4] [] ish34_1 osh34_1 x = m34_1 x.1 := by kernel_rfl
noncomputable def h34_1 : HI := ⟨34, ish34_1, osh34_1, fun (x : Int × Unit) => m34_1 x.1⟩
theorem okh34_1 : HOk Try.prog (gx gtab) h34_1 := hok mixed (cfg_nil _ _ : CfgOk _ cfg34_1) F34_1 eqn34_1
/- 41 treaty/codec.encode -/
def r41_0 : List Ins := [⟨some 2, none, .mov (.k (.slice none 0 0))⟩,
  ⟨some 3, none, .mov (.k (.int .i64 0))⟩]
def r41_1 : List Ins := [⟨some 4, none, .mov (.k (.slice none 0 0))⟩]
def r41_2 : List Ins := [⟨some 7, none, .mov (.t 0)⟩,
  ⟨some 8, none, .len (.t 7)⟩,
  ⟨some 9, none, .mov (.k (.int .i64 0))⟩]
def r41_3 : List Ins := [⟨some 10, none, .bin .lss (.t 9) (.t 8)⟩]
def r41_4 : List Ins := [⟨some 11, none, .iaddr 1 (.t 7) (.t 9)⟩,
  ⟨some 12, none, .load 1 false (.t 11)⟩,
  ⟨some 6, none, .mov (.t 12)⟩]
def r41_5 : List Ins := [⟨some 13, none, .mov (.t 6)⟩,
  ⟨some 14, none, .call (.k (.func (.func 33) #[] #[])) [(.t 13)]⟩,
  ⟨some 15, none, .un .not (.t 14)⟩]
def r41_6 : List Ins := [⟨some 2, none, .mov (.k (.slice none 0 0))⟩,
  ⟨some 3, none, .mov (.k (.int .i64 1))⟩]
def r41_7 : List Ins := [⟨some 16, none, .mov (.t 4)⟩,
  ⟨some 17, none, .mov (.t 6)⟩,
  ⟨some 18, none, .call (.k (.func (.func 34) #[] #[])) [(.t 16), (.t 17)]⟩,
  ⟨some 4, none, .mov (.t 18)⟩]
def r41_8 : List Ins := [⟨some 19, none, .bin .add (.t 9) (.k (.int .i64 1))⟩,
  ⟨some 9, none, .mov (.t 19)⟩]
def r41_9 : List Ins := [⟨some 20, none, .mov (.t 4)⟩,
  ⟨some 2, none, .mov (.t 20)⟩,
  ⟨some 3, none, .mov (.k (.int .i64 0))⟩]
def x41 : XC := (.seq (.ops false r41_0) (.seq (.ops false r41_1) (.seq (.seq (.ops false r41_2) (.block 0 (.loop [.gh 4 5 (.int .u8)] ⟨21, [(7, (.list (.int .i64))), (8, (.int .i64)), (9, (.int .i64))], [(4, .row 0)], [.row 5 (.int .u8) false]⟩ (.seq (.ops false r41_3) (.seq (.cond (.t 10) .skip (.exit 0)) (.seq (.block 1 (.seq (.ops false r41_4) (.seq (.seq (.ops false r41_5) (.cond (.t 15) (.seq (.ops false r41_6) .ret) .skip)) (.ops false r41_7)))) (.ops false r41_8))))))) (.seq (.ops false r41_9) .ret))))
theorem F41 : Fn Try.prog 41 21 x41.er [.t 2, .t 3] := ⟨Try.f41, hcl, Try.func41, by kernel_rfl, by kernel_rfl, by kernel_rfl, by kernel_rfl⟩
noncomputable def m41 (a0 : List Int) : Option ((List Int) × Int × Unit) :=
  loopO (S := (List Int) × Int × Int × (List Int) × Unit) (R := (List Int) × Int × Unit) (fun s19 =>
   cond (iLt s19.2.2.1 s19.2.1)
   (cond (bnd s19.2.2.1 (lenI s19.1))
    ((m33 (atI s19.1 s19.2.2.1 0)).bind fun y20 =>
     cond (not y20.1)
     (some (.inr (([] : List Int), 1, ())))
     ((m34 (atI s19.1 s19.2.2.1 0) s19.2.2.2.1).bind fun y21 =>
      some (.inl (s19.1, s19.2.1, iAdd .i64 s19.2.2.1 1, y21.1, ())))) none)
   (some (.inr (s19.2.2.2.1, 0, ()))))
  (a0, lenI a0, 0, ([] : List Int), ())
noncomputable def cfg41 : Cfg := ⟨ttab, gtab, [i33], [h34]⟩
theorem eqn41 (x : (List Int) × Unit) : xfun cfg41 x41 21 [.t 2, .t 3] [(.list (.int .i64))] [(.list (.int .u8)), (.int .i64)] x = m41 x.1 := by kernel_rfl
noncomputable def i41 : PI := ⟨41, [(.list (.int .i64))], [(.list (.int .u8)), (.int .i64)], fun (x : (List Int) × Unit) => m41 x.1⟩
theorem oki41 : POk Try.prog (gx gtab) i41 := pok mixed (cfg_p oki33 (cfg_h okh34 (cfg_nil _ _)) : CfgOk _ cfg41) F41 eqn41
/- 19 treaty/codec.EncodeCommand -/
def r19_0 : List Ins := [⟨some 1, none, .box 38 6 (.t 0)⟩,
  ⟨some 2, none, .mov (.k (.slice none 0 0))⟩,
  ⟨some 3, none, .mov (.k (.int .i64 0))⟩]
def r19_1 : List Ins := [⟨some 8, none, .faddr 0 (.t 1)⟩,
  ⟨some 9, none, .load 1 false (.t 8)⟩,
  ⟨some 10, none, .call (.k (.func (.func 39) #[] #[])) [(.t 9)]⟩,
  ⟨some 11, none, .un .not (.t 10)⟩]
def r19_2 : List Ins := [⟨some 2, none, .mov (.k (.slice none 0 0))⟩,
  ⟨some 3, none, .mov (.k (.int .i64 11))⟩]
def r19_3 : List Ins := [⟨some 13, none, .load 6 true (.t 1)⟩,
  ⟨some 14, none, .call (.k (.func (.func 40) #[] #[])) [(.t 13)]⟩,
  ⟨some 12, none, .mov (.t 14)⟩,
  ⟨some 15, none, .ext 0 (.t 12)⟩,
  ⟨some 16, none, .ext 1 (.t 12)⟩,
  ⟨some 5, none, .alloc 38 (.agg #[.int .i64 0, .slice none 0 0, .int .i64 0, .int .i64 0, .int .i64 0, .int .i64 0])⟩,
  ⟨some 4, none, .mov (.t 15)⟩,
  ⟨none, none, .store 6 (.t 5) (.t 16)⟩]
def r19_4 : List Ins := [⟨some 17, none, .faddr 2 (.t 1)⟩,
  ⟨some 18, none, .load 1 false (.t 17)⟩,
  ⟨some 19, none, .faddr 2 (.t 5)⟩,
  ⟨some 20, none, .load 1 false (.t 19)⟩,
  ⟨some 21, none, .bin .neq (.t 18) (.t 20)⟩,
  ⟨some 22, none, .mov (.t 21)⟩,
  ⟨some 23, some (22, false), .faddr 3 (.t 1)⟩,
  ⟨some 24, some (22, false), .load 1 false (.t 23)⟩,
  ⟨some 25, some (22, false), .faddr 3 (.t 5)⟩,
  ⟨some 26, some (22, false), .load 1 false (.t 25)⟩,
  ⟨some 27, some (22, false), .bin .neq (.t 24) (.t 26)⟩,
  ⟨some 28, none, .pick (.t 22) (.k (.bool true)) (.t 27)⟩,
  ⟨some 29, none, .mov (.t 28)⟩,
  ⟨some 30, some (29, false), .faddr 4 (.t 1)⟩,
  ⟨some 31, some (29, false), .load 1 false (.t 30)⟩,
  ⟨some 32, some (29, false), .faddr 4 (.t 5)⟩,
  ⟨some 33, some (29, false), .load 1 false (.t 32)⟩,
  ⟨some 34, some (29, false), .bin .neq (.t 31) (.t 33)⟩,
  ⟨some 35, none, .pick (.t 29) (.k (.bool true)) (.t 34)⟩,
  ⟨some 36, none, .mov (.t 35)⟩,
  ⟨some 37, some (36, false), .faddr 5 (.t 1)⟩,
  ⟨some 38, some (36, false), .load 1 false (.t 37)⟩,
  ⟨some 39, some (36, false), .faddr 5 (.t 5)⟩,
  ⟨some 40, some (36, false), .load 1 false (.t 39)⟩,
  ⟨some 41, some (36, false), .bin .neq (.t 38) (.t 40)⟩,
  ⟨some 42, none, .pick (.t 36) (.k (.bool true)) (.t 41)⟩]
def r19_5 : List Ins := [⟨some 2, none, .mov (.k (.slice none 0 0))⟩,
  ⟨some 3, none, .mov (.k (.int .i64 20))⟩]
def r19_6 : List Ins := [⟨some 43, none, .faddr 0 (.t 1)⟩,
  ⟨some 44, none, .load 1 false (.t 43)⟩,
  ⟨some 45, none, .bin .neq (.t 44) (.k (.int .i64 1))⟩]
def r19_7 : List Ins := [⟨some 46, none, .faddr 1 (.t 1)⟩,
  ⟨some 47, none, .load 1 false (.t 46)⟩,
  ⟨some 48, none, .len (.t 47)⟩,
  ⟨some 49, none, .bin .gtr (.t 48) (.k (.int .i64 0))⟩]
def r19_8 : List Ins := [⟨some 2, none, .mov (.k (.slice none 0 0))⟩,
  ⟨some 3, none, .mov (.k (.int .i64 20))⟩]
def r19_9 : List Ins := [⟨some 50, none, .faddr 0 (.t 1)⟩,
  ⟨some 51, none, .load 1 false (.t 50)⟩,
  ⟨some 52, none, .bslice 3 1 [(.t 51)]⟩,
  ⟨some 53, none, .mov (.t 4)⟩,
  ⟨some 54, none, .app 3 1 8 (.t 52) (.t 53)⟩,
  ⟨some 55, none, .call (.k (.func (.func 41) #[] #[])) [(.t 54)]⟩,
  ⟨some 56, none, .ext 0 (.t 55)⟩,
  ⟨some 57, none, .ext 1 (.t 55)⟩,
  ⟨some 2, none, .mov (.t 56)⟩,
  ⟨some 3, none, .mov (.t 57)⟩]
def r19_10 : List Ins := [⟨some 58, none, .faddr 1 (.t 1)⟩,
  ⟨some 59, none, .load 1 false (.t 58)⟩,
  ⟨some 60, none, .len (.t 59)⟩,
  ⟨some 61, none, .bin .gtr (.t 60) (.k (.int .i64 64))⟩]
def r19_11 : List Ins := [⟨some 2, none, .mov (.k (.slice none 0 0))⟩,
  ⟨some 3, none, .mov (.k (.int .i64 4))⟩]
def r19_12 : List Ins := [⟨some 62, none, .faddr 0 (.t 1)⟩,
  ⟨some 63, none, .load 1 false (.t 62)⟩,
  ⟨some 64, none, .faddr 1 (.t 1)⟩,
  ⟨some 65, none, .load 1 false (.t 64)⟩,
  ⟨some 66, none, .len (.t 65)⟩,
  ⟨some 67, none, .bslice 3 1 [(.t 63), (.t 66)]⟩,
  ⟨some 4, none, .mov (.t 67)⟩]
def r19_13 : List Ins := [⟨some 68, none, .faddr 1 (.t 1)⟩,
  ⟨some 69, none, .load 1 false (.t 68)⟩,
  ⟨some 70, none, .len (.t 69)⟩,
  ⟨some 71, none, .mov (.k (.int .i64 0))⟩]
def r19_14 : List Ins := [⟨some 72, none, .bin .lss (.t 71) (.t 70)⟩]
def r19_15 : List Ins := [⟨some 73, none, .iaddr 10 (.t 69) (.t 71)⟩,
  ⟨some 74, none, .load 10 true (.t 73)⟩,
  ⟨some 7, none, .alloc 76 (.agg #[.int .i64 0, .int .i64 0, .int .i64 0, .int .i64 0, .int .i64 0, .int .i64 0, .int .i64 0, .int .i64 0, .int .i64 0, .int .i64 0])⟩,
  ⟨none, none, .store 10 (.t 7) (.t 74)⟩]
def r19_16 : List Ins := [⟨some 75, none, .mov (.t 4)⟩,
  ⟨some 76, none, .faddr 0 (.t 7)⟩,
  ⟨some 77, none, .load 1 false (.t 76)⟩,
  ⟨some 78, none, .faddr 1 (.t 7)⟩,
  ⟨some 79, none, .load 1 false (.t 78)⟩,
  ⟨some 80, none, .faddr 2 (.t 7)⟩,
  ⟨some 81, none, .load 1 false (.t 80)⟩,
  ⟨some 82, none, .faddr 3 (.t 7)⟩,
  ⟨some 83, none, .load 1 false (.t 82)⟩,
  ⟨some 84, none, .faddr 4 (.t 7)⟩,
  ⟨some 85, none, .load 1 false (.t 84)⟩,
  ⟨some 86, none, .faddr 5 (.t 7)⟩,
  ⟨some 87, none, .load 1 false (.t 86)⟩,
  ⟨some 88, none, .faddr 6 (.t 7)⟩,
  ⟨some 89, none, .load 1 false (.t 88)⟩,
  ⟨some 90, none, .faddr 7 (.t 7)⟩,
  ⟨some 91, none, .load 1 false (.t 90)⟩,
  ⟨some 92, none, .faddr 8 (.t 7)⟩,
  ⟨some 93, none, .load 1 false (.t 92)⟩,
  ⟨some 94, none, .faddr 9 (.t 7)⟩,
  ⟨some 95, none, .load 1 false (.t 94)⟩,
  ⟨some 96, none, .bslice 3 1 [(.t 77), (.t 79), (.t 81), (.t 83), (.t 85), (.t 87), (.t 89), (.t 91), (.t 93), (.t 95)]⟩,
  ⟨some 97, none, .app 3 1 8 (.t 75) (.t 96)⟩,
  ⟨some 4, none, .mov (.t 97)⟩]
def r19_17 : List Ins := [⟨some 98, none, .bin .add (.t 71) (.k (.int .i64 1))⟩,
  ⟨some 71, none, .mov (.t 98)⟩]
def r19_18 : List Ins := [⟨some 99, none, .mov (.t 4)⟩,
  ⟨some 100, none, .call (.k (.func (.func 41) #[] #[])) [(.t 99)]⟩,
  ⟨some 101, none, .ext 0 (.t 100)⟩,
  ⟨some 102, none, .ext 1 (.t 100)⟩,
  ⟨some 2, none, .mov (.t 101)⟩,
  ⟨some 3, none, .mov (.t 102)⟩]
def x19 : XC := (.seq (.ops false r19_0) (.seq (.seq (.ops false r19_1) (.cond (.t 11) (.seq (.ops false r19_2) .ret) .skip)) (.seq (.ops false r19_3) (.seq (.seq (.ops false r19_4) (.cond (.t 42) (.seq (.ops false r19_5) .ret) .skip)) (.seq (.seq (.ops false r19_6) (.cond (.t 45) (.seq (.seq (.ops false r19_7) (.cond (.t 49) (.seq (.ops false r19_8) .ret) .skip)) (.seq (.ops false r19_9) .ret)) .skip)) (.seq (.seq (.ops false r19_10) (.cond (.t 61) (.seq (.ops false r19_11) .ret) .skip)) (.seq (.ops false r19_12) (.seq (.seq (.ops false r19_13) (.block 0 (.loop [] ⟨103, [(69, (.list tS0)), (70, (.int .i64)), (71, (.int .i64))], [(4, .row 0)], [.row 3 (.int .i64) false]⟩ (.seq (.ops false r19_14) (.seq (.cond (.t 72) .skip (.exit 0)) (.seq (.block 1 (.seq (.ops false r19_15) (.ops false r19_16))) (.ops false r19_17))))))) (.seq (.ops false r19_18) .ret)))))))))
theorem F19 : Fn Try.prog 19 103 x19.er [.t 2, .t 3] := ⟨Try.f19, hcl, Try.func19, by kernel_rfl, by kernel_rfl, by kernel_rfl, by kernel_rfl⟩
noncomputable def m19 (a0 : DS1) : Option ((List Int) × Int × Unit) :=
  (m39 a0.1).bind fun y25 =>
  cond (not y25.1)
  (some (([] : List Int), 11, ()))
  ((m40 (a0.1, a0.2.1, a0.2.2.1, a0.2.2.2.1, a0.2.2.2.2.1, a0.2.2.2.2.2.1, ())).bind fun y26 =>
   cond (cond (cond (cond (iNe a0.2.2.1 y26.2.1.2.2.1) true (iNe a0.2.2.2.1 y26.2.1.2.2.2.1)) true (iNe a0.2.2.2.2.1 y26.2.1.2.2.2.2.1)) true (iNe a0.2.2.2.2.2.1 y26.2.1.2.2.2.2.2.1))
   (some (([] : List Int), 20, ()))
   (cond (iNe a0.1 1)
    (cond (iLt 0 (lenI a0.2.1))
     (some (([] : List Int), 20, ()))
     (cond (fits (List.length ([a0.1] : List Int) + List.length y26.1) 8)
      ((m41 (([a0.1] : List Int) ++ y26.1)).bind fun y27 =>
       some (y27.1, y27.2.1, ())) none))
    (cond (iLt 64 (lenI a0.2.1))
     (some (([] : List Int), 4, ()))
     (loopO (S := (List DS0) × Int × Int × (List Int) × Unit) (R := (List Int) × Int × Unit) (fun s28 =>
       cond (iLt s28.2.2.1 s28.2.1)
       (cond (bnd s28.2.2.1 (lenI s28.1))
        (cond (fits (List.length s28.2.2.2.1 + List.length ([(atI s28.1 s28.2.2.1 (0, 0, 0, 0, 0, 0, 0, 0, 0, 0, ())).1, (atI s28.1 s28.2.2.1 (0, 0, 0, 0, 0, 0, 0, 0, 0, 0, ())).2.1, (atI s28.1 s28.2.2.1 (0, 0, 0, 0, 0, 0, 0, 0, 0, 0, ())).2.2.1, (atI s28.1 s28.2.2.1 (0, 0, 0, 0, 0, 0, 0, 0, 0, 0, ())).2.2.2.1, (atI s28.1 s28.2.2.1 (0, 0, 0, 0, 0, 0, 0, 0, 0, 0, ())).2.2.2.2.1, (atI s28.1 s28.2.2.1 (0, 0, 0, 0, 0, 0, 0, 0, 0, 0, ())).2.2.2.2.2.1, (atI s28.1 s28.2.2.1 (0, 0, 0, 0, 0, 0, 0, 0, 0, 0, ())).2.2.2.2.2.2.1, (atI s28.1 s28.2.2.1 (0, 0, 0, 0, 0, 0, 0, 0, 0, 0, ())).2.2.2.2.2.2.2.1, (atI s28.1 s28.2.2.1 (0, 0, 0, 0, 0, 0, 0, 0, 0, 0, ())).2.2.2.2.2.2.2.2.1, (atI s28.1 s28.2.2.1 (0, 0, 0, 0, 0, 0, 0, 0, 0, 0, ())).2.2.2.2.2.2.2.2.2.1] : List Int)) 8)
         (some (.inl (s28.1, s28.2.1, iAdd .i64 s28.2.2.1 1, s28.2.2.2.1 ++ ([(atI s28.1 s28.2.2.1 (0, 0, 0, 0, 0, 0, 0, 0, 0, 0, ())).1, (atI s28.1 s28.2.2.1 (0, 0, 0, 0, 0, 0, 0, 0, 0, 0, ())).2.1, (atI s28.1 s28.2.2.1 (0, 0, 0, 0, 0, 0, 0, 0, 0, 0, ())).2.2.1, (atI s28.1 s28.2.2.1 (0, 0, 0, 0, 0, 0, 0, 0, 0, 0, ())).2.2.2.1, (atI s28.1 s28.2.2.1 (0, 0, 0, 0, 0, 0, 0, 0, 0, 0, ())).2.2.2.2.1, (atI s28.1 s28.2.2.1 (0, 0, 0, 0, 0, 0, 0, 0, 0, 0, ())).2.2.2.2.2.1, (atI s28.1 s28.2.2.1 (0, 0, 0, 0, 0, 0, 0, 0, 0, 0, ())).2.2.2.2.2.2.1, (atI s28.1 s28.2.2.1 (0, 0, 0, 0, 0, 0, 0, 0, 0, 0, ())).2.2.2.2.2.2.2.1, (atI s28.1 s28.2.2.1 (0, 0, 0, 0, 0, 0, 0, 0, 0, 0, ())).2.2.2.2.2.2.2.2.1, (atI s28.1 s28.2.2.1 (0, 0, 0, 0, 0, 0, 0, 0, 0, 0, ())).2.2.2.2.2.2.2.2.2.1] : List Int), ()))) none) none)
       (Option.map Sum.inr ((m41 s28.2.2.2.1).bind fun y29 =>
         some (y29.1, y29.2.1, ()))))
      (a0.2.1, lenI a0.2.1, 0, ([a0.1, lenI a0.2.1] : List Int), ())))))
noncomputable def cfg19 : Cfg := ⟨ttab, gtab, [i39, i40, i41], []⟩
theorem eqn19 (x : DS1 × Unit) : xfun cfg19 x19 103 [.t 2, .t 3] [tS1] [(.list (.int .u8)), (.int .i64)] x = m19 x.1 := by kernel_rfl
noncomputable def i19 : PI := ⟨19, [tS1], [(.list (.int .u8)), (.int .i64)], fun (x : DS1 × Unit) => m19 x.1⟩
theorem oki19 : POk Try.prog (gx gtab) i19 := pok mixed (cfg_p oki39 (cfg_p oki40 (cfg_p oki41 (cfg_nil _ _))) : CfgOk _ cfg19) F19 eqn19
/- 16 treaty/codec.Number -/
def r16_0 : List Ins := [⟨some 2, none, .mov (.k (.int .i64 0))⟩,
  ⟨some 3, none, .mov (.k (.int .i64 0))⟩,
  ⟨some 4, none, .mov (.k (.int .i64 0))⟩]
def r16_1 : List Ins := [⟨some 7, none, .mov (.t 3)⟩,
  ⟨some 8, none, .mov (.t 0)⟩,
  ⟨some 9, none, .len (.t 8)⟩,
  ⟨some 10, none, .bin .lss (.t 7) (.t 9)⟩,
  ⟨some 11, none, .mov (.t 10)⟩,
  ⟨some 12, some (11, true), .mov (.t 3)⟩,
  ⟨some 13, some (11, true), .bin .lss (.t 12) (.k (.int .i64 10))⟩,
  ⟨some 14, none, .pick (.t 11) (.t 13) (.k (.bool false))⟩,
  ⟨some 15, none, .mov (.t 14)⟩,
  ⟨some 16, some (15, true), .mov (.t 0)⟩,
  ⟨some 17, some (15, true), .mov (.t 3)⟩,
  ⟨some 18, some (15, true), .iaddr 1 (.t 16) (.t 17)⟩,
  ⟨some 19, some (15, true), .load 1 false (.t 18)⟩,
  ⟨some 20, some (15, true), .bin .and (.t 19) (.k (.int .u8 128))⟩,
  ⟨some 21, some (15, true), .bin .neq (.t 20) (.k (.int .u8 0))⟩,
  ⟨some 22, none, .pick (.t 15) (.t 21) (.k (.bool false))⟩]
def r16_2 : List Ins := [⟨some 23, none, .mov (.t 3)⟩,
  ⟨some 24, none, .bin .add (.t 23) (.k (.int .i64 1))⟩,
  ⟨some 3, none, .mov (.t 24)⟩]
def r16_3 : List Ins := [⟨some 25, none, .mov (.t 3)⟩,
  ⟨some 26, none, .mov (.t 0)⟩,
  ⟨some 27, none, .len (.t 26)⟩,
  ⟨some 28, none, .bin .eql (.t 25) (.t 27)⟩,
  ⟨some 29, none, .mov (.t 28)⟩,
  ⟨some 30, some (29, false), .mov (.t 3)⟩,
  ⟨some 31, some (29, false), .bin .eql (.t 30) (.k (.int .i64 10))⟩,
  ⟨some 32, none, .pick (.t 29) (.k (.bool true)) (.t 31)⟩,
  ⟨some 33, none, .mov (.t 32)⟩,
  ⟨some 34, some (33, false), .mov (.t 3)⟩,
  ⟨some 35, some (33, false), .bin .gtr (.t 34) (.k (.int .i64 0))⟩,
  ⟨some 36, some (33, false), .mov (.t 35)⟩,
  ⟨some 37, some (36, true), .mov (.t 0)⟩,
  ⟨some 38, some (36, true), .mov (.t 3)⟩,
  ⟨some 39, some (36, true), .iaddr 1 (.t 37) (.t 38)⟩,
  ⟨some 40, some (36, true), .load 1 false (.t 39)⟩,
  ⟨some 41, some (36, true), .bin .eql (.t 40) (.k (.int .u8 0))⟩,
  ⟨some 42, some (33, false), .pick (.t 36) (.t 41) (.k (.bool false))⟩,
  ⟨some 43, none, .pick (.t 33) (.k (.bool true)) (.t 42)⟩]
def r16_4 : List Ins := [⟨some 2, none, .mov (.k (.int .i64 0))⟩,
  ⟨some 3, none, .mov (.k (.int .i64 0))⟩,
  ⟨some 4, none, .mov (.k (.int .i64 5))⟩]
def r16_5 : List Ins := [⟨some 44, none, .mov (.t 3)⟩,
  ⟨some 45, none, .bin .add (.t 44) (.k (.int .i64 1))⟩,
  ⟨some 3, none, .mov (.t 45)⟩]
def r16_6 : List Ins := [⟨some 5, none, .mov (.k (.int .u64 0))⟩]
def r16_7 : List Ins := [⟨some 46, none, .mov (.t 3)⟩,
  ⟨some 47, none, .bin .sub (.t 46) (.k (.int .i64 1))⟩,
  ⟨some 6, none, .mov (.t 47)⟩]
def r16_8 : List Ins := [⟨some 48, none, .mov (.t 6)⟩,
  ⟨some 49, none, .bin .geq (.t 48) (.k (.int .i64 0))⟩]
def r16_9 : List Ins := [⟨some 52, none, .mov (.t 5)⟩,
  ⟨some 53, none, .bin .geq (.t 52) (.k (.int .u64 144115188075855872))⟩]
def r16_10 : List Ins := [⟨some 2, none, .mov (.k (.int .i64 0))⟩,
  ⟨some 3, none, .mov (.k (.int .i64 0))⟩,
  ⟨some 4, none, .mov (.k (.int .i64 1))⟩]
def r16_11 : List Ins := [⟨some 54, none, .mov (.t 5)⟩,
  ⟨some 55, none, .bin .shl (.t 54) (.k (.int .u64 7))⟩,
  ⟨some 56, none, .mov (.t 0)⟩,
  ⟨some 57, none, .mov (.t 6)⟩,
  ⟨some 58, none, .iaddr 1 (.t 56) (.t 57)⟩,
  ⟨some 59, none, .load 1 false (.t 58)⟩,
  ⟨some 60, none, .bin .and (.t 59) (.k (.int .u8 127))⟩,
  ⟨some 61, none, .conv .u64 (.t 60)⟩,
  ⟨some 62, none, .bin .or (.t 55) (.t 61)⟩,
  ⟨some 5, none, .mov (.t 62)⟩]
def r16_12 : List Ins := [⟨some 50, none, .mov (.t 6)⟩,
  ⟨some 51, none, .bin .sub (.t 50) (.k (.int .i64 1))⟩,
  ⟨some 6, none, .mov (.t 51)⟩]
def r16_13 : List Ins := [⟨some 63, none, .mov (.t 5)⟩,
  ⟨some 64, none, .bin .gtr (.t 63) (.k (.int .u64 35184372088832))⟩]
def r16_14 : List Ins := [⟨some 2, none, .mov (.k (.int .i64 0))⟩,
  ⟨some 3, none, .mov (.k (.int .i64 0))⟩,
  ⟨some 4, none, .mov (.k (.int .i64 1))⟩]
def r16_15 : List Ins := [⟨some 65, none, .mov (.t 5)⟩,
  ⟨some 66, none, .bin .shr (.t 65) (.k (.int .u64 1))⟩,
  ⟨some 67, none, .conv .i64 (.t 66)⟩,
  ⟨some 2, none, .mov (.t 67)⟩]
def r16_16 : List Ins := [⟨some 68, none, .mov (.t 5)⟩,
  ⟨some 69, none, .bin .and (.t 68) (.k (.int .u64 1))⟩,
  ⟨some 70, none, .bin .neq (.t 69) (.k (.int .u64 0))⟩]
def r16_17 : List Ins := [⟨some 71, none, .mov (.t 2)⟩,
  ⟨some 72, none, .un .neg (.t 71)⟩,
  ⟨some 73, none, .bin .sub (.t 72) (.k (.int .i64 1))⟩,
  ⟨some 2, none, .mov (.t 73)⟩]
def r16_18 : List Ins := [⟨some 74, none, .mov (.t 2)⟩,
  ⟨some 75, none, .mov (.t 3)⟩,
  ⟨some 2, none, .mov (.t 74)⟩,
  ⟨some 3, none, .mov (.t 75)⟩,
  ⟨some 4, none, .mov (.k (.int .i64 0))⟩]
def x16 : XC := (.seq (.ops false r16_0) (.seq (.block 0 (.loop [] ⟨76, [(0, (.list (.int .u8))), (3, (.int .i64))], [], []⟩ (.seq (.seq (.ops false r16_1) (.cond (.t 22) .skip (.exit 0))) (.block 1 (.ops false r16_2))))) (.seq (.seq (.ops false r16_3) (.cond (.t 43) (.seq (.ops false r16_4) .ret) .skip)) (.seq (.ops false r16_5) (.seq (.ops false r16_6) (.seq (.seq (.ops false r16_7) (.block 2 (.loop [] ⟨76, [(0, (.list (.int .u8))), (3, (.int .i64)), (5, (.int .u64)), (6, (.int .i64))], [], []⟩ (.seq (.seq (.ops false r16_8) (.cond (.t 49) .skip (.exit 2))) (.seq (.block 3 (.seq (.seq (.ops false r16_9) (.cond (.t 53) (.seq (.ops false r16_10) .ret) .skip)) (.ops false r16_11))) (.ops false r16_12)))))) (.seq (.seq (.ops false r16_13) (.cond (.t 64) (.seq (.ops false r16_14) .ret) .skip)) (.seq (.ops false r16_15) (.seq (.seq (.ops false r16_16) (.cond (.t 70) (.ops false r16_17) .skip)) (.seq (.ops false r16_18) .ret))))))))))
theorem F16 : Fn Try.prog 16 76 x16.er [.t 2, .t 3, .t 4] := ⟨Try.f16, hcl, Try.func16, by kernel_rfl, by kernel_rfl, by kernel_rfl, by kernel_rfl⟩
noncomputable def m16 (a0 : List Int) : Option (Int × Int × Int × Unit) :=
  loopO (S := (List Int) × Int × Unit) (R := Int × Int × Int × Unit) (fun s33 =>
   cond (or (bnd s33.2.1 (lenI s33.1)) (not (bEq (cond (iLt s33.2.1 (lenI s33.1)) (iLt s33.2.1 10) false) true)))
   (cond (cond (cond (iLt s33.2.1 (lenI s33.1)) (iLt s33.2.1 10) false) (iNe (iAnd .u8 (atI s33.1 s33.2.1 0) 128) 0) false)
    (some (.inl (s33.1, iAdd .i64 s33.2.1 1, ())))
    (Option.map Sum.inr (cond (cond (iEq s33.2.1 (lenI s33.1)) true (iEq s33.2.1 10))
      (some (0, 0, 5, ()))
      (cond (or (bnd s33.2.1 (lenI s33.1)) (not (bEq (iLt 0 s33.2.1) true)))
       (cond (cond (iLt 0 s33.2.1) (iEq (atI s33.1 s33.2.1 0) 0) false)
        (some (0, 0, 5, ()))
        (loopO (S := (List Int) × Int × Int × Int × Unit) (R := Int × Int × Int × Unit) (fun s34 =>
          cond (iLe 0 s34.2.2.2.1)
          (cond (iLe 144115188075855872 s34.2.2.1)
           (some (.inr (0, 0, 1, ())))
           (cond (iLe 0 7)
            (cond (bnd s34.2.2.2.1 (lenI s34.1))
             (some (.inl (s34.1, s34.2.1, iOr .u64 (iShl .u64 s34.2.2.1 7) (IntKind.wrap .u64 (iAnd .u8 (atI s34.1 s34.2.2.2.1 0) 127)), iSub .i64 s34.2.2.2.1 1, ()))) none) none))
          (Option.map Sum.inr (cond (iLt 35184372088832 s34.2.2.1)
            (some (0, 0, 1, ()))
            (cond (iLe 0 1)
             (cond (iNe (iAnd .u64 s34.2.2.1 1) 0)
              (some (iSub .i64 (iNeg .i64 (IntKind.wrap .i64 (iShr .u64 s34.2.2.1 1))) 1, s34.2.1, 0, ()))
              (some (IntKind.wrap .i64 (iShr .u64 s34.2.2.1 1), s34.2.1, 0, ()))) none))))
         (s33.1, iAdd .i64 s33.2.1 1, 0, iSub .i64 (iAdd .i64 s33.2.1 1) 1, ()))) none)))) none)
  (a0, 0, ())
noncomputable def cfg16 : Cfg := ⟨ttab, gtab, [], []⟩
theorem eqn16 (x : (List Int) × Unit) : xfun cfg16 x16 76 [.t 2, .t 3, .t 4] [(.list (.int .u8))] [(.int .i64), (.int .i64), (.int .i64)] x = m16 x.1 := by kernel_rfl
noncomputable def i16 : PI := ⟨16, [(.list (.int .u8))], [(.int .i64), (.int .i64), (.int .i64)], fun (x : (List Int) × Unit) => m16 x.1⟩
theorem oki16 : POk Try.prog (gx gtab) i16 := pok mixed (cfg_nil _ _ : CfgOk _ cfg16) F16 eqn16
/- 44 (*treaty/codec.reader).next -/
def r44_0 : List Ins := [⟨some 2, none, .mov (.k (.int .i64 0))⟩]
def r44_1 : List Ins := [⟨some 6, none, .mov (.t 0)⟩,
  ⟨some 7, none, .nck (.t 6)⟩,
  ⟨some 8, none, .faddr 1 (.t 7)⟩,
  ⟨some 9, none, .load 1 false (.t 8)⟩,
  ⟨some 10, none, .bin .neq (.t 9) (.k (.int .i64 0))⟩]
def r44_2 : List Ins := [⟨some 2, none, .mov (.k (.int .i64 0))⟩]
def r44_3 : List Ins := [⟨some 12, none, .mov (.t 0)⟩,
  ⟨some 13, none, .nck (.t 12)⟩,
  ⟨some 14, none, .faddr 0 (.t 13)⟩,
  ⟨some 15, none, .load 1 false (.t 14)⟩,
  ⟨some 16, none, .call (.k (.func (.func 16) #[] #[])) [(.t 15)]⟩,
  ⟨some 11, none, .mov (.t 16)⟩,
  ⟨some 17, none, .ext 0 (.t 11)⟩,
  ⟨some 18, none, .ext 1 (.t 11)⟩,
  ⟨some 19, none, .ext 2 (.t 11)⟩,
  ⟨some 3, none, .mov (.t 17)⟩,
  ⟨some 4, none, .mov (.t 18)⟩,
  ⟨some 5, none, .mov (.t 19)⟩]
def r44_4 : List Ins := [⟨some 20, none, .mov (.t 5)⟩,
  ⟨some 21, none, .bin .neq (.t 20) (.k (.int .i64 0))⟩]
def r44_5 : List Ins := [⟨some 22, none, .mov (.t 0)⟩,
  ⟨some 23, none, .mov (.t 5)⟩,
  ⟨some 24, none, .nck (.t 22)⟩,
  ⟨some 25, none, .faddr 1 (.t 24)⟩,
  ⟨none, none, .store 1 (.t 25) (.t 23)⟩]
def r44_6 : List Ins := [⟨some 2, none, .mov (.k (.int .i64 0))⟩]
def r44_7 : List Ins := [⟨some 26, none, .mov (.t 0)⟩,
  ⟨some 27, none, .mov (.t 0)⟩,
  ⟨some 28, none, .nck (.t 27)⟩,
  ⟨some 29, none, .faddr 0 (.t 28)⟩,
  ⟨some 30, none, .load 1 false (.t 29)⟩,
  ⟨some 31, none, .mov (.t 4)⟩,
  ⟨some 32, none, .slice 1 (.t 30) (some (.t 31)) none⟩,
  ⟨some 33, none, .nck (.t 26)⟩,
  ⟨some 34, none, .faddr 0 (.t 33)⟩,
  ⟨none, none, .store 1 (.t 34) (.t 32)⟩]
def r44_8 : List Ins := [⟨some 35, none, .mov (.t 3)⟩,
  ⟨some 2, none, .mov (.t 35)⟩]
def x44 : XC := (.seq (.ops false r44_0) (.seq (.seq (.ops false r44_1) (.cond (.t 10) (.seq (.ops false r44_2) .ret) .skip)) (.seq (.ops false r44_3) (.seq (.seq (.ops false r44_4) (.cond (.t 21) (.seq (.ops false r44_5) (.seq (.ops false r44_6) .ret)) .skip)) (.seq (.ops false r44_7) (.seq (.ops false r44_8) .ret))))))
theorem F44 : Fn Try.prog 44 36 x44.er [.t 2] := ⟨Try.f44, hcl, Try.func44, by kernel_rfl, by kernel_rfl, by kernel_rfl, by kernel_rfl⟩
noncomputable def m44 (a0 : List Int) (a1 : Int) : Option (Int × (List Int) × Int × Unit) :=
  cond (iNe a1 0)
  (some (0, a0, a1, ()))
  ((m16 a0).bind fun y36 =>
   cond (iNe y36.2.2.1 0)
   (some (0, a0, y36.2.2.1, ()))
   (cond (cutOk y36.2.1 ((List.length a0 : Nat) : Int) (List.length a0))
    (some (y36.1, cutL y36.2.1 ((List.length a0 : Nat) : Int) a0, a1, ())) none))
noncomputable def cfg44 : Cfg := ⟨ttab, gtab, [i16], []⟩
def ish44 : Sh := ⟨1, [], [(0, .ptr 0 0 0)], [.box 80 [.d (.list (.int .u8)), .d (.int .i64)]]⟩
def osh44 : Sh := ⟨1, [(0, (.int .i64))], [], [.box 80 [.d (.list (.int .u8)), .d (.int .i64)]]⟩
theorem eqn44 (x : (List Int) × Int × Unit) : xfunH cfg44 x44 36 [.t 2] [] ish44 osh44 x = m44 x.1 x.2.1 := by kernel_rfl
noncomputable def h44 : HI := ⟨44, ish44, osh44, fun (x : (List Int) × Int × Unit) => m44 x.1 x.2.1⟩
theorem okh44 : HOk Try.prog (gx gtab) h44 := hok mixed (cfg_p oki16 (cfg_nil _ _) : CfgOk _ cfg44) F44 eqn44
/- 53 (*treaty/codec.reader).count -/
def r53_0 : List Ins := [⟨some 4, none, .mov (.k (.int .i64 0))⟩]
def r53_1 : List Ins := [⟨some 6, none, .mov (.t 0)⟩,
  ⟨some 7, none, .call (.k (.func (.func 44) #[] #[])) [(.t 6)]⟩,
  ⟨some 5, none, .mov (.t 7)⟩]
def r53_2 : List Ins := [⟨some 8, none, .mov (.t 0)⟩,
  ⟨some 9, none, .nck (.t 8)⟩,
  ⟨some 10, none, .faddr 1 (.t 9)⟩,
  ⟨some 11, none, .load 1 false (.t 10)⟩,
  ⟨some 12, none, .bin .eql (.t 11) (.k (.int .i64 0))⟩,
  ⟨some 13, none, .mov (.t 12)⟩,
  ⟨some 14, some (13, true), .mov (.t 5)⟩,
  ⟨some 15, some (13, true), .bin .lss (.t 14) (.k (.int .i64 0))⟩,
  ⟨some 16, some (13, true), .mov (.t 15)⟩,
  ⟨some 17, some (16, false), .mov (.t 5)⟩,
  ⟨some 18, some (16, false), .mov (.t 1)⟩,
  ⟨some 19, some (16, false), .bin .gtr (.t 17) (.t 18)⟩,
  ⟨some 20, some (13, true), .pick (.t 16) (.k (.bool true)) (.t 19)⟩,
  ⟨some 21, none, .pick (.t 13) (.t 20) (.k (.bool false))⟩]
def r53_3 : List Ins := [⟨some 22, none, .mov (.t 0)⟩,
  ⟨some 23, none, .nck (.t 22)⟩,
  ⟨some 24, none, .faddr 1 (.t 23)⟩,
  ⟨none, none, .store 1 (.t 24) (.k (.int .i64 4))⟩]
def r53_4 : List Ins := [⟨some 25, none, .mov (.t 0)⟩,
  ⟨some 26, none, .nck (.t 25)⟩,
  ⟨some 27, none, .faddr 1 (.t 26)⟩,
  ⟨some 28, none, .load 1 false (.t 27)⟩,
  ⟨some 29, none, .bin .neq (.t 28) (.k (.int .i64 0))⟩]
def r53_5 : List Ins := [⟨some 4, none, .mov (.k (.int .i64 0))⟩]
def r53_6 : List Ins := [⟨some 30, none, .mov (.t 5)⟩,
  ⟨some 4, none, .mov (.t 30)⟩]
def x53 : XC := (.seq (.ops false r53_0) (.seq (.ops false r53_1) (.seq (.seq (.ops false r53_2) (.cond (.t 21) (.ops false r53_3) .skip)) (.seq (.seq (.ops false r53_4) (.cond (.t 29) (.seq (.ops false r53_5) .ret) .skip)) (.seq (.ops false r53_6) .ret)))))
theorem F53 : Fn Try.prog 53 31 x53.er [.t 4] := ⟨Try.f53, hcl, Try.func53, by kernel_rfl, by kernel_rfl, by kernel_rfl, by kernel_rfl⟩
noncomputable def m53 (a0 : Int) (a1 : List Int) (a2 : Int) : Option (Int × (List Int) × Int × Unit) :=
  (m44 a1 a2).bind fun y41 =>
  cond (iEq y41.2.2.1 0)
  (cond (cond (iLt y41.1 0) true (iLt a0 y41.1))
   (some (0, y41.2.1, 4, ()))
   (cond (iNe y41.2.2.1 0)
    (some (0, y41.2.1, y41.2.2.1, ()))
    (some (y41.1, y41.2.1, y41.2.2.1, ()))))
  (cond (iNe y41.2.2.1 0)
   (some (0, y41.2.1, y41.2.2.1, ()))
   (some (y41.1, y41.2.1, y41.2.2.1, ())))
noncomputable def cfg53 : Cfg := ⟨ttab, gtab, [], [h44]⟩
def ish53 : Sh := ⟨2, [(1, (.int .i64))], [(0, .ptr 0 0 0)], [.box 80 [.d (.list (.int .u8)), .d (.int .i64)]]⟩
def osh53 : Sh := ⟨1, [(0, (.int .i64))], [], [.box 80 [.d (.list (.int .u8)), .d (.int .i64)]]⟩
theorem eqn53 (x : Int × (List Int) × Int × Unit) : xfunH cfg53 x53 31 [.t 4] [] ish53 osh53 x = m53 x.1 x.2.1 x.2.2.1 := by kernel_rfl
noncomputable def h53 : HI := ⟨53, ish53, osh53, fun (x : Int × (List Int) × Int × Unit) => m53 x.1 x.2.1 x.2.2.1⟩
theorem okh53 : HOk Try.prog (gx gtab) h53 := hok mixed (cfg_h okh44 (cfg_nil _ _) : CfgOk _ cfg53) F53 eqn53
/- 45 (*treaty/codec.reader).losses -/
def r45_0 : List Ins := [⟨some 2, none, .mov (.k (.slice none 0 0))⟩]
def r45_1 : List Ins := [⟨some 3, none, .mov (.k (.slice none 0 0))⟩]
def r45_2 : List Ins := [⟨some 8, none, .mov (.t 0)⟩,
  ⟨some 9, none, .call (.k (.func (.func 53) #[] #[])) [(.t 8), (.k (.int .i64 64))]⟩,
  ⟨some 4, none, .mov (.t 9)⟩]
def r45_3 : List Ins := [⟨some 10, none, .mov (.t 4)⟩,
  ⟨some 11, none, .bin .gtr (.t 10) (.k (.int .i64 0))⟩,
  ⟨some 12, none, .mov (.t 11)⟩,
  ⟨some 13, some (12, true), .mov (.t 0)⟩,
  ⟨some 14, some (12, true), .nck (.t 13)⟩,
  ⟨some 15, some (12, true), .faddr 1 (.t 14)⟩,
  ⟨some 16, some (12, true), .load 1 false (.t 15)⟩,
  ⟨some 17, some (12, true), .bin .eql (.t 16) (.k (.int .i64 0))⟩,
  ⟨some 18, none, .pick (.t 12) (.t 17) (.k (.bool false))⟩]
def r45_4 : List Ins := [⟨some 5, none, .alloc 76 (.agg #[.int .i64 0, .int .i64 0, .int .i64 0, .int .i64 0, .int .i64 0, .int .i64 0, .int .i64 0, .int .i64 0, .int .i64 0, .int .i64 0])⟩]
def r45_5 : List Ins := [⟨some 21, none, .faddr 0 (.t 5)⟩,
  ⟨some 22, none, .faddr 1 (.t 5)⟩,
  ⟨some 23, none, .faddr 2 (.t 5)⟩,
  ⟨some 24, none, .faddr 3 (.t 5)⟩,
  ⟨some 25, none, .faddr 4 (.t 5)⟩,
  ⟨some 26, none, .faddr 5 (.t 5)⟩,
  ⟨some 27, none, .faddr 6 (.t 5)⟩,
  ⟨some 28, none, .faddr 7 (.t 5)⟩,
  ⟨some 29, none, .faddr 8 (.t 5)⟩,
  ⟨some 30, none, .faddr 9 (.t 5)⟩,
  ⟨some 31, none, .bvec 95 [(.t 21), (.t 22), (.t 23), (.t 24), (.t 25), (.t 26), (.t 27), (.t 28), (.t 29), (.t 30)]⟩,
  ⟨some 32, none, .len (.t 31)⟩,
  ⟨some 33, none, .mov (.k (.int .i64 0))⟩]
def r45_6 : List Ins := [⟨some 34, none, .bin .lss (.t 33) (.t 32)⟩]
def r45_7 : List Ins := [⟨some 35, none, .iaddr 1 (.t 31) (.t 33)⟩,
  ⟨some 36, none, .load 1 false (.t 35)⟩,
  ⟨some 7, none, .mov (.t 36)⟩]
def r45_8 : List Ins := [⟨some 37, none, .mov (.t 7)⟩,
  ⟨some 38, none, .mov (.t 0)⟩,
  ⟨some 39, none, .call (.k (.func (.func 44) #[] #[])) [(.t 38)]⟩,
  ⟨some 40, none, .nck (.t 37)⟩,
  ⟨none, none, .store 1 (.t 40) (.t 39)⟩]
def r45_9 : List Ins := [⟨some 41, none, .bin .add (.t 33) (.k (.int .i64 1))⟩,
  ⟨some 33, none, .mov (.t 41)⟩]
def r45_10 : List Ins := [⟨some 42, none, .mov (.t 3)⟩,
  ⟨some 43, none, .load 10 true (.t 5)⟩,
  ⟨some 44, none, .bslice 76 10 [(.t 43)]⟩,
  ⟨some 45, none, .app 76 10 80 (.t 42) (.t 44)⟩,
  ⟨some 3, none, .mov (.t 45)⟩]
def r45_11 : List Ins := [⟨some 19, none, .mov (.t 4)⟩,
  ⟨some 20, none, .bin .sub (.t 19) (.k (.int .i64 1))⟩,
  ⟨some 4, none, .mov (.t 20)⟩]
def r45_12 : List Ins := [⟨some 46, none, .mov (.t 3)⟩,
  ⟨some 2, none, .mov (.t 46)⟩]
def x45 : XC := (.seq (.ops false r45_0) (.seq (.ops false r45_1) (.seq (.seq (.ops false r45_2) (.block 0 (.loop [.gh 3 76 tS0] ⟨47, [(4, (.int .i64))], [(0, .ptr 0 0 0), (3, .row 1)], [.box 80 [.d (.list (.int .u8)), .d (.int .i64)], .row 76 tS0 false]⟩ (.seq (.seq (.ops false r45_3) (.cond (.t 18) .skip (.exit 0))) (.seq (.block 1 (.seq (.ops false r45_4) (.seq (.seq (.ops false r45_5) (.block 2 (.loopU 11 (.seq (.ops false r45_6) (.seq (.cond (.t 34) .skip (.exit 2)) (.seq (.block 3 (.seq (.ops false r45_7) (.ops false r45_8))) (.ops false r45_9))))))) (.ops false r45_10)))) (.ops false r45_11)))))) (.seq (.ops false r45_12) .ret))))
theorem F45 : Fn Try.prog 45 47 x45.er [.t 2] := ⟨Try.f45, hcl, Try.func45, by kernel_rfl, by kernel_rfl, by kernel_rfl, by kernel_rfl⟩
noncomputable def m45 (a0 : List Int) (a1 : Int) : Option ((List Int) × Int × (List DS0) × Unit) :=
  (m53 64 a0 a1).bind fun y66 =>
  loopO (S := Int × (List Int) × Int × (List DS0) × Unit) (R := (List Int) × Int × (List DS0) × Unit) (fun s67 =>
   cond (cond (iLt 0 s67.1) (iEq s67.2.2.1 0) false)
   ((m44 s67.2.1 s67.2.2.1).bind fun y68 =>
    (m44 y68.2.1 y68.2.2.1).bind fun y69 =>
    (m44 y69.2.1 y69.2.2.1).bind fun y70 =>
    (m44 y70.2.1 y70.2.2.1).bind fun y71 =>
    (m44 y71.2.1 y71.2.2.1).bind fun y72 =>
    (m44 y72.2.1 y72.2.2.1).bind fun y73 =>
    (m44 y73.2.1 y73.2.2.1).bind fun y74 =>
    (m44 y74.2.1 y74.2.2.1).bind fun y75 =>
    (m44 y75.2.1 y75.2.2.1).bind fun y76 =>
    (m44 y76.2.1 y76.2.2.1).bind fun y77 =>
    cond (fits (List.length s67.2.2.2.1 + List.length ([(y68.1, y69.1, y70.1, y71.1, y72.1, y73.1, y74.1, y75.1, y76.1, y77.1, ())] : List DS0)) 80)
    (some (.inl (iSub .i64 s67.1 1, y77.2.1, y77.2.2.1, s67.2.2.2.1 ++ ([(y68.1, y69.1, y70.1, y71.1, y72.1, y73.1, y74.1, y75.1, y76.1, y77.1, ())] : List DS0), ()))) none)
   (some (.inr (s67.2.1, s67.2.2.1, s67.2.2.2.1, ()))))
  (y66.1, y66.2.1, y66.2.2.1, ([] : List DS0), ())
noncomputable def cfg45 : Cfg := ⟨ttab, gtab, [], [h44, h53]⟩
def ish45 : Sh := ⟨1, [], [(0, .ptr 0 0 0)], [.box 80 [.d (.list (.int .u8)), .d (.int .i64)]]⟩
def osh45 : Sh := ⟨1, [], [(0, .row 1)], [.box 80 [.d (.list (.int .u8)), .d (.int .i64)], .row 76 tS0 false]⟩
theorem eqn45 (x : (List Int) × Int × Unit) : xfunH cfg45 x45 47 [.t 2] [.gh 2 76 tS0] ish45 osh45 x = m45 x.1 x.2.1 := by kernel_rfl
noncomputable def h45 : HI := ⟨45, ish45, osh45, fun (x : (List Int) × Int × Unit) => m45 x.1 x.2.1⟩
theorem okh45 : HOk Try.prog (gx gtab) h45 := hok mixed (cfg_h okh44 (cfg_h okh53 (cfg_nil _ _)) : CfgOk _ cfg45) F45 eqn45
/- 46 (*treaty/codec.reader).end -/
def r46_0 : List Ins := [⟨some 2, none, .mov (.k (.int .i64 0))⟩]
def r46_1 : List Ins := [⟨some 3, none, .mov (.t 0)⟩,
  ⟨some 4, none, .nck (.t 3)⟩,
  ⟨some 5, none, .faddr 1 (.t 4)⟩,
  ⟨some 6, none, .load 1 false (.t 5)⟩,
  ⟨some 7, none, .bin .eql (.t 6) (.k (.int .i64 0))⟩,
  ⟨some 8, none, .mov (.t 7)⟩,
  ⟨some 9, some (8, true), .mov (.t 0)⟩,
  ⟨some 10, some (8, true), .nck (.t 9)⟩,
  ⟨some 11, some (8, true), .faddr 0 (.t 10)⟩,
  ⟨some 12, some (8, true), .load 1 false (.t 11)⟩,
  ⟨some 13, some (8, true), .len (.t 12)⟩,
  ⟨some 14, some (8, true), .bin .gtr (.t 13) (.k (.int .i64 0))⟩,
  ⟨some 15, none, .pick (.t 8) (.t 14) (.k (.bool false))⟩]
def r46_2 : List Ins := [⟨some 2, none, .mov (.k (.int .i64 5))⟩]
def r46_3 : List Ins := [⟨some 16, none, .mov (.t 0)⟩,
  ⟨some 17, none, .nck (.t 16)⟩,
  ⟨some 18, none, .faddr 1 (.t 17)⟩,
  ⟨some 19, none, .load 1 false (.t 18)⟩,
  ⟨some 2, none, .mov (.t 19)⟩]
def x46 : XC := (.seq (.ops false r46_0) (.seq (.seq (.ops false r46_1) (.cond (.t 15) (.seq (.ops false r46_2) .ret) .skip)) (.seq (.ops false r46_3) .ret)))
theorem F46 : Fn Try.prog 46 20 x46.er [.t 2] := ⟨Try.f46, hcl, Try.func46, by kernel_rfl, by kernel_rfl, by kernel_rfl, by kernel_rfl⟩
noncomputable def m46 (a0 : List Int) (a1 : Int) : Option (Int × (List Int) × Int × Unit) :=
  cond (cond (iEq a1 0) (iLt 0 (lenI a0)) false)
  (some (5, a0, a1, ()))
  (some (a1, a0, a1, ()))
noncomputable def cfg46 : Cfg := ⟨ttab, gtab, [], []⟩
def ish46 : Sh := ⟨1, [], [(0, .ptr 0 0 0)], [.box 80 [.d (.list (.int .u8)), .d (.int .i64)]]⟩
def osh46 : Sh := ⟨1, [(0, (.int .i64))], [], [.box 80 [.d (.list (.int .u8)), .d (.int .i64)]]⟩
theorem eqn46 (x : (List Int) × Int × Unit) : xfunH cfg46 x46 20 [.t 2] [] ish46 osh46 x = m46 x.1 x.2.1 := by kernel_rfl
noncomputable def h46 : HI := ⟨46, ish46, osh46, fun (x : (List Int) × Int × Unit) => m46 x.1 x.2.1⟩
theorem okh46 : HOk Try.prog (gx gtab) h46 := hok mixed (cfg_nil _ _ : CfgOk _ cfg46) F46 eqn46
/- 22 treaty/codec.DecodeCommand -/
def r22_0 : List Ins := [⟨some 2, none, .alloc 38 (.agg #[.int .i64 0, .slice none 0 0, .int .i64 0, .int .i64 0, .int .i64 0, .int .i64 0])⟩,
  ⟨some 3, none, .mov (.k (.int .i64 0))⟩]
def r22_1 : List Ins := [⟨some 7, none, .mov (.t 0)⟩,
  ⟨some 8, none, .build [.slice none 0 0, .int .i64 0] [(0, 1, (.t 7))]⟩,
  ⟨some 4, none, .alloc 80 (.agg #[.slice none 0 0, .int .i64 0])⟩,
  ⟨none, none, .store 2 (.t 4) (.t 8)⟩]
def r22_2 : List Ins := [⟨some 9, none, .call (.k (.func (.func 44) #[] #[])) [(.t 4)]⟩,
  ⟨some 10, none, .build [.int .i64 0, .slice none 0 0, .int .i64 0, .int .i64 0, .int .i64 0, .int .i64 0] [(0, 1, (.t 9))]⟩,
  ⟨some 5, none, .alloc 38 (.agg #[.int .i64 0, .slice none 0 0, .int .i64 0, .int .i64 0, .int .i64 0, .int .i64 0])⟩,
  ⟨none, none, .store 6 (.t 5) (.t 10)⟩]
def r22_3 : List Ins := [⟨some 11, none, .faddr 1 (.t 4)⟩,
  ⟨some 12, none, .load 1 false (.t 11)⟩,
  ⟨some 13, none, .bin .eql (.t 12) (.k (.int .i64 0))⟩,
  ⟨some 14, none, .mov (.t 13)⟩,
  ⟨some 15, some (14, true), .faddr 0 (.t 5)⟩,
  ⟨some 16, some (14, true), .load 1 false (.t 15)⟩,
  ⟨some 17, some (14, true), .call (.k (.func (.func 39) #[] #[])) [(.t 16)]⟩,
  ⟨some 18, some (14, true), .un .not (.t 17)⟩,
  ⟨some 19, none, .pick (.t 14) (.t 18) (.k (.bool false))⟩]
def r22_4 : List Ins := [⟨some 20, none, .faddr 1 (.t 4)⟩,
  ⟨none, none, .store 1 (.t 20) (.k (.int .i64 11))⟩]
def r22_5 : List Ins := [⟨some 21, none, .faddr 0 (.t 5)⟩,
  ⟨some 22, none, .load 1 false (.t 21)⟩]
def r22_6 : List Ins := [⟨some 24, none, .bin .eql (.t 22) (.k (.int .i64 1))⟩,
  ⟨some 23, none, .mov (.t 24)⟩]
def r22_7 : List Ins := [⟨some 25, none, .call (.k (.func (.func 45) #[] #[])) [(.t 4)]⟩,
  ⟨some 26, none, .faddr 1 (.t 5)⟩,
  ⟨none, none, .store 1 (.t 26) (.t 25)⟩]
def r22_8 : List Ins := [⟨some 28, none, .bin .eql (.t 22) (.k (.int .i64 3))⟩,
  ⟨some 27, none, .mov (.t 28)⟩]
def r22_9 : List Ins := [⟨some 29, none, .call (.k (.func (.func 44) #[] #[])) [(.t 4)]⟩,
  ⟨some 30, none, .faddr 2 (.t 5)⟩,
  ⟨none, none, .store 1 (.t 30) (.t 29)⟩]
def r22_10 : List Ins := [⟨some 31, none, .call (.k (.func (.func 44) #[] #[])) [(.t 4)]⟩,
  ⟨some 32, none, .faddr 4 (.t 5)⟩,
  ⟨none, none, .store 1 (.t 32) (.t 31)⟩]
def r22_11 : List Ins := [⟨some 34, none, .bin .eql (.t 22) (.k (.int .i64 4))⟩,
  ⟨some 33, none, .mov (.t 34)⟩]
def r22_12 : List Ins := [⟨some 35, none, .call (.k (.func (.func 44) #[] #[])) [(.t 4)]⟩,
  ⟨some 36, none, .faddr 2 (.t 5)⟩,
  ⟨none, none, .store 1 (.t 36) (.t 35)⟩]
def r22_13 : List Ins := [⟨some 37, none, .call (.k (.func (.func 44) #[] #[])) [(.t 4)]⟩,
  ⟨some 38, none, .faddr 4 (.t 5)⟩,
  ⟨none, none, .store 1 (.t 38) (.t 37)⟩]
def r22_14 : List Ins := [⟨some 39, none, .call (.k (.func (.func 44) #[] #[])) [(.t 4)]⟩,
  ⟨some 40, none, .faddr 5 (.t 5)⟩,
  ⟨none, none, .store 1 (.t 40) (.t 39)⟩]
def r22_15 : List Ins := [⟨some 42, none, .bin .eql (.t 22) (.k (.int .i64 5))⟩,
  ⟨some 41, none, .mov (.t 42)⟩]
def r22_16 : List Ins := [⟨some 43, none, .call (.k (.func (.func 44) #[] #[])) [(.t 4)]⟩,
  ⟨some 44, none, .faddr 2 (.t 5)⟩,
  ⟨none, none, .store 1 (.t 44) (.t 43)⟩]
def r22_17 : List Ins := [⟨some 45, none, .call (.k (.func (.func 44) #[] #[])) [(.t 4)]⟩,
  ⟨some 46, none, .faddr 3 (.t 5)⟩,
  ⟨none, none, .store 1 (.t 46) (.t 45)⟩]
def r22_18 : List Ins := [⟨some 47, none, .call (.k (.func (.func 46) #[] #[])) [(.t 4)]⟩,
  ⟨some 6, none, .mov (.t 47)⟩]
def r22_19 : List Ins := [⟨some 48, none, .mov (.t 6)⟩,
  ⟨some 49, none, .bin .neq (.t 48) (.k (.int .i64 0))⟩]
def r22_20 : List Ins := [⟨some 50, none, .build [.int .i64 0, .slice none 0 0, .int .i64 0, .int .i64 0, .int .i64 0, .int .i64 0] []⟩,
  ⟨some 51, none, .mov (.t 6)⟩,
  ⟨none, none, .store 6 (.t 2) (.t 50)⟩,
  ⟨some 3, none, .mov (.t 51)⟩]
def r22_21 : List Ins := [⟨some 52, none, .load 6 true (.t 5)⟩,
  ⟨none, none, .store 6 (.t 2) (.t 52)⟩,
  ⟨some 3, none, .mov (.k (.int .i64 0))⟩]
def x22 : XC := (.seq (.ops false r22_0) (.seq (.ops false r22_1) (.seq (.ops false r22_2) (.seqj [] ⟨53, [], [(2, .ptr 0 0 0), (4, .ptr 1 0 0), (5, .ptr 2 0 0)], [.box 38 [.d (.int .i64), .nil, .d (.int .i64), .d (.int .i64), .d (.int .i64), .d (.int .i64)], .box 80 [.d (.list (.int .u8)), .d (.int .i64)], .box 38 [.d (.int .i64), .nil, .d (.int .i64), .d (.int .i64), .d (.int .i64), .d (.int .i64)]]⟩ (.seq (.ops false r22_3) (.cond (.t 19) (.ops false r22_4) .skip)) (.seq (.seq (.ops false r22_5) (.block 0 (.seq (.ops false r22_6) (.cond (.t 23) (.ops false r22_7) (.seq (.ops false r22_8) (.cond (.t 27) (.seq (.ops false r22_9) (.ops false r22_10)) (.seq (.ops false r22_11) (.cond (.t 33) (.seq (.ops false r22_12) (.seq (.ops false r22_13) (.ops false r22_14))) (.seq (.ops false r22_15) (.cond (.t 41) (.seq (.ops false r22_16) (.ops false r22_17)) .skip)))))))))) (.seq (.seq (.ops false r22_18) (.seq (.ops false r22_19) (.cond (.t 49) (.seq (.ops false r22_20) .ret) .skip))) (.seq (.ops false r22_21) .ret)))))))
theorem F22 : Fn Try.prog 22 53 x22.er [.c 2 6 true, .t 3] := ⟨Try.f22, hcl, Try.func22, by kernel_rfl, by kernel_rfl, by kernel_rfl, by kernel_rfl⟩
noncomputable def m22 (a0 : List Int) : Option (DS1 × Int × Unit) :=
  (m44 a0 0).bind fun y91 =>
  joinO (S := Int × Int × Int × Int × Int × (List Int) × Int × Int × Int × Int × Int × Int × Unit) (R := DS1 × Int × Unit)
  (cond (iEq y91.2.2.1 0)
   ((m39 y91.1).bind fun y92 =>
    cond (not y92.1)
    (some (.inl (0, 0, 0, 0, 0, y91.2.1, 11, y91.1, 0, 0, 0, 0, ())))
    (some (.inl (0, 0, 0, 0, 0, y91.2.1, y91.2.2.1, y91.1, 0, 0, 0, 0, ()))))
   (some (.inl (0, 0, 0, 0, 0, y91.2.1, y91.2.2.1, y91.1, 0, 0, 0, 0, ()))))
  (fun j93 =>
   cond (iEq j93.2.2.2.2.2.2.2.1 1)
   ((m45 j93.2.2.2.2.2.1 j93.2.2.2.2.2.2.1).bind fun y94 =>
    (m46 y94.1 y94.2.1).bind fun y95 =>
    cond (iNe y95.1 0)
    (some ((0, ([] : List DS0), 0, 0, 0, 0, ()), y95.1, ()))
    (some ((j93.2.2.2.2.2.2.2.1, y94.2.2.1, j93.2.2.2.2.2.2.2.2.1, j93.2.2.2.2.2.2.2.2.2.1, j93.2.2.2.2.2.2.2.2.2.2.1, j93.2.2.2.2.2.2.2.2.2.2.2.1, ()), 0, ())))
   (cond (iEq j93.2.2.2.2.2.2.2.1 3)
    ((m44 j93.2.2.2.2.2.1 j93.2.2.2.2.2.2.1).bind fun y96 =>
     (m44 y96.2.1 y96.2.2.1).bind fun y97 =>
     (m46 y97.2.1 y97.2.2.1).bind fun y98 =>
     cond (iNe y98.1 0)
     (some ((0, ([] : List DS0), 0, 0, 0, 0, ()), y98.1, ()))
     (some ((j93.2.2.2.2.2.2.2.1, ([] : List DS0), y96.1, j93.2.2.2.2.2.2.2.2.2.1, y97.1, j93.2.2.2.2.2.2.2.2.2.2.2.1, ()), 0, ())))
    (cond (iEq j93.2.2.2.2.2.2.2.1 4)
     ((m44 j93.2.2.2.2.2.1 j93.2.2.2.2.2.2.1).bind fun y99 =>
      (m44 y99.2.1 y99.2.2.1).bind fun y100 =>
      (m44 y100.2.1 y100.2.2.1).bind fun y101 =>
      (m46 y101.2.1 y101.2.2.1).bind fun y102 =>
      cond (iNe y102.1 0)
      (some ((0, ([] : List DS0), 0, 0, 0, 0, ()), y102.1, ()))
      (some ((j93.2.2.2.2.2.2.2.1, ([] : List DS0), y99.1, j93.2.2.2.2.2.2.2.2.2.1, y100.1, y101.1, ()), 0, ())))
     (cond (iEq j93.2.2.2.2.2.2.2.1 5)
      ((m44 j93.2.2.2.2.2.1 j93.2.2.2.2.2.2.1).bind fun y103 =>
       (m44 y103.2.1 y103.2.2.1).bind fun y104 =>
       (m46 y104.2.1 y104.2.2.1).bind fun y105 =>
       cond (iNe y105.1 0)
       (some ((0, ([] : List DS0), 0, 0, 0, 0, ()), y105.1, ()))
       (some ((j93.2.2.2.2.2.2.2.1, ([] : List DS0), y103.1, y104.1, j93.2.2.2.2.2.2.2.2.2.2.1, j93.2.2.2.2.2.2.2.2.2.2.2.1, ()), 0, ())))
      ((m46 j93.2.2.2.2.2.1 j93.2.2.2.2.2.2.1).bind fun y106 =>
       cond (iNe y106.1 0)
       (some ((0, ([] : List DS0), 0, 0, 0, 0, ()), y106.1, ()))
       (some ((j93.2.2.2.2.2.2.2.1, ([] : List DS0), j93.2.2.2.2.2.2.2.2.1, j93.2.2.2.2.2.2.2.2.2.1, j93.2.2.2.2.2.2.2.2.2.2.1, j93.2.2.2.2.2.2.2.2.2.2.2.1, ()), 0, ())))))))
noncomputable def cfg22 : Cfg := ⟨ttab, gtab, [i39], [h44, h45, h46]⟩
theorem eqn22 (x : (List Int) × Unit) : xfun cfg22 x22 53 [.c 2 6 true, .t 3] [(.list (.int .u8))] [tS1, (.int .i64)] x = m22 x.1 := by kernel_rfl
noncomputable def i22 : PI := ⟨22, [(.list (.int .u8))], [tS1, (.int .i64)], fun (x : (List Int) × Unit) => m22 x.1⟩
theorem oki22 : POk Try.prog (gx gtab) i22 := pok mixed (cfg_p oki39 (cfg_h okh44 (cfg_h okh45 (cfg_h okh46 (cfg_nil _ _)))) : CfgOk _ cfg22) F22 eqn22
/- 15 treaty/treatyref40.Same -/
def r15_0 : List Ins := [⟨some 4, none, .mov (.k (.bool false))⟩]
def r15_1 : List Ins := [⟨some 6, none, .mov (.t 0)⟩,
  ⟨some 7, none, .len (.t 6)⟩,
  ⟨some 8, none, .mov (.t 1)⟩,
  ⟨some 9, none, .len (.t 8)⟩,
  ⟨some 10, none, .bin .neq (.t 7) (.t 9)⟩]
def r15_2 : List Ins := [⟨some 4, none, .mov (.k (.bool false))⟩]
def r15_3 : List Ins := [⟨some 11, none, .mov (.t 0)⟩,
  ⟨some 12, none, .len (.t 11)⟩,
  ⟨some 13, none, .mov (.k (.int .i64 0))⟩]
def r15_4 : List Ins := [⟨some 14, none, .bin .lss (.t 13) (.t 12)⟩]
def r15_5 : List Ins := [⟨some 15, none, .mov (.t 13)⟩,
  ⟨some 5, none, .mov (.t 15)⟩]
def r15_6 : List Ins := [⟨some 16, none, .mov (.t 0)⟩,
  ⟨some 17, none, .mov (.t 5)⟩,
  ⟨some 18, none, .iaddr 1 (.t 16) (.t 17)⟩,
  ⟨some 19, none, .load 1 false (.t 18)⟩,
  ⟨some 20, none, .mov (.t 1)⟩,
  ⟨some 21, none, .mov (.t 5)⟩,
  ⟨some 22, none, .iaddr 1 (.t 20) (.t 21)⟩,
  ⟨some 23, none, .load 1 false (.t 22)⟩,
  ⟨some 24, none, .bin .neq (.t 19) (.t 23)⟩]
def r15_7 : List Ins := [⟨some 4, none, .mov (.k (.bool false))⟩]
def r15_8 : List Ins := [⟨some 25, none, .bin .add (.t 13) (.k (.int .i64 1))⟩,
  ⟨some 13, none, .mov (.t 25)⟩]
def r15_9 : List Ins := [⟨some 4, none, .mov (.k (.bool true))⟩]
def x15 : XC := (.seq (.ops false r15_0) (.seq (.seq (.ops false r15_1) (.cond (.t 10) (.seq (.ops false r15_2) .ret) .skip)) (.seq (.seq (.ops false r15_3) (.block 0 (.loop [] ⟨26, [(0, (.list (.int .u8))), (1, (.list (.int .u8))), (12, (.int .i64)), (13, (.int .i64))], [], []⟩ (.seq (.ops false r15_4) (.seq (.cond (.t 14) .skip (.exit 0)) (.seq (.block 1 (.seq (.ops false r15_5) (.seq (.ops true r15_6) (.cond (.t 24) (.seq (.ops false r15_7) .ret) .skip)))) (.ops false r15_8))))))) (.seq (.ops false r15_9) .ret))))
theorem F15 : Fn Try.prog 15 26 x15.er [.t 4] := ⟨Try.f15, hcl, Try.func15, by kernel_rfl, by kernel_rfl, by kernel_rfl, by kernel_rfl⟩
noncomputable def m15 (a0 : List Int) (a1 : List Int) : Option (Bool × Unit) :=
  cond (iNe (lenI a0) (lenI a1))
  (some (false, ()))
  (loopO (S := (List Int) × (List Int) × Int × Int × Unit) (R := Bool × Unit) (fun s109 =>
    cond (iLt s109.2.2.2.1 s109.2.2.1)
    (cond (bnd s109.2.2.2.1 (lenI s109.1))
     (cond (bnd s109.2.2.2.1 (lenI s109.2.1))
      (cond (iNe (atI s109.1 s109.2.2.2.1 0) (atI s109.2.1 s109.2.2.2.1 0))
       (some (.inr (false, ())))
       (some (.inl (s109.1, s109.2.1, s109.2.2.1, iAdd .i64 s109.2.2.2.1 1, ())))) none) none)
    (some (.inr (true, ()))))
   (a0, a1, lenI a0, 0, ()))
noncomputable def cfg15 : Cfg := ⟨ttab, gtab, [], []⟩
theorem eqn15 (x : (List Int) × (List Int) × Unit) : xfun cfg15 x15 26 [.t 4] [(.list (.int .u8)), (.list (.int .u8))] [.bool] x = m15 x.1 x.2.1 := by kernel_rfl
noncomputable def i15 : PI := ⟨15, [(.list (.int .u8)), (.list (.int .u8))], [.bool], fun (x : (List Int) × (List Int) × Unit) => m15 x.1 x.2.1⟩
theorem oki15 : POk Try.prog (gx gtab) i15 := pok mixed (cfg_nil _ _ : CfgOk _ cfg15) F15 eqn15
/- 9 treaty/treatylaw40.awake -/
def r9_0 : List Ins := [⟨some 0, none, .mov (.k (.bool false))⟩]
def r9_1 : List Ins := [⟨some 8, none, .call (.k (.func (.func 13) #[] #[])) [(.k (.slice none 0 0)), (.k (.int .i64 64))]⟩,
  ⟨some 7, none, .mov (.t 8)⟩,
  ⟨some 9, none, .ext 0 (.t 7)⟩,
  ⟨some 10, none, .ext 1 (.t 7)⟩,
  ⟨some 1, none, .mov (.t 9)⟩,
  ⟨some 2, none, .mov (.t 10)⟩]
def r9_2 : List Ins := [⟨some 12, none, .build [.int .i64 0, .slice none 0 0, .int .i64 0, .int .i64 0, .int .i64 0, .int .i64 0] [(0, 1, (.k (.int .i64 3))), (2, 1, (.k (.int .i64 5))), (4, 1, (.k (.int .i64 2)))]⟩,
  ⟨some 13, none, .call (.k (.func (.func 19) #[] #[])) [(.t 12)]⟩,
  ⟨some 11, none, .mov (.t 13)⟩,
  ⟨some 14, none, .ext 0 (.t 11)⟩,
  ⟨some 15, none, .ext 1 (.t 11)⟩,
  ⟨some 3, none, .mov (.t 14)⟩,
  ⟨some 4, none, .mov (.t 15)⟩]
def r9_3 : List Ins := [⟨some 17, none, .bslice 5 1 [(.k (.int .u8 6)), (.k (.int .u8 10)), (.k (.int .u8 4))]⟩,
  ⟨some 18, none, .call (.k (.func (.func 22) #[] #[])) [(.t 17)]⟩,
  ⟨some 16, none, .mov (.t 18)⟩,
  ⟨some 19, none, .ext 0 (.t 16)⟩,
  ⟨some 20, none, .ext 1 (.t 16)⟩,
  ⟨some 5, none, .alloc 38 (.agg #[.int .i64 0, .slice none 0 0, .int .i64 0, .int .i64 0, .int .i64 0, .int .i64 0])⟩,
  ⟨none, none, .store 6 (.t 5) (.t 19)⟩,
  ⟨some 6, none, .mov (.t 20)⟩]
def r9_4 : List Ins := [⟨some 21, none, .mov (.t 2)⟩,
  ⟨some 22, none, .bin .eql (.t 21) (.k (.int .i64 0))⟩,
  ⟨some 23, none, .mov (.t 22)⟩,
  ⟨some 24, some (23, true), .mov (.t 4)⟩,
  ⟨some 25, some (23, true), .bin .eql (.t 24) (.k (.int .i64 0))⟩,
  ⟨some 26, none, .pick (.t 23) (.t 25) (.k (.bool false))⟩,
  ⟨some 27, none, .mov (.t 26)⟩,
  ⟨some 28, some (27, true), .mov (.t 6)⟩,
  ⟨some 29, some (27, true), .bin .eql (.t 28) (.k (.int .i64 0))⟩,
  ⟨some 30, none, .pick (.t 27) (.t 29) (.k (.bool false))⟩,
  ⟨some 31, none, .mov (.t 30)⟩,
  ⟨some 32, some (31, true), .mov (.t 1)⟩,
  ⟨some 33, some (31, true), .bslice 5 1 [(.k (.int .u8 128)), (.k (.int .u8 1))]⟩,
  ⟨some 34, some (31, true), .call (.k (.func (.func 15) #[] #[])) [(.t 32), (.t 33)]⟩,
  ⟨some 35, none, .pick (.t 31) (.t 34) (.k (.bool false))⟩,
  ⟨some 36, none, .mov (.t 35)⟩,
  ⟨some 37, some (36, true), .mov (.t 3)⟩,
  ⟨some 38, some (36, true), .bslice 5 1 [(.k (.int .u8 6)), (.k (.int .u8 10)), (.k (.int .u8 4))]⟩,
  ⟨some 39, some (36, true), .call (.k (.func (.func 15) #[] #[])) [(.t 37), (.t 38)]⟩,
  ⟨some 40, none, .pick (.t 36) (.t 39) (.k (.bool false))⟩,
  ⟨some 41, none, .mov (.t 40)⟩,
  ⟨some 42, some (41, true), .faddr 2 (.t 5)⟩,
  ⟨some 43, some (41, true), .load 1 false (.t 42)⟩,
  ⟨some 44, some (41, true), .bin .eql (.t 43) (.k (.int .i64 5))⟩,
  ⟨some 45, none, .pick (.t 41) (.t 44) (.k (.bool false))⟩,
  ⟨some 46, none, .mov (.t 45)⟩,
  ⟨some 47, some (46, true), .faddr 4 (.t 5)⟩,
  ⟨some 48, some (46, true), .load 1 false (.t 47)⟩,
  ⟨some 49, some (46, true), .bin .eql (.t 48) (.k (.int .i64 2))⟩,
  ⟨some 50, none, .pick (.t 46) (.t 49) (.k (.bool false))⟩,
  ⟨some 0, none, .mov (.t 50)⟩]
def x9 : XC := (.seq (.ops false r9_0) (.seq (.ops false r9_1) (.seq (.ops false r9_2) (.seq (.ops false r9_3) (.seq (.ops false r9_4) .ret)))))
theorem F9 : Fn Try.prog 9 51 x9.er [.t 0] := ⟨Try.f9, hcl, Try.func9, by kernel_rfl, by kernel_rfl, by kernel_rfl, by kernel_rfl⟩
noncomputable def m9 : Option (Bool × Unit) :=
  (m13 ([] : List Int) 64).bind fun y9 =>
  (m19 (3, ([] : List DS0), 5, 0, 2, 0, ())).bind fun y30 =>
  (m22 ([6, 10, 4] : List Int)).bind fun y107 =>
  cond (cond (cond (iEq y9.2.1 0) (iEq y30.2.1 0) false) (iEq y107.2.1 0) false)
  ((m15 y9.1 ([128, 1] : List Int)).bind fun y110 =>
   cond y110.1
   ((m15 y30.1 ([6, 10, 4] : List Int)).bind fun y111 =>
    some (cond (cond y111.1 (iEq y107.1.2.2.1 5) false) (iEq y107.1.2.2.2.2.1 2) false, ()))
   (some (false, ())))
  (some (false, ()))
noncomputable def cfg9 : Cfg := ⟨ttab, gtab, [i13, i15, i19, i22], []⟩
theorem eqn9 (x : Unit) : xfun cfg9 x9 51 [.t 0] [] [.bool] x = m9 := by kernel_rfl
noncomputable def i9 : PI := ⟨9, [], [.bool], fun (x : Unit) => m9⟩
theorem oki9 : POk Try.prog (gx gtab) i9 := pok mixed (cfg_p oki13 (cfg_p oki15 (cfg_p oki19 (cfg_p oki22 (cfg_nil _ _)))) : CfgOk _ cfg9) F9 eqn9
/- 31 treaty/treatymade.New -/
def r31_0 : List Ins := [⟨some 2, none, .mov (.k (.pointer none))⟩]
def r31_1 : List Ins := [⟨some 3, none, .mov (.t 0)⟩,
  ⟨some 4, none, .build [.slice none 0 0, .int .i64 0] [(0, 1, (.t 3))]⟩,
  ⟨some 5, none, .box 98 2 (.t 4)⟩,
  ⟨some 2, none, .mov (.t 5)⟩]
def x31 : XC := (.seq (.ops false r31_0) (.seq (.ops false r31_1) .ret))
theorem F31 : Fn Try.prog 31 6 x31.er [.t 2] := ⟨Try.f31, hcl, Try.func31, by kernel_rfl, by kernel_rfl, by kernel_rfl, by kernel_rfl⟩
noncomputable def m31 (a0 : List Int) : Option ((List Int) × Int × Unit) :=
  some (a0, 0, ())
noncomputable def cfg31 : Cfg := ⟨ttab, gtab, [], []⟩
def ish31 : Sh := ⟨1, [(0, (.list (.int .i64)))], [], []⟩
def osh31 : Sh := ⟨1, [], [(0, .ptr 0 0 0)], [.box 98 [.d (.list (.int .i64)), .d (.int .i64)]]⟩
theorem eqn31 (x : (List Int) × Unit) : xfunH cfg31 x31 6 [.t 2] [] ish31 osh31 x = m31 x.1 := by kernel_rfl
noncomputable def h31 : HI := ⟨31, ish31, osh31, fun (x : (List Int) × Unit) => m31 x.1⟩
theorem okh31 : HOk Try.prog (gx gtab) h31 := hok mixed (cfg_nil _ _ : CfgOk _ cfg31) F31 eqn31
/- 10 treaty/treatymade2.New -/
def r10_0 : List Ins := [⟨some 2, none, .mov (.k (.pointer none))⟩]
def r10_1 : List Ins := [⟨some 3, none, .mov (.t 0)⟩,
  ⟨some 4, none, .call (.k (.func (.func 31) #[] #[])) [(.t 3)]⟩,
  ⟨some 2, none, .mov (.t 4)⟩]
def x10 : XC := (.seq (.ops false r10_0) (.seq (.ops false r10_1) .ret))
theorem F10 : Fn Try.prog 10 5 x10.er [.t 2] := ⟨Try.f10, hcl, Try.func10, by kernel_rfl, by kernel_rfl, by kernel_rfl, by kernel_rfl⟩
noncomputable def m10 (a0 : List Int) : Option ((List Int) × Int × Unit) :=
  (m31 a0).bind fun y114 =>
  some (y114.1, y114.2.1, ())
noncomputable def cfg10 : Cfg := ⟨ttab, gtab, [], [h31]⟩
def ish10 : Sh := ⟨1, [(0, (.list (.int .i64)))], [], []⟩
def osh10 : Sh := ⟨1, [], [(0, .ptr 0 0 0)], [.box 98 [.d (.list (.int .i64)), .d (.int .i64)]]⟩
theorem eqn10 (x : (List Int) × Unit) : xfunH cfg10 x10 5 [.t 2] [] ish10 osh10 x = m10 x.1 := by kernel_rfl
noncomputable def h10 : HI := ⟨10, ish10, osh10, fun (x : (List Int) × Unit) => m10 x.1⟩
theorem okh10 : HOk Try.prog (gx gtab) h10 := hok mixed (cfg_h okh31 (cfg_nil _ _) : CfgOk _ cfg10) F10 eqn10
/- 32 (*treaty/treatymade.Deck).Next -/
def r32_0 : List Ins := [⟨some 4, none, .mov (.k (.int .i64 0))⟩]
def r32_1 : List Ins := [⟨some 5, none, .mov (.t 0)⟩,
  ⟨some 6, none, .nck (.t 5)⟩,
  ⟨some 7, none, .faddr 1 (.t 6)⟩,
  ⟨some 8, none, .load 1 false (.t 7)⟩,
  ⟨some 9, none, .mov (.t 0)⟩,
  ⟨some 10, none, .nck (.t 9)⟩,
  ⟨some 11, none, .faddr 0 (.t 10)⟩,
  ⟨some 12, none, .load 1 false (.t 11)⟩,
  ⟨some 13, none, .len (.t 12)⟩,
  ⟨some 14, none, .bin .geq (.t 8) (.t 13)⟩]
def r32_2 : List Ins := [⟨some 4, none, .mov (.k (.int .i64 0))⟩]
def r32_3 : List Ins := [⟨some 15, none, .mov (.t 0)⟩,
  ⟨some 16, none, .nck (.t 15)⟩,
  ⟨some 17, none, .faddr 1 (.t 16)⟩,
  ⟨some 18, none, .load 1 false (.t 17)⟩,
  ⟨some 19, none, .bin .add (.t 18) (.k (.int .i64 1))⟩,
  ⟨some 20, none, .nck (.t 15)⟩,
  ⟨some 21, none, .faddr 1 (.t 20)⟩,
  ⟨none, none, .store 1 (.t 21) (.t 19)⟩]
def r32_4 : List Ins := [⟨some 22, none, .mov (.t 0)⟩,
  ⟨some 23, none, .nck (.t 22)⟩,
  ⟨some 24, none, .faddr 0 (.t 23)⟩,
  ⟨some 25, none, .load 1 false (.t 24)⟩,
  ⟨some 26, none, .mov (.t 0)⟩,
  ⟨some 27, none, .nck (.t 26)⟩,
  ⟨some 28, none, .faddr 1 (.t 27)⟩,
  ⟨some 29, none, .load 1 false (.t 28)⟩,
  ⟨some 30, none, .bin .sub (.t 29) (.k (.int .i64 1))⟩,
  ⟨some 31, none, .iaddr 1 (.t 25) (.t 30)⟩,
  ⟨some 32, none, .load 1 false (.t 31)⟩,
  ⟨some 33, none, .mov (.t 1)⟩,
  ⟨some 34, none, .bin .rem (.t 32) (.t 33)⟩,
  ⟨some 35, none, .mov (.t 1)⟩,
  ⟨some 36, none, .bin .add (.t 34) (.t 35)⟩,
  ⟨some 37, none, .mov (.t 1)⟩,
  ⟨some 38, none, .bin .rem (.t 36) (.t 37)⟩,
  ⟨some 4, none, .mov (.t 38)⟩]
def x32 : XC := (.seq (.ops false r32_0) (.seq (.seq (.ops true r32_1) (.cond (.t 14) (.seq (.ops false r32_2) .ret) .skip)) (.seq (.ops false r32_3) (.seq (.ops true r32_4) .ret))))
theorem F32 : Fn Try.prog 32 39 x32.er [.t 4] := ⟨Try.f32, hcl, Try.func32, by kernel_rfl, by kernel_rfl, by kernel_rfl, by kernel_rfl⟩
noncomputable def m32 (a0 : Int) (a1 : List Int) (a2 : Int) : Option (Int × (List Int) × Int × Unit) :=
  cond (iLe (lenI a1) a2)
  (some (0, a1, a2, ()))
  (cond (bnd (iSub .i64 (iAdd .i64 a2 1) 1) (lenI a1))
   (cond (iNe a0 0)
    (cond (iNe a0 0)
     (some (iRem (iAdd .i64 (iRem (atI a1 (iSub .i64 (iAdd .i64 a2 1) 1) 0) a0) a0) a0, a1, iAdd .i64 a2 1, ())) none) none) none)
noncomputable def cfg32 : Cfg := ⟨ttab, gtab, [], []⟩
def ish32 : Sh := ⟨2, [(1, (.int .i64))], [(0, .ptr 0 0 0)], [.box 98 [.d (.list (.int .i64)), .d (.int .i64)]]⟩
def osh32 : Sh := ⟨1, [(0, (.int .i64))], [], [.box 98 [.d (.list (.int .i64)), .d (.int .i64)]]⟩
theorem eqn32 (x : Int × (List Int) × Int × Unit) : xfunH cfg32 x32 39 [.t 4] [] ish32 osh32 x = m32 x.1 x.2.1 x.2.2.1 := by kernel_rfl
noncomputable def h32 : HI := ⟨32, ish32, osh32, fun (x : Int × (List Int) × Int × Unit) => m32 x.1 x.2.1 x.2.2.1⟩
theorem okh32 : HOk Try.prog (gx gtab) h32 := hok mixed (cfg_nil _ _ : CfgOk _ cfg32) F32 eqn32
/- 11 (*treaty/treatymade.Deck).Upto -/
def r11_0 : List Ins := [⟨some 4, none, .mov (.k (.int .i64 0))⟩]
def r11_1 : List Ins := [⟨some 5, none, .mov (.t 0)⟩,
  ⟨some 6, none, .call (.k (.func (.func 32) #[] #[])) [(.t 5), (.k (.int .i64 6))]⟩]
def r11_2 : List Ins := [⟨some 8, none, .bin .eql (.t 6) (.k (.int .i64 0))⟩,
  ⟨some 7, none, .mov (.t 8)⟩]
def r11_3 : List Ins := [⟨some 9, none, .mov (.t 0)⟩,
  ⟨some 10, none, .call (.k (.func (.func 32) #[] #[])) [(.t 9), (.k (.int .i64 4))]⟩,
  ⟨some 11, none, .mov (.t 1)⟩,
  ⟨some 12, none, .min2 (.t 10) (.t 11)⟩,
  ⟨some 4, none, .mov (.t 12)⟩]
def r11_4 : List Ins := [⟨some 14, none, .bin .eql (.t 6) (.k (.int .i64 1))⟩,
  ⟨some 13, none, .mov (.t 14)⟩]
def r11_5 : List Ins := [⟨some 15, none, .mov (.t 0)⟩,
  ⟨some 16, none, .call (.k (.func (.func 32) #[] #[])) [(.t 15), (.k (.int .i64 100))]⟩,
  ⟨some 17, none, .mov (.t 1)⟩,
  ⟨some 18, none, .min2 (.t 16) (.t 17)⟩,
  ⟨some 4, none, .mov (.t 18)⟩]
def r11_6 : List Ins := [⟨some 20, none, .bin .eql (.t 6) (.k (.int .i64 2))⟩,
  ⟨some 19, none, .mov (.t 20)⟩]
def r11_7 : List Ins := [⟨some 21, none, .mov (.t 0)⟩,
  ⟨some 22, none, .call (.k (.func (.func 32) #[] #[])) [(.t 21), (.k (.int .i64 1048576))]⟩,
  ⟨some 23, none, .mov (.t 1)⟩,
  ⟨some 24, none, .min2 (.t 22) (.t 23)⟩,
  ⟨some 4, none, .mov (.t 24)⟩]
def r11_8 : List Ins := [⟨some 26, none, .bin .eql (.t 6) (.k (.int .i64 3))⟩,
  ⟨some 25, none, .mov (.t 26)⟩]
def r11_9 : List Ins := [⟨some 27, none, .mov (.t 1)⟩,
  ⟨some 28, none, .mov (.t 0)⟩,
  ⟨some 29, none, .mov (.t 1)⟩,
  ⟨some 30, none, .bin .add (.t 29) (.k (.int .i64 1))⟩,
  ⟨some 31, none, .min2 (.k (.int .i64 3)) (.t 30)⟩,
  ⟨some 32, none, .call (.k (.func (.func 32) #[] #[])) [(.t 28), (.t 31)]⟩,
  ⟨some 33, none, .bin .sub (.t 27) (.t 32)⟩,
  ⟨some 4, none, .mov (.t 33)⟩]
def r11_10 : List Ins := [⟨some 34, none, .mov (.t 0)⟩,
  ⟨some 35, none, .mov (.t 1)⟩,
  ⟨some 36, none, .bin .add (.t 35) (.k (.int .i64 1))⟩,
  ⟨some 37, none, .call (.k (.func (.func 32) #[] #[])) [(.t 34), (.t 36)]⟩,
  ⟨some 4, none, .mov (.t 37)⟩]
def x11 : XC := (.seq (.ops false r11_0) (.seq (.seq (.ops false r11_1) (.block 0 (.seq (.ops false r11_2) (.cond (.t 7) (.seq (.ops false r11_3) .ret) (.seq (.ops false r11_4) (.cond (.t 13) (.seq (.ops false r11_5) .ret) (.seq (.ops false r11_6) (.cond (.t 19) (.seq (.ops false r11_7) .ret) (.seq (.ops false r11_8) (.cond (.t 25) (.seq (.ops false r11_9) .ret) .skip)))))))))) (.seq (.ops false r11_10) .ret)))
theorem F11 : Fn Try.prog 11 38 x11.er [.t 4] := ⟨Try.f11, hcl, Try.func11, by kernel_rfl, by kernel_rfl, by kernel_rfl, by kernel_rfl⟩
noncomputable def m11 (a0 : Int) (a1 : List Int) (a2 : Int) : Option (Int × (List Int) × Int × Unit) :=
  (m32 6 a1 a2).bind fun y122 =>
  cond (iEq y122.1 0)
  ((m32 4 y122.2.1 y122.2.2.1).bind fun y123 =>
   some (iMin y123.1 a0, y123.2.1, y123.2.2.1, ()))
  (cond (iEq y122.1 1)
   ((m32 100 y122.2.1 y122.2.2.1).bind fun y124 =>
    some (iMin y124.1 a0, y124.2.1, y124.2.2.1, ()))
   (cond (iEq y122.1 2)
    ((m32 1048576 y122.2.1 y122.2.2.1).bind fun y125 =>
     some (iMin y125.1 a0, y125.2.1, y125.2.2.1, ()))
    (cond (iEq y122.1 3)
     ((m32 (iMin 3 (iAdd .i64 a0 1)) y122.2.1 y122.2.2.1).bind fun y126 =>
      some (iSub .i64 a0 y126.1, y126.2.1, y126.2.2.1, ()))
     ((m32 (iAdd .i64 a0 1) y122.2.1 y122.2.2.1).bind fun y127 =>
      some (y127.1, y127.2.1, y127.2.2.1, ())))))
noncomputable def cfg11 : Cfg := ⟨ttab, gtab, [], [h32]⟩
def ish11 : Sh := ⟨2, [(1, (.int .i64))], [(0, .ptr 0 0 0)], [.box 98 [.d (.list (.int .i64)), .d (.int .i64)]]⟩
def osh11 : Sh := ⟨1, [(0, (.int .i64))], [], [.box 98 [.d (.list (.int .i64)), .d (.int .i64)]]⟩
theorem eqn11 (x : Int × (List Int) × Int × Unit) : xfunH cfg11 x11 38 [.t 4] [] ish11 osh11 x = m11 x.1 x.2.1 x.2.2.1 := by kernel_rfl
noncomputable def h11 : HI := ⟨11, ish11, osh11, fun (x : Int × (List Int) × Int × Unit) => m11 x.1 x.2.1 x.2.2.1⟩
theorem okh11 : HOk Try.prog (gx gtab) h11 := hok mixed (cfg_h okh32 (cfg_nil _ _) : CfgOk _ cfg11) F11 eqn11
/- 12 treaty/treatyref01.Clamp -/
def r12_0 : List Ins := [⟨some 2, none, .mov (.k (.int .i64 0))⟩]
def r12_1 : List Ins := [⟨some 3, none, .mov (.t 0)⟩,
  ⟨some 4, none, .bin .gtr (.t 3) (.k (.int .i64 17592186044416))⟩]
def r12_2 : List Ins := [⟨some 2, none, .mov (.k (.int .i64 17592186044416))⟩]
def r12_3 : List Ins := [⟨some 5, none, .mov (.t 0)⟩,
  ⟨some 6, none, .bin .lss (.t 5) (.k (.int .i64 (-17592186044416)))⟩]
def r12_4 : List Ins := [⟨some 2, none, .mov (.k (.int .i64 (-17592186044416)))⟩]
def r12_5 : List Ins := [⟨some 7, none, .mov (.t 0)⟩,
  ⟨some 2, none, .mov (.t 7)⟩]
def x12 : XC := (.seq (.ops false r12_0) (.seq (.seq (.ops false r12_1) (.cond (.t 4) (.seq (.ops false r12_2) .ret) .skip)) (.seq (.seq (.ops false r12_3) (.cond (.t 6) (.seq (.ops false r12_4) .ret) .skip)) (.seq (.ops false r12_5) .ret))))
theorem F12 : Fn Try.prog 12 8 x12.er [.t 2] := ⟨Try.f12, hcl, Try.func12, by kernel_rfl, by kernel_rfl, by kernel_rfl, by kernel_rfl⟩
noncomputable def m12 (a0 : Int) : Option (Int × Unit) :=
  cond (iLt 17592186044416 a0)
  (some (17592186044416, ()))
  (cond (iLt a0 (-17592186044416))
   (some ((-17592186044416), ()))
   (some (a0, ())))
noncomputable def cfg12 : Cfg := ⟨ttab, gtab, [], []⟩
theorem eqn12 (x : Int × Unit) : xfun cfg12 x12 8 [.t 2] [(.int .i64)] [(.int .i64)] x = m12 x.1 := by kernel_rfl
noncomputable def i12 : PI := ⟨12, [(.int .i64)], [(.int .i64)], fun (x : Int × Unit) => m12 x.1⟩
theorem oki12 : POk Try.prog (gx gtab) i12 := pok mixed (cfg_nil _ _ : CfgOk _ cfg12) F12 eqn12
/- 35 treaty/treatyref01.Valid -/
def r35_0 : List Ins := [⟨some 2, none, .mov (.k (.bool false))⟩]
def r35_1 : List Ins := [⟨some 3, none, .mov (.t 0)⟩,
  ⟨some 4, none, .bin .geq (.t 3) (.k (.int .i64 (-17592186044416)))⟩,
  ⟨some 5, none, .mov (.t 4)⟩,
  ⟨some 6, some (5, true), .mov (.t 0)⟩,
  ⟨some 7, some (5, true), .bin .leq (.t 6) (.k (.int .i64 17592186044416))⟩,
  ⟨some 8, none, .pick (.t 5) (.t 7) (.k (.bool false))⟩,
  ⟨some 2, none, .mov (.t 8)⟩]
def x35 : XC := (.seq (.ops false r35_0) (.seq (.ops false r35_1) .ret))
theorem F35 : Fn Try.prog 35 9 x35.er [.t 2] := ⟨Try.f35, hcl, Try.func35, by kernel_rfl, by kernel_rfl, by kernel_rfl, by kernel_rfl⟩
noncomputable def m35 (a0 : Int) : Option (Bool × Unit) :=
  some (cond (iLe (-17592186044416) a0) (iLe a0 17592186044416) false, ())
noncomputable def cfg35 : Cfg := ⟨ttab, gtab, [], []⟩
theorem eqn35 (x : Int × Unit) : xfun cfg35 x35 9 [.t 2] [(.int .i64)] [.bool] x = m35 x.1 := by kernel_rfl
noncomputable def i35 : PI := ⟨35, [(.int .i64)], [.bool], fun (x : Int × Unit) => m35 x.1⟩
theorem oki35 : POk Try.prog (gx gtab) i35 := pok mixed (cfg_nil _ _ : CfgOk _ cfg35) F35 eqn35
/- 14 treaty/treatyref40.AppendNumber -/
def r14_0 : List Ins := [⟨some 4, none, .mov (.k (.slice none 0 0))⟩,
  ⟨some 5, none, .mov (.k (.int .i64 0))⟩]
def r14_1 : List Ins := [⟨some 8, none, .mov (.t 1)⟩,
  ⟨some 9, none, .call (.k (.func (.func 35) #[] #[])) [(.t 8)]⟩,
  ⟨some 10, none, .un .not (.t 9)⟩]
def r14_2 : List Ins := [⟨some 4, none, .mov (.k (.slice none 0 0))⟩,
  ⟨some 5, none, .mov (.k (.int .i64 1))⟩]
def r14_3 : List Ins := [⟨some 11, none, .mov (.t 1)⟩,
  ⟨some 12, none, .bin .mul (.k (.int .i64 2)) (.t 11)⟩,
  ⟨some 6, none, .mov (.t 12)⟩]
def r14_4 : List Ins := [⟨some 13, none, .mov (.t 1)⟩,
  ⟨some 14, none, .bin .lss (.t 13) (.k (.int .i64 0))⟩]
def r14_5 : List Ins := [⟨some 15, none, .mov (.t 1)⟩,
  ⟨some 16, none, .bin .mul (.k (.int .i64 (-2))) (.t 15)⟩,
  ⟨some 17, none, .bin .sub (.t 16) (.k (.int .i64 1))⟩,
  ⟨some 6, none, .mov (.t 17)⟩]
def r14_6 : List Ins := [⟨some 18, none, .bslice 5 1 []⟩,
  ⟨some 19, none, .mov (.t 0)⟩,
  ⟨some 20, none, .app 5 1 1 (.t 18) (.t 19)⟩,
  ⟨some 7, none, .mov (.t 20)⟩]
def r14_7 : List Ins := [⟨some 21, none, .mov (.t 6)⟩,
  ⟨some 22, none, .bin .geq (.t 21) (.k (.int .i64 128))⟩]
def r14_8 : List Ins := [⟨some 23, none, .mov (.t 7)⟩,
  ⟨some 24, none, .mov (.t 6)⟩,
  ⟨some 25, none, .bin .rem (.t 24) (.k (.int .i64 128))⟩,
  ⟨some 26, none, .bin .add (.k (.int .i64 128)) (.t 25)⟩,
  ⟨some 27, none, .conv .u8 (.t 26)⟩,
  ⟨some 28, none, .bslice 5 1 [(.t 27)]⟩,
  ⟨some 29, none, .app 5 1 1 (.t 23) (.t 28)⟩,
  ⟨some 7, none, .mov (.t 29)⟩]
def r14_9 : List Ins := [⟨some 30, none, .mov (.t 6)⟩,
  ⟨some 31, none, .bin .quo (.t 30) (.k (.int .i64 128))⟩,
  ⟨some 6, none, .mov (.t 31)⟩]
def r14_10 : List Ins := [⟨some 32, none, .mov (.t 7)⟩,
  ⟨some 33, none, .mov (.t 6)⟩,
  ⟨some 34, none, .conv .u8 (.t 33)⟩,
  ⟨some 35, none, .bslice 5 1 [(.t 34)]⟩,
  ⟨some 36, none, .app 5 1 1 (.t 32) (.t 35)⟩,
  ⟨some 4, none, .mov (.t 36)⟩,
  ⟨some 5, none, .mov (.k (.int .i64 0))⟩]
def x14 : XC := (.seq (.ops false r14_0) (.seq (.seq (.ops false r14_1) (.cond (.t 10) (.seq (.ops false r14_2) .ret) .skip)) (.seq (.ops false r14_3) (.seq (.seq (.ops false r14_4) (.cond (.t 14) (.ops false r14_5) .skip)) (.seq (.ops false r14_6) (.seq (.block 0 (.loop [] ⟨37, [(6, (.int .i64))], [(7, .row 0)], [.row 5 (.int .u8) false]⟩ (.seq (.seq (.ops false r14_7) (.cond (.t 22) .skip (.exit 0))) (.block 1 (.seq (.ops false r14_8) (.ops false r14_9)))))) (.seq (.ops false r14_10) .ret)))))))
theorem F14 : Fn Try.prog 14 37 x14.er [.t 4, .t 5] := ⟨Try.f14, hcl, Try.func14, by kernel_rfl, by kernel_rfl, by kernel_rfl, by kernel_rfl⟩
noncomputable def m14 (a0 : List Int) (a1 : Int) : Option ((List Int) × Int × Unit) :=
  (m35 a1).bind fun y135 =>
  cond (not y135.1)
  (some (([] : List Int), 1, ()))
  (cond (iLt a1 0)
   (cond (fits (List.length ([] : List Int) + List.length a0) 1)
    (loopO (S := Int × (List Int) × Unit) (R := (List Int) × Int × Unit) (fun s136 =>
      cond (iLe 128 s136.1)
      (cond (iNe 128 0)
       (cond (fits (List.length s136.2.1 + List.length ([IntKind.wrap .u8 (iAdd .i64 128 (iRem s136.1 128))] : List Int)) 1)
        (cond (iNe 128 0)
         (some (.inl (iQuo .i64 s136.1 128, s136.2.1 ++ ([IntKind.wrap .u8 (iAdd .i64 128 (iRem s136.1 128))] : List Int), ()))) none) none) none)
      (Option.map Sum.inr (cond (fits (List.length s136.2.1 + List.length ([IntKind.wrap .u8 s136.1] : List Int)) 1)
        (some (s136.2.1 ++ ([IntKind.wrap .u8 s136.1] : List Int), 0, ())) none)))
     (iSub .i64 (iMul .i64 (-2) a1) 1, ([] : List Int) ++ a0, ())) none)
   (cond (fits (List.length ([] : List Int) + List.length a0) 1)
    (loopO (S := Int × (List Int) × Unit) (R := (List Int) × Int × Unit) (fun s137 =>
      cond (iLe 128 s137.1)
      (cond (iNe 128 0)
       (cond (fits (List.length s137.2.1 + List.length ([IntKind.wrap .u8 (iAdd .i64 128 (iRem s137.1 128))] : List Int)) 1)
        (cond (iNe 128 0)
         (some (.inl (iQuo .i64 s137.1 128, s137.2.1 ++ ([IntKind.wrap .u8 (iAdd .i64 128 (iRem s137.1 128))] : List Int), ()))) none) none) none)
      (Option.map Sum.inr (cond (fits (List.length s137.2.1 + List.length ([IntKind.wrap .u8 s137.1] : List Int)) 1)
        (some (s137.2.1 ++ ([IntKind.wrap .u8 s137.1] : List Int), 0, ())) none)))
     (iMul .i64 2 a1, ([] : List Int) ++ a0, ())) none))
noncomputable def cfg14 : Cfg := ⟨ttab, gtab, [i35], []⟩
theorem eqn14 (x : (List Int) × Int × Unit) : xfun cfg14 x14 37 [.t 4, .t 5] [(.list (.int .u8)), (.int .i64)] [(.list (.int .u8)), (.int .i64)] x = m14 x.1 x.2.1 := by kernel_rfl
noncomputable def i14 : PI := ⟨14, [(.list (.int .u8)), (.int .i64)], [(.list (.int .u8)), (.int .i64)], fun (x : (List Int) × Int × Unit) => m14 x.1 x.2.1⟩
theorem oki14 : POk Try.prog (gx gtab) i14 := pok mixed (cfg_p oki35 (cfg_nil _ _) : CfgOk _ cfg14) F14 eqn14
/- 17 treaty/treatyref40.Number -/
def r17_0 : List Ins := [⟨some 2, none, .mov (.k (.int .i64 0))⟩,
  ⟨some 3, none, .mov (.k (.int .i64 0))⟩,
  ⟨some 4, none, .mov (.k (.int .i64 0))⟩]
def r17_1 : List Ins := [⟨some 7, none, .mov (.t 3)⟩,
  ⟨some 8, none, .mov (.t 0)⟩,
  ⟨some 9, none, .len (.t 8)⟩,
  ⟨some 10, none, .bin .lss (.t 7) (.t 9)⟩,
  ⟨some 11, none, .mov (.t 10)⟩,
  ⟨some 12, some (11, true), .mov (.t 0)⟩,
  ⟨some 13, some (11, true), .mov (.t 3)⟩,
  ⟨some 14, some (11, true), .iaddr 1 (.t 12) (.t 13)⟩,
  ⟨some 15, some (11, true), .load 1 false (.t 14)⟩,
  ⟨some 16, some (11, true), .bin .geq (.t 15) (.k (.int .u8 128))⟩,
  ⟨some 17, none, .pick (.t 11) (.t 16) (.k (.bool false))⟩]
def r17_2 : List Ins := [⟨some 18, none, .mov (.t 3)⟩,
  ⟨some 19, none, .bin .add (.t 18) (.k (.int .i64 1))⟩,
  ⟨some 3, none, .mov (.t 19)⟩]
def r17_3 : List Ins := [⟨some 20, none, .mov (.t 3)⟩,
  ⟨some 21, none, .bin .eql (.t 20) (.k (.int .i64 10))⟩]
def r17_4 : List Ins := [⟨some 2, none, .mov (.k (.int .i64 0))⟩,
  ⟨some 3, none, .mov (.k (.int .i64 0))⟩,
  ⟨some 4, none, .mov (.k (.int .i64 5))⟩]
def r17_5 : List Ins := [⟨some 22, none, .mov (.t 3)⟩,
  ⟨some 23, none, .mov (.t 0)⟩,
  ⟨some 24, none, .len (.t 23)⟩,
  ⟨some 25, none, .bin .eql (.t 22) (.t 24)⟩,
  ⟨some 26, none, .mov (.t 25)⟩,
  ⟨some 27, some (26, false), .mov (.t 3)⟩,
  ⟨some 28, some (26, false), .bin .gtr (.t 27) (.k (.int .i64 0))⟩,
  ⟨some 29, some (26, false), .mov (.t 28)⟩,
  ⟨some 30, some (29, true), .mov (.t 0)⟩,
  ⟨some 31, some (29, true), .mov (.t 3)⟩,
  ⟨some 32, some (29, true), .iaddr 1 (.t 30) (.t 31)⟩,
  ⟨some 33, some (29, true), .load 1 false (.t 32)⟩,
  ⟨some 34, some (29, true), .bin .eql (.t 33) (.k (.int .u8 0))⟩,
  ⟨some 35, some (26, false), .pick (.t 29) (.t 34) (.k (.bool false))⟩,
  ⟨some 36, none, .pick (.t 26) (.k (.bool true)) (.t 35)⟩]
def r17_6 : List Ins := [⟨some 2, none, .mov (.k (.int .i64 0))⟩,
  ⟨some 3, none, .mov (.k (.int .i64 0))⟩,
  ⟨some 4, none, .mov (.k (.int .i64 5))⟩]
def r17_7 : List Ins := [⟨some 37, none, .mov (.t 3)⟩,
  ⟨some 38, none, .bin .add (.t 37) (.k (.int .i64 1))⟩,
  ⟨some 3, none, .mov (.t 38)⟩]
def r17_8 : List Ins := [⟨some 39, none, .mov (.t 3)⟩,
  ⟨some 40, none, .bin .gtr (.t 39) (.k (.int .i64 7))⟩]
def r17_9 : List Ins := [⟨some 2, none, .mov (.k (.int .i64 0))⟩,
  ⟨some 3, none, .mov (.k (.int .i64 0))⟩,
  ⟨some 4, none, .mov (.k (.int .i64 1))⟩]
def r17_10 : List Ins := [⟨some 5, none, .mov (.k (.int .i64 0))⟩]
def r17_11 : List Ins := [⟨some 41, none, .mov (.t 3)⟩,
  ⟨some 42, none, .bin .sub (.t 41) (.k (.int .i64 1))⟩,
  ⟨some 6, none, .mov (.t 42)⟩]
def r17_12 : List Ins := [⟨some 43, none, .mov (.t 6)⟩,
  ⟨some 44, none, .bin .geq (.t 43) (.k (.int .i64 0))⟩]
def r17_13 : List Ins := [⟨some 47, none, .mov (.t 5)⟩,
  ⟨some 48, none, .bin .mul (.k (.int .i64 128)) (.t 47)⟩,
  ⟨some 49, none, .mov (.t 0)⟩,
  ⟨some 50, none, .mov (.t 6)⟩,
  ⟨some 51, none, .iaddr 1 (.t 49) (.t 50)⟩,
  ⟨some 52, none, .load 1 false (.t 51)⟩,
  ⟨some 53, none, .bin .rem (.t 52) (.k (.int .u8 128))⟩,
  ⟨some 54, none, .conv .i64 (.t 53)⟩,
  ⟨some 55, none, .bin .add (.t 48) (.t 54)⟩,
  ⟨some 5, none, .mov (.t 55)⟩]
def r17_14 : List Ins := [⟨some 45, none, .mov (.t 6)⟩,
  ⟨some 46, none, .bin .sub (.t 45) (.k (.int .i64 1))⟩,
  ⟨some 6, none, .mov (.t 46)⟩]
def r17_15 : List Ins := [⟨some 56, none, .mov (.t 5)⟩,
  ⟨some 57, none, .bin .quo (.t 56) (.k (.int .i64 2))⟩,
  ⟨some 2, none, .mov (.t 57)⟩]
def r17_16 : List Ins := [⟨some 58, none, .mov (.t 5)⟩,
  ⟨some 59, none, .bin .rem (.t 58) (.k (.int .i64 2))⟩,
  ⟨some 60, none, .bin .eql (.t 59) (.k (.int .i64 1))⟩]
def r17_17 : List Ins := [⟨some 61, none, .mov (.t 5)⟩,
  ⟨some 62, none, .bin .add (.t 61) (.k (.int .i64 1))⟩,
  ⟨some 63, none, .un .neg (.t 62)⟩,
  ⟨some 64, none, .bin .quo (.t 63) (.k (.int .i64 2))⟩,
  ⟨some 2, none, .mov (.t 64)⟩]
def r17_18 : List Ins := [⟨some 65, none, .mov (.t 2)⟩,
  ⟨some 66, none, .call (.k (.func (.func 35) #[] #[])) [(.t 65)]⟩,
  ⟨some 67, none, .un .not (.t 66)⟩]
def r17_19 : List Ins := [⟨some 2, none, .mov (.k (.int .i64 0))⟩,
  ⟨some 3, none, .mov (.k (.int .i64 0))⟩,
  ⟨some 4, none, .mov (.k (.int .i64 1))⟩]
def r17_20 : List Ins := [⟨some 68, none, .mov (.t 2)⟩,
  ⟨some 69, none, .mov (.t 3)⟩,
  ⟨some 2, none, .mov (.t 68)⟩,
  ⟨some 3, none, .mov (.t 69)⟩,
  ⟨some 4, none, .mov (.k (.int .i64 0))⟩]
def x17 : XC := (.seq (.ops false r17_0) (.seq (.block 0 (.loop [] ⟨70, [(0, (.list (.int .u8))), (3, (.int .i64))], [], []⟩ (.seq (.seq (.ops false r17_1) (.cond (.t 17) .skip (.exit 0))) (.block 1 (.seq (.ops false r17_2) (.seq (.ops false r17_3) (.cond (.t 21) (.seq (.ops false r17_4) .ret) .skip))))))) (.seq (.seq (.ops false r17_5) (.cond (.t 36) (.seq (.ops false r17_6) .ret) .skip)) (.seq (.ops false r17_7) (.seq (.seq (.ops false r17_8) (.cond (.t 40) (.seq (.ops false r17_9) .ret) .skip)) (.seq (.ops false r17_10) (.seq (.seq (.ops false r17_11) (.block 2 (.loop [] ⟨70, [(0, (.list (.int .u8))), (3, (.int .i64)), (5, (.int .i64)), (6, (.int .i64))], [], []⟩ (.seq (.seq (.ops false r17_12) (.cond (.t 44) .skip (.exit 2))) (.seq (.block 3 (.ops false r17_13)) (.ops false r17_14)))))) (.seq (.ops false r17_15) (.seq (.seq (.ops false r17_16) (.cond (.t 60) (.ops false r17_17) .skip)) (.seq (.seq (.ops false r17_18) (.cond (.t 67) (.seq (.ops false r17_19) .ret) .skip)) (.seq (.ops false r17_20) .ret)))))))))))
theorem F17 : Fn Try.prog 17 70 x17.er [.t 2, .t 3, .t 4] := ⟨Try.f17, hcl, Try.func17, by kernel_rfl, by kernel_rfl, by kernel_rfl, by kernel_rfl⟩
noncomputable def m17 (a0 : List Int) : Option (Int × Int × Int × Unit) :=
  loopO (S := (List Int) × Int × Unit) (R := Int × Int × Int × Unit) (fun s145 =>
   cond (or (bnd s145.2.1 (lenI s145.1)) (not (bEq (iLt s145.2.1 (lenI s145.1)) true)))
   (cond (cond (iLt s145.2.1 (lenI s145.1)) (iLe 128 (atI s145.1 s145.2.1 0)) false)
    (cond (iEq (iAdd .i64 s145.2.1 1) 10)
     (some (.inr (0, 0, 5, ())))
     (some (.inl (s145.1, iAdd .i64 s145.2.1 1, ()))))
    (Option.map Sum.inr (cond (iEq s145.2.1 (lenI s145.1))
      (some (0, 0, 5, ()))
      (cond (or (bnd s145.2.1 (lenI s145.1)) (not (bEq (iLt 0 s145.2.1) true)))
       (cond (cond (iLt 0 s145.2.1) (iEq (atI s145.1 s145.2.1 0) 0) false)
        (some (0, 0, 5, ()))
        (cond (iLt 7 (iAdd .i64 s145.2.1 1))
         (some (0, 0, 1, ()))
         (loopO (S := (List Int) × Int × Int × Int × Unit) (R := Int × Int × Int × Unit) (fun s146 =>
           cond (iLe 0 s146.2.2.2.1)
           (cond (bnd s146.2.2.2.1 (lenI s146.1))
            (cond (iNe 128 0)
             (some (.inl (s146.1, s146.2.1, iAdd .i64 (iMul .i64 128 s146.2.2.1) (IntKind.wrap .i64 (iRem (atI s146.1 s146.2.2.2.1 0) 128)), iSub .i64 s146.2.2.2.1 1, ()))) none) none)
           (Option.map Sum.inr (cond (iNe 2 0)
             (cond (iNe 2 0)
              (cond (iEq (iRem s146.2.2.1 2) 1)
               (cond (iNe 2 0)
                ((m35 (iQuo .i64 (iNeg .i64 (iAdd .i64 s146.2.2.1 1)) 2)).bind fun y147 =>
                 cond (not y147.1)
                 (some (0, 0, 1, ()))
                 (some (iQuo .i64 (iNeg .i64 (iAdd .i64 s146.2.2.1 1)) 2, s146.2.1, 0, ()))) none)
               ((m35 (iQuo .i64 s146.2.2.1 2)).bind fun y148 =>
                cond (not y148.1)
                (some (0, 0, 1, ()))
                (some (iQuo .i64 s146.2.2.1 2, s146.2.1, 0, ())))) none) none)))
          (s145.1, iAdd .i64 s145.2.1 1, 0, iSub .i64 (iAdd .i64 s145.2.1 1) 1, ())))) none)))) none)
  (a0, 0, ())
noncomputable def cfg17 : Cfg := ⟨ttab, gtab, [i35], []⟩
theorem eqn17 (x : (List Int) × Unit) : xfun cfg17 x17 70 [.t 2, .t 3, .t 4] [(.list (.int .u8))] [(.int .i64), (.int .i64), (.int .i64)] x = m17 x.1 := by kernel_rfl
noncomputable def i17 : PI := ⟨17, [(.list (.int .u8))], [(.int .i64), (.int .i64), (.int .i64)], fun (x : (List Int) × Unit) => m17 x.1⟩
theorem oki17 : POk Try.prog (gx gtab) i17 := pok mixed (cfg_p oki35 (cfg_nil _ _) : CfgOk _ cfg17) F17 eqn17
/- 3 treaty/treatylaw40.CodecNumber -/
def r3_0 : List Ins := [⟨some 6, none, .mov (.k (.bool false))⟩]
def r3_1 : List Ins := [⟨some 20, none, .mov (.t 0)⟩,
  ⟨some 21, none, .len (.t 20)⟩,
  ⟨some 22, none, .bin .gtr (.t 21) (.k (.int .i64 100))⟩]
def r3_2 : List Ins := [⟨some 23, none, .call (.k (.func (.func 9) #[] #[])) []⟩,
  ⟨some 6, none, .mov (.t 23)⟩]
def r3_3 : List Ins := [⟨some 24, none, .mov (.t 2)⟩,
  ⟨some 25, none, .call (.k (.func (.func 10) #[] #[])) [(.t 24)]⟩,
  ⟨some 26, none, .call (.k (.func (.func 11) #[] #[])) [(.t 25), (.k (.int .i64 17592186044416))]⟩,
  ⟨some 7, none, .mov (.t 26)⟩]
def r3_4 : List Ins := [⟨some 27, none, .mov (.t 1)⟩,
  ⟨some 28, none, .mov (.t 1)⟩,
  ⟨some 29, none, .call (.k (.func (.func 12) #[] #[])) [(.t 28)]⟩,
  ⟨some 30, none, .mov (.t 7)⟩,
  ⟨some 31, none, .mov (.t 7)⟩,
  ⟨some 32, none, .un .neg (.t 31)⟩,
  ⟨some 33, none, .bslice 3 1 [(.t 27), (.t 29), (.t 30), (.t 32)]⟩,
  ⟨some 34, none, .len (.t 33)⟩,
  ⟨some 35, none, .mov (.k (.int .i64 0))⟩]
def r3_5 : List Ins := [⟨some 36, none, .bin .lss (.t 35) (.t 34)⟩]
def r3_6 : List Ins := [⟨some 37, none, .iaddr 1 (.t 33) (.t 35)⟩,
  ⟨some 38, none, .load 1 false (.t 37)⟩,
  ⟨some 9, none, .mov (.t 38)⟩]
def r3_7 : List Ins := [⟨some 40, none, .mov (.t 0)⟩,
  ⟨some 41, none, .mov (.t 9)⟩,
  ⟨some 42, none, .call (.k (.func (.func 13) #[] #[])) [(.t 40), (.t 41)]⟩,
  ⟨some 39, none, .mov (.t 42)⟩,
  ⟨some 43, none, .ext 0 (.t 39)⟩,
  ⟨some 44, none, .ext 1 (.t 39)⟩,
  ⟨some 10, none, .mov (.t 43)⟩,
  ⟨some 11, none, .mov (.t 44)⟩]
def r3_8 : List Ins := [⟨some 46, none, .mov (.t 0)⟩,
  ⟨some 47, none, .mov (.t 9)⟩,
  ⟨some 48, none, .call (.k (.func (.func 14) #[] #[])) [(.t 46), (.t 47)]⟩,
  ⟨some 45, none, .mov (.t 48)⟩,
  ⟨some 49, none, .ext 0 (.t 45)⟩,
  ⟨some 50, none, .ext 1 (.t 45)⟩,
  ⟨some 12, none, .mov (.t 49)⟩,
  ⟨some 13, none, .mov (.t 50)⟩]
def r3_9 : List Ins := [⟨some 51, none, .mov (.t 10)⟩,
  ⟨some 52, none, .mov (.t 12)⟩,
  ⟨some 53, none, .call (.k (.func (.func 15) #[] #[])) [(.t 51), (.t 52)]⟩,
  ⟨some 54, none, .un .not (.t 53)⟩,
  ⟨some 55, none, .mov (.t 54)⟩,
  ⟨some 56, some (55, false), .mov (.t 11)⟩,
  ⟨some 57, some (55, false), .mov (.t 13)⟩,
  ⟨some 58, some (55, false), .bin .neq (.t 56) (.t 57)⟩,
  ⟨some 59, none, .pick (.t 55) (.k (.bool true)) (.t 58)⟩]
def r3_10 : List Ins := [⟨some 6, none, .mov (.k (.bool false))⟩]
def r3_11 : List Ins := [⟨some 60, none, .bin .add (.t 35) (.k (.int .i64 1))⟩,
  ⟨some 35, none, .mov (.t 60)⟩]
def r3_12 : List Ins := [⟨some 62, none, .mov (.t 0)⟩,
  ⟨some 63, none, .call (.k (.func (.func 16) #[] #[])) [(.t 62)]⟩,
  ⟨some 61, none, .mov (.t 63)⟩,
  ⟨some 64, none, .ext 0 (.t 61)⟩,
  ⟨some 65, none, .ext 1 (.t 61)⟩,
  ⟨some 66, none, .ext 2 (.t 61)⟩,
  ⟨some 14, none, .mov (.t 64)⟩,
  ⟨some 15, none, .mov (.t 65)⟩,
  ⟨some 16, none, .mov (.t 66)⟩]
def r3_13 : List Ins := [⟨some 68, none, .mov (.t 0)⟩,
  ⟨some 69, none, .call (.k (.func (.func 17) #[] #[])) [(.t 68)]⟩,
  ⟨some 67, none, .mov (.t 69)⟩,
  ⟨some 70, none, .ext 0 (.t 67)⟩,
  ⟨some 71, none, .ext 1 (.t 67)⟩,
  ⟨some 72, none, .ext 2 (.t 67)⟩,
  ⟨some 17, none, .mov (.t 70)⟩,
  ⟨some 18, none, .mov (.t 71)⟩,
  ⟨some 19, none, .mov (.t 72)⟩]
def r3_14 : List Ins := [⟨some 73, none, .mov (.t 14)⟩,
  ⟨some 74, none, .mov (.t 17)⟩,
  ⟨some 75, none, .bin .eql (.t 73) (.t 74)⟩,
  ⟨some 76, none, .mov (.t 75)⟩,
  ⟨some 77, some (76, true), .mov (.t 15)⟩,
  ⟨some 78, some (76, true), .mov (.t 18)⟩,
  ⟨some 79, some (76, true), .bin .eql (.t 77) (.t 78)⟩,
  ⟨some 80, none, .pick (.t 76) (.t 79) (.k (.bool false))⟩,
  ⟨some 81, none, .mov (.t 80)⟩,
  ⟨some 82, some (81, true), .mov (.t 16)⟩,
  ⟨some 83, some (81, true), .mov (.t 19)⟩,
  ⟨some 84, some (81, true), .bin .eql (.t 82) (.t 83)⟩,
  ⟨some 85, none, .pick (.t 81) (.t 84) (.k (.bool false))⟩,
  ⟨some 86, none, .mov (.t 85)⟩,
  ⟨some 87, some (86, true), .call (.k (.func (.func 9) #[] #[])) []⟩,
  ⟨some 88, none, .pick (.t 86) (.t 87) (.k (.bool false))⟩,
  ⟨some 6, none, .mov (.t 88)⟩]
def x3 : XC := (.seq (.ops false r3_0) (.seq (.seq (.ops false r3_1) (.cond (.t 22) (.seq (.ops false r3_2) .ret) .skip)) (.seq (.ops false r3_3) (.seq (.seq (.ops false r3_4) (.block 0 (.loop [] ⟨89, [(0, (.list (.int .u8))), (34, (.int .i64)), (35, (.int .i64))], [(33, .row 0)], [.row 3 (.int .i64) false]⟩ (.seq (.ops false r3_5) (.seq (.cond (.t 36) .skip (.exit 0)) (.seq (.block 1 (.seq (.ops false r3_6) (.seq (.ops false r3_7) (.seq (.ops false r3_8) (.seq (.ops false r3_9) (.cond (.t 59) (.seq (.ops false r3_10) .ret) .skip)))))) (.ops false r3_11))))))) (.seq (.ops false r3_12) (.seq (.ops false r3_13) (.seq (.ops false r3_14) .ret)))))))
theorem F3 : Fn Try.prog 3 89 x3.er [.t 6] := ⟨Try.f3, hcl, Try.func3, by kernel_rfl, by kernel_rfl, by kernel_rfl, by kernel_rfl⟩
noncomputable def m3 (a0 : List Int) (a1 : Int) (a2 : List Int) : Option (Bool × Unit) :=
  cond (iLt 100 (lenI a0))
  ((m9).bind fun y151 =>
   some (y151.1, ()))
  ((m10 a2).bind fun y152 =>
   (m11 17592186044416 y152.1 y152.2.1).bind fun y153 =>
   (m12 a1).bind fun y154 =>
   loopO (S := (List Int) × Int × Int × (List Int) × Unit) (R := Bool × Unit) (fun s155 =>
    cond (iLt s155.2.2.1 s155.2.1)
    (cond (bnd s155.2.2.1 (lenI s155.2.2.2.1))
     (cond (inB (Int.toNat s155.2.2.1) s155.2.2.2.1)
      ((m13 s155.1 (List.getD s155.2.2.2.1 (Int.toNat s155.2.2.1) 0)).bind fun y156 =>
       (m14 s155.1 (List.getD s155.2.2.2.1 (Int.toNat s155.2.2.1) 0)).bind fun y157 =>
       (m15 y156.1 y157.1).bind fun y158 =>
       cond (cond (not y158.1) true (iNe y156.2.1 y157.2.1))
       (some (.inr (false, ())))
       (some (.inl (s155.1, s155.2.1, iAdd .i64 s155.2.2.1 1, s155.2.2.2.1, ())))) none) none)
    (Option.map Sum.inr ((m16 s155.1).bind fun y159 =>
      (m17 s155.1).bind fun y160 =>
      cond (cond (cond (iEq y159.1 y160.1) (iEq y159.2.1 y160.2.1) false) (iEq y159.2.2.1 y160.2.2.1) false)
      ((m9).bind fun y161 =>
       some (y161.1, ()))
      (some (false, ())))))
   (a0, lenI ([a1, y154.1, y153.1, iNeg .i64 y153.1] : List Int), 0, ([a1, y154.1, y153.1, iNeg .i64 y153.1] : List Int), ()))
noncomputable def cfg3 : Cfg := ⟨ttab, gtab, [i12, i13, i14, i15, i16, i17, i9], [h10, h11]⟩
theorem eqn3 (x : (List Int) × Int × (List Int) × Unit) : xfun cfg3 x3 89 [.t 6] [(.list (.int .u8)), (.int .i64), (.list (.int .i64))] [.bool] x = m3 x.1 x.2.1 x.2.2.1 := by kernel_rfl
noncomputable def i3 : PI := ⟨3, [(.list (.int .u8)), (.int .i64), (.list (.int .i64))], [.bool], fun (x : (List Int) × Int × (List Int) × Unit) => m3 x.1 x.2.1 x.2.2.1⟩
theorem oki3 : POk Try.prog (gx gtab) i3 := pok mixed (cfg_p oki12 (cfg_p oki13 (cfg_p oki14 (cfg_p oki15 (cfg_p oki16 (cfg_p oki17 (cfg_p oki9 (cfg_h okh10 (cfg_h okh11 (cfg_nil _ _))))))))) : CfgOk _ cfg3) F3 eqn3
/- 4 treaty/treatylaw40.CodecNumbers -/
def r4_0 : List Ins := [⟨some 4, none, .mov (.k (.bool false))⟩]
def r4_1 : List Ins := [⟨some 10, none, .mov (.t 0)⟩,
  ⟨some 11, none, .call (.k (.func (.func 12) #[] #[])) [(.t 10)]⟩,
  ⟨some 0, none, .mov (.t 11)⟩]
def r4_2 : List Ins := [⟨some 13, none, .mov (.t 0)⟩,
  ⟨some 14, none, .call (.k (.func (.func 13) #[] #[])) [(.k (.slice none 0 0)), (.t 13)]⟩,
  ⟨some 12, none, .mov (.t 14)⟩,
  ⟨some 15, none, .ext 0 (.t 12)⟩,
  ⟨some 16, none, .ext 1 (.t 12)⟩,
  ⟨some 5, none, .mov (.t 15)⟩,
  ⟨some 6, none, .mov (.t 16)⟩]
def r4_3 : List Ins := [⟨some 18, none, .bslice 5 1 []⟩,
  ⟨some 19, none, .mov (.t 5)⟩,
  ⟨some 20, none, .app 5 1 1 (.t 18) (.t 19)⟩,
  ⟨some 21, none, .mov (.t 1)⟩,
  ⟨some 22, none, .app 5 1 1 (.t 20) (.t 21)⟩,
  ⟨some 23, none, .call (.k (.func (.func 16) #[] #[])) [(.t 22)]⟩,
  ⟨some 17, none, .mov (.t 23)⟩,
  ⟨some 24, none, .ext 0 (.t 17)⟩,
  ⟨some 25, none, .ext 1 (.t 17)⟩,
  ⟨some 26, none, .ext 2 (.t 17)⟩,
  ⟨some 7, none, .mov (.t 24)⟩,
  ⟨some 8, none, .mov (.t 25)⟩,
  ⟨some 9, none, .mov (.t 26)⟩]
def r4_4 : List Ins := [⟨some 27, none, .mov (.t 6)⟩,
  ⟨some 28, none, .bin .eql (.t 27) (.k (.int .i64 0))⟩,
  ⟨some 29, none, .mov (.t 28)⟩,
  ⟨some 30, some (29, true), .mov (.t 9)⟩,
  ⟨some 31, some (29, true), .bin .eql (.t 30) (.k (.int .i64 0))⟩,
  ⟨some 32, none, .pick (.t 29) (.t 31) (.k (.bool false))⟩,
  ⟨some 33, none, .mov (.t 32)⟩,
  ⟨some 34, some (33, true), .mov (.t 7)⟩,
  ⟨some 35, some (33, true), .mov (.t 0)⟩,
  ⟨some 36, some (33, true), .bin .eql (.t 34) (.t 35)⟩,
  ⟨some 37, none, .pick (.t 33) (.t 36) (.k (.bool false))⟩,
  ⟨some 38, none, .mov (.t 37)⟩,
  ⟨some 39, some (38, true), .mov (.t 8)⟩,
  ⟨some 40, some (38, true), .mov (.t 5)⟩,
  ⟨some 41, some (38, true), .len (.t 40)⟩,
  ⟨some 42, some (38, true), .bin .eql (.t 39) (.t 41)⟩,
  ⟨some 43, none, .pick (.t 38) (.t 42) (.k (.bool false))⟩,
  ⟨some 44, none, .mov (.t 43)⟩,
  ⟨some 45, some (44, true), .mov (.t 5)⟩,
  ⟨some 46, some (44, true), .len (.t 45)⟩,
  ⟨some 47, some (44, true), .bin .geq (.t 46) (.k (.int .i64 1))⟩,
  ⟨some 48, none, .pick (.t 44) (.t 47) (.k (.bool false))⟩,
  ⟨some 49, none, .mov (.t 48)⟩,
  ⟨some 50, some (49, true), .mov (.t 5)⟩,
  ⟨some 51, some (49, true), .len (.t 50)⟩,
  ⟨some 52, some (49, true), .bin .leq (.t 51) (.k (.int .i64 7))⟩,
  ⟨some 53, none, .pick (.t 49) (.t 52) (.k (.bool false))⟩,
  ⟨some 54, none, .mov (.t 53)⟩,
  ⟨some 55, some (54, true), .call (.k (.func (.func 9) #[] #[])) []⟩,
  ⟨some 56, none, .pick (.t 54) (.t 55) (.k (.bool false))⟩,
  ⟨some 4, none, .mov (.t 56)⟩]
def x4 : XC := (.seq (.ops false r4_0) (.seq (.ops false r4_1) (.seq (.ops false r4_2) (.seq (.ops false r4_3) (.seq (.ops false r4_4) .ret)))))
theorem F4 : Fn Try.prog 4 57 x4.er [.t 4] := ⟨Try.f4, hcl, Try.func4, by kernel_rfl, by kernel_rfl, by kernel_rfl, by kernel_rfl⟩
noncomputable def m4 (a0 : Int) (a1 : List Int) : Option (Bool × Unit) :=
  (m12 a0).bind fun y162 =>
  (m13 ([] : List Int) y162.1).bind fun y163 =>
  cond (fits (List.length ([] : List Int) + List.length y163.1) 1)
  (cond (fits (List.length (([] : List Int) ++ y163.1) + List.length a1) 1)
   ((m16 ((([] : List Int) ++ y163.1) ++ a1)).bind fun y164 =>
    cond (cond (cond (cond (cond (cond (iEq y163.2.1 0) (iEq y164.2.2.1 0) false) (iEq y164.1 y162.1) false) (iEq y164.2.1 (lenI y163.1)) false) (iLe 1 (lenI y163.1)) false) (iLe (lenI y163.1) 7) false)
    ((m9).bind fun y165 =>
     some (y165.1, ()))
    (some (false, ()))) none) none
noncomputable def cfg4 : Cfg := ⟨ttab, gtab, [i12, i13, i16, i9], []⟩
theorem eqn4 (x : Int × (List Int) × Unit) : xfun cfg4 x4 57 [.t 4] [(.int .i64), (.list (.int .u8))] [.bool] x = m4 x.1 x.2.1 := by kernel_rfl
noncomputable def i4 : PI := ⟨4, [(.int .i64), (.list (.int .u8))], [.bool], fun (x : Int × (List Int) × Unit) => m4 x.1 x.2.1⟩
theorem oki4 : POk Try.prog (gx gtab) i4 := pok mixed (cfg_p oki12 (cfg_p oki13 (cfg_p oki16 (cfg_p oki9 (cfg_nil _ _)))) : CfgOk _ cfg4) F4 eqn4
/- 64 (*treaty/treatymade.Deck).subset -/
def r64_0 : List Ins := [⟨some 6, none, .mov (.k (.slice none 0 0))⟩]
def r64_1 : List Ins := [⟨some 7, none, .mov (.k (.slice none 0 0))⟩]
def r64_2 : List Ins := [⟨some 9, none, .mov (.t 0)⟩,
  ⟨some 10, none, .call (.k (.func (.func 32) #[] #[])) [(.t 9), (.k (.int .i64 2))]⟩,
  ⟨some 11, none, .bin .eql (.t 10) (.k (.int .i64 0))⟩]
def r64_3 : List Ins := [⟨some 6, none, .mov (.k (.slice none 0 0))⟩]
def r64_4 : List Ins := [⟨some 12, none, .mov (.t 1)⟩,
  ⟨some 8, none, .mov (.t 12)⟩]
def r64_5 : List Ins := [⟨some 13, none, .mov (.t 8)⟩,
  ⟨some 14, none, .mov (.t 2)⟩,
  ⟨some 15, none, .bin .leq (.t 13) (.t 14)⟩]
def r64_6 : List Ins := [⟨some 18, none, .mov (.t 0)⟩,
  ⟨some 19, none, .call (.k (.func (.func 32) #[] #[])) [(.t 18), (.k (.int .i64 3))]⟩,
  ⟨some 20, none, .bin .gtr (.t 19) (.k (.int .i64 0))⟩]
def r64_7 : List Ins := [⟨some 21, none, .mov (.t 7)⟩,
  ⟨some 22, none, .mov (.t 8)⟩,
  ⟨some 23, none, .bslice 3 1 [(.t 22)]⟩,
  ⟨some 24, none, .app 3 1 8 (.t 21) (.t 23)⟩,
  ⟨some 7, none, .mov (.t 24)⟩]
def r64_8 : List Ins := [⟨some 16, none, .mov (.t 8)⟩,
  ⟨some 17, none, .bin .add (.t 16) (.k (.int .i64 1))⟩,
  ⟨some 8, none, .mov (.t 17)⟩]
def r64_9 : List Ins := [⟨some 25, none, .mov (.t 7)⟩,
  ⟨some 6, none, .mov (.t 25)⟩]
def x64 : XC := (.seq (.ops false r64_0) (.seq (.ops false r64_1) (.seq (.seq (.ops false r64_2) (.cond (.t 11) (.seq (.ops false r64_3) .ret) .skip)) (.seq (.seq (.ops false r64_4) (.block 0 (.loop [.gh 7 3 (.int .i64)] ⟨26, [(2, (.int .i64)), (8, (.int .i64))], [(0, .ptr 0 0 0), (7, .row 1)], [.box 98 [.d (.list (.int .i64)), .d (.int .i64)], .row 3 (.int .i64) false]⟩ (.seq (.seq (.ops false r64_5) (.cond (.t 15) .skip (.exit 0))) (.seq (.block 1 (.seq (.ops false r64_6) (.cond (.t 20) (.ops false r64_7) .skip))) (.ops false r64_8)))))) (.seq (.ops false r64_9) .ret)))))
theorem F64 : Fn Try.prog 64 26 x64.er [.t 6] := ⟨Try.f64, hcl, Try.func64, by kernel_rfl, by kernel_rfl, by kernel_rfl, by kernel_rfl⟩
noncomputable def m64 (a0 : Int) (a1 : Int) (a2 : List Int) (a3 : Int) : Option ((List Int) × Int × (List Int) × Unit) :=
  (m32 2 a2 a3).bind fun y180 =>
  cond (iEq y180.1 0)
  (some (y180.2.1, y180.2.2.1, ([] : List Int), ()))
  (loopO (S := Int × Int × (List Int) × Int × (List Int) × Unit) (R := (List Int) × Int × (List Int) × Unit) (fun s181 =>
    cond (iLe s181.2.1 s181.1)
    ((m32 3 s181.2.2.1 s181.2.2.2.1).bind fun y182 =>
     cond (iLt 0 y182.1)
     (cond (fits (List.length s181.2.2.2.2.1 + List.length ([s181.2.1] : List Int)) 8)
      (some (.inl (s181.1, iAdd .i64 s181.2.1 1, y182.2.1, y182.2.2.1, s181.2.2.2.2.1 ++ ([s181.2.1] : List Int), ()))) none)
     (some (.inl (s181.1, iAdd .i64 s181.2.1 1, y182.2.1, y182.2.2.1, s181.2.2.2.2.1, ()))))
    (some (.inr (s181.2.2.1, s181.2.2.2.1, s181.2.2.2.2.1, ()))))
   (a1, a0, y180.2.1, y180.2.2.1, ([] : List Int), ()))
noncomputable def cfg64 : Cfg := ⟨ttab, gtab, [], [h32]⟩
def ish64 : Sh := ⟨3, [(1, (.int .i64)), (2, (.int .i64))], [(0, .ptr 0 0 0)], [.box 98 [.d (.list (.int .i64)), .d (.int .i64)]]⟩
def osh64 : Sh := ⟨1, [], [(0, .row 1)], [.box 98 [.d (.list (.int .i64)), .d (.int .i64)], .row 3 (.int .i64) false]⟩
theorem eqn64 (x : Int × Int × (List Int) × Int × Unit) : xfunH cfg64 x64 26 [.t 6] [.gh 6 3 (.int .i64)] ish64 osh64 x = m64 x.1 x.2.1 x.2.2.1 x.2.2.2.1 := by kernel_rfl
noncomputable def h64 : HI := ⟨64, ish64, osh64, fun (x : Int × Int × (List Int) × Int × Unit) => m64 x.1 x.2.1 x.2.2.1 x.2.2.2.1⟩
theorem okh64 : HOk Try.prog (gx gtab) h64 := hok mixed (cfg_h okh32 (cfg_nil _ _) : CfgOk _ cfg64) F64 eqn64
/- 65 (*treaty/treatymade.Deck).Money -/
def r65_0 : List Ins := [⟨some 2, none, .mov (.k (.int .i64 0))⟩]
def r65_1 : List Ins := [⟨some 3, none, .mov (.t 0)⟩,
  ⟨some 4, none, .call (.k (.func (.func 11) #[] #[])) [(.t 3), (.k (.int .i64 1073741824))]⟩,
  ⟨some 2, none, .mov (.t 4)⟩]
def x65 : XC := (.seq (.ops false r65_0) (.seq (.ops false r65_1) .ret))
theorem F65 : Fn Try.prog 65 5 x65.er [.t 2] := ⟨Try.f65, hcl, Try.func65, by kernel_rfl, by kernel_rfl, by kernel_rfl, by kernel_rfl⟩
noncomputable def m65 (a0 : List Int) (a1 : Int) : Option (Int × (List Int) × Int × Unit) :=
  (m11 1073741824 a0 a1).bind fun y186 =>
  some (y186.1, y186.2.1, y186.2.2.1, ())
noncomputable def cfg65 : Cfg := ⟨ttab, gtab, [], [h11]⟩
def ish65 : Sh := ⟨1, [], [(0, .ptr 0 0 0)], [.box 98 [.d (.list (.int .i64)), .d (.int .i64)]]⟩
def osh65 : Sh := ⟨1, [(0, (.int .i64))], [], [.box 98 [.d (.list (.int .i64)), .d (.int .i64)]]⟩
theorem eqn65 (x : (List Int) × Int × Unit) : xfunH cfg65 x65 5 [.t 2] [] ish65 osh65 x = m65 x.1 x.2.1 := by kernel_rfl
noncomputable def h65 : HI := ⟨65, ish65, osh65, fun (x : (List Int) × Int × Unit) => m65 x.1 x.2.1⟩
theorem okh65 : HOk Try.prog (gx gtab) h65 := hok mixed (cfg_h okh11 (cfg_nil _ _) : CfgOk _ cfg65) F65 eqn65
/- 58 (*treaty/treatymade.Deck).Parts -/
def r58_0 : List Ins := [⟨some 2, none, .mov (.k (.slice none 0 0))⟩]
def r58_1 : List Ins := [⟨some 3, none, .mov (.k (.slice none 0 0))⟩]
def r58_2 : List Ins := [⟨some 4, none, .mov (.k (.int .i64 1000000))⟩,
  ⟨some 5, none, .mov (.k (.int .i64 0))⟩]
def r58_3 : List Ins := [⟨some 8, none, .mov (.t 0)⟩,
  ⟨some 9, none, .call (.k (.func (.func 32) #[] #[])) [(.t 8), (.k (.int .i64 5))]⟩,
  ⟨some 6, none, .mov (.t 9)⟩]
def r58_4 : List Ins := [⟨some 10, none, .mov (.t 6)⟩,
  ⟨some 11, none, .bin .gtr (.t 10) (.k (.int .i64 0))⟩,
  ⟨some 12, none, .mov (.t 11)⟩,
  ⟨some 13, some (12, true), .mov (.t 4)⟩,
  ⟨some 14, some (12, true), .bin .gtr (.t 13) (.k (.int .i64 0))⟩,
  ⟨some 15, none, .pick (.t 12) (.t 14) (.k (.bool false))⟩]
def r58_5 : List Ins := [⟨some 18, none, .mov (.t 5)⟩,
  ⟨some 19, none, .bin .add (.t 18) (.k (.int .i64 1))⟩,
  ⟨some 20, none, .mov (.t 0)⟩,
  ⟨some 21, none, .call (.k (.func (.func 32) #[] #[])) [(.t 20), (.k (.int .i64 3))]⟩,
  ⟨some 22, none, .bin .add (.t 19) (.t 21)⟩,
  ⟨some 5, none, .mov (.t 22)⟩]
def r58_6 : List Ins := [⟨some 23, none, .mov (.t 0)⟩,
  ⟨some 24, none, .mov (.t 4)⟩,
  ⟨some 25, none, .bin .sub (.t 24) (.k (.int .i64 1))⟩,
  ⟨some 26, none, .call (.k (.func (.func 11) #[] #[])) [(.t 23), (.t 25)]⟩,
  ⟨some 27, none, .bin .add (.k (.int .i64 1)) (.t 26)⟩,
  ⟨some 7, none, .mov (.t 27)⟩]
def r58_7 : List Ins := [⟨some 28, none, .mov (.t 3)⟩,
  ⟨some 29, none, .mov (.t 5)⟩,
  ⟨some 30, none, .mov (.t 7)⟩,
  ⟨some 31, none, .build [.int .i64 0, .int .i64 0] [(0, 1, (.t 29)), (1, 1, (.t 30))]⟩,
  ⟨some 32, none, .bslice 116 2 [(.t 31)]⟩,
  ⟨some 33, none, .app 116 2 16 (.t 28) (.t 32)⟩,
  ⟨some 34, none, .mov (.t 4)⟩,
  ⟨some 35, none, .mov (.t 7)⟩,
  ⟨some 36, none, .bin .sub (.t 34) (.t 35)⟩,
  ⟨some 3, none, .mov (.t 33)⟩,
  ⟨some 4, none, .mov (.t 36)⟩]
def r58_8 : List Ins := [⟨some 16, none, .mov (.t 6)⟩,
  ⟨some 17, none, .bin .sub (.t 16) (.k (.int .i64 1))⟩,
  ⟨some 6, none, .mov (.t 17)⟩]
def r58_9 : List Ins := [⟨some 37, none, .mov (.t 3)⟩,
  ⟨some 2, none, .mov (.t 37)⟩]
def x58 : XC := (.seq (.ops false r58_0) (.seq (.ops false r58_1) (.seq (.ops false r58_2) (.seq (.seq (.ops false r58_3) (.block 0 (.loop [.gh 3 116 tS2] ⟨38, [(4, (.int .i64)), (5, (.int .i64)), (6, (.int .i64))], [(0, .ptr 0 0 0), (3, .row 1)], [.box 98 [.d (.list (.int .i64)), .d (.int .i64)], .row 116 tS2 false]⟩ (.seq (.seq (.ops false r58_4) (.cond (.t 15) .skip (.exit 0))) (.seq (.block 1 (.seq (.ops false r58_5) (.seq (.ops false r58_6) (.ops false r58_7)))) (.ops false r58_8)))))) (.seq (.ops false r58_9) .ret)))))
theorem F58 : Fn Try.prog 58 38 x58.er [.t 2] := ⟨Try.f58, hcl, Try.func58, by kernel_rfl, by kernel_rfl, by kernel_rfl, by kernel_rfl⟩
noncomputable def m58 (a0 : List Int) (a1 : Int) : Option ((List Int) × Int × (List DS2) × Unit) :=
  (m32 5 a0 a1).bind fun y196 =>
  loopO (S := Int × Int × Int × (List Int) × Int × (List DS2) × Unit) (R := (List Int) × Int × (List DS2) × Unit) (fun s197 =>
   cond (cond (iLt 0 s197.2.2.1) (iLt 0 s197.1) false)
   ((m32 3 s197.2.2.2.1 s197.2.2.2.2.1).bind fun y198 =>
    (m11 (iSub .i64 s197.1 1) y198.2.1 y198.2.2.1).bind fun y199 =>
    cond (fits (List.length s197.2.2.2.2.2.1 + List.length ([(iAdd .i64 (iAdd .i64 s197.2.1 1) y198.1, iAdd .i64 1 y199.1, ())] : List DS2)) 16)
    (some (.inl (iSub .i64 s197.1 (iAdd .i64 1 y199.1), iAdd .i64 (iAdd .i64 s197.2.1 1) y198.1, iSub .i64 s197.2.2.1 1, y199.2.1, y199.2.2.1, s197.2.2.2.2.2.1 ++ ([(iAdd .i64 (iAdd .i64 s197.2.1 1) y198.1, iAdd .i64 1 y199.1, ())] : List DS2), ()))) none)
   (some (.inr (s197.2.2.2.1, s197.2.2.2.2.1, s197.2.2.2.2.2.1, ()))))
  (1000000, 0, y196.1, y196.2.1, y196.2.2.1, ([] : List DS2), ())
noncomputable def cfg58 : Cfg := ⟨ttab, gtab, [], [h11, h32]⟩
def ish58 : Sh := ⟨1, [], [(0, .ptr 0 0 0)], [.box 98 [.d (.list (.int .i64)), .d (.int .i64)]]⟩
def osh58 : Sh := ⟨1, [], [(0, .row 1)], [.box 98 [.d (.list (.int .i64)), .d (.int .i64)], .row 116 tS2 false]⟩
theorem eqn58 (x : (List Int) × Int × Unit) : xfunH cfg58 x58 38 [.t 2] [.gh 2 116 tS2] ish58 osh58 x = m58 x.1 x.2.1 := by kernel_rfl
noncomputable def h58 : HI := ⟨58, ish58, osh58, fun (x : (List Int) × Int × Unit) => m58 x.1 x.2.1⟩
theorem okh58 : HOk Try.prog (gx gtab) h58 := hok mixed (cfg_h okh11 (cfg_h okh32 (cfg_nil _ _)) : CfgOk _ cfg58) F58 eqn58
/- 66 (*treaty/treatymade.Deck).Range -/
def r66_0 : List Ins := [⟨some 6, none, .mov (.k (.int .i64 0))⟩]
def r66_1 : List Ins := [⟨some 7, none, .mov (.t 1)⟩,
  ⟨some 8, none, .mov (.t 0)⟩,
  ⟨some 9, none, .mov (.t 2)⟩,
  ⟨some 10, none, .mov (.t 1)⟩,
  ⟨some 11, none, .bin .sub (.t 9) (.t 10)⟩,
  ⟨some 12, none, .bin .add (.t 11) (.k (.int .i64 1))⟩,
  ⟨some 13, none, .call (.k (.func (.func 32) #[] #[])) [(.t 8), (.t 12)]⟩,
  ⟨some 14, none, .bin .add (.t 7) (.t 13)⟩,
  ⟨some 6, none, .mov (.t 14)⟩]
def x66 : XC := (.seq (.ops false r66_0) (.seq (.ops false r66_1) .ret))
theorem F66 : Fn Try.prog 66 15 x66.er [.t 6] := ⟨Try.f66, hcl, Try.func66, by kernel_rfl, by kernel_rfl, by kernel_rfl, by kernel_rfl⟩
noncomputable def m66 (a0 : Int) (a1 : Int) (a2 : List Int) (a3 : Int) : Option (Int × (List Int) × Int × Unit) :=
  (m32 (iAdd .i64 (iSub .i64 a1 a0) 1) a2 a3).bind fun y206 =>
  some (iAdd .i64 a0 y206.1, y206.2.1, y206.2.2.1, ())
noncomputable def cfg66 : Cfg := ⟨ttab, gtab, [], [h32]⟩
def ish66 : Sh := ⟨3, [(1, (.int .i64)), (2, (.int .i64))], [(0, .ptr 0 0 0)], [.box 98 [.d (.list (.int .i64)), .d (.int .i64)]]⟩
def osh66 : Sh := ⟨1, [(0, (.int .i64))], [], [.box 98 [.d (.list (.int .i64)), .d (.int .i64)]]⟩
theorem eqn66 (x : Int × Int × (List Int) × Int × Unit) : xfunH cfg66 x66 15 [.t 6] [] ish66 osh66 x = m66 x.1 x.2.1 x.2.2.1 x.2.2.2.1 := by kernel_rfl
noncomputable def h66 : HI := ⟨66, ish66, osh66, fun (x : Int × Int × (List Int) × Int × Unit) => m66 x.1 x.2.1 x.2.2.1 x.2.2.2.1⟩
theorem okh66 : HOk Try.prog (gx gtab) h66 := hok mixed (cfg_h okh32 (cfg_nil _ _) : CfgOk _ cfg66) F66 eqn66
/- 59 (*treaty/treatymade.Deck).Treaty -/
def r59_0 : List Ins := [⟨some 6, none, .alloc 107 (.agg #[.int .i64 0, .int .i64 0, .int .i64 0, .int .i64 0, .slice none 0 0, .slice none 0 0, .int .i64 0, .int .i64 0, .int .i64 0, .int .i64 0, .int .i64 0, .int .i64 0, .int .i64 0, .int .i64 0, .int .i64 0, .int .i64 0, .slice none 0 0, .bool false, .int .i64 0, .slice none 0 0, .slice none 0 0])⟩]
def r59_1 : List Ins := [⟨some 9, none, .mov (.t 1)⟩,
  ⟨some 10, none, .mov (.t 2)⟩,
  ⟨some 11, none, .mov (.t 0)⟩,
  ⟨some 12, none, .call (.k (.func (.func 32) #[] #[])) [(.t 11), (.k (.int .i64 10))]⟩,
  ⟨some 13, none, .mov (.t 0)⟩,
  ⟨some 14, none, .call (.k (.func (.func 32) #[] #[])) [(.t 13), (.k (.int .i64 60))]⟩,
  ⟨some 15, none, .bin .add (.k (.int .i64 60)) (.t 14)⟩,
  ⟨some 16, none, .build [.int .i64 0, .int .i64 0] [(0, 1, (.t 12)), (1, 1, (.t 15))]⟩,
  ⟨some 17, none, .mov (.t 0)⟩,
  ⟨some 18, none, .call (.k (.func (.func 64) #[] #[])) [(.t 17), (.k (.int .i64 0)), (.k (.int .i64 2))]⟩,
  ⟨some 19, none, .mov (.t 0)⟩,
  ⟨some 20, none, .call (.k (.func (.func 64) #[] #[])) [(.t 19), (.k (.int .i64 0)), (.k (.int .i64 2))]⟩,
  ⟨some 21, none, .mov (.t 0)⟩,
  ⟨some 22, none, .call (.k (.func (.func 65) #[] #[])) [(.t 21)]⟩,
  ⟨some 23, none, .mov (.t 0)⟩,
  ⟨some 24, none, .call (.k (.func (.func 58) #[] #[])) [(.t 23)]⟩,
  ⟨some 25, none, .build [.int .i64 0, .int .i64 0, .int .i64 0, .int .i64 0, .slice none 0 0, .slice none 0 0, .int .i64 0, .int .i64 0, .int .i64 0, .int .i64 0, .int .i64 0, .int .i64 0, .int .i64 0, .int .i64 0, .int .i64 0, .int .i64 0, .slice none 0 0, .bool false, .int .i64 0, .slice none 0 0, .slice none 0 0] [(0, 1, (.t 9)), (1, 1, (.t 10)), (2, 2, (.t 16)), (4, 1, (.t 18)), (5, 1, (.t 20)), (15, 1, (.t 22)), (20, 1, (.t 24))]⟩,
  ⟨some 7, none, .alloc 107 (.agg #[.int .i64 0, .int .i64 0, .int .i64 0, .int .i64 0, .slice none 0 0, .slice none 0 0, .int .i64 0, .int .i64 0, .int .i64 0, .int .i64 0, .int .i64 0, .int .i64 0, .int .i64 0, .int .i64 0, .int .i64 0, .int .i64 0, .slice none 0 0, .bool false, .int .i64 0, .slice none 0 0, .slice none 0 0])⟩,
  ⟨none, none, .store 21 (.t 7) (.t 25)⟩]
def r59_2 : List Ins := [⟨some 26, none, .mov (.t 2)⟩]
def r59_3 : List Ins := [⟨some 35, none, .bin .eql (.t 26) (.k (.int .i64 1))⟩,
  ⟨some 34, none, .mov (.t 35)⟩]
def r59_4 : List Ins := [⟨some 36, none, .mov (.t 0)⟩,
  ⟨some 37, none, .call (.k (.func (.func 11) #[] #[])) [(.t 36), (.k (.int .i64 999999))]⟩,
  ⟨some 38, none, .bin .add (.k (.int .i64 1)) (.t 37)⟩,
  ⟨some 39, none, .faddr 7 (.t 7)⟩,
  ⟨none, none, .store 1 (.t 39) (.t 38)⟩]
def r59_5 : List Ins := [⟨some 40, none, .mov (.t 0)⟩,
  ⟨some 41, none, .call (.k (.func (.func 32) #[] #[])) [(.t 40), (.k (.int .i64 2))]⟩,
  ⟨some 42, none, .bin .eql (.t 41) (.k (.int .i64 1))⟩]
def r59_6 : List Ins := [⟨some 43, none, .mov (.t 0)⟩,
  ⟨some 44, none, .call (.k (.func (.func 65) #[] #[])) [(.t 43)]⟩,
  ⟨some 45, none, .faddr 11 (.t 7)⟩,
  ⟨none, none, .store 1 (.t 45) (.t 44)⟩]
def r59_7 : List Ins := [⟨some 47, none, .bin .eql (.t 26) (.k (.int .i64 2))⟩,
  ⟨some 46, none, .mov (.t 47)⟩]
def r59_8 : List Ins := [⟨some 48, none, .mov (.t 0)⟩,
  ⟨some 49, none, .call (.k (.func (.func 11) #[] #[])) [(.t 48), (.k (.int .i64 1073741823))]⟩,
  ⟨some 50, none, .bin .add (.k (.int .i64 1)) (.t 49)⟩,
  ⟨some 51, none, .mov (.t 0)⟩,
  ⟨some 52, none, .call (.k (.func (.func 66) #[] #[])) [(.t 51), (.k (.int .i64 1)), (.k (.int .i64 9))]⟩,
  ⟨some 53, none, .faddr 8 (.t 7)⟩,
  ⟨none, none, .store 1 (.t 53) (.t 50)⟩,
  ⟨some 54, none, .faddr 9 (.t 7)⟩,
  ⟨none, none, .store 1 (.t 54) (.t 52)⟩]
def r59_9 : List Ins := [⟨some 56, none, .bin .eql (.t 26) (.k (.int .i64 3))⟩,
  ⟨some 55, none, .mov (.t 56)⟩]
def r59_10 : List Ins := [⟨some 57, none, .mov (.t 0)⟩,
  ⟨some 58, none, .call (.k (.func (.func 66) #[] #[])) [(.t 57), (.k (.int .i64 1)), (.k (.int .i64 4))]⟩,
  ⟨some 59, none, .mov (.t 0)⟩,
  ⟨some 60, none, .call (.k (.func (.func 11) #[] #[])) [(.t 59), (.k (.int .i64 999999))]⟩,
  ⟨some 61, none, .bin .add (.k (.int .i64 1)) (.t 60)⟩,
  ⟨some 62, none, .faddr 6 (.t 7)⟩,
  ⟨none, none, .store 1 (.t 62) (.t 58)⟩,
  ⟨some 63, none, .faddr 7 (.t 7)⟩,
  ⟨none, none, .store 1 (.t 63) (.t 61)⟩]
def r59_11 : List Ins := [⟨some 27, none, .mov (.t 0)⟩,
  ⟨some 28, none, .call (.k (.func (.func 11) #[] #[])) [(.t 27), (.k (.int .i64 1073741824))]⟩,
  ⟨some 29, none, .mov (.t 0)⟩,
  ⟨some 30, none, .call (.k (.func (.func 11) #[] #[])) [(.t 29), (.k (.int .i64 1073741823))]⟩,
  ⟨some 31, none, .bin .add (.k (.int .i64 1)) (.t 30)⟩,
  ⟨some 32, none, .faddr 10 (.t 7)⟩,
  ⟨none, none, .store 1 (.t 32) (.t 28)⟩,
  ⟨some 33, none, .faddr 11 (.t 7)⟩,
  ⟨none, none, .store 1 (.t 33) (.t 31)⟩]
def r59_12 : List Ins := [⟨some 64, none, .mov (.t 2)⟩,
  ⟨some 65, none, .bin .eql (.t 64) (.k (.int .i64 4))⟩,
  ⟨some 66, none, .mov (.t 65)⟩,
  ⟨some 67, some (66, false), .mov (.t 2)⟩,
  ⟨some 68, some (66, false), .bin .eql (.t 67) (.k (.int .i64 5))⟩,
  ⟨some 69, none, .pick (.t 66) (.k (.bool true)) (.t 68)⟩]
def r59_13 : List Ins := [⟨some 70, none, .mov (.t 0)⟩,
  ⟨some 71, none, .call (.k (.func (.func 32) #[] #[])) [(.t 70), (.k (.int .i64 2))]⟩,
  ⟨some 72, none, .bin .eql (.t 71) (.k (.int .i64 1))⟩]
def r59_14 : List Ins := [⟨some 73, none, .mov (.t 0)⟩,
  ⟨some 74, none, .call (.k (.func (.func 65) #[] #[])) [(.t 73)]⟩,
  ⟨some 75, none, .faddr 13 (.t 7)⟩,
  ⟨none, none, .store 1 (.t 75) (.t 74)⟩]
def r59_15 : List Ins := [⟨some 76, none, .mov (.t 0)⟩,
  ⟨some 77, none, .call (.k (.func (.func 32) #[] #[])) [(.t 76), (.k (.int .i64 2))]⟩,
  ⟨some 78, none, .bin .eql (.t 77) (.k (.int .i64 1))⟩]
def r59_16 : List Ins := [⟨some 79, none, .mov (.t 0)⟩,
  ⟨some 80, none, .call (.k (.func (.func 65) #[] #[])) [(.t 79)]⟩,
  ⟨some 81, none, .faddr 14 (.t 7)⟩,
  ⟨none, none, .store 1 (.t 81) (.t 80)⟩]
def r59_17 : List Ins := [⟨some 82, none, .mov (.t 0)⟩,
  ⟨some 83, none, .call (.k (.func (.func 32) #[] #[])) [(.t 82), (.k (.int .i64 4))]⟩,
  ⟨some 8, none, .mov (.t 83)⟩]
def r59_18 : List Ins := [⟨some 84, none, .mov (.t 8)⟩,
  ⟨some 85, none, .bin .gtr (.t 84) (.k (.int .i64 0))⟩]
def r59_19 : List (Nat × Ins) := [(0, ⟨some 88, none, .faddr 16 (.t 7)⟩),
  (1, ⟨some 89, none, .load 1 false (.t 88)⟩),
  (0, ⟨some 90, none, .mov (.t 0)⟩),
  (2, ⟨some 91, none, .call (.k (.func (.func 11) #[] #[])) [(.t 90), (.k (.int .i64 2000000))]⟩),
  (2, ⟨some 92, none, .bslice 3 1 [(.t 91)]⟩),
  (0, ⟨some 93, none, .app 3 1 8 (.t 89) (.t 92)⟩),
  (0, ⟨some 94, none, .faddr 16 (.t 7)⟩),
  (0, ⟨none, none, .store 1 (.t 94) (.t 93)⟩)]
def r59_20 : List Ins := [⟨some 86, none, .mov (.t 8)⟩,
  ⟨some 87, none, .bin .sub (.t 86) (.k (.int .i64 1))⟩,
  ⟨some 8, none, .mov (.t 87)⟩]
def r59_21 : List Ins := [⟨some 95, none, .faddr 16 (.t 7)⟩,
  ⟨some 96, none, .load 1 false (.t 95)⟩,
  ⟨some 97, none, .len (.t 96)⟩,
  ⟨some 98, none, .bin .gtr (.t 97) (.k (.int .i64 0))⟩,
  ⟨some 99, none, .mov (.t 98)⟩,
  ⟨some 100, some (99, true), .mov (.t 0)⟩,
  ⟨some 101, some (99, true), .call (.k (.func (.func 32) #[] #[])) [(.t 100), (.k (.int .i64 2))]⟩,
  ⟨some 102, some (99, true), .bin .eql (.t 101) (.k (.int .i64 1))⟩,
  ⟨some 103, none, .pick (.t 99) (.t 102) (.k (.bool false))⟩,
  ⟨some 104, none, .faddr 17 (.t 7)⟩,
  ⟨none, none, .store 1 (.t 104) (.t 103)⟩]
def r59_22 : List Ins := [⟨some 105, none, .mov (.t 2)⟩,
  ⟨some 106, none, .bin .eql (.t 105) (.k (.int .i64 4))⟩,
  ⟨some 107, none, .mov (.t 106)⟩,
  ⟨some 108, some (107, true), .mov (.t 0)⟩,
  ⟨some 109, some (107, true), .call (.k (.func (.func 32) #[] #[])) [(.t 108), (.k (.int .i64 2))]⟩,
  ⟨some 110, some (107, true), .bin .eql (.t 109) (.k (.int .i64 1))⟩,
  ⟨some 111, none, .pick (.t 107) (.t 110) (.k (.bool false))⟩]
def r59_23 : List Ins := [⟨some 112, none, .mov (.t 0)⟩,
  ⟨some 113, none, .call (.k (.func (.func 11) #[] #[])) [(.t 112), (.k (.int .i64 1000))]⟩,
  ⟨some 114, none, .bin .add (.k (.int .i64 1)) (.t 113)⟩,
  ⟨some 115, none, .faddr 18 (.t 7)⟩,
  ⟨none, none, .store 1 (.t 115) (.t 114)⟩]
def r59_24 : List Ins := [⟨some 116, none, .mov (.t 2)⟩,
  ⟨some 117, none, .bin .eql (.t 116) (.k (.int .i64 5))⟩]
def r59_25 : List Ins := [⟨some 118, none, .mov (.t 0)⟩,
  ⟨some 119, none, .call (.k (.func (.func 66) #[] #[])) [(.t 118), (.k (.int .i64 1)), (.k (.int .i64 30))]⟩,
  ⟨some 120, none, .faddr 12 (.t 7)⟩,
  ⟨none, none, .store 1 (.t 120) (.t 119)⟩]
def r59_26 : List Ins := [⟨some 121, none, .load 21 true (.t 7)⟩,
  ⟨none, none, .store 21 (.t 6) (.t 121)⟩]
def x59 : XC := (.seq (.ops false r59_0) (.seq (.ops false r59_1) (.seqj [] ⟨122, [(2, (.int .i64))], [(0, .ptr 0 0 0), (6, .ptr 1 0 0), (7, .ptr 2 0 0)], [.box 98 [.d (.list (.int .i64)), .d (.int .i64)], .box 107 [.d (.int .i64), .d (.int .i64), .d (.int .i64), .d (.int .i64), .nil, .nil, .d (.int .i64), .d (.int .i64), .d (.int .i64), .d (.int .i64), .d (.int .i64), .d (.int .i64), .d (.int .i64), .d (.int .i64), .d (.int .i64), .d (.int .i64), .nil, .d .bool, .d (.int .i64), .nil, .nil], .box 107 [.d (.int .i64), .d (.int .i64), .d (.int .i64), .d (.int .i64), .row 3, .row 4, .d (.int .i64), .d (.int .i64), .d (.int .i64), .d (.int .i64), .d (.int .i64), .d (.int .i64), .d (.int .i64), .d (.int .i64), .d (.int .i64), .d (.int .i64), .nil, .d .bool, .d (.int .i64), .nil, .row 5], .row 3 (.int .i64) false, .row 3 (.int .i64) false, .row 116 tS2 false]⟩ (.seq (.ops false r59_2) (.block 0 (.seq (.ops false r59_3) (.cond (.t 34) (.seq (.ops false r59_4) (.seq (.ops false r59_5) (.cond (.t 42) (.ops false r59_6) .skip))) (.seq (.ops false r59_7) (.cond (.t 46) (.ops false r59_8) (.seq (.ops false r59_9) (.cond (.t 55) (.ops false r59_10) (.ops false r59_11))))))))) (.seqj [.ghc 7 16 3 (.int .i64)] ⟨122, [(2, (.int .i64))], [(0, .ptr 0 0 0), (6, .ptr 1 0 0), (7, .ptr 2 0 0)], [.box 98 [.d (.list (.int .i64)), .d (.int .i64)], .box 107 [.d (.int .i64), .d (.int .i64), .d (.int .i64), .d (.int .i64), .nil, .nil, .d (.int .i64), .d (.int .i64), .d (.int .i64), .d (.int .i64), .d (.int .i64), .d (.int .i64), .d (.int .i64), .d (.int .i64), .d (.int .i64), .d (.int .i64), .nil, .d .bool, .d (.int .i64), .nil, .nil], .box 107 [.d (.int .i64), .d (.int .i64), .d (.int .i64), .d (.int .i64), .row 3, .row 4, .d (.int .i64), .d (.int .i64), .d (.int .i64), .d (.int .i64), .d (.int .i64), .d (.int .i64), .d (.int .i64), .d (.int .i64), .d (.int .i64), .d (.int .i64), .row 5, .d .bool, .d (.int .i64), .nil, .row 6], .row 3 (.int .i64) false, .row 3 (.int .i64) false, .row 3 (.int .i64) false, .row 116 tS2 false]⟩ (.seq (.ops false r59_12) (.cond (.t 69) (.seqj [] ⟨122, [(2, (.int .i64))], [(0, .ptr 0 0 0), (6, .ptr 1 0 0), (7, .ptr 2 0 0)], [.box 98 [.d (.list (.int .i64)), .d (.int .i64)], .box 107 [.d (.int .i64), .d (.int .i64), .d (.int .i64), .d (.int .i64), .nil, .nil, .d (.int .i64), .d (.int .i64), .d (.int .i64), .d (.int .i64), .d (.int .i64), .d (.int .i64), .d (.int .i64), .d (.int .i64), .d (.int .i64), .d (.int .i64), .nil, .d .bool, .d (.int .i64), .nil, .nil], .box 107 [.d (.int .i64), .d (.int .i64), .d (.int .i64), .d (.int .i64), .row 3, .row 4, .d (.int .i64), .d (.int .i64), .d (.int .i64), .d (.int .i64), .d (.int .i64), .d (.int .i64), .d (.int .i64), .d (.int .i64), .d (.int .i64), .d (.int .i64), .nil, .d .bool, .d (.int .i64), .nil, .row 5], .row 3 (.int .i64) false, .row 3 (.int .i64) false, .row 116 tS2 false]⟩ (.seq (.ops false r59_13) (.cond (.t 72) (.ops false r59_14) .skip)) (.seqj [] ⟨122, [(2, (.int .i64))], [(0, .ptr 0 0 0), (6, .ptr 1 0 0), (7, .ptr 2 0 0)], [.box 98 [.d (.list (.int .i64)), .d (.int .i64)], .box 107 [.d (.int .i64), .d (.int .i64), .d (.int .i64), .d (.int .i64), .nil, .nil, .d (.int .i64), .d (.int .i64), .d (.int .i64), .d (.int .i64), .d (.int .i64), .d (.int .i64), .d (.int .i64), .d (.int .i64), .d (.int .i64), .d (.int .i64), .nil, .d .bool, .d (.int .i64), .nil, .nil], .box 107 [.d (.int .i64), .d (.int .i64), .d (.int .i64), .d (.int .i64), .row 3, .row 4, .d (.int .i64), .d (.int .i64), .d (.int .i64), .d (.int .i64), .d (.int .i64), .d (.int .i64), .d (.int .i64), .d (.int .i64), .d (.int .i64), .d (.int .i64), .nil, .d .bool, .d (.int .i64), .nil, .row 5], .row 3 (.int .i64) false, .row 3 (.int .i64) false, .row 116 tS2 false]⟩ (.seq (.ops false r59_15) (.cond (.t 78) (.ops false r59_16) .skip)) (.seq (.seq (.ops false r59_17) (.block 1 (.loop [.ghc 7 16 3 (.int .i64)] ⟨122, [(2, (.int .i64)), (8, (.int .i64))], [(0, .ptr 0 0 0), (6, .ptr 1 0 0), (7, .ptr 2 0 0)], [.box 98 [.d (.list (.int .i64)), .d (.int .i64)], .box 107 [.d (.int .i64), .d (.int .i64), .d (.int .i64), .d (.int .i64), .nil, .nil, .d (.int .i64), .d (.int .i64), .d (.int .i64), .d (.int .i64), .d (.int .i64), .d (.int .i64), .d (.int .i64), .d (.int .i64), .d (.int .i64), .d (.int .i64), .nil, .d .bool, .d (.int .i64), .nil, .nil], .box 107 [.d (.int .i64), .d (.int .i64), .d (.int .i64), .d (.int .i64), .row 3, .row 4, .d (.int .i64), .d (.int .i64), .d (.int .i64), .d (.int .i64), .d (.int .i64), .d (.int .i64), .d (.int .i64), .d (.int .i64), .d (.int .i64), .d (.int .i64), .row 5, .d .bool, .d (.int .i64), .nil, .row 6], .row 3 (.int .i64) false, .row 3 (.int .i64) false, .row 3 (.int .i64) false, .row 116 tS2 false]⟩ (.seq (.seq (.ops false r59_18) (.cond (.t 85) .skip (.exit 1))) (.seq (.block 2 (.rops [0] r59_19)) (.ops false r59_20)))))) (.ops false r59_21)))) .skip)) (.seq (.seq (.ops false r59_22) (.cond (.t 111) (.ops false r59_23) .skip)) (.seq (.seq (.ops false r59_24) (.cond (.t 117) (.ops false r59_25) .skip)) (.seq (.ops false r59_26) .ret)))))))
theorem F59 : Fn Try.prog 59 122 x59.er [.c 6 21 true] := ⟨Try.f59, hcl, Try.func59, by kernel_rfl, by kernel_rfl, by kernel_rfl, by kernel_rfl⟩
noncomputable def m59 (a0 : Int) (a1 : Int) (a2 : List Int) (a3 : Int) : Option (Int × Int × Int × Int × Int × Int × Int × Int × Int × Int × Int × Int × Int × Int × Bool × Int × (List Int) × Int × (List Int) × (List Int) × (List Int) × (List DS2) × Unit) :=
  (m32 10 a2 a3).bind fun y260 =>
  (m32 60 y260.2.1 y260.2.2.1).bind fun y261 =>
  (m64 0 2 y261.2.1 y261.2.2.1).bind fun y262 =>
  (m64 0 2 y262.1 y262.2.1).bind fun y263 =>
  (m65 y263.1 y263.2.1).bind fun y264 =>
  (m58 y264.2.1 y264.2.2.1).bind fun y265 =>
  joinO (S := Int × (List Int) × Int × Int × Int × Int × Int × Int × Int × Int × Int × Int × Int × Int × Int × Int × Int × Bool × Int × Int × Int × Int × Int × Int × Int × Int × Int × Int × Int × Int × Int × Int × Int × Bool × Int × (List Int) × (List Int) × (List DS2) × Unit) (R := Int × Int × Int × Int × Int × Int × Int × Int × Int × Int × Int × Int × Int × Int × Bool × Int × (List Int) × Int × (List Int) × (List Int) × (List Int) × (List DS2) × Unit)
  (cond (iEq a1 1)
   ((m11 999999 y265.1 y265.2.1).bind fun y266 =>
    (m32 2 y266.2.1 y266.2.2.1).bind fun y267 =>
    cond (iEq y267.1 1)
    ((m65 y267.2.1 y267.2.2.1).bind fun y268 =>
     some (.inl (a1, y268.2.1, y268.2.2.1, 0, 0, 0, 0, 0, 0, 0, 0, 0, 0, 0, 0, 0, 0, false, 0, a0, a1, y260.1, iAdd .i64 60 y261.1, 0, iAdd .i64 1 y266.1, 0, 0, 0, y268.1, 0, 0, 0, y264.1, false, 0, y262.2.2.1, y263.2.2.1, y265.2.2.1, ())))
    (some (.inl (a1, y267.2.1, y267.2.2.1, 0, 0, 0, 0, 0, 0, 0, 0, 0, 0, 0, 0, 0, 0, false, 0, a0, a1, y260.1, iAdd .i64 60 y261.1, 0, iAdd .i64 1 y266.1, 0, 0, 0, 0, 0, 0, 0, y264.1, false, 0, y262.2.2.1, y263.2.2.1, y265.2.2.1, ()))))
   (cond (iEq a1 2)
    ((m11 1073741823 y265.1 y265.2.1).bind fun y269 =>
     (m66 1 9 y269.2.1 y269.2.2.1).bind fun y270 =>
     some (.inl (a1, y270.2.1, y270.2.2.1, 0, 0, 0, 0, 0, 0, 0, 0, 0, 0, 0, 0, 0, 0, false, 0, a0, a1, y260.1, iAdd .i64 60 y261.1, 0, 0, iAdd .i64 1 y269.1, y270.1, 0, 0, 0, 0, 0, y264.1, false, 0, y262.2.2.1, y263.2.2.1, y265.2.2.1, ())))
    (cond (iEq a1 3)
     ((m66 1 4 y265.1 y265.2.1).bind fun y271 =>
      (m11 999999 y271.2.1 y271.2.2.1).bind fun y272 =>
      some (.inl (a1, y272.2.1, y272.2.2.1, 0, 0, 0, 0, 0, 0, 0, 0, 0, 0, 0, 0, 0, 0, false, 0, a0, a1, y260.1, iAdd .i64 60 y261.1, y271.1, iAdd .i64 1 y272.1, 0, 0, 0, 0, 0, 0, 0, y264.1, false, 0, y262.2.2.1, y263.2.2.1, y265.2.2.1, ())))
     ((m11 1073741824 y265.1 y265.2.1).bind fun y273 =>
      (m11 1073741823 y273.2.1 y273.2.2.1).bind fun y274 =>
      some (.inl (a1, y274.2.1, y274.2.2.1, 0, 0, 0, 0, 0, 0, 0, 0, 0, 0, 0, 0, 0, 0, false, 0, a0, a1, y260.1, iAdd .i64 60 y261.1, 0, 0, 0, 0, y273.1, iAdd .i64 1 y274.1, 0, 0, 0, y264.1, false, 0, y262.2.2.1, y263.2.2.1, y265.2.2.1, ()))))))
  (fun j275 =>
   joinO (S := Int × (List Int) × Int × Int × Int × Int × Int × Int × Int × Int × Int × Int × Int × Int × Int × Int × Int × Bool × Int × Int × Int × Int × Int × Int × Int × Int × Int × Int × Int × Int × Int × Int × Int × Bool × Int × (List Int) × (List Int) × (List Int) × (List DS2) × Unit) (R := Int × Int × Int × Int × Int × Int × Int × Int × Int × Int × Int × Int × Int × Int × Bool × Int × (List Int) × Int × (List Int) × (List Int) × (List Int) × (List DS2) × Unit)
   (cond (cond (iEq j275.1 4) true (iEq j275.1 5))
    (joinO (S := Int × (List Int) × Int × Int × Int × Int × Int × Int × Int × Int × Int × Int × Int × Int × Int × Int × Int × Bool × Int × Int × Int × Int × Int × Int × Int × Int × Int × Int × Int × Int × Int × Int × Int × Bool × Int × (List Int) × (List Int) × (List DS2) × Unit) (R := (Int × (List Int) × Int × Int × Int × Int × Int × Int × Int × Int × Int × Int × Int × Int × Int × Int × Int × Bool × Int × Int × Int × Int × Int × Int × Int × Int × Int × Int × Int × Int × Int × Int × Int × Bool × Int × (List Int) × (List Int) × (List Int) × (List DS2) × Unit) ⊕ (Int × Int × Int × Int × Int × Int × Int × Int × Int × Int × Int × Int × Int × Int × Bool × Int × (List Int) × Int × (List Int) × (List Int) × (List Int) × (List DS2) × Unit))
     ((m32 2 j275.2.1 j275.2.2.1).bind fun y276 =>
      cond (iEq y276.1 1)
      ((m65 y276.2.1 y276.2.2.1).bind fun y277 =>
       some (.inl (j275.1, y277.2.1, y277.2.2.1, j275.2.2.2.1, j275.2.2.2.2.1, j275.2.2.2.2.2.1, j275.2.2.2.2.2.2.1, j275.2.2.2.2.2.2.2.1, j275.2.2.2.2.2.2.2.2.1, j275.2.2.2.2.2.2.2.2.2.1, j275.2.2.2.2.2.2.2.2.2.2.1, j275.2.2.2.2.2.2.2.2.2.2.2.1, j275.2.2.2.2.2.2.2.2.2.2.2.2.1, j275.2.2.2.2.2.2.2.2.2.2.2.2.2.1, j275.2.2.2.2.2.2.2.2.2.2.2.2.2.2.1, j275.2.2.2.2.2.2.2.2.2.2.2.2.2.2.2.1, j275.2.2.2.2.2.2.2.2.2.2.2.2.2.2.2.2.1, j275.2.2.2.2.2.2.2.2.2.2.2.2.2.2.2.2.2.1, j275.2.2.2.2.2.2.2.2.2.2.2.2.2.2.2.2.2.2.1, j275.2.2.2.2.2.2.2.2.2.2.2.2.2.2.2.2.2.2.2.1, j275.2.2.2.2.2.2.2.2.2.2.2.2.2.2.2.2.2.2.2.2.1, j275.2.2.2.2.2.2.2.2.2.2.2.2.2.2.2.2.2.2.2.2.2.1, j275.2.2.2.2.2.2.2.2.2.2.2.2.2.2.2.2.2.2.2.2.2.2.1, j275.2.2.2.2.2.2.2.2.2.2.2.2.2.2.2.2.2.2.2.2.2.2.2.1, j275.2.2.2.2.2.2.2.2.2.2.2.2.2.2.2.2.2.2.2.2.2.2.2.2.1, j275.2.2.2.2.2.2.2.2.2.2.2.2.2.2.2.2.2.2.2.2.2.2.2.2.2.1, j275.2.2.2.2.2.2.2.2.2.2.2.2.2.2.2.2.2.2.2.2.2.2.2.2.2.2.1, j275.2.2.2.2.2.2.2.2.2.2.2.2.2.2.2.2.2.2.2.2.2.2.2.2.2.2.2.1, j275.2.2.2.2.2.2.2.2.2.2.2.2.2.2.2.2.2.2.2.2.2.2.2.2.2.2.2.2.1, j275.2.2.2.2.2.2.2.2.2.2.2.2.2.2.2.2.2.2.2.2.2.2.2.2.2.2.2.2.2.1, y277.1, j275.2.2.2.2.2.2.2.2.2.2.2.2.2.2.2.2.2.2.2.2.2.2.2.2.2.2.2.2.2.2.2.1, j275.2.2.2.2.2.2.2.2.2.2.2.2.2.2.2.2.2.2.2.2.2.2.2.2.2.2.2.2.2.2.2.2.1, j275.2.2.2.2.2.2.2.2.2.2.2.2.2.2.2.2.2.2.2.2.2.2.2.2.2.2.2.2.2.2.2.2.2.1, j275.2.2.2.2.2.2.2.2.2.2.2.2.2.2.2.2.2.2.2.2.2.2.2.2.2.2.2.2.2.2.2.2.2.2.1, j275.2.2.2.2.2.2.2.2.2.2.2.2.2.2.2.2.2.2.2.2.2.2.2.2.2.2.2.2.2.2.2.2.2.2.2.1, j275.2.2.2.2.2.2.2.2.2.2.2.2.2.2.2.2.2.2.2.2.2.2.2.2.2.2.2.2.2.2.2.2.2.2.2.2.1, j275.2.2.2.2.2.2.2.2.2.2.2.2.2.2.2.2.2.2.2.2.2.2.2.2.2.2.2.2.2.2.2.2.2.2.2.2.2.1, ())))
      (some (.inl (j275.1, y276.2.1, y276.2.2.1, j275.2.2.2.1, j275.2.2.2.2.1, j275.2.2.2.2.2.1, j275.2.2.2.2.2.2.1, j275.2.2.2.2.2.2.2.1, j275.2.2.2.2.2.2.2.2.1, j275.2.2.2.2.2.2.2.2.2.1, j275.2.2.2.2.2.2.2.2.2.2.1, j275.2.2.2.2.2.2.2.2.2.2.2.1, j275.2.2.2.2.2.2.2.2.2.2.2.2.1, j275.2.2.2.2.2.2.2.2.2.2.2.2.2.1, j275.2.2.2.2.2.2.2.2.2.2.2.2.2.2.1, j275.2.2.2.2.2.2.2.2.2.2.2.2.2.2.2.1, j275.2.2.2.2.2.2.2.2.2.2.2.2.2.2.2.2.1, j275.2.2.2.2.2.2.2.2.2.2.2.2.2.2.2.2.2.1, j275.2.2.2.2.2.2.2.2.2.2.2.2.2.2.2.2.2.2.1, j275.2.2.2.2.2.2.2.2.2.2.2.2.2.2.2.2.2.2.2.1, j275.2.2.2.2.2.2.2.2.2.2.2.2.2.2.2.2.2.2.2.2.1, j275.2.2.2.2.2.2.2.2.2.2.2.2.2.2.2.2.2.2.2.2.2.1, j275.2.2.2.2.2.2.2.2.2.2.2.2.2.2.2.2.2.2.2.2.2.2.1, j275.2.2.2.2.2.2.2.2.2.2.2.2.2.2.2.2.2.2.2.2.2.2.2.1, j275.2.2.2.2.2.2.2.2.2.2.2.2.2.2.2.2.2.2.2.2.2.2.2.2.1, j275.2.2.2.2.2.2.2.2.2.2.2.2.2.2.2.2.2.2.2.2.2.2.2.2.2.1, j275.2.2.2.2.2.2.2.2.2.2.2.2.2.2.2.2.2.2.2.2.2.2.2.2.2.2.1, j275.2.2.2.2.2.2.2.2.2.2.2.2.2.2.2.2.2.2.2.2.2.2.2.2.2.2.2.1, j275.2.2.2.2.2.2.2.2.2.2.2.2.2.2.2.2.2.2.2.2.2.2.2.2.2.2.2.2.1, j275.2.2.2.2.2.2.2.2.2.2.2.2.2.2.2.2.2.2.2.2.2.2.2.2.2.2.2.2.2.1, j275.2.2.2.2.2.2.2.2.2.2.2.2.2.2.2.2.2.2.2.2.2.2.2.2.2.2.2.2.2.2.1, j275.2.2.2.2.2.2.2.2.2.2.2.2.2.2.2.2.2.2.2.2.2.2.2.2.2.2.2.2.2.2.2.1, j275.2.2.2.2.2.2.2.2.2.2.2.2.2.2.2.2.2.2.2.2.2.2.2.2.2.2.2.2.2.2.2.2.1, j275.2.2.2.2.2.2.2.2.2.2.2.2.2.2.2.2.2.2.2.2.2.2.2.2.2.2.2.2.2.2.2.2.2.1, j275.2.2.2.2.2.2.2.2.2.2.2.2.2.2.2.2.2.2.2.2.2.2.2.2.2.2.2.2.2.2.2.2.2.2.1, j275.2.2.2.2.2.2.2.2.2.2.2.2.2.2.2.2.2.2.2.2.2.2.2.2.2.2.2.2.2.2.2.2.2.2.2.1, j275.2.2.2.2.2.2.2.2.2.2.2.2.2.2.2.2.2.2.2.2.2.2.2.2.2.2.2.2.2.2.2.2.2.2.2.2.1, j275.2.2.2.2.2.2.2.2.2.2.2.2.2.2.2.2.2.2.2.2.2.2.2.2.2.2.2.2.2.2.2.2.2.2.2.2.2.1, ()))))
     (fun j278 =>
      joinO (S := Int × (List Int) × Int × Int × Int × Int × Int × Int × Int × Int × Int × Int × Int × Int × Int × Int × Int × Bool × Int × Int × Int × Int × Int × Int × Int × Int × Int × Int × Int × Int × Int × Int × Int × Bool × Int × (List Int) × (List Int) × (List DS2) × Unit) (R := (Int × (List Int) × Int × Int × Int × Int × Int × Int × Int × Int × Int × Int × Int × Int × Int × Int × Int × Bool × Int × Int × Int × Int × Int × Int × Int × Int × Int × Int × Int × Int × Int × Int × Int × Bool × Int × (List Int) × (List Int) × (List Int) × (List DS2) × Unit) ⊕ (Int × Int × Int × Int × Int × Int × Int × Int × Int × Int × Int × Int × Int × Int × Bool × Int × (List Int) × Int × (List Int) × (List Int) × (List Int) × (List DS2) × Unit))
      ((m32 2 j278.2.1 j278.2.2.1).bind fun y279 =>
       cond (iEq y279.1 1)
       ((m65 y279.2.1 y279.2.2.1).bind fun y280 =>
        some (.inl (j278.1, y280.2.1, y280.2.2.1, j278.2.2.2.1, j278.2.2.2.2.1, j278.2.2.2.2.2.1, j278.2.2.2.2.2.2.1, j278.2.2.2.2.2.2.2.1, j278.2.2.2.2.2.2.2.2.1, j278.2.2.2.2.2.2.2.2.2.1, j278.2.2.2.2.2.2.2.2.2.2.1, j278.2.2.2.2.2.2.2.2.2.2.2.1, j278.2.2.2.2.2.2.2.2.2.2.2.2.1, j278.2.2.2.2.2.2.2.2.2.2.2.2.2.1, j278.2.2.2.2.2.2.2.2.2.2.2.2.2.2.1, j278.2.2.2.2.2.2.2.2.2.2.2.2.2.2.2.1, j278.2.2.2.2.2.2.2.2.2.2.2.2.2.2.2.2.1, j278.2.2.2.2.2.2.2.2.2.2.2.2.2.2.2.2.2.1, j278.2.2.2.2.2.2.2.2.2.2.2.2.2.2.2.2.2.2.1, j278.2.2.2.2.2.2.2.2.2.2.2.2.2.2.2.2.2.2.2.1, j278.2.2.2.2.2.2.2.2.2.2.2.2.2.2.2.2.2.2.2.2.1, j278.2.2.2.2.2.2.2.2.2.2.2.2.2.2.2.2.2.2.2.2.2.1, j278.2.2.2.2.2.2.2.2.2.2.2.2.2.2.2.2.2.2.2.2.2.2.1, j278.2.2.2.2.2.2.2.2.2.2.2.2.2.2.2.2.2.2.2.2.2.2.2.1, j278.2.2.2.2.2.2.2.2.2.2.2.2.2.2.2.2.2.2.2.2.2.2.2.2.1, j278.2.2.2.2.2.2.2.2.2.2.2.2.2.2.2.2.2.2.2.2.2.2.2.2.2.1, j278.2.2.2.2.2.2.2.2.2.2.2.2.2.2.2.2.2.2.2.2.2.2.2.2.2.2.1, j278.2.2.2.2.2.2.2.2.2.2.2.2.2.2.2.2.2.2.2.2.2.2.2.2.2.2.2.1, j278.2.2.2.2.2.2.2.2.2.2.2.2.2.2.2.2.2.2.2.2.2.2.2.2.2.2.2.2.1, j278.2.2.2.2.2.2.2.2.2.2.2.2.2.2.2.2.2.2.2.2.2.2.2.2.2.2.2.2.2.1, j278.2.2.2.2.2.2.2.2.2.2.2.2.2.2.2.2.2.2.2.2.2.2.2.2.2.2.2.2.2.2.1, y280.1, j278.2.2.2.2.2.2.2.2.2.2.2.2.2.2.2.2.2.2.2.2.2.2.2.2.2.2.2.2.2.2.2.2.1, j278.2.2.2.2.2.2.2.2.2.2.2.2.2.2.2.2.2.2.2.2.2.2.2.2.2.2.2.2.2.2.2.2.2.1, j278.2.2.2.2.2.2.2.2.2.2.2.2.2.2.2.2.2.2.2.2.2.2.2.2.2.2.2.2.2.2.2.2.2.2.1, j278.2.2.2.2.2.2.2.2.2.2.2.2.2.2.2.2.2.2.2.2.2.2.2.2.2.2.2.2.2.2.2.2.2.2.2.1, j278.2.2.2.2.2.2.2.2.2.2.2.2.2.2.2.2.2.2.2.2.2.2.2.2.2.2.2.2.2.2.2.2.2.2.2.2.1, j278.2.2.2.2.2.2.2.2.2.2.2.2.2.2.2.2.2.2.2.2.2.2.2.2.2.2.2.2.2.2.2.2.2.2.2.2.2.1, ())))
       (some (.inl (j278.1, y279.2.1, y279.2.2.1, j278.2.2.2.1, j278.2.2.2.2.1, j278.2.2.2.2.2.1, j278.2.2.2.2.2.2.1, j278.2.2.2.2.2.2.2.1, j278.2.2.2.2.2.2.2.2.1, j278.2.2.2.2.2.2.2.2.2.1, j278.2.2.2.2.2.2.2.2.2.2.1, j278.2.2.2.2.2.2.2.2.2.2.2.1, j278.2.2.2.2.2.2.2.2.2.2.2.2.1, j278.2.2.2.2.2.2.2.2.2.2.2.2.2.1, j278.2.2.2.2.2.2.2.2.2.2.2.2.2.2.1, j278.2.2.2.2.2.2.2.2.2.2.2.2.2.2.2.1, j278.2.2.2.2.2.2.2.2.2.2.2.2.2.2.2.2.1, j278.2.2.2.2.2.2.2.2.2.2.2.2.2.2.2.2.2.1, j278.2.2.2.2.2.2.2.2.2.2.2.2.2.2.2.2.2.2.1, j278.2.2.2.2.2.2.2.2.2.2.2.2.2.2.2.2.2.2.2.1, j278.2.2.2.2.2.2.2.2.2.2.2.2.2.2.2.2.2.2.2.2.1, j278.2.2.2.2.2.2.2.2.2.2.2.2.2.2.2.2.2.2.2.2.2.1, j278.2.2.2.2.2.2.2.2.2.2.2.2.2.2.2.2.2.2.2.2.2.2.1, j278.2.2.2.2.2.2.2.2.2.2.2.2.2.2.2.2.2.2.2.2.2.2.2.1, j278.2.2.2.2.2.2.2.2.2.2.2.2.2.2.2.2.2.2.2.2.2.2.2.2.1, j278.2.2.2.2.2.2.2.2.2.2.2.2.2.2.2.2.2.2.2.2.2.2.2.2.2.1, j278.2.2.2.2.2.2.2.2.2.2.2.2.2.2.2.2.2.2.2.2.2.2.2.2.2.2.1, j278.2.2.2.2.2.2.2.2.2.2.2.2.2.2.2.2.2.2.2.2.2.2.2.2.2.2.2.1, j278.2.2.2.2.2.2.2.2.2.2.2.2.2.2.2.2.2.2.2.2.2.2.2.2.2.2.2.2.1, j278.2.2.2.2.2.2.2.2.2.2.2.2.2.2.2.2.2.2.2.2.2.2.2.2.2.2.2.2.2.1, j278.2.2.2.2.2.2.2.2.2.2.2.2.2.2.2.2.2.2.2.2.2.2.2.2.2.2.2.2.2.2.1, j278.2.2.2.2.2.2.2.2.2.2.2.2.2.2.2.2.2.2.2.2.2.2.2.2.2.2.2.2.2.2.2.1, j278.2.2.2.2.2.2.2.2.2.2.2.2.2.2.2.2.2.2.2.2.2.2.2.2.2.2.2.2.2.2.2.2.1, j278.2.2.2.2.2.2.2.2.2.2.2.2.2.2.2.2.2.2.2.2.2.2.2.2.2.2.2.2.2.2.2.2.2.1, j278.2.2.2.2.2.2.2.2.2.2.2.2.2.2.2.2.2.2.2.2.2.2.2.2.2.2.2.2.2.2.2.2.2.2.1, j278.2.2.2.2.2.2.2.2.2.2.2.2.2.2.2.2.2.2.2.2.2.2.2.2.2.2.2.2.2.2.2.2.2.2.2.1, j278.2.2.2.2.2.2.2.2.2.2.2.2.2.2.2.2.2.2.2.2.2.2.2.2.2.2.2.2.2.2.2.2.2.2.2.2.1, j278.2.2.2.2.2.2.2.2.2.2.2.2.2.2.2.2.2.2.2.2.2.2.2.2.2.2.2.2.2.2.2.2.2.2.2.2.2.1, ()))))
      (fun j281 =>
       (m32 4 j281.2.1 j281.2.2.1).bind fun y282 =>
       loopO (S := Int × Int × (List Int) × Int × Int × Int × Int × Int × Int × Int × Int × Int × Int × Int × Int × Int × Int × Int × Bool × Int × Int × Int × Int × Int × Int × Int × Int × Int × Int × Int × Int × Int × Int × Int × Bool × Int × (List Int) × (List Int) × (List Int) × (List DS2) × Unit) (R := (Int × (List Int) × Int × Int × Int × Int × Int × Int × Int × Int × Int × Int × Int × Int × Int × Int × Int × Bool × Int × Int × Int × Int × Int × Int × Int × Int × Int × Int × Int × Int × Int × Int × Int × Bool × Int × (List Int) × (List Int) × (List Int) × (List DS2) × Unit) ⊕ (Int × Int × Int × Int × Int × Int × Int × Int × Int × Int × Int × Int × Int × Int × Bool × Int × (List Int) × Int × (List Int) × (List Int) × (List Int) × (List DS2) × Unit)) (fun s283 =>
        cond (iLt 0 s283.2.1)
        ((m11 2000000 s283.2.2.1 s283.2.2.2.1).bind fun y284 =>
         cond (fits (List.length s283.2.2.2.2.2.2.2.2.2.2.2.2.2.2.2.2.2.2.2.2.2.2.2.2.2.2.2.2.2.2.2.2.2.2.2.2.2.2.1 + List.length ([y284.1] : List Int)) 8)
         (some (.inl (s283.1, iSub .i64 s283.2.1 1, y284.2.1, y284.2.2.1, s283.2.2.2.2.1, s283.2.2.2.2.2.1, s283.2.2.2.2.2.2.1, s283.2.2.2.2.2.2.2.1, s283.2.2.2.2.2.2.2.2.1, s283.2.2.2.2.2.2.2.2.2.1, s283.2.2.2.2.2.2.2.2.2.2.1, s283.2.2.2.2.2.2.2.2.2.2.2.1, s283.2.2.2.2.2.2.2.2.2.2.2.2.1, s283.2.2.2.2.2.2.2.2.2.2.2.2.2.1, s283.2.2.2.2.2.2.2.2.2.2.2.2.2.2.1, s283.2.2.2.2.2.2.2.2.2.2.2.2.2.2.2.1, s283.2.2.2.2.2.2.2.2.2.2.2.2.2.2.2.2.1, s283.2.2.2.2.2.2.2.2.2.2.2.2.2.2.2.2.2.1, s283.2.2.2.2.2.2.2.2.2.2.2.2.2.2.2.2.2.2.1, s283.2.2.2.2.2.2.2.2.2.2.2.2.2.2.2.2.2.2.2.1, s283.2.2.2.2.2.2.2.2.2.2.2.2.2.2.2.2.2.2.2.2.1, s283.2.2.2.2.2.2.2.2.2.2.2.2.2.2.2.2.2.2.2.2.2.1, s283.2.2.2.2.2.2.2.2.2.2.2.2.2.2.2.2.2.2.2.2.2.2.1, s283.2.2.2.2.2.2.2.2.2.2.2.2.2.2.2.2.2.2.2.2.2.2.2.1, s283.2.2.2.2.2.2.2.2.2.2.2.2.2.2.2.2.2.2.2.2.2.2.2.2.1, s283.2.2.2.2.2.2.2.2.2.2.2.2.2.2.2.2.2.2.2.2.2.2.2.2.2.1, s283.2.2.2.2.2.2.2.2.2.2.2.2.2.2.2.2.2.2.2.2.2.2.2.2.2.2.1, s283.2.2.2.2.2.2.2.2.2.2.2.2.2.2.2.2.2.2.2.2.2.2.2.2.2.2.2.1, s283.2.2.2.2.2.2.2.2.2.2.2.2.2.2.2.2.2.2.2.2.2.2.2.2.2.2.2.2.1, s283.2.2.2.2.2.2.2.2.2.2.2.2.2.2.2.2.2.2.2.2.2.2.2.2.2.2.2.2.2.1, s283.2.2.2.2.2.2.2.2.2.2.2.2.2.2.2.2.2.2.2.2.2.2.2.2.2.2.2.2.2.2.1, s283.2.2.2.2.2.2.2.2.2.2.2.2.2.2.2.2.2.2.2.2.2.2.2.2.2.2.2.2.2.2.2.1, s283.2.2.2.2.2.2.2.2.2.2.2.2.2.2.2.2.2.2.2.2.2.2.2.2.2.2.2.2.2.2.2.2.1, s283.2.2.2.2.2.2.2.2.2.2.2.2.2.2.2.2.2.2.2.2.2.2.2.2.2.2.2.2.2.2.2.2.2.1, s283.2.2.2.2.2.2.2.2.2.2.2.2.2.2.2.2.2.2.2.2.2.2.2.2.2.2.2.2.2.2.2.2.2.2.1, s283.2.2.2.2.2.2.2.2.2.2.2.2.2.2.2.2.2.2.2.2.2.2.2.2.2.2.2.2.2.2.2.2.2.2.2.1, s283.2.2.2.2.2.2.2.2.2.2.2.2.2.2.2.2.2.2.2.2.2.2.2.2.2.2.2.2.2.2.2.2.2.2.2.2.1, s283.2.2.2.2.2.2.2.2.2.2.2.2.2.2.2.2.2.2.2.2.2.2.2.2.2.2.2.2.2.2.2.2.2.2.2.2.2.1, s283.2.2.2.2.2.2.2.2.2.2.2.2.2.2.2.2.2.2.2.2.2.2.2.2.2.2.2.2.2.2.2.2.2.2.2.2.2.2.1 ++ ([y284.1] : List Int), s283.2.2.2.2.2.2.2.2.2.2.2.2.2.2.2.2.2.2.2.2.2.2.2.2.2.2.2.2.2.2.2.2.2.2.2.2.2.2.2.1, ()))) none)
        (Option.map Sum.inr (cond (iLt 0 (lenI s283.2.2.2.2.2.2.2.2.2.2.2.2.2.2.2.2.2.2.2.2.2.2.2.2.2.2.2.2.2.2.2.2.2.2.2.2.2.2.1))
          ((m32 2 s283.2.2.1 s283.2.2.2.1).bind fun y285 =>
           some (.inl (s283.1, y285.2.1, y285.2.2.1, s283.2.2.2.2.1, s283.2.2.2.2.2.1, s283.2.2.2.2.2.2.1, s283.2.2.2.2.2.2.2.1, s283.2.2.2.2.2.2.2.2.1, s283.2.2.2.2.2.2.2.2.2.1, s283.2.2.2.2.2.2.2.2.2.2.1, s283.2.2.2.2.2.2.2.2.2.2.2.1, s283.2.2.2.2.2.2.2.2.2.2.2.2.1, s283.2.2.2.2.2.2.2.2.2.2.2.2.2.1, s283.2.2.2.2.2.2.2.2.2.2.2.2.2.2.1, s283.2.2.2.2.2.2.2.2.2.2.2.2.2.2.2.1, s283.2.2.2.2.2.2.2.2.2.2.2.2.2.2.2.2.1, s283.2.2.2.2.2.2.2.2.2.2.2.2.2.2.2.2.2.1, s283.2.2.2.2.2.2.2.2.2.2.2.2.2.2.2.2.2.2.1, s283.2.2.2.2.2.2.2.2.2.2.2.2.2.2.2.2.2.2.2.1, s283.2.2.2.2.2.2.2.2.2.2.2.2.2.2.2.2.2.2.2.2.1, s283.2.2.2.2.2.2.2.2.2.2.2.2.2.2.2.2.2.2.2.2.2.1, s283.2.2.2.2.2.2.2.2.2.2.2.2.2.2.2.2.2.2.2.2.2.2.1, s283.2.2.2.2.2.2.2.2.2.2.2.2.2.2.2.2.2.2.2.2.2.2.2.1, s283.2.2.2.2.2.2.2.2.2.2.2.2.2.2.2.2.2.2.2.2.2.2.2.2.1, s283.2.2.2.2.2.2.2.2.2.2.2.2.2.2.2.2.2.2.2.2.2.2.2.2.2.1, s283.2.2.2.2.2.2.2.2.2.2.2.2.2.2.2.2.2.2.2.2.2.2.2.2.2.2.1, s283.2.2.2.2.2.2.2.2.2.2.2.2.2.2.2.2.2.2.2.2.2.2.2.2.2.2.2.1, s283.2.2.2.2.2.2.2.2.2.2.2.2.2.2.2.2.2.2.2.2.2.2.2.2.2.2.2.2.1, s283.2.2.2.2.2.2.2.2.2.2.2.2.2.2.2.2.2.2.2.2.2.2.2.2.2.2.2.2.2.1, s283.2.2.2.2.2.2.2.2.2.2.2.2.2.2.2.2.2.2.2.2.2.2.2.2.2.2.2.2.2.2.1, s283.2.2.2.2.2.2.2.2.2.2.2.2.2.2.2.2.2.2.2.2.2.2.2.2.2.2.2.2.2.2.2.1, s283.2.2.2.2.2.2.2.2.2.2.2.2.2.2.2.2.2.2.2.2.2.2.2.2.2.2.2.2.2.2.2.2.1, s283.2.2.2.2.2.2.2.2.2.2.2.2.2.2.2.2.2.2.2.2.2.2.2.2.2.2.2.2.2.2.2.2.2.1, iEq y285.1 1, s283.2.2.2.2.2.2.2.2.2.2.2.2.2.2.2.2.2.2.2.2.2.2.2.2.2.2.2.2.2.2.2.2.2.2.2.1, s283.2.2.2.2.2.2.2.2.2.2.2.2.2.2.2.2.2.2.2.2.2.2.2.2.2.2.2.2.2.2.2.2.2.2.2.2.1, s283.2.2.2.2.2.2.2.2.2.2.2.2.2.2.2.2.2.2.2.2.2.2.2.2.2.2.2.2.2.2.2.2.2.2.2.2.2.1, s283.2.2.2.2.2.2.2.2.2.2.2.2.2.2.2.2.2.2.2.2.2.2.2.2.2.2.2.2.2.2.2.2.2.2.2.2.2.2.1, s283.2.2.2.2.2.2.2.2.2.2.2.2.2.2.2.2.2.2.2.2.2.2.2.2.2.2.2.2.2.2.2.2.2.2.2.2.2.2.2.1, ())))
          (some (.inl (s283.1, s283.2.2.1, s283.2.2.2.1, s283.2.2.2.2.1, s283.2.2.2.2.2.1, s283.2.2.2.2.2.2.1, s283.2.2.2.2.2.2.2.1, s283.2.2.2.2.2.2.2.2.1, s283.2.2.2.2.2.2.2.2.2.1, s283.2.2.2.2.2.2.2.2.2.2.1, s283.2.2.2.2.2.2.2.2.2.2.2.1, s283.2.2.2.2.2.2.2.2.2.2.2.2.1, s283.2.2.2.2.2.2.2.2.2.2.2.2.2.1, s283.2.2.2.2.2.2.2.2.2.2.2.2.2.2.1, s283.2.2.2.2.2.2.2.2.2.2.2.2.2.2.2.1, s283.2.2.2.2.2.2.2.2.2.2.2.2.2.2.2.2.1, s283.2.2.2.2.2.2.2.2.2.2.2.2.2.2.2.2.2.1, s283.2.2.2.2.2.2.2.2.2.2.2.2.2.2.2.2.2.2.1, s283.2.2.2.2.2.2.2.2.2.2.2.2.2.2.2.2.2.2.2.1, s283.2.2.2.2.2.2.2.2.2.2.2.2.2.2.2.2.2.2.2.2.1, s283.2.2.2.2.2.2.2.2.2.2.2.2.2.2.2.2.2.2.2.2.2.1, s283.2.2.2.2.2.2.2.2.2.2.2.2.2.2.2.2.2.2.2.2.2.2.1, s283.2.2.2.2.2.2.2.2.2.2.2.2.2.2.2.2.2.2.2.2.2.2.2.1, s283.2.2.2.2.2.2.2.2.2.2.2.2.2.2.2.2.2.2.2.2.2.2.2.2.1, s283.2.2.2.2.2.2.2.2.2.2.2.2.2.2.2.2.2.2.2.2.2.2.2.2.2.1, s283.2.2.2.2.2.2.2.2.2.2.2.2.2.2.2.2.2.2.2.2.2.2.2.2.2.2.1, s283.2.2.2.2.2.2.2.2.2.2.2.2.2.2.2.2.2.2.2.2.2.2.2.2.2.2.2.1, s283.2.2.2.2.2.2.2.2.2.2.2.2.2.2.2.2.2.2.2.2.2.2.2.2.2.2.2.2.1, s283.2.2.2.2.2.2.2.2.2.2.2.2.2.2.2.2.2.2.2.2.2.2.2.2.2.2.2.2.2.1, s283.2.2.2.2.2.2.2.2.2.2.2.2.2.2.2.2.2.2.2.2.2.2.2.2.2.2.2.2.2.2.1, s283.2.2.2.2.2.2.2.2.2.2.2.2.2.2.2.2.2.2.2.2.2.2.2.2.2.2.2.2.2.2.2.1, s283.2.2.2.2.2.2.2.2.2.2.2.2.2.2.2.2.2.2.2.2.2.2.2.2.2.2.2.2.2.2.2.2.1, s283.2.2.2.2.2.2.2.2.2.2.2.2.2.2.2.2.2.2.2.2.2.2.2.2.2.2.2.2.2.2.2.2.2.1, false, s283.2.2.2.2.2.2.2.2.2.2.2.2.2.2.2.2.2.2.2.2.2.2.2.2.2.2.2.2.2.2.2.2.2.2.2.1, s283.2.2.2.2.2.2.2.2.2.2.2.2.2.2.2.2.2.2.2.2.2.2.2.2.2.2.2.2.2.2.2.2.2.2.2.2.1, s283.2.2.2.2.2.2.2.2.2.2.2.2.2.2.2.2.2.2.2.2.2.2.2.2.2.2.2.2.2.2.2.2.2.2.2.2.2.1, s283.2.2.2.2.2.2.2.2.2.2.2.2.2.2.2.2.2.2.2.2.2.2.2.2.2.2.2.2.2.2.2.2.2.2.2.2.2.2.1, s283.2.2.2.2.2.2.2.2.2.2.2.2.2.2.2.2.2.2.2.2.2.2.2.2.2.2.2.2.2.2.2.2.2.2.2.2.2.2.2.1, ()))))))
       (j281.1, y282.1, y282.2.1, y282.2.2.1, j281.2.2.2.1, j281.2.2.2.2.1, j281.2.2.2.2.2.1, j281.2.2.2.2.2.2.1, j281.2.2.2.2.2.2.2.1, j281.2.2.2.2.2.2.2.2.1, j281.2.2.2.2.2.2.2.2.2.1, j281.2.2.2.2.2.2.2.2.2.2.1, j281.2.2.2.2.2.2.2.2.2.2.2.1, j281.2.2.2.2.2.2.2.2.2.2.2.2.1, j281.2.2.2.2.2.2.2.2.2.2.2.2.2.1, j281.2.2.2.2.2.2.2.2.2.2.2.2.2.2.1, j281.2.2.2.2.2.2.2.2.2.2.2.2.2.2.2.1, j281.2.2.2.2.2.2.2.2.2.2.2.2.2.2.2.2.1, j281.2.2.2.2.2.2.2.2.2.2.2.2.2.2.2.2.2.1, j281.2.2.2.2.2.2.2.2.2.2.2.2.2.2.2.2.2.2.1, j281.2.2.2.2.2.2.2.2.2.2.2.2.2.2.2.2.2.2.2.1, j281.2.2.2.2.2.2.2.2.2.2.2.2.2.2.2.2.2.2.2.2.1, j281.2.2.2.2.2.2.2.2.2.2.2.2.2.2.2.2.2.2.2.2.2.1, j281.2.2.2.2.2.2.2.2.2.2.2.2.2.2.2.2.2.2.2.2.2.2.1, j281.2.2.2.2.2.2.2.2.2.2.2.2.2.2.2.2.2.2.2.2.2.2.2.1, j281.2.2.2.2.2.2.2.2.2.2.2.2.2.2.2.2.2.2.2.2.2.2.2.2.1, j281.2.2.2.2.2.2.2.2.2.2.2.2.2.2.2.2.2.2.2.2.2.2.2.2.2.1, j281.2.2.2.2.2.2.2.2.2.2.2.2.2.2.2.2.2.2.2.2.2.2.2.2.2.2.1, j281.2.2.2.2.2.2.2.2.2.2.2.2.2.2.2.2.2.2.2.2.2.2.2.2.2.2.2.1, j281.2.2.2.2.2.2.2.2.2.2.2.2.2.2.2.2.2.2.2.2.2.2.2.2.2.2.2.2.1, j281.2.2.2.2.2.2.2.2.2.2.2.2.2.2.2.2.2.2.2.2.2.2.2.2.2.2.2.2.2.1, j281.2.2.2.2.2.2.2.2.2.2.2.2.2.2.2.2.2.2.2.2.2.2.2.2.2.2.2.2.2.2.1, j281.2.2.2.2.2.2.2.2.2.2.2.2.2.2.2.2.2.2.2.2.2.2.2.2.2.2.2.2.2.2.2.1, j281.2.2.2.2.2.2.2.2.2.2.2.2.2.2.2.2.2.2.2.2.2.2.2.2.2.2.2.2.2.2.2.2.1, j281.2.2.2.2.2.2.2.2.2.2.2.2.2.2.2.2.2.2.2.2.2.2.2.2.2.2.2.2.2.2.2.2.2.1, j281.2.2.2.2.2.2.2.2.2.2.2.2.2.2.2.2.2.2.2.2.2.2.2.2.2.2.2.2.2.2.2.2.2.2.1, j281.2.2.2.2.2.2.2.2.2.2.2.2.2.2.2.2.2.2.2.2.2.2.2.2.2.2.2.2.2.2.2.2.2.2.2.1, j281.2.2.2.2.2.2.2.2.2.2.2.2.2.2.2.2.2.2.2.2.2.2.2.2.2.2.2.2.2.2.2.2.2.2.2.2.1, ([] : List Int), j281.2.2.2.2.2.2.2.2.2.2.2.2.2.2.2.2.2.2.2.2.2.2.2.2.2.2.2.2.2.2.2.2.2.2.2.2.2.1, ()))))
    (some (.inl (j275.1, j275.2.1, j275.2.2.1, j275.2.2.2.1, j275.2.2.2.2.1, j275.2.2.2.2.2.1, j275.2.2.2.2.2.2.1, j275.2.2.2.2.2.2.2.1, j275.2.2.2.2.2.2.2.2.1, j275.2.2.2.2.2.2.2.2.2.1, j275.2.2.2.2.2.2.2.2.2.2.1, j275.2.2.2.2.2.2.2.2.2.2.2.1, j275.2.2.2.2.2.2.2.2.2.2.2.2.1, j275.2.2.2.2.2.2.2.2.2.2.2.2.2.1, j275.2.2.2.2.2.2.2.2.2.2.2.2.2.2.1, j275.2.2.2.2.2.2.2.2.2.2.2.2.2.2.2.1, j275.2.2.2.2.2.2.2.2.2.2.2.2.2.2.2.2.1, j275.2.2.2.2.2.2.2.2.2.2.2.2.2.2.2.2.2.1, j275.2.2.2.2.2.2.2.2.2.2.2.2.2.2.2.2.2.2.1, j275.2.2.2.2.2.2.2.2.2.2.2.2.2.2.2.2.2.2.2.1, j275.2.2.2.2.2.2.2.2.2.2.2.2.2.2.2.2.2.2.2.2.1, j275.2.2.2.2.2.2.2.2.2.2.2.2.2.2.2.2.2.2.2.2.2.1, j275.2.2.2.2.2.2.2.2.2.2.2.2.2.2.2.2.2.2.2.2.2.2.1, j275.2.2.2.2.2.2.2.2.2.2.2.2.2.2.2.2.2.2.2.2.2.2.2.1, j275.2.2.2.2.2.2.2.2.2.2.2.2.2.2.2.2.2.2.2.2.2.2.2.2.1, j275.2.2.2.2.2.2.2.2.2.2.2.2.2.2.2.2.2.2.2.2.2.2.2.2.2.1, j275.2.2.2.2.2.2.2.2.2.2.2.2.2.2.2.2.2.2.2.2.2.2.2.2.2.2.1, j275.2.2.2.2.2.2.2.2.2.2.2.2.2.2.2.2.2.2.2.2.2.2.2.2.2.2.2.1, j275.2.2.2.2.2.2.2.2.2.2.2.2.2.2.2.2.2.2.2.2.2.2.2.2.2.2.2.2.1, j275.2.2.2.2.2.2.2.2.2.2.2.2.2.2.2.2.2.2.2.2.2.2.2.2.2.2.2.2.2.1, j275.2.2.2.2.2.2.2.2.2.2.2.2.2.2.2.2.2.2.2.2.2.2.2.2.2.2.2.2.2.2.1, j275.2.2.2.2.2.2.2.2.2.2.2.2.2.2.2.2.2.2.2.2.2.2.2.2.2.2.2.2.2.2.2.1, j275.2.2.2.2.2.2.2.2.2.2.2.2.2.2.2.2.2.2.2.2.2.2.2.2.2.2.2.2.2.2.2.2.1, j275.2.2.2.2.2.2.2.2.2.2.2.2.2.2.2.2.2.2.2.2.2.2.2.2.2.2.2.2.2.2.2.2.2.1, j275.2.2.2.2.2.2.2.2.2.2.2.2.2.2.2.2.2.2.2.2.2.2.2.2.2.2.2.2.2.2.2.2.2.2.1, j275.2.2.2.2.2.2.2.2.2.2.2.2.2.2.2.2.2.2.2.2.2.2.2.2.2.2.2.2.2.2.2.2.2.2.2.1, j275.2.2.2.2.2.2.2.2.2.2.2.2.2.2.2.2.2.2.2.2.2.2.2.2.2.2.2.2.2.2.2.2.2.2.2.2.1, ([] : List Int), j275.2.2.2.2.2.2.2.2.2.2.2.2.2.2.2.2.2.2.2.2.2.2.2.2.2.2.2.2.2.2.2.2.2.2.2.2.2.1, ()))))
   (fun j286 =>
    cond (iEq j286.1 4)
    ((m32 2 j286.2.1 j286.2.2.1).bind fun y287 =>
     cond (iEq y287.1 1)
     ((m11 1000 y287.2.1 y287.2.2.1).bind fun y288 =>
      cond (iEq j286.1 5)
      ((m66 1 30 y288.2.1 y288.2.2.1).bind fun y289 =>
       some (j286.2.2.2.2.2.2.2.2.2.2.2.2.2.2.2.2.2.2.2.1, j286.2.2.2.2.2.2.2.2.2.2.2.2.2.2.2.2.2.2.2.2.1, j286.2.2.2.2.2.2.2.2.2.2.2.2.2.2.2.2.2.2.2.2.2.1, j286.2.2.2.2.2.2.2.2.2.2.2.2.2.2.2.2.2.2.2.2.2.2.1, j286.2.2.2.2.2.2.2.2.2.2.2.2.2.2.2.2.2.2.2.2.2.2.2.1, j286.2.2.2.2.2.2.2.2.2.2.2.2.2.2.2.2.2.2.2.2.2.2.2.2.1, j286.2.2.2.2.2.2.2.2.2.2.2.2.2.2.2.2.2.2.2.2.2.2.2.2.2.1, j286.2.2.2.2.2.2.2.2.2.2.2.2.2.2.2.2.2.2.2.2.2.2.2.2.2.2.1, j286.2.2.2.2.2.2.2.2.2.2.2.2.2.2.2.2.2.2.2.2.2.2.2.2.2.2.2.1, j286.2.2.2.2.2.2.2.2.2.2.2.2.2.2.2.2.2.2.2.2.2.2.2.2.2.2.2.2.1, y289.1, j286.2.2.2.2.2.2.2.2.2.2.2.2.2.2.2.2.2.2.2.2.2.2.2.2.2.2.2.2.2.2.1, j286.2.2.2.2.2.2.2.2.2.2.2.2.2.2.2.2.2.2.2.2.2.2.2.2.2.2.2.2.2.2.2.1, j286.2.2.2.2.2.2.2.2.2.2.2.2.2.2.2.2.2.2.2.2.2.2.2.2.2.2.2.2.2.2.2.2.1, j286.2.2.2.2.2.2.2.2.2.2.2.2.2.2.2.2.2.2.2.2.2.2.2.2.2.2.2.2.2.2.2.2.2.1, iAdd .i64 1 y288.1, y289.2.1, y289.2.2.1, j286.2.2.2.2.2.2.2.2.2.2.2.2.2.2.2.2.2.2.2.2.2.2.2.2.2.2.2.2.2.2.2.2.2.2.2.1, j286.2.2.2.2.2.2.2.2.2.2.2.2.2.2.2.2.2.2.2.2.2.2.2.2.2.2.2.2.2.2.2.2.2.2.2.2.1, j286.2.2.2.2.2.2.2.2.2.2.2.2.2.2.2.2.2.2.2.2.2.2.2.2.2.2.2.2.2.2.2.2.2.2.2.2.2.1, j286.2.2.2.2.2.2.2.2.2.2.2.2.2.2.2.2.2.2.2.2.2.2.2.2.2.2.2.2.2.2.2.2.2.2.2.2.2.2.1, ()))
      (some (j286.2.2.2.2.2.2.2.2.2.2.2.2.2.2.2.2.2.2.2.1, j286.2.2.2.2.2.2.2.2.2.2.2.2.2.2.2.2.2.2.2.2.1, j286.2.2.2.2.2.2.2.2.2.2.2.2.2.2.2.2.2.2.2.2.2.1, j286.2.2.2.2.2.2.2.2.2.2.2.2.2.2.2.2.2.2.2.2.2.2.1, j286.2.2.2.2.2.2.2.2.2.2.2.2.2.2.2.2.2.2.2.2.2.2.2.1, j286.2.2.2.2.2.2.2.2.2.2.2.2.2.2.2.2.2.2.2.2.2.2.2.2.1, j286.2.2.2.2.2.2.2.2.2.2.2.2.2.2.2.2.2.2.2.2.2.2.2.2.2.1, j286.2.2.2.2.2.2.2.2.2.2.2.2.2.2.2.2.2.2.2.2.2.2.2.2.2.2.1, j286.2.2.2.2.2.2.2.2.2.2.2.2.2.2.2.2.2.2.2.2.2.2.2.2.2.2.2.1, j286.2.2.2.2.2.2.2.2.2.2.2.2.2.2.2.2.2.2.2.2.2.2.2.2.2.2.2.2.1, j286.2.2.2.2.2.2.2.2.2.2.2.2.2.2.2.2.2.2.2.2.2.2.2.2.2.2.2.2.2.1, j286.2.2.2.2.2.2.2.2.2.2.2.2.2.2.2.2.2.2.2.2.2.2.2.2.2.2.2.2.2.2.1, j286.2.2.2.2.2.2.2.2.2.2.2.2.2.2.2.2.2.2.2.2.2.2.2.2.2.2.2.2.2.2.2.1, j286.2.2.2.2.2.2.2.2.2.2.2.2.2.2.2.2.2.2.2.2.2.2.2.2.2.2.2.2.2.2.2.2.1, j286.2.2.2.2.2.2.2.2.2.2.2.2.2.2.2.2.2.2.2.2.2.2.2.2.2.2.2.2.2.2.2.2.2.1, iAdd .i64 1 y288.1, y288.2.1, y288.2.2.1, j286.2.2.2.2.2.2.2.2.2.2.2.2.2.2.2.2.2.2.2.2.2.2.2.2.2.2.2.2.2.2.2.2.2.2.2.1, j286.2.2.2.2.2.2.2.2.2.2.2.2.2.2.2.2.2.2.2.2.2.2.2.2.2.2.2.2.2.2.2.2.2.2.2.2.1, j286.2.2.2.2.2.2.2.2.2.2.2.2.2.2.2.2.2.2.2.2.2.2.2.2.2.2.2.2.2.2.2.2.2.2.2.2.2.1, j286.2.2.2.2.2.2.2.2.2.2.2.2.2.2.2.2.2.2.2.2.2.2.2.2.2.2.2.2.2.2.2.2.2.2.2.2.2.2.1, ())))
     (cond (iEq j286.1 5)
      ((m66 1 30 y287.2.1 y287.2.2.1).bind fun y290 =>
       some (j286.2.2.2.2.2.2.2.2.2.2.2.2.2.2.2.2.2.2.2.1, j286.2.2.2.2.2.2.2.2.2.2.2.2.2.2.2.2.2.2.2.2.1, j286.2.2.2.2.2.2.2.2.2.2.2.2.2.2.2.2.2.2.2.2.2.1, j286.2.2.2.2.2.2.2.2.2.2.2.2.2.2.2.2.2.2.2.2.2.2.1, j286.2.2.2.2.2.2.2.2.2.2.2.2.2.2.2.2.2.2.2.2.2.2.2.1, j286.2.2.2.2.2.2.2.2.2.2.2.2.2.2.2.2.2.2.2.2.2.2.2.2.1, j286.2.2.2.2.2.2.2.2.2.2.2.2.2.2.2.2.2.2.2.2.2.2.2.2.2.1, j286.2.2.2.2.2.2.2.2.2.2.2.2.2.2.2.2.2.2.2.2.2.2.2.2.2.2.1, j286.2.2.2.2.2.2.2.2.2.2.2.2.2.2.2.2.2.2.2.2.2.2.2.2.2.2.2.1, j286.2.2.2.2.2.2.2.2.2.2.2.2.2.2.2.2.2.2.2.2.2.2.2.2.2.2.2.2.1, y290.1, j286.2.2.2.2.2.2.2.2.2.2.2.2.2.2.2.2.2.2.2.2.2.2.2.2.2.2.2.2.2.2.1, j286.2.2.2.2.2.2.2.2.2.2.2.2.2.2.2.2.2.2.2.2.2.2.2.2.2.2.2.2.2.2.2.1, j286.2.2.2.2.2.2.2.2.2.2.2.2.2.2.2.2.2.2.2.2.2.2.2.2.2.2.2.2.2.2.2.2.1, j286.2.2.2.2.2.2.2.2.2.2.2.2.2.2.2.2.2.2.2.2.2.2.2.2.2.2.2.2.2.2.2.2.2.1, j286.2.2.2.2.2.2.2.2.2.2.2.2.2.2.2.2.2.2.2.2.2.2.2.2.2.2.2.2.2.2.2.2.2.2.1, y290.2.1, y290.2.2.1, j286.2.2.2.2.2.2.2.2.2.2.2.2.2.2.2.2.2.2.2.2.2.2.2.2.2.2.2.2.2.2.2.2.2.2.2.1, j286.2.2.2.2.2.2.2.2.2.2.2.2.2.2.2.2.2.2.2.2.2.2.2.2.2.2.2.2.2.2.2.2.2.2.2.2.1, j286.2.2.2.2.2.2.2.2.2.2.2.2.2.2.2.2.2.2.2.2.2.2.2.2.2.2.2.2.2.2.2.2.2.2.2.2.2.1, j286.2.2.2.2.2.2.2.2.2.2.2.2.2.2.2.2.2.2.2.2.2.2.2.2.2.2.2.2.2.2.2.2.2.2.2.2.2.2.1, ()))
      (some (j286.2.2.2.2.2.2.2.2.2.2.2.2.2.2.2.2.2.2.2.1, j286.2.2.2.2.2.2.2.2.2.2.2.2.2.2.2.2.2.2.2.2.1, j286.2.2.2.2.2.2.2.2.2.2.2.2.2.2.2.2.2.2.2.2.2.1, j286.2.2.2.2.2.2.2.2.2.2.2.2.2.2.2.2.2.2.2.2.2.2.1, j286.2.2.2.2.2.2.2.2.2.2.2.2.2.2.2.2.2.2.2.2.2.2.2.1, j286.2.2.2.2.2.2.2.2.2.2.2.2.2.2.2.2.2.2.2.2.2.2.2.2.1, j286.2.2.2.2.2.2.2.2.2.2.2.2.2.2.2.2.2.2.2.2.2.2.2.2.2.1, j286.2.2.2.2.2.2.2.2.2.2.2.2.2.2.2.2.2.2.2.2.2.2.2.2.2.2.1, j286.2.2.2.2.2.2.2.2.2.2.2.2.2.2.2.2.2.2.2.2.2.2.2.2.2.2.2.1, j286.2.2.2.2.2.2.2.2.2.2.2.2.2.2.2.2.2.2.2.2.2.2.2.2.2.2.2.2.1, j286.2.2.2.2.2.2.2.2.2.2.2.2.2.2.2.2.2.2.2.2.2.2.2.2.2.2.2.2.2.1, j286.2.2.2.2.2.2.2.2.2.2.2.2.2.2.2.2.2.2.2.2.2.2.2.2.2.2.2.2.2.2.1, j286.2.2.2.2.2.2.2.2.2.2.2.2.2.2.2.2.2.2.2.2.2.2.2.2.2.2.2.2.2.2.2.1, j286.2.2.2.2.2.2.2.2.2.2.2.2.2.2.2.2.2.2.2.2.2.2.2.2.2.2.2.2.2.2.2.2.1, j286.2.2.2.2.2.2.2.2.2.2.2.2.2.2.2.2.2.2.2.2.2.2.2.2.2.2.2.2.2.2.2.2.2.1, j286.2.2.2.2.2.2.2.2.2.2.2.2.2.2.2.2.2.2.2.2.2.2.2.2.2.2.2.2.2.2.2.2.2.2.1, y287.2.1, y287.2.2.1, j286.2.2.2.2.2.2.2.2.2.2.2.2.2.2.2.2.2.2.2.2.2.2.2.2.2.2.2.2.2.2.2.2.2.2.2.1, j286.2.2.2.2.2.2.2.2.2.2.2.2.2.2.2.2.2.2.2.2.2.2.2.2.2.2.2.2.2.2.2.2.2.2.2.2.1, j286.2.2.2.2.2.2.2.2.2.2.2.2.2.2.2.2.2.2.2.2.2.2.2.2.2.2.2.2.2.2.2.2.2.2.2.2.2.1, j286.2.2.2.2.2.2.2.2.2.2.2.2.2.2.2.2.2.2.2.2.2.2.2.2.2.2.2.2.2.2.2.2.2.2.2.2.2.2.1, ()))))
    (cond (iEq j286.1 5)
     ((m66 1 30 j286.2.1 j286.2.2.1).bind fun y291 =>
      some (j286.2.2.2.2.2.2.2.2.2.2.2.2.2.2.2.2.2.2.2.1, j286.2.2.2.2.2.2.2.2.2.2.2.2.2.2.2.2.2.2.2.2.1, j286.2.2.2.2.2.2.2.2.2.2.2.2.2.2.2.2.2.2.2.2.2.1, j286.2.2.2.2.2.2.2.2.2.2.2.2.2.2.2.2.2.2.2.2.2.2.1, j286.2.2.2.2.2.2.2.2.2.2.2.2.2.2.2.2.2.2.2.2.2.2.2.1, j286.2.2.2.2.2.2.2.2.2.2.2.2.2.2.2.2.2.2.2.2.2.2.2.2.1, j286.2.2.2.2.2.2.2.2.2.2.2.2.2.2.2.2.2.2.2.2.2.2.2.2.2.1, j286.2.2.2.2.2.2.2.2.2.2.2.2.2.2.2.2.2.2.2.2.2.2.2.2.2.2.1, j286.2.2.2.2.2.2.2.2.2.2.2.2.2.2.2.2.2.2.2.2.2.2.2.2.2.2.2.1, j286.2.2.2.2.2.2.2.2.2.2.2.2.2.2.2.2.2.2.2.2.2.2.2.2.2.2.2.2.1, y291.1, j286.2.2.2.2.2.2.2.2.2.2.2.2.2.2.2.2.2.2.2.2.2.2.2.2.2.2.2.2.2.2.1, j286.2.2.2.2.2.2.2.2.2.2.2.2.2.2.2.2.2.2.2.2.2.2.2.2.2.2.2.2.2.2.2.1, j286.2.2.2.2.2.2.2.2.2.2.2.2.2.2.2.2.2.2.2.2.2.2.2.2.2.2.2.2.2.2.2.2.1, j286.2.2.2.2.2.2.2.2.2.2.2.2.2.2.2.2.2.2.2.2.2.2.2.2.2.2.2.2.2.2.2.2.2.1, j286.2.2.2.2.2.2.2.2.2.2.2.2.2.2.2.2.2.2.2.2.2.2.2.2.2.2.2.2.2.2.2.2.2.2.1, y291.2.1, y291.2.2.1, j286.2.2.2.2.2.2.2.2.2.2.2.2.2.2.2.2.2.2.2.2.2.2.2.2.2.2.2.2.2.2.2.2.2.2.2.1, j286.2.2.2.2.2.2.2.2.2.2.2.2.2.2.2.2.2.2.2.2.2.2.2.2.2.2.2.2.2.2.2.2.2.2.2.2.1, j286.2.2.2.2.2.2.2.2.2.2.2.2.2.2.2.2.2.2.2.2.2.2.2.2.2.2.2.2.2.2.2.2.2.2.2.2.2.1, j286.2.2.2.2.2.2.2.2.2.2.2.2.2.2.2.2.2.2.2.2.2.2.2.2.2.2.2.2.2.2.2.2.2.2.2.2.2.2.1, ()))
     (some (j286.2.2.2.2.2.2.2.2.2.2.2.2.2.2.2.2.2.2.2.1, j286.2.2.2.2.2.2.2.2.2.2.2.2.2.2.2.2.2.2.2.2.1, j286.2.2.2.2.2.2.2.2.2.2.2.2.2.2.2.2.2.2.2.2.2.1, j286.2.2.2.2.2.2.2.2.2.2.2.2.2.2.2.2.2.2.2.2.2.2.1, j286.2.2.2.2.2.2.2.2.2.2.2.2.2.2.2.2.2.2.2.2.2.2.2.1, j286.2.2.2.2.2.2.2.2.2.2.2.2.2.2.2.2.2.2.2.2.2.2.2.2.1, j286.2.2.2.2.2.2.2.2.2.2.2.2.2.2.2.2.2.2.2.2.2.2.2.2.2.1, j286.2.2.2.2.2.2.2.2.2.2.2.2.2.2.2.2.2.2.2.2.2.2.2.2.2.2.1, j286.2.2.2.2.2.2.2.2.2.2.2.2.2.2.2.2.2.2.2.2.2.2.2.2.2.2.2.1, j286.2.2.2.2.2.2.2.2.2.2.2.2.2.2.2.2.2.2.2.2.2.2.2.2.2.2.2.2.1, j286.2.2.2.2.2.2.2.2.2.2.2.2.2.2.2.2.2.2.2.2.2.2.2.2.2.2.2.2.2.1, j286.2.2.2.2.2.2.2.2.2.2.2.2.2.2.2.2.2.2.2.2.2.2.2.2.2.2.2.2.2.2.1, j286.2.2.2.2.2.2.2.2.2.2.2.2.2.2.2.2.2.2.2.2.2.2.2.2.2.2.2.2.2.2.2.1, j286.2.2.2.2.2.2.2.2.2.2.2.2.2.2.2.2.2.2.2.2.2.2.2.2.2.2.2.2.2.2.2.2.1, j286.2.2.2.2.2.2.2.2.2.2.2.2.2.2.2.2.2.2.2.2.2.2.2.2.2.2.2.2.2.2.2.2.2.1, j286.2.2.2.2.2.2.2.2.2.2.2.2.2.2.2.2.2.2.2.2.2.2.2.2.2.2.2.2.2.2.2.2.2.2.1, j286.2.1, j286.2.2.1, j286.2.2.2.2.2.2.2.2.2.2.2.2.2.2.2.2.2.2.2.2.2.2.2.2.2.2.2.2.2.2.2.2.2.2.2.1, j286.2.2.2.2.2.2.2.2.2.2.2.2.2.2.2.2.2.2.2.2.2.2.2.2.2.2.2.2.2.2.2.2.2.2.2.2.1, j286.2.2.2.2.2.2.2.2.2.2.2.2.2.2.2.2.2.2.2.2.2.2.2.2.2.2.2.2.2.2.2.2.2.2.2.2.2.1, j286.2.2.2.2.2.2.2.2.2.2.2.2.2.2.2.2.2.2.2.2.2.2.2.2.2.2.2.2.2.2.2.2.2.2.2.2.2.2.1, ())))))
noncomputable def cfg59 : Cfg := ⟨ttab, gtab, [], [h11, h32, h58, h64, h65, h66]⟩
def ish59 : Sh := ⟨3, [(1, (.int .i64)), (2, (.int .i64))], [(0, .ptr 0 0 0)], [.box 98 [.d (.list (.int .i64)), .d (.int .i64)]]⟩
def osh59 : Sh := ⟨1, [], [(0, .agg [.d (.int .i64), .d (.int .i64), .d (.int .i64), .d (.int .i64), .row 1, .row 2, .d (.int .i64), .d (.int .i64), .d (.int .i64), .d (.int .i64), .d (.int .i64), .d (.int .i64), .d (.int .i64), .d (.int .i64), .d (.int .i64), .d (.int .i64), .row 3, .d .bool, .d (.int .i64), .nil, .row 4])], [.box 98 [.d (.list (.int .i64)), .d (.int .i64)], .row 3 (.int .i64) false, .row 3 (.int .i64) false, .row 3 (.int .i64) false, .row 116 tS2 false]⟩
theorem eqn59 (x : Int × Int × (List Int) × Int × Unit) : xfunH cfg59 x59 122 [.c 6 21 true] [.ghc 6 16 3 (.int .i64)] ish59 osh59 x = m59 x.1 x.2.1 x.2.2.1 x.2.2.2.1 := by kernel_rfl
noncomputable def h59 : HI := ⟨59, ish59, osh59, fun (x : Int × Int × (List Int) × Int × Unit) => m59 x.1 x.2.1 x.2.2.1 x.2.2.2.1⟩
theorem okh59 : HOk Try.prog (gx gtab) h59 := hok mixed (cfg_h okh11 (cfg_h okh32 (cfg_h okh58 (cfg_h okh64 (cfg_h okh65 (cfg_h okh66 (cfg_nil _ _)))))) : CfgOk _ cfg59) F59 eqn59
/- 56 treaty/treatymade2.Small -/
def r56_0 : List Ins := [⟨some 2, none, .mov (.k (.int .i64 0))⟩]
def r56_1 : List Ins := [⟨some 3, none, .mov (.t 0)⟩,
  ⟨some 4, none, .call (.k (.func (.func 32) #[] #[])) [(.t 3), (.k (.int .i64 4))]⟩]
def r56_2 : List Ins := [⟨some 6, none, .bin .eql (.t 4) (.k (.int .i64 0))⟩,
  ⟨some 5, none, .mov (.t 6)⟩]
def r56_3 : List Ins := [⟨some 7, none, .mov (.t 0)⟩,
  ⟨some 8, none, .call (.k (.func (.func 32) #[] #[])) [(.t 7), (.k (.int .i64 4))]⟩,
  ⟨some 2, none, .mov (.t 8)⟩]
def r56_4 : List Ins := [⟨some 10, none, .bin .eql (.t 4) (.k (.int .i64 1))⟩,
  ⟨some 9, none, .mov (.t 10)⟩]
def r56_5 : List Ins := [⟨some 11, none, .bin .eql (.t 4) (.k (.int .i64 2))⟩,
  ⟨some 9, none, .mov (.t 11)⟩]
def r56_6 : List Ins := [⟨some 12, none, .mov (.t 0)⟩,
  ⟨some 13, none, .call (.k (.func (.func 32) #[] #[])) [(.t 12), (.k (.int .i64 1000))]⟩,
  ⟨some 2, none, .mov (.t 13)⟩]
def r56_7 : List Ins := [⟨some 14, none, .mov (.t 0)⟩,
  ⟨some 15, none, .call (.k (.func (.func 32) #[] #[])) [(.t 14), (.k (.int .i64 268435456))]⟩,
  ⟨some 2, none, .mov (.t 15)⟩]
def x56 : XC := (.seq (.ops false r56_0) (.seq (.seq (.ops false r56_1) (.block 0 (.seq (.ops false r56_2) (.cond (.t 5) (.seq (.ops false r56_3) .ret) (.seq (.seq (.ops false r56_4) (.cond (.t 9) .skip (.ops false r56_5))) (.cond (.t 9) (.seq (.ops false r56_6) .ret) .skip)))))) (.seq (.ops false r56_7) .ret)))
theorem F56 : Fn Try.prog 56 16 x56.er [.t 2] := ⟨Try.f56, hcl, Try.func56, by kernel_rfl, by kernel_rfl, by kernel_rfl, by kernel_rfl⟩
noncomputable def m56 (a0 : List Int) (a1 : Int) : Option (Int × (List Int) × Int × Unit) :=
  (m32 4 a0 a1).bind fun y298 =>
  cond (iEq y298.1 0)
  ((m32 4 y298.2.1 y298.2.2.1).bind fun y299 =>
   some (y299.1, y299.2.1, y299.2.2.1, ()))
  (cond (iEq y298.1 1)
   ((m32 1000 y298.2.1 y298.2.2.1).bind fun y300 =>
    some (y300.1, y300.2.1, y300.2.2.1, ()))
   (cond (iEq y298.1 2)
    ((m32 1000 y298.2.1 y298.2.2.1).bind fun y301 =>
     some (y301.1, y301.2.1, y301.2.2.1, ()))
    ((m32 268435456 y298.2.1 y298.2.2.1).bind fun y302 =>
     some (y302.1, y302.2.1, y302.2.2.1, ()))))
noncomputable def cfg56 : Cfg := ⟨ttab, gtab, [], [h32]⟩
def ish56 : Sh := ⟨1, [], [(0, .ptr 0 0 0)], [.box 98 [.d (.list (.int .i64)), .d (.int .i64)]]⟩
def osh56 : Sh := ⟨1, [(0, (.int .i64))], [], [.box 98 [.d (.list (.int .i64)), .d (.int .i64)]]⟩
theorem eqn56 (x : (List Int) × Int × Unit) : xfunH cfg56 x56 16 [.t 2] [] ish56 osh56 x = m56 x.1 x.2.1 := by kernel_rfl
noncomputable def h56 : HI := ⟨56, ish56, osh56, fun (x : (List Int) × Int × Unit) => m56 x.1 x.2.1⟩
theorem okh56 : HOk Try.prog (gx gtab) h56 := hok mixed (cfg_h okh32 (cfg_nil _ _) : CfgOk _ cfg56) F56 eqn56
/- 69 treaty/treatyref01.PeriodValid -/
def r69_0 : List Ins := [⟨some 1, none, .box 104 2 (.t 0)⟩,
  ⟨some 2, none, .mov (.k (.bool false))⟩]
def r69_1 : List Ins := [⟨some 3, none, .faddr 0 (.t 1)⟩,
  ⟨some 4, none, .load 1 false (.t 3)⟩,
  ⟨some 5, none, .bin .geq (.t 4) (.k (.int .i64 0))⟩,
  ⟨some 6, none, .mov (.t 5)⟩,
  ⟨some 7, some (6, true), .faddr 0 (.t 1)⟩,
  ⟨some 8, some (6, true), .load 1 false (.t 7)⟩,
  ⟨some 9, some (6, true), .faddr 1 (.t 1)⟩,
  ⟨some 10, some (6, true), .load 1 false (.t 9)⟩,
  ⟨some 11, some (6, true), .bin .lss (.t 8) (.t 10)⟩,
  ⟨some 12, none, .pick (.t 6) (.t 11) (.k (.bool false))⟩,
  ⟨some 13, none, .mov (.t 12)⟩,
  ⟨some 14, some (13, true), .faddr 1 (.t 1)⟩,
  ⟨some 15, some (13, true), .load 1 false (.t 14)⟩,
  ⟨some 16, some (13, true), .bin .leq (.t 15) (.k (.int .i64 876600))⟩,
  ⟨some 17, none, .pick (.t 13) (.t 16) (.k (.bool false))⟩,
  ⟨some 2, none, .mov (.t 17)⟩]
def x69 : XC := (.seq (.ops false r69_0) (.seq (.ops false r69_1) .ret))
theorem F69 : Fn Try.prog 69 18 x69.er [.t 2] := ⟨Try.f69, hcl, Try.func69, by kernel_rfl, by kernel_rfl, by kernel_rfl, by kernel_rfl⟩
noncomputable def m69 (a0 : DS2) : Option (Bool × Unit) :=
  some (cond (cond (iLe 0 a0.1) (iLt a0.1 a0.2.1) false) (iLe a0.2.1 876600) false, ())
noncomputable def cfg69 : Cfg := ⟨ttab, gtab, [], []⟩
theorem eqn69 (x : DS2 × Unit) : xfun cfg69 x69 18 [.t 2] [tS2] [.bool] x = m69 x.1 := by kernel_rfl
noncomputable def i69 : PI := ⟨69, [tS2], [.bool], fun (x : DS2 × Unit) => m69 x.1⟩
theorem oki69 : POk Try.prog (gx gtab) i69 := pok mixed (cfg_nil _ _ : CfgOk _ cfg69) F69 eqn69
/- 67 treaty/treatyref01.Overlap -/
def r67_0 : List Ins := [⟨some 2, none, .box 104 2 (.t 0)⟩,
  ⟨some 3, none, .box 104 2 (.t 1)⟩,
  ⟨some 4, none, .alloc 104 (.agg #[.int .i64 0, .int .i64 0])⟩,
  ⟨some 5, none, .mov (.k (.bool false))⟩]
def r67_1 : List Ins := [⟨some 7, none, .faddr 0 (.t 2)⟩,
  ⟨some 8, none, .load 1 false (.t 7)⟩,
  ⟨some 9, none, .faddr 0 (.t 3)⟩,
  ⟨some 10, none, .load 1 false (.t 9)⟩,
  ⟨some 11, none, .max2 (.t 8) (.t 10)⟩,
  ⟨some 12, none, .faddr 1 (.t 2)⟩,
  ⟨some 13, none, .load 1 false (.t 12)⟩,
  ⟨some 14, none, .faddr 1 (.t 3)⟩,
  ⟨some 15, none, .load 1 false (.t 14)⟩,
  ⟨some 16, none, .min2 (.t 13) (.t 15)⟩,
  ⟨some 17, none, .build [.int .i64 0, .int .i64 0] [(0, 1, (.t 11)), (1, 1, (.t 16))]⟩,
  ⟨some 6, none, .alloc 104 (.agg #[.int .i64 0, .int .i64 0])⟩,
  ⟨none, none, .store 2 (.t 6) (.t 17)⟩]
def r67_2 : List Ins := [⟨some 18, none, .load 2 true (.t 2)⟩,
  ⟨some 19, none, .call (.k (.func (.func 69) #[] #[])) [(.t 18)]⟩,
  ⟨some 20, none, .un .not (.t 19)⟩,
  ⟨some 21, none, .mov (.t 20)⟩,
  ⟨some 22, some (21, false), .load 2 true (.t 3)⟩,
  ⟨some 23, some (21, false), .call (.k (.func (.func 69) #[] #[])) [(.t 22)]⟩,
  ⟨some 24, some (21, false), .un .not (.t 23)⟩,
  ⟨some 25, none, .pick (.t 21) (.k (.bool true)) (.t 24)⟩,
  ⟨some 26, none, .mov (.t 25)⟩,
  ⟨some 27, some (26, false), .faddr 0 (.t 6)⟩,
  ⟨some 28, some (26, false), .load 1 false (.t 27)⟩,
  ⟨some 29, some (26, false), .faddr 1 (.t 6)⟩,
  ⟨some 30, some (26, false), .load 1 false (.t 29)⟩,
  ⟨some 31, some (26, false), .bin .geq (.t 28) (.t 30)⟩,
  ⟨some 32, none, .pick (.t 26) (.k (.bool true)) (.t 31)⟩]
def r67_3 : List Ins := [⟨some 33, none, .build [.int .i64 0, .int .i64 0] []⟩,
  ⟨none, none, .store 2 (.t 4) (.t 33)⟩,
  ⟨some 5, none, .mov (.k (.bool false))⟩]
def r67_4 : List Ins := [⟨some 34, none, .load 2 true (.t 6)⟩,
  ⟨none, none, .store 2 (.t 4) (.t 34)⟩,
  ⟨some 5, none, .mov (.k (.bool true))⟩]
def x67 : XC := (.seq (.ops false r67_0) (.seq (.ops false r67_1) (.seq (.seq (.ops false r67_2) (.cond (.t 32) (.seq (.ops false r67_3) .ret) .skip)) (.seq (.ops false r67_4) .ret))))
theorem F67 : Fn Try.prog 67 35 x67.er [.c 4 2 true, .t 5] := ⟨Try.f67, hcl, Try.func67, by kernel_rfl, by kernel_rfl, by kernel_rfl, by kernel_rfl⟩
noncomputable def m67 (a0 : DS2) (a1 : DS2) : Option (DS2 × Bool × Unit) :=
  (m69 (a0.1, a0.2.1, ())).bind fun y329 =>
  cond (not y329.1)
  (some ((0, 0, ()), false, ()))
  ((m69 (a1.1, a1.2.1, ())).bind fun y330 =>
   cond (cond (not y330.1) true (iLe (iMin a0.2.1 a1.2.1) (iMax a0.1 a1.1)))
   (some ((0, 0, ()), false, ()))
   (some ((iMax a0.1 a1.1, iMin a0.2.1 a1.2.1, ()), true, ())))
noncomputable def cfg67 : Cfg := ⟨ttab, gtab, [i69], []⟩
theorem eqn67 (x : DS2 × DS2 × Unit) : xfun cfg67 x67 35 [.c 4 2 true, .t 5] [tS2, tS2] [tS2, .bool] x = m67 x.1 x.2.1 := by kernel_rfl
noncomputable def i67 : PI := ⟨67, [tS2, tS2], [tS2, .bool], fun (x : DS2 × DS2 × Unit) => m67 x.1 x.2.1⟩
theorem oki67 : POk Try.prog (gx gtab) i67 := pok mixed (cfg_p oki69 (cfg_nil _ _) : CfgOk _ cfg67) F67 eqn67
/- 70 treaty/treatyref25.Has -/
def r70_0 : List Ins := [⟨some 4, none, .mov (.k (.bool false))⟩]
def r70_1 : List Ins := [⟨some 7, none, .mov (.t 0)⟩,
  ⟨some 8, none, .len (.t 7)⟩,
  ⟨some 9, none, .mov (.k (.int .i64 0))⟩]
def r70_2 : List Ins := [⟨some 10, none, .bin .lss (.t 9) (.t 8)⟩]
def r70_3 : List Ins := [⟨some 11, none, .iaddr 1 (.t 7) (.t 9)⟩,
  ⟨some 12, none, .load 1 false (.t 11)⟩,
  ⟨some 6, none, .mov (.t 12)⟩]
def r70_4 : List Ins := [⟨some 13, none, .mov (.t 6)⟩,
  ⟨some 14, none, .mov (.t 1)⟩,
  ⟨some 15, none, .bin .eql (.t 13) (.t 14)⟩]
def r70_5 : List Ins := [⟨some 4, none, .mov (.k (.bool true))⟩]
def r70_6 : List Ins := [⟨some 16, none, .bin .add (.t 9) (.k (.int .i64 1))⟩,
  ⟨some 9, none, .mov (.t 16)⟩]
def r70_7 : List Ins := [⟨some 4, none, .mov (.k (.bool false))⟩]
def x70 : XC := (.seq (.ops false r70_0) (.seq (.seq (.ops false r70_1) (.block 0 (.loop [] ⟨17, [(1, (.int .i64)), (7, (.list (.int .i64))), (8, (.int .i64)), (9, (.int .i64))], [], []⟩ (.seq (.ops false r70_2) (.seq (.cond (.t 10) .skip (.exit 0)) (.seq (.block 1 (.seq (.ops false r70_3) (.seq (.ops false r70_4) (.cond (.t 15) (.seq (.ops false r70_5) .ret) .skip)))) (.ops false r70_6))))))) (.seq (.ops false r70_7) .ret)))
theorem F70 : Fn Try.prog 70 17 x70.er [.t 4] := ⟨Try.f70, hcl, Try.func70, by kernel_rfl, by kernel_rfl, by kernel_rfl, by kernel_rfl⟩
noncomputable def m70 (a0 : List Int) (a1 : Int) : Option (Bool × Unit) :=
  loopO (S := Int × (List Int) × Int × Int × Unit) (R := Bool × Unit) (fun s334 =>
   cond (iLt s334.2.2.2.1 s334.2.2.1)
   (cond (bnd s334.2.2.2.1 (lenI s334.2.1))
    (cond (iEq (atI s334.2.1 s334.2.2.2.1 0) s334.1)
     (some (.inr (true, ())))
     (some (.inl (s334.1, s334.2.1, s334.2.2.1, iAdd .i64 s334.2.2.2.1 1, ())))) none)
   (some (.inr (false, ()))))
  (a1, a0, lenI a0, 0, ())
noncomputable def cfg70 : Cfg := ⟨ttab, gtab, [], []⟩
theorem eqn70 (x : (List Int) × Int × Unit) : xfun cfg70 x70 17 [.t 4] [(.list (.int .i64)), (.int .i64)] [.bool] x = m70 x.1 x.2.1 := by kernel_rfl
noncomputable def i70 : PI := ⟨70, [(.list (.int .i64)), (.int .i64)], [.bool], fun (x : (List Int) × Int × Unit) => m70 x.1 x.2.1⟩
theorem oki70 : POk Try.prog (gx gtab) i70 := pok mixed (cfg_nil _ _ : CfgOk _ cfg70) F70 eqn70
/- 68 treaty/treatyref25.common -/
def r68_0 : List Ins := [⟨some 4, none, .mov (.k (.bool false))⟩]
def r68_1 : List Ins := [⟨some 7, none, .mov (.t 0)⟩,
  ⟨some 8, none, .len (.t 7)⟩,
  ⟨some 9, none, .mov (.k (.int .i64 0))⟩]
def r68_2 : List Ins := [⟨some 10, none, .bin .lss (.t 9) (.t 8)⟩]
def r68_3 : List Ins := [⟨some 11, none, .iaddr 1 (.t 7) (.t 9)⟩,
  ⟨some 12, none, .load 1 false (.t 11)⟩,
  ⟨some 6, none, .mov (.t 12)⟩]
def r68_4 : List Ins := [⟨some 13, none, .mov (.t 1)⟩,
  ⟨some 14, none, .mov (.t 6)⟩,
  ⟨some 15, none, .call (.k (.func (.func 70) #[] #[])) [(.t 13), (.t 14)]⟩]
def r68_5 : List Ins := [⟨some 4, none, .mov (.k (.bool true))⟩]
def r68_6 : List Ins := [⟨some 16, none, .bin .add (.t 9) (.k (.int .i64 1))⟩,
  ⟨some 9, none, .mov (.t 16)⟩]
def r68_7 : List Ins := [⟨some 17, none, .mov (.t 0)⟩,
  ⟨some 18, none, .len (.t 17)⟩,
  ⟨some 19, none, .bin .eql (.t 18) (.k (.int .i64 0))⟩,
  ⟨some 20, none, .mov (.t 19)⟩,
  ⟨some 21, some (20, false), .mov (.t 1)⟩,
  ⟨some 22, some (20, false), .len (.t 21)⟩,
  ⟨some 23, some (20, false), .bin .eql (.t 22) (.k (.int .i64 0))⟩,
  ⟨some 24, none, .pick (.t 20) (.k (.bool true)) (.t 23)⟩,
  ⟨some 4, none, .mov (.t 24)⟩]
def x68 : XC := (.seq (.ops false r68_0) (.seq (.seq (.ops false r68_1) (.block 0 (.loop [] ⟨25, [(0, (.list (.int .i64))), (1, (.list (.int .i64))), (7, (.list (.int .i64))), (8, (.int .i64)), (9, (.int .i64))], [], []⟩ (.seq (.ops false r68_2) (.seq (.cond (.t 10) .skip (.exit 0)) (.seq (.block 1 (.seq (.ops false r68_3) (.seq (.ops false r68_4) (.cond (.t 15) (.seq (.ops false r68_5) .ret) .skip)))) (.ops false r68_6))))))) (.seq (.ops false r68_7) .ret)))
theorem F68 : Fn Try.prog 68 25 x68.er [.t 4] := ⟨Try.f68, hcl, Try.func68, by kernel_rfl, by kernel_rfl, by kernel_rfl, by kernel_rfl⟩
noncomputable def m68 (a0 : List Int) (a1 : List Int) : Option (Bool × Unit) :=
  loopO (S := (List Int) × (List Int) × (List Int) × Int × Int × Unit) (R := Bool × Unit) (fun s336 =>
   cond (iLt s336.2.2.2.2.1 s336.2.2.2.1)
   (cond (bnd s336.2.2.2.2.1 (lenI s336.2.2.1))
    ((m70 s336.2.1 (atI s336.2.2.1 s336.2.2.2.2.1 0)).bind fun y337 =>
     cond y337.1
     (some (.inr (true, ())))
     (some (.inl (s336.1, s336.2.1, s336.2.2.1, s336.2.2.2.1, iAdd .i64 s336.2.2.2.2.1 1, ())))) none)
   (some (.inr (cond (iEq (lenI s336.1) 0) true (iEq (lenI s336.2.1) 0), ()))))
  (a0, a1, a0, lenI a0, 0, ())
noncomputable def cfg68 : Cfg := ⟨ttab, gtab, [i70], []⟩
theorem eqn68 (x : (List Int) × (List Int) × Unit) : xfun cfg68 x68 25 [.t 4] [(.list (.int .i64)), (.list (.int .i64))] [.bool] x = m68 x.1 x.2.1 := by kernel_rfl
noncomputable def i68 : PI := ⟨68, [(.list (.int .i64)), (.list (.int .i64))], [.bool], fun (x : (List Int) × (List Int) × Unit) => m68 x.1 x.2.1⟩
theorem oki68 : POk Try.prog (gx gtab) i68 := pok mixed (cfg_p oki70 (cfg_nil _ _) : CfgOk _ cfg68) F68 eqn68
/- 60 treaty/treatyref25.Meet -/
def r60_0 : List Ins := [⟨some 2, none, .box 107 21 (.t 0)⟩,
  ⟨some 3, none, .box 107 21 (.t 1)⟩,
  ⟨some 4, none, .mov (.k (.bool false))⟩]
def r60_1 : List Ins := [⟨some 8, none, .faddr 2 (.t 2)⟩,
  ⟨some 9, none, .load 2 true (.t 8)⟩,
  ⟨some 10, none, .faddr 2 (.t 3)⟩,
  ⟨some 11, none, .load 2 true (.t 10)⟩,
  ⟨some 12, none, .call (.k (.func (.func 67) #[] #[])) [(.t 9), (.t 11)]⟩,
  ⟨some 7, none, .mov (.t 12)⟩,
  ⟨some 13, none, .ext 0 (.t 7)⟩,
  ⟨some 14, none, .ext 1 (.t 7)⟩,
  ⟨some 5, none, .alloc 104 (.agg #[.int .i64 0, .int .i64 0])⟩,
  ⟨none, none, .store 2 (.t 5) (.t 13)⟩,
  ⟨some 6, none, .mov (.t 14)⟩]
def r60_2 : List Ins := [⟨some 15, none, .mov (.t 6)⟩,
  ⟨some 16, none, .mov (.t 15)⟩,
  ⟨some 17, some (16, true), .faddr 4 (.t 2)⟩,
  ⟨some 18, some (16, true), .load 1 false (.t 17)⟩,
  ⟨some 19, some (16, true), .faddr 4 (.t 3)⟩,
  ⟨some 20, some (16, true), .load 1 false (.t 19)⟩,
  ⟨some 21, some (16, true), .call (.k (.func (.func 68) #[] #[])) [(.t 18), (.t 20)]⟩,
  ⟨some 22, none, .pick (.t 16) (.t 21) (.k (.bool false))⟩,
  ⟨some 23, none, .mov (.t 22)⟩,
  ⟨some 24, some (23, true), .faddr 5 (.t 2)⟩,
  ⟨some 25, some (23, true), .load 1 false (.t 24)⟩,
  ⟨some 26, some (23, true), .faddr 5 (.t 3)⟩,
  ⟨some 27, some (23, true), .load 1 false (.t 26)⟩,
  ⟨some 28, some (23, true), .call (.k (.func (.func 68) #[] #[])) [(.t 25), (.t 27)]⟩,
  ⟨some 29, none, .pick (.t 23) (.t 28) (.k (.bool false))⟩,
  ⟨some 30, none, .mov (.t 29)⟩,
  ⟨some 31, some (30, true), .faddr 1 (.t 2)⟩,
  ⟨some 32, some (30, true), .load 1 false (.t 31)⟩,
  ⟨some 33, some (30, true), .bin .eql (.t 32) (.k (.int .i64 3))⟩,
  ⟨some 34, some (30, true), .mov (.t 33)⟩,
  ⟨some 35, some (34, true), .faddr 1 (.t 3)⟩,
  ⟨some 36, some (34, true), .load 1 false (.t 35)⟩,
  ⟨some 37, some (34, true), .bin .eql (.t 36) (.k (.int .i64 3))⟩,
  ⟨some 38, some (30, true), .pick (.t 34) (.t 37) (.k (.bool false))⟩,
  ⟨some 39, some (30, true), .mov (.t 38)⟩,
  ⟨some 40, some (39, true), .faddr 6 (.t 2)⟩,
  ⟨some 41, some (39, true), .load 1 false (.t 40)⟩,
  ⟨some 42, some (39, true), .faddr 6 (.t 3)⟩,
  ⟨some 43, some (39, true), .load 1 false (.t 42)⟩,
  ⟨some 44, some (39, true), .bin .neq (.t 41) (.t 43)⟩,
  ⟨some 45, some (30, true), .pick (.t 39) (.t 44) (.k (.bool false))⟩,
  ⟨some 46, some (30, true), .un .not (.t 45)⟩,
  ⟨some 47, none, .pick (.t 30) (.t 46) (.k (.bool false))⟩,
  ⟨some 4, none, .mov (.t 47)⟩]
def x60 : XC := (.seq (.ops false r60_0) (.seq (.ops false r60_1) (.seq (.ops false r60_2) .ret)))
theorem F60 : Fn Try.prog 60 48 x60.er [.t 4] := ⟨Try.f60, hcl, Try.func60, by kernel_rfl, by kernel_rfl, by kernel_rfl, by kernel_rfl⟩
noncomputable def m60 (a0 : DS3) (a1 : DS3) : Option (Bool × Unit) :=
  (m67 (a0.2.2.1.1, a0.2.2.1.2.1, ()) (a1.2.2.1.1, a1.2.2.1.2.1, ())).bind fun y331 =>
  cond y331.2.1
  ((m68 a0.2.2.2.1 a1.2.2.2.1).bind fun y338 =>
   cond y338.1
   ((m68 a0.2.2.2.2.1 a1.2.2.2.2.1).bind fun y339 =>
    cond y339.1
    (some (not (cond (cond (iEq a0.2.1 3) (iEq a1.2.1 3) false) (iNe a0.2.2.2.2.2.1 a1.2.2.2.2.2.1) false), ()))
    (some (false, ())))
   (some (false, ())))
  (some (false, ()))
noncomputable def cfg60 : Cfg := ⟨ttab, gtab, [i67, i68], []⟩
theorem eqn60 (x : DS3 × DS3 × Unit) : xfun cfg60 x60 48 [.t 4] [tS3, tS3] [.bool] x = m60 x.1 x.2.1 := by kernel_rfl
noncomputable def i60 : PI := ⟨60, [tS3, tS3], [.bool], fun (x : DS3 × DS3 × Unit) => m60 x.1 x.2.1⟩
theorem oki60 : POk Try.prog (gx gtab) i60 := pok mixed (cfg_p oki67 (cfg_p oki68 (cfg_nil _ _)) : CfgOk _ cfg60) F60 eqn60
/- 37 treaty/treatymade2.Treaties -/
def r37_0 : List Ins := [⟨some 4, none, .mov (.k (.slice none 0 0))⟩]
def r37_1 : List Ins := [⟨some 5, none, .mov (.k (.slice none 0 0))⟩]
def r37_2 : List Ins := [⟨some 6, none, .mov (.k (.int .i64 0))⟩]
def r37_3 : List Ins := [⟨some 14, none, .mov (.t 0)⟩,
  ⟨some 15, none, .mov (.t 1)⟩,
  ⟨some 16, none, .call (.k (.func (.func 32) #[] #[])) [(.t 14), (.t 15)]⟩,
  ⟨some 17, none, .bin .add (.k (.int .i64 1)) (.t 16)⟩,
  ⟨some 7, none, .mov (.t 17)⟩]
def r37_4 : List Ins := [⟨some 18, none, .mov (.t 7)⟩,
  ⟨some 19, none, .bin .gtr (.t 18) (.k (.int .i64 0))⟩]
def r37_5 : List Ins := [⟨some 22, none, .mov (.t 6)⟩,
  ⟨some 23, none, .mov (.t 0)⟩,
  ⟨some 24, none, .call (.k (.func (.func 32) #[] #[])) [(.t 23), (.k (.int .i64 3))]⟩,
  ⟨some 25, none, .bin .add (.k (.int .i64 1)) (.t 24)⟩,
  ⟨some 26, none, .bin .add (.t 22) (.t 25)⟩,
  ⟨some 6, none, .mov (.t 26)⟩]
def r37_6 : List Ins := [⟨some 27, none, .mov (.t 5)⟩,
  ⟨some 28, none, .len (.t 27)⟩,
  ⟨some 29, none, .bin .sub (.t 28) (.k (.int .i64 1))⟩,
  ⟨some 8, none, .mov (.t 29)⟩]
def r37_7 : List (Nat × Ins) := [(0, ⟨some 30, none, .mov (.t 8)⟩),
  (0, ⟨some 31, none, .bin .geq (.t 30) (.k (.int .i64 0))⟩),
  (0, ⟨some 32, none, .mov (.t 31)⟩),
  (0, ⟨some 33, some (32, true), .mov (.t 5)⟩),
  (0, ⟨some 34, some (32, true), .mov (.t 8)⟩),
  (0, ⟨some 35, some (32, true), .iaddr 21 (.t 33) (.t 34)⟩),
  (0, ⟨some 36, some (32, true), .faddr 1 (.t 35)⟩),
  (0, ⟨some 37, some (32, true), .load 1 false (.t 36)⟩),
  (0, ⟨some 38, some (32, true), .bin .neq (.t 37) (.k (.int .i64 6))⟩),
  (0, ⟨some 39, none, .pick (.t 32) (.t 38) (.k (.bool false))⟩),
  (0, ⟨some 40, none, .mov (.t 39)⟩),
  (0, ⟨some 41, some (40, true), .mov (.t 5)⟩),
  (0, ⟨some 42, some (40, true), .mov (.t 8)⟩),
  (0, ⟨some 43, some (40, true), .iaddr 21 (.t 41) (.t 42)⟩),
  (0, ⟨some 44, some (40, true), .faddr 1 (.t 43)⟩),
  (0, ⟨some 45, some (40, true), .load 1 false (.t 44)⟩),
  (0, ⟨some 46, some (40, true), .bin .geq (.t 45) (.k (.int .i64 4))⟩),
  (0, ⟨some 47, none, .pick (.t 40) (.t 46) (.k (.bool false))⟩),
  (0, ⟨some 48, none, .mov (.t 47)⟩),
  (0, ⟨some 49, some (48, true), .mov (.t 0)⟩),
  (2, ⟨some 50, some (48, true), .call (.k (.func (.func 32) #[] #[])) [(.t 49), (.k (.int .i64 2))]⟩),
  (0, ⟨some 51, some (48, true), .bin .eql (.t 50) (.k (.int .i64 0))⟩),
  (0, ⟨some 52, none, .pick (.t 48) (.t 51) (.k (.bool false))⟩),
  (0, ⟨some 53, none, .mov (.t 52)⟩),
  (0, ⟨some 54, some (53, true), .mov (.t 5)⟩),
  (0, ⟨some 55, some (53, true), .mov (.t 8)⟩),
  (0, ⟨some 56, some (53, true), .iaddr 21 (.t 54) (.t 55)⟩),
  (0, ⟨some 57, some (53, true), .faddr 10 (.t 56)⟩),
  (0, ⟨some 58, some (53, true), .load 1 false (.t 57)⟩),
  (0, ⟨some 59, some (53, true), .mov (.t 5)⟩),
  (0, ⟨some 60, some (53, true), .mov (.t 8)⟩),
  (0, ⟨some 61, some (53, true), .iaddr 21 (.t 59) (.t 60)⟩),
  (0, ⟨some 62, some (53, true), .faddr 11 (.t 61)⟩),
  (0, ⟨some 63, some (53, true), .load 1 false (.t 62)⟩),
  (0, ⟨some 64, some (53, true), .bin .add (.t 58) (.t 63)⟩),
  (0, ⟨some 65, some (53, true), .bin .lss (.t 64) (.k (.int .i64 536870912))⟩),
  (0, ⟨some 66, none, .pick (.t 53) (.t 65) (.k (.bool false))⟩)]
def r37_8 : List Ins := [⟨some 67, none, .mov (.t 5)⟩,
  ⟨some 68, none, .mov (.t 8)⟩,
  ⟨some 69, none, .iaddr 21 (.t 67) (.t 68)⟩,
  ⟨some 70, none, .load 21 true (.t 69)⟩,
  ⟨some 9, none, .alloc 107 (.agg #[.int .i64 0, .int .i64 0, .int .i64 0, .int .i64 0, .slice none 0 0, .slice none 0 0, .int .i64 0, .int .i64 0, .int .i64 0, .int .i64 0, .int .i64 0, .int .i64 0, .int .i64 0, .int .i64 0, .int .i64 0, .int .i64 0, .slice none 0 0, .bool false, .int .i64 0, .slice none 0 0, .slice none 0 0])⟩,
  ⟨none, none, .store 21 (.t 9) (.t 70)⟩]
def r37_9 : List Ins := [⟨some 71, none, .mov (.t 6)⟩,
  ⟨some 72, none, .faddr 0 (.t 9)⟩,
  ⟨none, none, .store 1 (.t 72) (.t 71)⟩]
def r37_10 : List (Nat × Ins) := [(0, ⟨some 73, none, .faddr 10 (.t 9)⟩),
  (1, ⟨some 74, none, .load 1 false (.t 73)⟩),
  (0, ⟨some 75, none, .faddr 11 (.t 9)⟩),
  (1, ⟨some 76, none, .load 1 false (.t 75)⟩),
  (0, ⟨some 77, none, .mov (.t 0)⟩),
  (2, ⟨some 78, none, .call (.k (.func (.func 32) #[] #[])) [(.t 77), (.k (.int .i64 2))]⟩),
  (0, ⟨some 79, none, .mov (.t 0)⟩),
  (2, ⟨some 80, none, .call (.k (.func (.func 32) #[] #[])) [(.t 79), (.k (.int .i64 40))]⟩),
  (0, ⟨some 81, none, .bin .mul (.t 78) (.t 80)⟩),
  (0, ⟨some 82, none, .bin .add (.t 76) (.t 81)⟩),
  (0, ⟨some 83, none, .bin .add (.t 74) (.t 82)⟩),
  (0, ⟨some 84, none, .faddr 10 (.t 9)⟩),
  (0, ⟨none, none, .store 1 (.t 84) (.t 83)⟩)]
def r37_11 : List Ins := [⟨some 85, none, .mov (.t 0)⟩,
  ⟨some 86, none, .call (.k (.func (.func 56) #[] #[])) [(.t 85)]⟩,
  ⟨some 87, none, .bin .add (.k (.int .i64 1)) (.t 86)⟩,
  ⟨some 88, none, .faddr 11 (.t 9)⟩,
  ⟨none, none, .store 1 (.t 88) (.t 87)⟩]
def r37_12 : List Ins := [⟨some 89, none, .mov (.t 0)⟩,
  ⟨some 90, none, .call (.k (.func (.func 32) #[] #[])) [(.t 89), (.k (.int .i64 3))]⟩,
  ⟨some 91, none, .bin .quo (.t 90) (.k (.int .i64 2))⟩,
  ⟨some 92, none, .mov (.t 0)⟩,
  ⟨some 93, none, .call (.k (.func (.func 56) #[] #[])) [(.t 92)]⟩,
  ⟨some 94, none, .bin .mul (.t 91) (.t 93)⟩,
  ⟨some 95, none, .mov (.t 0)⟩,
  ⟨some 96, none, .call (.k (.func (.func 32) #[] #[])) [(.t 95), (.k (.int .i64 3))]⟩,
  ⟨some 97, none, .bin .quo (.t 96) (.k (.int .i64 2))⟩,
  ⟨some 98, none, .mov (.t 0)⟩,
  ⟨some 99, none, .call (.k (.func (.func 56) #[] #[])) [(.t 98)]⟩,
  ⟨some 100, none, .bin .mul (.t 97) (.t 99)⟩,
  ⟨some 101, none, .faddr 13 (.t 9)⟩,
  ⟨none, none, .store 1 (.t 101) (.t 94)⟩,
  ⟨some 102, none, .faddr 14 (.t 9)⟩,
  ⟨none, none, .store 1 (.t 102) (.t 100)⟩]
def r37_13 : List Ins := [⟨some 103, none, .mov (.t 0)⟩,
  ⟨some 104, none, .call (.k (.func (.func 58) #[] #[])) [(.t 103)]⟩,
  ⟨some 105, none, .faddr 20 (.t 9)⟩,
  ⟨none, none, .store 1 (.t 105) (.t 104)⟩]
def r37_14 : List Ins := [⟨some 106, none, .mov (.t 5)⟩,
  ⟨some 107, none, .load 21 true (.t 9)⟩,
  ⟨some 108, none, .bslice 107 21 [(.t 107)]⟩,
  ⟨some 109, none, .app 107 21 248 (.t 106) (.t 108)⟩,
  ⟨some 5, none, .mov (.t 109)⟩]
def r37_15 : List Ins := [⟨some 110, none, .mov (.t 0)⟩,
  ⟨some 111, none, .call (.k (.func (.func 32) #[] #[])) [(.t 110), (.k (.int .i64 6))]⟩,
  ⟨some 112, none, .bin .add (.k (.int .i64 1)) (.t 111)⟩,
  ⟨some 10, none, .mov (.t 112)⟩]
def r37_16 : List Ins := [⟨some 113, none, .mov (.t 0)⟩,
  ⟨some 114, none, .mov (.t 6)⟩,
  ⟨some 115, none, .mov (.t 10)⟩,
  ⟨some 116, none, .call (.k (.func (.func 59) #[] #[])) [(.t 113), (.t 114), (.t 115)]⟩,
  ⟨some 11, none, .alloc 107 (.agg #[.int .i64 0, .int .i64 0, .int .i64 0, .int .i64 0, .slice none 0 0, .slice none 0 0, .int .i64 0, .int .i64 0, .int .i64 0, .int .i64 0, .int .i64 0, .int .i64 0, .int .i64 0, .int .i64 0, .int .i64 0, .int .i64 0, .slice none 0 0, .bool false, .int .i64 0, .slice none 0 0, .slice none 0 0])⟩,
  ⟨none, none, .store 21 (.t 11) (.t 116)⟩]
def r37_17 : List Ins := [⟨some 117, none, .mov (.t 10)⟩,
  ⟨some 118, none, .bin .geq (.t 117) (.k (.int .i64 4))⟩]
def r37_18 : List Ins := [⟨some 119, none, .mov (.t 0)⟩,
  ⟨some 120, none, .call (.k (.func (.func 56) #[] #[])) [(.t 119)]⟩,
  ⟨some 121, none, .mov (.t 0)⟩,
  ⟨some 122, none, .call (.k (.func (.func 56) #[] #[])) [(.t 121)]⟩,
  ⟨some 123, none, .bin .add (.k (.int .i64 1)) (.t 122)⟩,
  ⟨some 124, none, .faddr 10 (.t 11)⟩,
  ⟨none, none, .store 1 (.t 124) (.t 120)⟩,
  ⟨some 125, none, .faddr 11 (.t 11)⟩,
  ⟨none, none, .store 1 (.t 125) (.t 123)⟩]
def r37_19 : List Ins := [⟨some 126, none, .mov (.t 0)⟩,
  ⟨some 127, none, .call (.k (.func (.func 32) #[] #[])) [(.t 126), (.k (.int .i64 3))]⟩,
  ⟨some 128, none, .bin .gtr (.t 127) (.k (.int .i64 0))⟩]
def r37_20 : List Ins := [⟨some 129, none, .faddr 4 (.t 11)⟩,
  ⟨none, none, .store 1 (.t 129) (.k (.slice none 0 0))⟩,
  ⟨some 130, none, .faddr 5 (.t 11)⟩,
  ⟨none, none, .store 1 (.t 130) (.k (.slice none 0 0))⟩]
def r37_21 : List Ins := [⟨some 131, none, .mov (.t 5)⟩,
  ⟨some 132, none, .len (.t 131)⟩,
  ⟨some 133, none, .mov (.k (.int .i64 0))⟩]
def r37_22 : List Ins := [⟨some 134, none, .bin .lss (.t 133) (.t 132)⟩]
def r37_23 : List Ins := [⟨some 135, none, .iaddr 21 (.t 131) (.t 133)⟩,
  ⟨some 136, none, .load 21 true (.t 135)⟩,
  ⟨some 13, none, .alloc 107 (.agg #[.int .i64 0, .int .i64 0, .int .i64 0, .int .i64 0, .slice none 0 0, .slice none 0 0, .int .i64 0, .int .i64 0, .int .i64 0, .int .i64 0, .int .i64 0, .int .i64 0, .int .i64 0, .int .i64 0, .int .i64 0, .int .i64 0, .slice none 0 0, .bool false, .int .i64 0, .slice none 0 0, .slice none 0 0])⟩,
  ⟨none, none, .store 21 (.t 13) (.t 136)⟩]
def r37_24 : List Ins := [⟨some 137, none, .load 21 true (.t 11)⟩,
  ⟨some 138, none, .load 21 true (.t 13)⟩,
  ⟨some 139, none, .call (.k (.func (.func 60) #[] #[])) [(.t 137), (.t 138)]⟩,
  ⟨some 140, none, .mov (.t 139)⟩,
  ⟨some 141, some (140, false), .mov (.t 0)⟩,
  ⟨some 142, some (140, false), .call (.k (.func (.func 32) #[] #[])) [(.t 141), (.k (.int .i64 4))]⟩,
  ⟨some 143, some (140, false), .bin .eql (.t 142) (.k (.int .i64 0))⟩,
  ⟨some 144, none, .pick (.t 140) (.k (.bool true)) (.t 143)⟩]
def r37_25 : List Ins := [⟨some 145, none, .faddr 19 (.t 11)⟩,
  ⟨some 146, none, .load 1 false (.t 145)⟩,
  ⟨some 147, none, .faddr 0 (.t 13)⟩,
  ⟨some 148, none, .load 1 false (.t 147)⟩,
  ⟨some 149, none, .bslice 3 1 [(.t 148)]⟩,
  ⟨some 150, none, .app 3 1 8 (.t 146) (.t 149)⟩,
  ⟨some 151, none, .faddr 19 (.t 11)⟩,
  ⟨none, none, .store 1 (.t 151) (.t 150)⟩]
def r37_26 : List Ins := [⟨some 152, none, .bin .add (.t 133) (.k (.int .i64 1))⟩,
  ⟨some 133, none, .mov (.t 152)⟩]
def r37_27 : List Ins := [⟨some 153, none, .mov (.t 5)⟩,
  ⟨some 154, none, .load 21 true (.t 11)⟩,
  ⟨some 155, none, .bslice 107 21 [(.t 154)]⟩,
  ⟨some 156, none, .app 107 21 248 (.t 153) (.t 155)⟩,
  ⟨some 5, none, .mov (.t 156)⟩]
def r37_28 : List Ins := [⟨some 20, none, .mov (.t 7)⟩,
  ⟨some 21, none, .bin .sub (.t 20) (.k (.int .i64 1))⟩,
  ⟨some 7, none, .mov (.t 21)⟩]
def r37_29 : List Ins := [⟨some 157, none, .mov (.t 5)⟩,
  ⟨some 4, none, .mov (.t 157)⟩]
def x37 : XC := (.seq (.ops false r37_0) (.seq (.ops false r37_1) (.seq (.ops false r37_2) (.seq (.seq (.ops false r37_3) (.block 0 (.loop [.gh 5 107 tS3] ⟨158, [(6, (.int .i64)), (7, (.int .i64))], [(0, .ptr 0 0 0), (5, .row 1)], [.box 98 [.d (.list (.int .i64)), .d (.int .i64)], .row 107 tS3 false]⟩ (.seq (.seq (.ops false r37_4) (.cond (.t 19) .skip (.exit 0))) (.seq (.block 1 (.seq (.ops false r37_5) (.seq (.ops false r37_6) (.seq (.seq (.rops [0] r37_7) (.cond (.t 66) (.seq (.ops false r37_8) (.seq (.ops false r37_9) (.seq (.rops [0] r37_10) (.seq (.ops false r37_11) (.seq (.ops false r37_12) (.seq (.ops false r37_13) (.seq (.ops false r37_14) (.exit 1)))))))) .skip)) (.seq (.ops false r37_15) (.seq (.ops false r37_16) (.seqj [.gh 5 107 tS3] ⟨158, [(6, (.int .i64)), (7, (.int .i64))], [(0, .ptr 0 0 0), (5, .row 1), (11, .ptr 2 0 0)], [.box 98 [.d (.list (.int .i64)), .d (.int .i64)], .row 107 tS3 false, .box 107 [.d (.int .i64), .d (.int .i64), .d (.int .i64), .d (.int .i64), .row 3, .row 4, .d (.int .i64), .d (.int .i64), .d (.int .i64), .d (.int .i64), .d (.int .i64), .d (.int .i64), .d (.int .i64), .d (.int .i64), .d (.int .i64), .d (.int .i64), .row 5, .d .bool, .d (.int .i64), .nil, .row 6], .row 3 (.int .i64) false, .row 3 (.int .i64) false, .row 3 (.int .i64) false, .row 116 tS2 false]⟩ (.seq (.ops false r37_17) (.cond (.t 118) (.ops false r37_18) .skip)) (.seqj [.gh 5 107 tS3, .ghc 11 4 3 (.int .i64), .ghc 11 5 3 (.int .i64)] ⟨158, [(6, (.int .i64)), (7, (.int .i64))], [(0, .ptr 0 0 0), (5, .row 1), (11, .ptr 2 0 0)], [.box 98 [.d (.list (.int .i64)), .d (.int .i64)], .row 107 tS3 false, .box 107 [.d (.int .i64), .d (.int .i64), .d (.int .i64), .d (.int .i64), .row 3, .row 4, .d (.int .i64), .d (.int .i64), .d (.int .i64), .d (.int .i64), .d (.int .i64), .d (.int .i64), .d (.int .i64), .d (.int .i64), .d (.int .i64), .d (.int .i64), .row 5, .d .bool, .d (.int .i64), .nil, .row 6], .row 3 (.int .i64) false, .row 3 (.int .i64) false, .row 3 (.int .i64) false, .row 116 tS2 false]⟩ (.seq (.ops false r37_19) (.cond (.t 128) (.ops false r37_20) .skip)) (.seq (.seq (.ops false r37_21) (.block 2 (.loop [.gh 5 107 tS3, .gh 131 107 tS3, .ghc 11 19 3 (.int .i64)] ⟨158, [(6, (.int .i64)), (7, (.int .i64)), (132, (.int .i64)), (133, (.int .i64))], [(0, .ptr 0 0 0), (5, .row 1), (11, .ptr 2 0 0), (131, .row 1)], [.box 98 [.d (.list (.int .i64)), .d (.int .i64)], .row 107 tS3 false, .box 107 [.d (.int .i64), .d (.int .i64), .d (.int .i64), .d (.int .i64), .row 3, .row 4, .d (.int .i64), .d (.int .i64), .d (.int .i64), .d (.int .i64), .d (.int .i64), .d (.int .i64), .d (.int .i64), .d (.int .i64), .d (.int .i64), .d (.int .i64), .row 5, .d .bool, .d (.int .i64), .row 6, .row 7], .row 3 (.int .i64) false, .row 3 (.int .i64) false, .row 3 (.int .i64) false, .row 3 (.int .i64) false, .row 116 tS2 false]⟩ (.seq (.ops false r37_22) (.seq (.cond (.t 134) .skip (.exit 2)) (.seq (.block 3 (.seq (.ops false r37_23) (.seq (.ops false r37_24) (.cond (.t 144) (.ops false r37_25) .skip)))) (.ops false r37_26))))))) (.ops false r37_27)))))))))) (.ops false r37_28)))))) (.seq (.ops false r37_29) .ret)))))
theorem F37 : Fn Try.prog 37 158 x37.er [.t 4] := ⟨Try.f37, hcl, Try.func37, by kernel_rfl, by kernel_rfl, by kernel_rfl, by kernel_rfl⟩
noncomputable def m37 (a0 : Int) (a1 : List Int) (a2 : Int) : Option ((List DS3) × (List Int) × Int × Unit) :=
  (m32 a0 a1 a2).bind fun y352 =>
  loopO (S := Int × Int × (List Int) × Int × (List DS3) × Unit) (R := (List DS3) × (List Int) × Int × Unit) (fun s353 =>
   cond (iLt 0 s353.2.1)
   ((m32 3 s353.2.2.1 s353.2.2.2.1).bind fun y354 =>
    cond (or (bnd (iSub .i64 (lenI s353.2.2.2.2.1) 1) (lenI s353.2.2.2.2.1)) (not (bEq (iLe 0 (iSub .i64 (lenI s353.2.2.2.2.1) 1)) true)))
    (cond (or (inB (Int.toNat (iSub .i64 (lenI s353.2.2.2.2.1) 1)) s353.2.2.2.2.1) (not (bEq (iLe 0 (iSub .i64 (lenI s353.2.2.2.2.1) 1)) true)))
     (cond (or (bnd (iSub .i64 (lenI s353.2.2.2.2.1) 1) (lenI s353.2.2.2.2.1)) (not (bEq (cond (iLe 0 (iSub .i64 (lenI s353.2.2.2.2.1) 1)) (iNe ((List.getD s353.2.2.2.2.1 (Int.toNat (iSub .i64 (lenI s353.2.2.2.2.1) 1)) (0, 0, (0, 0, ()), [], [], 0, 0, 0, 0, 0, 0, 0, 0, 0, 0, [], false, 0, [], [], ())).2.1) 6) false) true)))
      (cond (or (inB (Int.toNat (iSub .i64 (lenI s353.2.2.2.2.1) 1)) s353.2.2.2.2.1) (not (bEq (cond (iLe 0 (iSub .i64 (lenI s353.2.2.2.2.1) 1)) (iNe ((List.getD s353.2.2.2.2.1 (Int.toNat (iSub .i64 (lenI s353.2.2.2.2.1) 1)) (0, 0, (0, 0, ()), [], [], 0, 0, 0, 0, 0, 0, 0, 0, 0, 0, [], false, 0, [], [], ())).2.1) 6) false) true)))
       (cond (cond (cond (iLe 0 (iSub .i64 (lenI s353.2.2.2.2.1) 1)) (iNe ((List.getD s353.2.2.2.2.1 (Int.toNat (iSub .i64 (lenI s353.2.2.2.2.1) 1)) (0, 0, (0, 0, ()), [], [], 0, 0, 0, 0, 0, 0, 0, 0, 0, 0, [], false, 0, [], [], ())).2.1) 6) false) (iLe 4 ((List.getD s353.2.2.2.2.1 (Int.toNat (iSub .i64 (lenI s353.2.2.2.2.1) 1)) (0, 0, (0, 0, ()), [], [], 0, 0, 0, 0, 0, 0, 0, 0, 0, 0, [], false, 0, [], [], ())).2.1)) false)
        ((m32 2 y354.2.1 y354.2.2.1).bind fun y355 =>
         cond (or (bnd (iSub .i64 (lenI s353.2.2.2.2.1) 1) (lenI s353.2.2.2.2.1)) (not (bEq (iEq y355.1 0) true)))
         (cond (or (inB (Int.toNat (iSub .i64 (lenI s353.2.2.2.2.1) 1)) s353.2.2.2.2.1) (not (bEq (iEq y355.1 0) true)))
          (cond (or (bnd (iSub .i64 (lenI s353.2.2.2.2.1) 1) (lenI s353.2.2.2.2.1)) (not (bEq (iEq y355.1 0) true)))
           (cond (or (inB (Int.toNat (iSub .i64 (lenI s353.2.2.2.2.1) 1)) s353.2.2.2.2.1) (not (bEq (iEq y355.1 0) true)))
            (cond (cond (iEq y355.1 0) (iLt (iAdd .i64 ((List.getD s353.2.2.2.2.1 (Int.toNat (iSub .i64 (lenI s353.2.2.2.2.1) 1)) (0, 0, (0, 0, ()), [], [], 0, 0, 0, 0, 0, 0, 0, 0, 0, 0, [], false, 0, [], [], ())).2.2.2.2.2.2.2.2.2.1) ((List.getD s353.2.2.2.2.1 (Int.toNat (iSub .i64 (lenI s353.2.2.2.2.1) 1)) (0, 0, (0, 0, ()), [], [], 0, 0, 0, 0, 0, 0, 0, 0, 0, 0, [], false, 0, [], [], ())).2.2.2.2.2.2.2.2.2.2.1)) 536870912) false)
             (cond (bnd (iSub .i64 (lenI s353.2.2.2.2.1) 1) (lenI s353.2.2.2.2.1))
              (cond (inB (Int.toNat (iSub .i64 (lenI s353.2.2.2.2.1) 1)) s353.2.2.2.2.1)
               ((m32 2 y355.2.1 y355.2.2.1).bind fun y356 =>
                (m32 40 y356.2.1 y356.2.2.1).bind fun y357 =>
                (m56 y357.2.1 y357.2.2.1).bind fun y358 =>
                (m32 3 y358.2.1 y358.2.2.1).bind fun y359 =>
                cond (iNe 2 0)
                ((m56 y359.2.1 y359.2.2.1).bind fun y360 =>
                 (m32 3 y360.2.1 y360.2.2.1).bind fun y361 =>
                 cond (iNe 2 0)
                 ((m56 y361.2.1 y361.2.2.1).bind fun y362 =>
                  (m58 y362.2.1 y362.2.2.1).bind fun y363 =>
                  cond (fits (List.length s353.2.2.2.2.1 + List.length ([(iAdd .i64 s353.1 (iAdd .i64 1 y354.1), (List.getD s353.2.2.2.2.1 (Int.toNat (iSub .i64 (lenI s353.2.2.2.2.1) 1)) (0, 0, (0, 0, ()), [], [], 0, 0, 0, 0, 0, 0, 0, 0, 0, 0, [], false, 0, [], [], ())).2.1, (((List.getD s353.2.2.2.2.1 (Int.toNat (iSub .i64 (lenI s353.2.2.2.2.1) 1)) (0, 0, (0, 0, ()), [], [], 0, 0, 0, 0, 0, 0, 0, 0, 0, 0, [], false, 0, [], [], ())).2.2.1).1, ((List.getD s353.2.2.2.2.1 (Int.toNat (iSub .i64 (lenI s353.2.2.2.2.1) 1)) (0, 0, (0, 0, ()), [], [], 0, 0, 0, 0, 0, 0, 0, 0, 0, 0, [], false, 0, [], [], ())).2.2.1).2.1, ()), (List.getD s353.2.2.2.2.1 (Int.toNat (iSub .i64 (lenI s353.2.2.2.2.1) 1)) (0, 0, (0, 0, ()), [], [], 0, 0, 0, 0, 0, 0, 0, 0, 0, 0, [], false, 0, [], [], ())).2.2.2.1, (List.getD s353.2.2.2.2.1 (Int.toNat (iSub .i64 (lenI s353.2.2.2.2.1) 1)) (0, 0, (0, 0, ()), [], [], 0, 0, 0, 0, 0, 0, 0, 0, 0, 0, [], false, 0, [], [], ())).2.2.2.2.1, (List.getD s353.2.2.2.2.1 (Int.toNat (iSub .i64 (lenI s353.2.2.2.2.1) 1)) (0, 0, (0, 0, ()), [], [], 0, 0, 0, 0, 0, 0, 0, 0, 0, 0, [], false, 0, [], [], ())).2.2.2.2.2.1, (List.getD s353.2.2.2.2.1 (Int.toNat (iSub .i64 (lenI s353.2.2.2.2.1) 1)) (0, 0, (0, 0, ()), [], [], 0, 0, 0, 0, 0, 0, 0, 0, 0, 0, [], false, 0, [], [], ())).2.2.2.2.2.2.1, (List.getD s353.2.2.2.2.1 (Int.toNat (iSub .i64 (lenI s353.2.2.2.2.1) 1)) (0, 0, (0, 0, ()), [], [], 0, 0, 0, 0, 0, 0, 0, 0, 0, 0, [], false, 0, [], [], ())).2.2.2.2.2.2.2.1, (List.getD s353.2.2.2.2.1 (Int.toNat (iSub .i64 (lenI s353.2.2.2.2.1) 1)) (0, 0, (0, 0, ()), [], [], 0, 0, 0, 0, 0, 0, 0, 0, 0, 0, [], false, 0, [], [], ())).2.2.2.2.2.2.2.2.1, iAdd .i64 ((List.getD s353.2.2.2.2.1 (Int.toNat (iSub .i64 (lenI s353.2.2.2.2.1) 1)) (0, 0, (0, 0, ()), [], [], 0, 0, 0, 0, 0, 0, 0, 0, 0, 0, [], false, 0, [], [], ())).2.2.2.2.2.2.2.2.2.1) (iAdd .i64 ((List.getD s353.2.2.2.2.1 (Int.toNat (iSub .i64 (lenI s353.2.2.2.2.1) 1)) (0, 0, (0, 0, ()), [], [], 0, 0, 0, 0, 0, 0, 0, 0, 0, 0, [], false, 0, [], [], ())).2.2.2.2.2.2.2.2.2.2.1) (iMul .i64 y356.1 y357.1)), iAdd .i64 1 y358.1, (List.getD s353.2.2.2.2.1 (Int.toNat (iSub .i64 (lenI s353.2.2.2.2.1) 1)) (0, 0, (0, 0, ()), [], [], 0, 0, 0, 0, 0, 0, 0, 0, 0, 0, [], false, 0, [], [], ())).2.2.2.2.2.2.2.2.2.2.2.1, iMul .i64 (iQuo .i64 y359.1 2) y360.1, iMul .i64 (iQuo .i64 y361.1 2) y362.1, (List.getD s353.2.2.2.2.1 (Int.toNat (iSub .i64 (lenI s353.2.2.2.2.1) 1)) (0, 0, (0, 0, ()), [], [], 0, 0, 0, 0, 0, 0, 0, 0, 0, 0, [], false, 0, [], [], ())).2.2.2.2.2.2.2.2.2.2.2.2.2.2.1, (List.getD s353.2.2.2.2.1 (Int.toNat (iSub .i64 (lenI s353.2.2.2.2.1) 1)) (0, 0, (0, 0, ()), [], [], 0, 0, 0, 0, 0, 0, 0, 0, 0, 0, [], false, 0, [], [], ())).2.2.2.2.2.2.2.2.2.2.2.2.2.2.2.1, (List.getD s353.2.2.2.2.1 (Int.toNat (iSub .i64 (lenI s353.2.2.2.2.1) 1)) (0, 0, (0, 0, ()), [], [], 0, 0, 0, 0, 0, 0, 0, 0, 0, 0, [], false, 0, [], [], ())).2.2.2.2.2.2.2.2.2.2.2.2.2.2.2.2.1, (List.getD s353.2.2.2.2.1 (Int.toNat (iSub .i64 (lenI s353.2.2.2.2.1) 1)) (0, 0, (0, 0, ()), [], [], 0, 0, 0, 0, 0, 0, 0, 0, 0, 0, [], false, 0, [], [], ())).2.2.2.2.2.2.2.2.2.2.2.2.2.2.2.2.2.1, (List.getD s353.2.2.2.2.1 (Int.toNat (iSub .i64 (lenI s353.2.2.2.2.1) 1)) (0, 0, (0, 0, ()), [], [], 0, 0, 0, 0, 0, 0, 0, 0, 0, 0, [], false, 0, [], [], ())).2.2.2.2.2.2.2.2.2.2.2.2.2.2.2.2.2.2.1, y363.2.2.1, ())] : List DS3)) 248)
                  (some (.inl (iAdd .i64 s353.1 (iAdd .i64 1 y354.1), iSub .i64 s353.2.1 1, y363.1, y363.2.1, s353.2.2.2.2.1 ++ ([(iAdd .i64 s353.1 (iAdd .i64 1 y354.1), (List.getD s353.2.2.2.2.1 (Int.toNat (iSub .i64 (lenI s353.2.2.2.2.1) 1)) (0, 0, (0, 0, ()), [], [], 0, 0, 0, 0, 0, 0, 0, 0, 0, 0, [], false, 0, [], [], ())).2.1, (((List.getD s353.2.2.2.2.1 (Int.toNat (iSub .i64 (lenI s353.2.2.2.2.1) 1)) (0, 0, (0, 0, ()), [], [], 0, 0, 0, 0, 0, 0, 0, 0, 0, 0, [], false, 0, [], [], ())).2.2.1).1, ((List.getD s353.2.2.2.2.1 (Int.toNat (iSub .i64 (lenI s353.2.2.2.2.1) 1)) (0, 0, (0, 0, ()), [], [], 0, 0, 0, 0, 0, 0, 0, 0, 0, 0, [], false, 0, [], [], ())).2.2.1).2.1, ()), (List.getD s353.2.2.2.2.1 (Int.toNat (iSub .i64 (lenI s353.2.2.2.2.1) 1)) (0, 0, (0, 0, ()), [], [], 0, 0, 0, 0, 0, 0, 0, 0, 0, 0, [], false, 0, [], [], ())).2.2.2.1, (List.getD s353.2.2.2.2.1 (Int.toNat (iSub .i64 (lenI s353.2.2.2.2.1) 1)) (0, 0, (0, 0, ()), [], [], 0, 0, 0, 0, 0, 0, 0, 0, 0, 0, [], false, 0, [], [], ())).2.2.2.2.1, (List.getD s353.2.2.2.2.1 (Int.toNat (iSub .i64 (lenI s353.2.2.2.2.1) 1)) (0, 0, (0, 0, ()), [], [], 0, 0, 0, 0, 0, 0, 0, 0, 0, 0, [], false, 0, [], [], ())).2.2.2.2.2.1, (List.getD s353.2.2.2.2.1 (Int.toNat (iSub .i64 (lenI s353.2.2.2.2.1) 1)) (0, 0, (0, 0, ()), [], [], 0, 0, 0, 0, 0, 0, 0, 0, 0, 0, [], false, 0, [], [], ())).2.2.2.2.2.2.1, (List.getD s353.2.2.2.2.1 (Int.toNat (iSub .i64 (lenI s353.2.2.2.2.1) 1)) (0, 0, (0, 0, ()), [], [], 0, 0, 0, 0, 0, 0, 0, 0, 0, 0, [], false, 0, [], [], ())).2.2.2.2.2.2.2.1, (List.getD s353.2.2.2.2.1 (Int.toNat (iSub .i64 (lenI s353.2.2.2.2.1) 1)) (0, 0, (0, 0, ()), [], [], 0, 0, 0, 0, 0, 0, 0, 0, 0, 0, [], false, 0, [], [], ())).2.2.2.2.2.2.2.2.1, iAdd .i64 ((List.getD s353.2.2.2.2.1 (Int.toNat (iSub .i64 (lenI s353.2.2.2.2.1) 1)) (0, 0, (0, 0, ()), [], [], 0, 0, 0, 0, 0, 0, 0, 0, 0, 0, [], false, 0, [], [], ())).2.2.2.2.2.2.2.2.2.1) (iAdd .i64 ((List.getD s353.2.2.2.2.1 (Int.toNat (iSub .i64 (lenI s353.2.2.2.2.1) 1)) (0, 0, (0, 0, ()), [], [], 0, 0, 0, 0, 0, 0, 0, 0, 0, 0, [], false, 0, [], [], ())).2.2.2.2.2.2.2.2.2.2.1) (iMul .i64 y356.1 y357.1)), iAdd .i64 1 y358.1, (List.getD s353.2.2.2.2.1 (Int.toNat (iSub .i64 (lenI s353.2.2.2.2.1) 1)) (0, 0, (0, 0, ()), [], [], 0, 0, 0, 0, 0, 0, 0, 0, 0, 0, [], false, 0, [], [], ())).2.2.2.2.2.2.2.2.2.2.2.1, iMul .i64 (iQuo .i64 y359.1 2) y360.1, iMul .i64 (iQuo .i64 y361.1 2) y362.1, (List.getD s353.2.2.2.2.1 (Int.toNat (iSub .i64 (lenI s353.2.2.2.2.1) 1)) (0, 0, (0, 0, ()), [], [], 0, 0, 0, 0, 0, 0, 0, 0, 0, 0, [], false, 0, [], [], ())).2.2.2.2.2.2.2.2.2.2.2.2.2.2.1, (List.getD s353.2.2.2.2.1 (Int.toNat (iSub .i64 (lenI s353.2.2.2.2.1) 1)) (0, 0, (0, 0, ()), [], [], 0, 0, 0, 0, 0, 0, 0, 0, 0, 0, [], false, 0, [], [], ())).2.2.2.2.2.2.2.2.2.2.2.2.2.2.2.1, (List.getD s353.2.2.2.2.1 (Int.toNat (iSub .i64 (lenI s353.2.2.2.2.1) 1)) (0, 0, (0, 0, ()), [], [], 0, 0, 0, 0, 0, 0, 0, 0, 0, 0, [], false, 0, [], [], ())).2.2.2.2.2.2.2.2.2.2.2.2.2.2.2.2.1, (List.getD s353.2.2.2.2.1 (Int.toNat (iSub .i64 (lenI s353.2.2.2.2.1) 1)) (0, 0, (0, 0, ()), [], [], 0, 0, 0, 0, 0, 0, 0, 0, 0, 0, [], false, 0, [], [], ())).2.2.2.2.2.2.2.2.2.2.2.2.2.2.2.2.2.1, (List.getD s353.2.2.2.2.1 (Int.toNat (iSub .i64 (lenI s353.2.2.2.2.1) 1)) (0, 0, (0, 0, ()), [], [], 0, 0, 0, 0, 0, 0, 0, 0, 0, 0, [], false, 0, [], [], ())).2.2.2.2.2.2.2.2.2.2.2.2.2.2.2.2.2.2.1, y363.2.2.1, ())] : List DS3), ()))) none) none) none) none) none)
             ((m32 6 y355.2.1 y355.2.2.1).bind fun y364 =>
              (m59 (iAdd .i64 s353.1 (iAdd .i64 1 y354.1)) (iAdd .i64 1 y364.1) y364.2.1 y364.2.2.1).bind fun y365 =>
              joinO (S := Int × Int × (List Int) × Int × (List DS3) × Int × Int × Int × Int × Int × Int × Int × Int × Int × Int × Int × Int × Int × Int × Bool × Int × (List Int) × (List Int) × (List Int) × (List DS2) × Unit) (R := (Int × Int × (List Int) × Int × (List DS3) × Unit) ⊕ ((List DS3) × (List Int) × Int × Unit))
              (cond (iLe 4 (iAdd .i64 1 y364.1))
               ((m56 y365.2.2.2.2.2.2.2.2.2.2.2.2.2.2.2.2.1 y365.2.2.2.2.2.2.2.2.2.2.2.2.2.2.2.2.2.1).bind fun y366 =>
                (m56 y366.2.1 y366.2.2.1).bind fun y367 =>
                some (.inl (iAdd .i64 s353.1 (iAdd .i64 1 y354.1), s353.2.1, y367.2.1, y367.2.2.1, s353.2.2.2.2.1, y365.1, y365.2.1, y365.2.2.1, y365.2.2.2.1, y365.2.2.2.2.1, y365.2.2.2.2.2.1, y365.2.2.2.2.2.2.1, y365.2.2.2.2.2.2.2.1, y366.1, iAdd .i64 1 y367.1, y365.2.2.2.2.2.2.2.2.2.2.1, y365.2.2.2.2.2.2.2.2.2.2.2.1, y365.2.2.2.2.2.2.2.2.2.2.2.2.1, y365.2.2.2.2.2.2.2.2.2.2.2.2.2.1, y365.2.2.2.2.2.2.2.2.2.2.2.2.2.2.1, y365.2.2.2.2.2.2.2.2.2.2.2.2.2.2.2.1, y365.2.2.2.2.2.2.2.2.2.2.2.2.2.2.2.2.2.2.1, y365.2.2.2.2.2.2.2.2.2.2.2.2.2.2.2.2.2.2.2.1, y365.2.2.2.2.2.2.2.2.2.2.2.2.2.2.2.2.2.2.2.2.1, y365.2.2.2.2.2.2.2.2.2.2.2.2.2.2.2.2.2.2.2.2.2.1, ())))
               (some (.inl (iAdd .i64 s353.1 (iAdd .i64 1 y354.1), s353.2.1, y365.2.2.2.2.2.2.2.2.2.2.2.2.2.2.2.2.1, y365.2.2.2.2.2.2.2.2.2.2.2.2.2.2.2.2.2.1, s353.2.2.2.2.1, y365.1, y365.2.1, y365.2.2.1, y365.2.2.2.1, y365.2.2.2.2.1, y365.2.2.2.2.2.1, y365.2.2.2.2.2.2.1, y365.2.2.2.2.2.2.2.1, y365.2.2.2.2.2.2.2.2.1, y365.2.2.2.2.2.2.2.2.2.1, y365.2.2.2.2.2.2.2.2.2.2.1, y365.2.2.2.2.2.2.2.2.2.2.2.1, y365.2.2.2.2.2.2.2.2.2.2.2.2.1, y365.2.2.2.2.2.2.2.2.2.2.2.2.2.1, y365.2.2.2.2.2.2.2.2.2.2.2.2.2.2.1, y365.2.2.2.2.2.2.2.2.2.2.2.2.2.2.2.1, y365.2.2.2.2.2.2.2.2.2.2.2.2.2.2.2.2.2.2.1, y365.2.2.2.2.2.2.2.2.2.2.2.2.2.2.2.2.2.2.2.1, y365.2.2.2.2.2.2.2.2.2.2.2.2.2.2.2.2.2.2.2.2.1, y365.2.2.2.2.2.2.2.2.2.2.2.2.2.2.2.2.2.2.2.2.2.1, ()))))
              (fun j368 =>
               joinO (S := Int × Int × (List Int) × Int × (List DS3) × Int × Int × Int × Int × Int × Int × Int × Int × Int × Int × Int × Int × Int × Int × Bool × Int × (List Int) × (List Int) × (List Int) × (List DS2) × Unit) (R := (Int × Int × (List Int) × Int × (List DS3) × Unit) ⊕ ((List DS3) × (List Int) × Int × Unit))
               ((m32 3 j368.2.2.1 j368.2.2.2.1).bind fun y369 =>
                cond (iLt 0 y369.1)
                (some (.inl (j368.1, j368.2.1, y369.2.1, y369.2.2.1, j368.2.2.2.2.1, j368.2.2.2.2.2.1, j368.2.2.2.2.2.2.1, j368.2.2.2.2.2.2.2.1, j368.2.2.2.2.2.2.2.2.1, j368.2.2.2.2.2.2.2.2.2.1, j368.2.2.2.2.2.2.2.2.2.2.1, j368.2.2.2.2.2.2.2.2.2.2.2.1, j368.2.2.2.2.2.2.2.2.2.2.2.2.1, j368.2.2.2.2.2.2.2.2.2.2.2.2.2.1, j368.2.2.2.2.2.2.2.2.2.2.2.2.2.2.1, j368.2.2.2.2.2.2.2.2.2.2.2.2.2.2.2.1, j368.2.2.2.2.2.2.2.2.2.2.2.2.2.2.2.2.1, j368.2.2.2.2.2.2.2.2.2.2.2.2.2.2.2.2.2.1, j368.2.2.2.2.2.2.2.2.2.2.2.2.2.2.2.2.2.2.1, j368.2.2.2.2.2.2.2.2.2.2.2.2.2.2.2.2.2.2.2.1, j368.2.2.2.2.2.2.2.2.2.2.2.2.2.2.2.2.2.2.2.2.1, ([] : List Int), ([] : List Int), j368.2.2.2.2.2.2.2.2.2.2.2.2.2.2.2.2.2.2.2.2.2.2.2.1, j368.2.2.2.2.2.2.2.2.2.2.2.2.2.2.2.2.2.2.2.2.2.2.2.2.1, ())))
                (some (.inl (j368.1, j368.2.1, y369.2.1, y369.2.2.1, j368.2.2.2.2.1, j368.2.2.2.2.2.1, j368.2.2.2.2.2.2.1, j368.2.2.2.2.2.2.2.1, j368.2.2.2.2.2.2.2.2.1, j368.2.2.2.2.2.2.2.2.2.1, j368.2.2.2.2.2.2.2.2.2.2.1, j368.2.2.2.2.2.2.2.2.2.2.2.1, j368.2.2.2.2.2.2.2.2.2.2.2.2.1, j368.2.2.2.2.2.2.2.2.2.2.2.2.2.1, j368.2.2.2.2.2.2.2.2.2.2.2.2.2.2.1, j368.2.2.2.2.2.2.2.2.2.2.2.2.2.2.2.1, j368.2.2.2.2.2.2.2.2.2.2.2.2.2.2.2.2.1, j368.2.2.2.2.2.2.2.2.2.2.2.2.2.2.2.2.2.1, j368.2.2.2.2.2.2.2.2.2.2.2.2.2.2.2.2.2.2.1, j368.2.2.2.2.2.2.2.2.2.2.2.2.2.2.2.2.2.2.2.1, j368.2.2.2.2.2.2.2.2.2.2.2.2.2.2.2.2.2.2.2.2.1, j368.2.2.2.2.2.2.2.2.2.2.2.2.2.2.2.2.2.2.2.2.2.1, j368.2.2.2.2.2.2.2.2.2.2.2.2.2.2.2.2.2.2.2.2.2.2.1, j368.2.2.2.2.2.2.2.2.2.2.2.2.2.2.2.2.2.2.2.2.2.2.2.1, j368.2.2.2.2.2.2.2.2.2.2.2.2.2.2.2.2.2.2.2.2.2.2.2.2.1, ()))))
               (fun j370 =>
                loopO (S := Int × Int × Int × Int × (List Int) × Int × (List DS3) × Int × Int × Int × Int × Int × Int × Int × Int × Int × Int × Int × Int × Int × Int × Bool × Int × (List Int) × (List Int) × (List Int) × (List Int) × (List DS2) × Unit) (R := (Int × Int × (List Int) × Int × (List DS3) × Unit) ⊕ ((List DS3) × (List Int) × Int × Unit)) (fun s371 =>
                 cond (iLt s371.2.2.2.1 s371.2.2.1)
                 (cond (bnd s371.2.2.2.1 (lenI s371.2.2.2.2.2.2.1))
                  (cond (inB (Int.toNat s371.2.2.2.1) s371.2.2.2.2.2.2.1)
                   ((m60 (s371.2.2.2.2.2.2.2.1, s371.2.2.2.2.2.2.2.2.1, (s371.2.2.2.2.2.2.2.2.2.1, s371.2.2.2.2.2.2.2.2.2.2.1, ()), s371.2.2.2.2.2.2.2.2.2.2.2.2.2.2.2.2.2.2.2.2.2.2.2.1, s371.2.2.2.2.2.2.2.2.2.2.2.2.2.2.2.2.2.2.2.2.2.2.2.2.1, s371.2.2.2.2.2.2.2.2.2.2.2.1, s371.2.2.2.2.2.2.2.2.2.2.2.2.1, s371.2.2.2.2.2.2.2.2.2.2.2.2.2.1, s371.2.2.2.2.2.2.2.2.2.2.2.2.2.2.1, s371.2.2.2.2.2.2.2.2.2.2.2.2.2.2.2.1, s371.2.2.2.2.2.2.2.2.2.2.2.2.2.2.2.2.1, s371.2.2.2.2.2.2.2.2.2.2.2.2.2.2.2.2.2.1, s371.2.2.2.2.2.2.2.2.2.2.2.2.2.2.2.2.2.2.1, s371.2.2.2.2.2.2.2.2.2.2.2.2.2.2.2.2.2.2.2.1, s371.2.2.2.2.2.2.2.2.2.2.2.2.2.2.2.2.2.2.2.2.1, s371.2.2.2.2.2.2.2.2.2.2.2.2.2.2.2.2.2.2.2.2.2.2.2.2.2.1, s371.2.2.2.2.2.2.2.2.2.2.2.2.2.2.2.2.2.2.2.2.2.1, s371.2.2.2.2.2.2.2.2.2.2.2.2.2.2.2.2.2.2.2.2.2.2.1, s371.2.2.2.2.2.2.2.2.2.2.2.2.2.2.2.2.2.2.2.2.2.2.2.2.2.2.1, s371.2.2.2.2.2.2.2.2.2.2.2.2.2.2.2.2.2.2.2.2.2.2.2.2.2.2.2.1, ()) ((List.getD s371.2.2.2.2.2.2.1 (Int.toNat s371.2.2.2.1) (0, 0, (0, 0, ()), [], [], 0, 0, 0, 0, 0, 0, 0, 0, 0, 0, [], false, 0, [], [], ())).1, (List.getD s371.2.2.2.2.2.2.1 (Int.toNat s371.2.2.2.1) (0, 0, (0, 0, ()), [], [], 0, 0, 0, 0, 0, 0, 0, 0, 0, 0, [], false, 0, [], [], ())).2.1, (((List.getD s371.2.2.2.2.2.2.1 (Int.toNat s371.2.2.2.1) (0, 0, (0, 0, ()), [], [], 0, 0, 0, 0, 0, 0, 0, 0, 0, 0, [], false, 0, [], [], ())).2.2.1).1, ((List.getD s371.2.2.2.2.2.2.1 (Int.toNat s371.2.2.2.1) (0, 0, (0, 0, ()), [], [], 0, 0, 0, 0, 0, 0, 0, 0, 0, 0, [], false, 0, [], [], ())).2.2.1).2.1, ()), (List.getD s371.2.2.2.2.2.2.1 (Int.toNat s371.2.2.2.1) (0, 0, (0, 0, ()), [], [], 0, 0, 0, 0, 0, 0, 0, 0, 0, 0, [], false, 0, [], [], ())).2.2.2.1, (List.getD s371.2.2.2.2.2.2.1 (Int.toNat s371.2.2.2.1) (0, 0, (0, 0, ()), [], [], 0, 0, 0, 0, 0, 0, 0, 0, 0, 0, [], false, 0, [], [], ())).2.2.2.2.1, (List.getD s371.2.2.2.2.2.2.1 (Int.toNat s371.2.2.2.1) (0, 0, (0, 0, ()), [], [], 0, 0, 0, 0, 0, 0, 0, 0, 0, 0, [], false, 0, [], [], ())).2.2.2.2.2.1, (List.getD s371.2.2.2.2.2.2.1 (Int.toNat s371.2.2.2.1) (0, 0, (0, 0, ()), [], [], 0, 0, 0, 0, 0, 0, 0, 0, 0, 0, [], false, 0, [], [], ())).2.2.2.2.2.2.1, (List.getD s371.2.2.2.2.2.2.1 (Int.toNat s371.2.2.2.1) (0, 0, (0, 0, ()), [], [], 0, 0, 0, 0, 0, 0, 0, 0, 0, 0, [], false, 0, [], [], ())).2.2.2.2.2.2.2.1, (List.getD s371.2.2.2.2.2.2.1 (Int.toNat s371.2.2.2.1) (0, 0, (0, 0, ()), [], [], 0, 0, 0, 0, 0, 0, 0, 0, 0, 0, [], false, 0, [], [], ())).2.2.2.2.2.2.2.2.1, (List.getD s371.2.2.2.2.2.2.1 (Int.toNat s371.2.2.2.1) (0, 0, (0, 0, ()), [], [], 0, 0, 0, 0, 0, 0, 0, 0, 0, 0, [], false, 0, [], [], ())).2.2.2.2.2.2.2.2.2.1, (List.getD s371.2.2.2.2.2.2.1 (Int.toNat s371.2.2.2.1) (0, 0, (0, 0, ()), [], [], 0, 0, 0, 0, 0, 0, 0, 0, 0, 0, [], false, 0, [], [], ())).2.2.2.2.2.2.2.2.2.2.1, (List.getD s371.2.2.2.2.2.2.1 (Int.toNat s371.2.2.2.1) (0, 0, (0, 0, ()), [], [], 0, 0, 0, 0, 0, 0, 0, 0, 0, 0, [], false, 0, [], [], ())).2.2.2.2.2.2.2.2.2.2.2.1, (List.getD s371.2.2.2.2.2.2.1 (Int.toNat s371.2.2.2.1) (0, 0, (0, 0, ()), [], [], 0, 0, 0, 0, 0, 0, 0, 0, 0, 0, [], false, 0, [], [], ())).2.2.2.2.2.2.2.2.2.2.2.2.1, (List.getD s371.2.2.2.2.2.2.1 (Int.toNat s371.2.2.2.1) (0, 0, (0, 0, ()), [], [], 0, 0, 0, 0, 0, 0, 0, 0, 0, 0, [], false, 0, [], [], ())).2.2.2.2.2.2.2.2.2.2.2.2.2.1, (List.getD s371.2.2.2.2.2.2.1 (Int.toNat s371.2.2.2.1) (0, 0, (0, 0, ()), [], [], 0, 0, 0, 0, 0, 0, 0, 0, 0, 0, [], false, 0, [], [], ())).2.2.2.2.2.2.2.2.2.2.2.2.2.2.1, (List.getD s371.2.2.2.2.2.2.1 (Int.toNat s371.2.2.2.1) (0, 0, (0, 0, ()), [], [], 0, 0, 0, 0, 0, 0, 0, 0, 0, 0, [], false, 0, [], [], ())).2.2.2.2.2.2.2.2.2.2.2.2.2.2.2.1, (List.getD s371.2.2.2.2.2.2.1 (Int.toNat s371.2.2.2.1) (0, 0, (0, 0, ()), [], [], 0, 0, 0, 0, 0, 0, 0, 0, 0, 0, [], false, 0, [], [], ())).2.2.2.2.2.2.2.2.2.2.2.2.2.2.2.2.1, (List.getD s371.2.2.2.2.2.2.1 (Int.toNat s371.2.2.2.1) (0, 0, (0, 0, ()), [], [], 0, 0, 0, 0, 0, 0, 0, 0, 0, 0, [], false, 0, [], [], ())).2.2.2.2.2.2.2.2.2.2.2.2.2.2.2.2.2.1, (List.getD s371.2.2.2.2.2.2.1 (Int.toNat s371.2.2.2.1) (0, 0, (0, 0, ()), [], [], 0, 0, 0, 0, 0, 0, 0, 0, 0, 0, [], false, 0, [], [], ())).2.2.2.2.2.2.2.2.2.2.2.2.2.2.2.2.2.2.1, (List.getD s371.2.2.2.2.2.2.1 (Int.toNat s371.2.2.2.1) (0, 0, (0, 0, ()), [], [], 0, 0, 0, 0, 0, 0, 0, 0, 0, 0, [], false, 0, [], [], ())).2.2.2.2.2.2.2.2.2.2.2.2.2.2.2.2.2.2.2.1, ())).bind fun y372 =>
                    cond y372.1
                    (cond (fits (List.length s371.2.2.2.2.2.2.2.2.2.2.2.2.2.2.2.2.2.2.2.2.2.2.2.2.2.2.1 + List.length ([(List.getD s371.2.2.2.2.2.2.1 (Int.toNat s371.2.2.2.1) (0, 0, (0, 0, ()), [], [], 0, 0, 0, 0, 0, 0, 0, 0, 0, 0, [], false, 0, [], [], ())).1] : List Int)) 8)
                     (some (.inl (s371.1, s371.2.1, s371.2.2.1, iAdd .i64 s371.2.2.2.1 1, s371.2.2.2.2.1, s371.2.2.2.2.2.1, s371.2.2.2.2.2.2.1, s371.2.2.2.2.2.2.2.1, s371.2.2.2.2.2.2.2.2.1, s371.2.2.2.2.2.2.2.2.2.1, s371.2.2.2.2.2.2.2.2.2.2.1, s371.2.2.2.2.2.2.2.2.2.2.2.1, s371.2.2.2.2.2.2.2.2.2.2.2.2.1, s371.2.2.2.2.2.2.2.2.2.2.2.2.2.1, s371.2.2.2.2.2.2.2.2.2.2.2.2.2.2.1, s371.2.2.2.2.2.2.2.2.2.2.2.2.2.2.2.1, s371.2.2.2.2.2.2.2.2.2.2.2.2.2.2.2.2.1, s371.2.2.2.2.2.2.2.2.2.2.2.2.2.2.2.2.2.1, s371.2.2.2.2.2.2.2.2.2.2.2.2.2.2.2.2.2.2.1, s371.2.2.2.2.2.2.2.2.2.2.2.2.2.2.2.2.2.2.2.1, s371.2.2.2.2.2.2.2.2.2.2.2.2.2.2.2.2.2.2.2.2.1, s371.2.2.2.2.2.2.2.2.2.2.2.2.2.2.2.2.2.2.2.2.2.1, s371.2.2.2.2.2.2.2.2.2.2.2.2.2.2.2.2.2.2.2.2.2.2.1, s371.2.2.2.2.2.2.2.2.2.2.2.2.2.2.2.2.2.2.2.2.2.2.2.1, s371.2.2.2.2.2.2.2.2.2.2.2.2.2.2.2.2.2.2.2.2.2.2.2.2.1, s371.2.2.2.2.2.2.2.2.2.2.2.2.2.2.2.2.2.2.2.2.2.2.2.2.2.1, s371.2.2.2.2.2.2.2.2.2.2.2.2.2.2.2.2.2.2.2.2.2.2.2.2.2.2.1 ++ ([(List.getD s371.2.2.2.2.2.2.1 (Int.toNat s371.2.2.2.1) (0, 0, (0, 0, ()), [], [], 0, 0, 0, 0, 0, 0, 0, 0, 0, 0, [], false, 0, [], [], ())).1] : List Int), s371.2.2.2.2.2.2.2.2.2.2.2.2.2.2.2.2.2.2.2.2.2.2.2.2.2.2.2.1, ()))) none)
                    ((m32 4 s371.2.2.2.2.1 s371.2.2.2.2.2.1).bind fun y373 =>
                     cond (iEq y373.1 0)
                     (cond (fits (List.length s371.2.2.2.2.2.2.2.2.2.2.2.2.2.2.2.2.2.2.2.2.2.2.2.2.2.2.1 + List.length ([(List.getD s371.2.2.2.2.2.2.1 (Int.toNat s371.2.2.2.1) (0, 0, (0, 0, ()), [], [], 0, 0, 0, 0, 0, 0, 0, 0, 0, 0, [], false, 0, [], [], ())).1] : List Int)) 8)
                      (some (.inl (s371.1, s371.2.1, s371.2.2.1, iAdd .i64 s371.2.2.2.1 1, y373.2.1, y373.2.2.1, s371.2.2.2.2.2.2.1, s371.2.2.2.2.2.2.2.1, s371.2.2.2.2.2.2.2.2.1, s371.2.2.2.2.2.2.2.2.2.1, s371.2.2.2.2.2.2.2.2.2.2.1, s371.2.2.2.2.2.2.2.2.2.2.2.1, s371.2.2.2.2.2.2.2.2.2.2.2.2.1, s371.2.2.2.2.2.2.2.2.2.2.2.2.2.1, s371.2.2.2.2.2.2.2.2.2.2.2.2.2.2.1, s371.2.2.2.2.2.2.2.2.2.2.2.2.2.2.2.1, s371.2.2.2.2.2.2.2.2.2.2.2.2.2.2.2.2.1, s371.2.2.2.2.2.2.2.2.2.2.2.2.2.2.2.2.2.1, s371.2.2.2.2.2.2.2.2.2.2.2.2.2.2.2.2.2.2.1, s371.2.2.2.2.2.2.2.2.2.2.2.2.2.2.2.2.2.2.2.1, s371.2.2.2.2.2.2.2.2.2.2.2.2.2.2.2.2.2.2.2.2.1, s371.2.2.2.2.2.2.2.2.2.2.2.2.2.2.2.2.2.2.2.2.2.1, s371.2.2.2.2.2.2.2.2.2.2.2.2.2.2.2.2.2.2.2.2.2.2.1, s371.2.2.2.2.2.2.2.2.2.2.2.2.2.2.2.2.2.2.2.2.2.2.2.1, s371.2.2.2.2.2.2.2.2.2.2.2.2.2.2.2.2.2.2.2.2.2.2.2.2.1, s371.2.2.2.2.2.2.2.2.2.2.2.2.2.2.2.2.2.2.2.2.2.2.2.2.2.1, s371.2.2.2.2.2.2.2.2.2.2.2.2.2.2.2.2.2.2.2.2.2.2.2.2.2.2.1 ++ ([(List.getD s371.2.2.2.2.2.2.1 (Int.toNat s371.2.2.2.1) (0, 0, (0, 0, ()), [], [], 0, 0, 0, 0, 0, 0, 0, 0, 0, 0, [], false, 0, [], [], ())).1] : List Int), s371.2.2.2.2.2.2.2.2.2.2.2.2.2.2.2.2.2.2.2.2.2.2.2.2.2.2.2.1, ()))) none)
                     (some (.inl (s371.1, s371.2.1, s371.2.2.1, iAdd .i64 s371.2.2.2.1 1, y373.2.1, y373.2.2.1, s371.2.2.2.2.2.2.1, s371.2.2.2.2.2.2.2.1, s371.2.2.2.2.2.2.2.2.1, s371.2.2.2.2.2.2.2.2.2.1, s371.2.2.2.2.2.2.2.2.2.2.1, s371.2.2.2.2.2.2.2.2.2.2.2.1, s371.2.2.2.2.2.2.2.2.2.2.2.2.1, s371.2.2.2.2.2.2.2.2.2.2.2.2.2.1, s371.2.2.2.2.2.2.2.2.2.2.2.2.2.2.1, s371.2.2.2.2.2.2.2.2.2.2.2.2.2.2.2.1, s371.2.2.2.2.2.2.2.2.2.2.2.2.2.2.2.2.1, s371.2.2.2.2.2.2.2.2.2.2.2.2.2.2.2.2.2.1, s371.2.2.2.2.2.2.2.2.2.2.2.2.2.2.2.2.2.2.1, s371.2.2.2.2.2.2.2.2.2.2.2.2.2.2.2.2.2.2.2.1, s371.2.2.2.2.2.2.2.2.2.2.2.2.2.2.2.2.2.2.2.2.1, s371.2.2.2.2.2.2.2.2.2.2.2.2.2.2.2.2.2.2.2.2.2.1, s371.2.2.2.2.2.2.2.2.2.2.2.2.2.2.2.2.2.2.2.2.2.2.1, s371.2.2.2.2.2.2.2.2.2.2.2.2.2.2.2.2.2.2.2.2.2.2.2.1, s371.2.2.2.2.2.2.2.2.2.2.2.2.2.2.2.2.2.2.2.2.2.2.2.2.1, s371.2.2.2.2.2.2.2.2.2.2.2.2.2.2.2.2.2.2.2.2.2.2.2.2.2.1, s371.2.2.2.2.2.2.2.2.2.2.2.2.2.2.2.2.2.2.2.2.2.2.2.2.2.2.1, s371.2.2.2.2.2.2.2.2.2.2.2.2.2.2.2.2.2.2.2.2.2.2.2.2.2.2.2.1, ()))))) none) none)
                 (Option.map Sum.inr (cond (fits (List.length s371.2.2.2.2.2.2.1 + List.length ([(s371.2.2.2.2.2.2.2.1, s371.2.2.2.2.2.2.2.2.1, (s371.2.2.2.2.2.2.2.2.2.1, s371.2.2.2.2.2.2.2.2.2.2.1, ()), s371.2.2.2.2.2.2.2.2.2.2.2.2.2.2.2.2.2.2.2.2.2.2.2.1, s371.2.2.2.2.2.2.2.2.2.2.2.2.2.2.2.2.2.2.2.2.2.2.2.2.1, s371.2.2.2.2.2.2.2.2.2.2.2.1, s371.2.2.2.2.2.2.2.2.2.2.2.2.1, s371.2.2.2.2.2.2.2.2.2.2.2.2.2.1, s371.2.2.2.2.2.2.2.2.2.2.2.2.2.2.1, s371.2.2.2.2.2.2.2.2.2.2.2.2.2.2.2.1, s371.2.2.2.2.2.2.2.2.2.2.2.2.2.2.2.2.1, s371.2.2.2.2.2.2.2.2.2.2.2.2.2.2.2.2.2.1, s371.2.2.2.2.2.2.2.2.2.2.2.2.2.2.2.2.2.2.1, s371.2.2.2.2.2.2.2.2.2.2.2.2.2.2.2.2.2.2.2.1, s371.2.2.2.2.2.2.2.2.2.2.2.2.2.2.2.2.2.2.2.2.1, s371.2.2.2.2.2.2.2.2.2.2.2.2.2.2.2.2.2.2.2.2.2.2.2.2.2.1, s371.2.2.2.2.2.2.2.2.2.2.2.2.2.2.2.2.2.2.2.2.2.1, s371.2.2.2.2.2.2.2.2.2.2.2.2.2.2.2.2.2.2.2.2.2.2.1, s371.2.2.2.2.2.2.2.2.2.2.2.2.2.2.2.2.2.2.2.2.2.2.2.2.2.2.1, s371.2.2.2.2.2.2.2.2.2.2.2.2.2.2.2.2.2.2.2.2.2.2.2.2.2.2.2.1, ())] : List DS3)) 248)
                   (some (.inl (s371.1, iSub .i64 s371.2.1 1, s371.2.2.2.2.1, s371.2.2.2.2.2.1, s371.2.2.2.2.2.2.1 ++ ([(s371.2.2.2.2.2.2.2.1, s371.2.2.2.2.2.2.2.2.1, (s371.2.2.2.2.2.2.2.2.2.1, s371.2.2.2.2.2.2.2.2.2.2.1, ()), s371.2.2.2.2.2.2.2.2.2.2.2.2.2.2.2.2.2.2.2.2.2.2.2.1, s371.2.2.2.2.2.2.2.2.2.2.2.2.2.2.2.2.2.2.2.2.2.2.2.2.1, s371.2.2.2.2.2.2.2.2.2.2.2.1, s371.2.2.2.2.2.2.2.2.2.2.2.2.1, s371.2.2.2.2.2.2.2.2.2.2.2.2.2.1, s371.2.2.2.2.2.2.2.2.2.2.2.2.2.2.1, s371.2.2.2.2.2.2.2.2.2.2.2.2.2.2.2.1, s371.2.2.2.2.2.2.2.2.2.2.2.2.2.2.2.2.1, s371.2.2.2.2.2.2.2.2.2.2.2.2.2.2.2.2.2.1, s371.2.2.2.2.2.2.2.2.2.2.2.2.2.2.2.2.2.2.1, s371.2.2.2.2.2.2.2.2.2.2.2.2.2.2.2.2.2.2.2.1, s371.2.2.2.2.2.2.2.2.2.2.2.2.2.2.2.2.2.2.2.2.1, s371.2.2.2.2.2.2.2.2.2.2.2.2.2.2.2.2.2.2.2.2.2.2.2.2.2.1, s371.2.2.2.2.2.2.2.2.2.2.2.2.2.2.2.2.2.2.2.2.2.1, s371.2.2.2.2.2.2.2.2.2.2.2.2.2.2.2.2.2.2.2.2.2.2.1, s371.2.2.2.2.2.2.2.2.2.2.2.2.2.2.2.2.2.2.2.2.2.2.2.2.2.2.1, s371.2.2.2.2.2.2.2.2.2.2.2.2.2.2.2.2.2.2.2.2.2.2.2.2.2.2.2.1, ())] : List DS3), ()))) none)))
                (j370.1, j370.2.1, lenI j370.2.2.2.2.1, 0, j370.2.2.1, j370.2.2.2.1, j370.2.2.2.2.1, j370.2.2.2.2.2.1, j370.2.2.2.2.2.2.1, j370.2.2.2.2.2.2.2.1, j370.2.2.2.2.2.2.2.2.1, j370.2.2.2.2.2.2.2.2.2.1, j370.2.2.2.2.2.2.2.2.2.2.1, j370.2.2.2.2.2.2.2.2.2.2.2.1, j370.2.2.2.2.2.2.2.2.2.2.2.2.1, j370.2.2.2.2.2.2.2.2.2.2.2.2.2.1, j370.2.2.2.2.2.2.2.2.2.2.2.2.2.2.1, j370.2.2.2.2.2.2.2.2.2.2.2.2.2.2.2.1, j370.2.2.2.2.2.2.2.2.2.2.2.2.2.2.2.2.1, j370.2.2.2.2.2.2.2.2.2.2.2.2.2.2.2.2.2.1, j370.2.2.2.2.2.2.2.2.2.2.2.2.2.2.2.2.2.2.1, j370.2.2.2.2.2.2.2.2.2.2.2.2.2.2.2.2.2.2.2.1, j370.2.2.2.2.2.2.2.2.2.2.2.2.2.2.2.2.2.2.2.2.1, j370.2.2.2.2.2.2.2.2.2.2.2.2.2.2.2.2.2.2.2.2.2.1, j370.2.2.2.2.2.2.2.2.2.2.2.2.2.2.2.2.2.2.2.2.2.2.1, j370.2.2.2.2.2.2.2.2.2.2.2.2.2.2.2.2.2.2.2.2.2.2.2.1, ([] : List Int), j370.2.2.2.2.2.2.2.2.2.2.2.2.2.2.2.2.2.2.2.2.2.2.2.2.1, ()))))) none) none) none) none)
        (cond (or (bnd (iSub .i64 (lenI s353.2.2.2.2.1) 1) (lenI s353.2.2.2.2.1)) (not (bEq false true)))
         (cond (or (inB (Int.toNat (iSub .i64 (lenI s353.2.2.2.2.1) 1)) s353.2.2.2.2.1) (not (bEq false true)))
          (cond (or (bnd (iSub .i64 (lenI s353.2.2.2.2.1) 1) (lenI s353.2.2.2.2.1)) (not (bEq false true)))
           (cond (or (inB (Int.toNat (iSub .i64 (lenI s353.2.2.2.2.1) 1)) s353.2.2.2.2.1) (not (bEq false true)))
            ((m32 6 y354.2.1 y354.2.2.1).bind fun y374 =>
             (m59 (iAdd .i64 s353.1 (iAdd .i64 1 y354.1)) (iAdd .i64 1 y374.1) y374.2.1 y374.2.2.1).bind fun y375 =>
             joinO (S := Int × Int × (List Int) × Int × (List DS3) × Int × Int × Int × Int × Int × Int × Int × Int × Int × Int × Int × Int × Int × Int × Bool × Int × (List Int) × (List Int) × (List Int) × (List DS2) × Unit) (R := (Int × Int × (List Int) × Int × (List DS3) × Unit) ⊕ ((List DS3) × (List Int) × Int × Unit))
             (cond (iLe 4 (iAdd .i64 1 y374.1))
              ((m56 y375.2.2.2.2.2.2.2.2.2.2.2.2.2.2.2.2.1 y375.2.2.2.2.2.2.2.2.2.2.2.2.2.2.2.2.2.1).bind fun y376 =>
               (m56 y376.2.1 y376.2.2.1).bind fun y377 =>
               some (.inl (iAdd .i64 s353.1 (iAdd .i64 1 y354.1), s353.2.1, y377.2.1, y377.2.2.1, s353.2.2.2.2.1, y375.1, y375.2.1, y375.2.2.1, y375.2.2.2.1, y375.2.2.2.2.1, y375.2.2.2.2.2.1, y375.2.2.2.2.2.2.1, y375.2.2.2.2.2.2.2.1, y376.1, iAdd .i64 1 y377.1, y375.2.2.2.2.2.2.2.2.2.2.1, y375.2.2.2.2.2.2.2.2.2.2.2.1, y375.2.2.2.2.2.2.2.2.2.2.2.2.1, y375.2.2.2.2.2.2.2.2.2.2.2.2.2.1, y375.2.2.2.2.2.2.2.2.2.2.2.2.2.2.1, y375.2.2.2.2.2.2.2.2.2.2.2.2.2.2.2.1, y375.2.2.2.2.2.2.2.2.2.2.2.2.2.2.2.2.2.2.1, y375.2.2.2.2.2.2.2.2.2.2.2.2.2.2.2.2.2.2.2.1, y375.2.2.2.2.2.2.2.2.2.2.2.2.2.2.2.2.2.2.2.2.1, y375.2.2.2.2.2.2.2.2.2.2.2.2.2.2.2.2.2.2.2.2.2.1, ())))
              (some (.inl (iAdd .i64 s353.1 (iAdd .i64 1 y354.1), s353.2.1, y375.2.2.2.2.2.2.2.2.2.2.2.2.2.2.2.2.1, y375.2.2.2.2.2.2.2.2.2.2.2.2.2.2.2.2.2.1, s353.2.2.2.2.1, y375.1, y375.2.1, y375.2.2.1, y375.2.2.2.1, y375.2.2.2.2.1, y375.2.2.2.2.2.1, y375.2.2.2.2.2.2.1, y375.2.2.2.2.2.2.2.1, y375.2.2.2.2.2.2.2.2.1, y375.2.2.2.2.2.2.2.2.2.1, y375.2.2.2.2.2.2.2.2.2.2.1, y375.2.2.2.2.2.2.2.2.2.2.2.1, y375.2.2.2.2.2.2.2.2.2.2.2.2.1, y375.2.2.2.2.2.2.2.2.2.2.2.2.2.1, y375.2.2.2.2.2.2.2.2.2.2.2.2.2.2.1, y375.2.2.2.2.2.2.2.2.2.2.2.2.2.2.2.1, y375.2.2.2.2.2.2.2.2.2.2.2.2.2.2.2.2.2.2.1, y375.2.2.2.2.2.2.2.2.2.2.2.2.2.2.2.2.2.2.2.1, y375.2.2.2.2.2.2.2.2.2.2.2.2.2.2.2.2.2.2.2.2.1, y375.2.2.2.2.2.2.2.2.2.2.2.2.2.2.2.2.2.2.2.2.2.1, ()))))
             (fun j378 =>
              joinO (S := Int × Int × (List Int) × Int × (List DS3) × Int × Int × Int × Int × Int × Int × Int × Int × Int × Int × Int × Int × Int × Int × Bool × Int × (List Int) × (List Int) × (List Int) × (List DS2) × Unit) (R := (Int × Int × (List Int) × Int × (List DS3) × Unit) ⊕ ((List DS3) × (List Int) × Int × Unit))
              ((m32 3 j378.2.2.1 j378.2.2.2.1).bind fun y379 =>
               cond (iLt 0 y379.1)
               (some (.inl (j378.1, j378.2.1, y379.2.1, y379.2.2.1, j378.2.2.2.2.1, j378.2.2.2.2.2.1, j378.2.2.2.2.2.2.1, j378.2.2.2.2.2.2.2.1, j378.2.2.2.2.2.2.2.2.1, j378.2.2.2.2.2.2.2.2.2.1, j378.2.2.2.2.2.2.2.2.2.2.1, j378.2.2.2.2.2.2.2.2.2.2.2.1, j378.2.2.2.2.2.2.2.2.2.2.2.2.1, j378.2.2.2.2.2.2.2.2.2.2.2.2.2.1, j378.2.2.2.2.2.2.2.2.2.2.2.2.2.2.1, j378.2.2.2.2.2.2.2.2.2.2.2.2.2.2.2.1, j378.2.2.2.2.2.2.2.2.2.2.2.2.2.2.2.2.1, j378.2.2.2.2.2.2.2.2.2.2.2.2.2.2.2.2.2.1, j378.2.2.2.2.2.2.2.2.2.2.2.2.2.2.2.2.2.2.1, j378.2.2.2.2.2.2.2.2.2.2.2.2.2.2.2.2.2.2.2.1, j378.2.2.2.2.2.2.2.2.2.2.2.2.2.2.2.2.2.2.2.2.1, ([] : List Int), ([] : List Int), j378.2.2.2.2.2.2.2.2.2.2.2.2.2.2.2.2.2.2.2.2.2.2.2.1, j378.2.2.2.2.2.2.2.2.2.2.2.2.2.2.2.2.2.2.2.2.2.2.2.2.1, ())))
               (some (.inl (j378.1, j378.2.1, y379.2.1, y379.2.2.1, j378.2.2.2.2.1, j378.2.2.2.2.2.1, j378.2.2.2.2.2.2.1, j378.2.2.2.2.2.2.2.1, j378.2.2.2.2.2.2.2.2.1, j378.2.2.2.2.2.2.2.2.2.1, j378.2.2.2.2.2.2.2.2.2.2.1, j378.2.2.2.2.2.2.2.2.2.2.2.1, j378.2.2.2.2.2.2.2.2.2.2.2.2.1, j378.2.2.2.2.2.2.2.2.2.2.2.2.2.1, j378.2.2.2.2.2.2.2.2.2.2.2.2.2.2.1, j378.2.2.2.2.2.2.2.2.2.2.2.2.2.2.2.1, j378.2.2.2.2.2.2.2.2.2.2.2.2.2.2.2.2.1, j378.2.2.2.2.2.2.2.2.2.2.2.2.2.2.2.2.2.1, j378.2.2.2.2.2.2.2.2.2.2.2.2.2.2.2.2.2.2.1, j378.2.2.2.2.2.2.2.2.2.2.2.2.2.2.2.2.2.2.2.1, j378.2.2.2.2.2.2.2.2.2.2.2.2.2.2.2.2.2.2.2.2.1, j378.2.2.2.2.2.2.2.2.2.2.2.2.2.2.2.2.2.2.2.2.2.1, j378.2.2.2.2.2.2.2.2.2.2.2.2.2.2.2.2.2.2.2.2.2.2.1, j378.2.2.2.2.2.2.2.2.2.2.2.2.2.2.2.2.2.2.2.2.2.2.2.1, j378.2.2.2.2.2.2.2.2.2.2.2.2.2.2.2.2.2.2.2.2.2.2.2.2.1, ()))))
              (fun j380 =>
               loopO (S := Int × Int × Int × Int × (List Int) × Int × (List DS3) × Int × Int × Int × Int × Int × Int × Int × Int × Int × Int × Int × Int × Int × Int × Bool × Int × (List Int) × (List Int) × (List Int) × (List Int) × (List DS2) × Unit) (R := (Int × Int × (List Int) × Int × (List DS3) × Unit) ⊕ ((List DS3) × (List Int) × Int × Unit)) (fun s381 =>
                cond (iLt s381.2.2.2.1 s381.2.2.1)
                (cond (bnd s381.2.2.2.1 (lenI s381.2.2.2.2.2.2.1))
                 (cond (inB (Int.toNat s381.2.2.2.1) s381.2.2.2.2.2.2.1)
                  ((m60 (s381.2.2.2.2.2.2.2.1, s381.2.2.2.2.2.2.2.2.1, (s381.2.2.2.2.2.2.2.2.2.1, s381.2.2.2.2.2.2.2.2.2.2.1, ()), s381.2.2.2.2.2.2.2.2.2.2.2.2.2.2.2.2.2.2.2.2.2.2.2.1, s381.2.2.2.2.2.2.2.2.2.2.2.2.2.2.2.2.2.2.2.2.2.2.2.2.1, s381.2.2.2.2.2.2.2.2.2.2.2.1, s381.2.2.2.2.2.2.2.2.2.2.2.2.1, s381.2.2.2.2.2.2.2.2.2.2.2.2.2.1, s381.2.2.2.2.2.2.2.2.2.2.2.2.2.2.1, s381.2.2.2.2.2.2.2.2.2.2.2.2.2.2.2.1, s381.2.2.2.2.2.2.2.2.2.2.2.2.2.2.2.2.1, s381.2.2.2.2.2.2.2.2.2.2.2.2.2.2.2.2.2.1, s381.2.2.2.2.2.2.2.2.2.2.2.2.2.2.2.2.2.2.1, s381.2.2.2.2.2.2.2.2.2.2.2.2.2.2.2.2.2.2.2.1, s381.2.2.2.2.2.2.2.2.2.2.2.2.2.2.2.2.2.2.2.2.1, s381.2.2.2.2.2.2.2.2.2.2.2.2.2.2.2.2.2.2.2.2.2.2.2.2.2.1, s381.2.2.2.2.2.2.2.2.2.2.2.2.2.2.2.2.2.2.2.2.2.1, s381.2.2.2.2.2.2.2.2.2.2.2.2.2.2.2.2.2.2.2.2.2.2.1, s381.2.2.2.2.2.2.2.2.2.2.2.2.2.2.2.2.2.2.2.2.2.2.2.2.2.2.1, s381.2.2.2.2.2.2.2.2.2.2.2.2.2.2.2.2.2.2.2.2.2.2.2.2.2.2.2.1, ()) ((List.getD s381.2.2.2.2.2.2.1 (Int.toNat s381.2.2.2.1) (0, 0, (0, 0, ()), [], [], 0, 0, 0, 0, 0, 0, 0, 0, 0, 0, [], false, 0, [], [], ())).1, (List.getD s381.2.2.2.2.2.2.1 (Int.toNat s381.2.2.2.1) (0, 0, (0, 0, ()), [], [], 0, 0, 0, 0, 0, 0, 0, 0, 0, 0, [], false, 0, [], [], ())).2.1, (((List.getD s381.2.2.2.2.2.2.1 (Int.toNat s381.2.2.2.1) (0, 0, (0, 0, ()), [], [], 0, 0, 0, 0, 0, 0, 0, 0, 0, 0, [], false, 0, [], [], ())).2.2.1).1, ((List.getD s381.2.2.2.2.2.2.1 (Int.toNat s381.2.2.2.1) (0, 0, (0, 0, ()), [], [], 0, 0, 0, 0, 0, 0, 0, 0, 0, 0, [], false, 0, [], [], ())).2.2.1).2.1, ()), (List.getD s381.2.2.2.2.2.2.1 (Int.toNat s381.2.2.2.1) (0, 0, (0, 0, ()), [], [], 0, 0, 0, 0, 0, 0, 0, 0, 0, 0, [], false, 0, [], [], ())).2.2.2.1, (List.getD s381.2.2.2.2.2.2.1 (Int.toNat s381.2.2.2.1) (0, 0, (0, 0, ()), [], [], 0, 0, 0, 0, 0, 0, 0, 0, 0, 0, [], false, 0, [], [], ())).2.2.2.2.1, (List.getD s381.2.2.2.2.2.2.1 (Int.toNat s381.2.2.2.1) (0, 0, (0, 0, ()), [], [], 0, 0, 0, 0, 0, 0, 0, 0, 0, 0, [], false, 0, [], [], ())).2.2.2.2.2.1, (List.getD s381.2.2.2.2.2.2.1 (Int.toNat s381.2.2.2.1) (0, 0, (0, 0, ()), [], [], 0, 0, 0, 0, 0, 0, 0, 0, 0, 0, [], false, 0, [], [], ())).2.2.2.2.2.2.1, (List.getD s381.2.2.2.2.2.2.1 (Int.toNat s381.2.2.2.1) (0, 0, (0, 0, ()), [], [], 0, 0, 0, 0, 0, 0, 0, 0, 0, 0, [], false, 0, [], [], ())).2.2.2.2.2.2.2.1, (List.getD s381.2.2.2.2.2.2.1 (Int.toNat s381.2.2.2.1) (0, 0, (0, 0, ()), [], [], 0, 0, 0, 0, 0, 0, 0, 0, 0, 0, [], false, 0, [], [], ())).2.2.2.2.2.2.2.2.1, (List.getD s381.2.2.2.2.2.2.1 (Int.toNat s381.2.2.2.1) (0, 0, (0, 0, ()), [], [], 0, 0, 0, 0, 0, 0, 0, 0, 0, 0, [], false, 0, [], [], ())).2.2.2.2.2.2.2.2.2.1, (List.getD s381.2.2.2.2.2.2.1 (Int.toNat s381.2.2.2.1) (0, 0, (0, 0, ()), [], [], 0, 0, 0, 0, 0, 0, 0, 0, 0, 0, [], false, 0, [], [], ())).2.2.2.2.2.2.2.2.2.2.1, (List.getD s381.2.2.2.2.2.2.1 (Int.toNat s381.2.2.2.1) (0, 0, (0, 0, ()), [], [], 0, 0, 0, 0, 0, 0, 0, 0, 0, 0, [], false, 0, [], [], ())).2.2.2.2.2.2.2.2.2.2.2.1, (List.getD s381.2.2.2.2.2.2.1 (Int.toNat s381.2.2.2.1) (0, 0, (0, 0, ()), [], [], 0, 0, 0, 0, 0, 0, 0, 0, 0, 0, [], false, 0, [], [], ())).2.2.2.2.2.2.2.2.2.2.2.2.1, (List.getD s381.2.2.2.2.2.2.1 (Int.toNat s381.2.2.2.1) (0, 0, (0, 0, ()), [], [], 0, 0, 0, 0, 0, 0, 0, 0, 0, 0, [], false, 0, [], [], ())).2.2.2.2.2.2.2.2.2.2.2.2.2.1, (List.getD s381.2.2.2.2.2.2.1 (Int.toNat s381.2.2.2.1) (0, 0, (0, 0, ()), [], [], 0, 0, 0, 0, 0, 0, 0, 0, 0, 0, [], false, 0, [], [], ())).2.2.2.2.2.2.2.2.2.2.2.2.2.2.1, (List.getD s381.2.2.2.2.2.2.1 (Int.toNat s381.2.2.2.1) (0, 0, (0, 0, ()), [], [], 0, 0, 0, 0, 0, 0, 0, 0, 0, 0, [], false, 0, [], [], ())).2.2.2.2.2.2.2.2.2.2.2.2.2.2.2.1, (List.getD s381.2.2.2.2.2.2.1 (Int.toNat s381.2.2.2.1) (0, 0, (0, 0, ()), [], [], 0, 0, 0, 0, 0, 0, 0, 0, 0, 0, [], false, 0, [], [], ())).2.2.2.2.2.2.2.2.2.2.2.2.2.2.2.2.1, (List.getD s381.2.2.2.2.2.2.1 (Int.toNat s381.2.2.2.1) (0, 0, (0, 0, ()), [], [], 0, 0, 0, 0, 0, 0, 0, 0, 0, 0, [], false, 0, [], [], ())).2.2.2.2.2.2.2.2.2.2.2.2.2.2.2.2.2.1, (List.getD s381.2.2.2.2.2.2.1 (Int.toNat s381.2.2.2.1) (0, 0, (0, 0, ()), [], [], 0, 0, 0, 0, 0, 0, 0, 0, 0, 0, [], false, 0, [], [], ())).2.2.2.2.2.2.2.2.2.2.2.2.2.2.2.2.2.2.1, (List.getD s381.2.2.2.2.2.2.1 (Int.toNat s381.2.2.2.1) (0, 0, (0, 0, ()), [], [], 0, 0, 0, 0, 0, 0, 0, 0, 0, 0, [], false, 0, [], [], ())).2.2.2.2.2.2.2.2.2.2.2.2.2.2.2.2.2.2.2.1, ())).bind fun y382 =>
                   cond y382.1
                   (cond (fits (List.length s381.2.2.2.2.2.2.2.2.2.2.2.2.2.2.2.2.2.2.2.2.2.2.2.2.2.2.1 + List.length ([(List.getD s381.2.2.2.2.2.2.1 (Int.toNat s381.2.2.2.1) (0, 0, (0, 0, ()), [], [], 0, 0, 0, 0, 0, 0, 0, 0, 0, 0, [], false, 0, [], [], ())).1] : List Int)) 8)
                    (some (.inl (s381.1, s381.2.1, s381.2.2.1, iAdd .i64 s381.2.2.2.1 1, s381.2.2.2.2.1, s381.2.2.2.2.2.1, s381.2.2.2.2.2.2.1, s381.2.2.2.2.2.2.2.1, s381.2.2.2.2.2.2.2.2.1, s381.2.2.2.2.2.2.2.2.2.1, s381.2.2.2.2.2.2.2.2.2.2.1, s381.2.2.2.2.2.2.2.2.2.2.2.1, s381.2.2.2.2.2.2.2.2.2.2.2.2.1, s381.2.2.2.2.2.2.2.2.2.2.2.2.2.1, s381.2.2.2.2.2.2.2.2.2.2.2.2.2.2.1, s381.2.2.2.2.2.2.2.2.2.2.2.2.2.2.2.1, s381.2.2.2.2.2.2.2.2.2.2.2.2.2.2.2.2.1, s381.2.2.2.2.2.2.2.2.2.2.2.2.2.2.2.2.2.1, s381.2.2.2.2.2.2.2.2.2.2.2.2.2.2.2.2.2.2.1, s381.2.2.2.2.2.2.2.2.2.2.2.2.2.2.2.2.2.2.2.1, s381.2.2.2.2.2.2.2.2.2.2.2.2.2.2.2.2.2.2.2.2.1, s381.2.2.2.2.2.2.2.2.2.2.2.2.2.2.2.2.2.2.2.2.2.1, s381.2.2.2.2.2.2.2.2.2.2.2.2.2.2.2.2.2.2.2.2.2.2.1, s381.2.2.2.2.2.2.2.2.2.2.2.2.2.2.2.2.2.2.2.2.2.2.2.1, s381.2.2.2.2.2.2.2.2.2.2.2.2.2.2.2.2.2.2.2.2.2.2.2.2.1, s381.2.2.2.2.2.2.2.2.2.2.2.2.2.2.2.2.2.2.2.2.2.2.2.2.2.1, s381.2.2.2.2.2.2.2.2.2.2.2.2.2.2.2.2.2.2.2.2.2.2.2.2.2.2.1 ++ ([(List.getD s381.2.2.2.2.2.2.1 (Int.toNat s381.2.2.2.1) (0, 0, (0, 0, ()), [], [], 0, 0, 0, 0, 0, 0, 0, 0, 0, 0, [], false, 0, [], [], ())).1] : List Int), s381.2.2.2.2.2.2.2.2.2.2.2.2.2.2.2.2.2.2.2.2.2.2.2.2.2.2.2.1, ()))) none)
                   ((m32 4 s381.2.2.2.2.1 s381.2.2.2.2.2.1).bind fun y383 =>
                    cond (iEq y383.1 0)
                    (cond (fits (List.length s381.2.2.2.2.2.2.2.2.2.2.2.2.2.2.2.2.2.2.2.2.2.2.2.2.2.2.1 + List.length ([(List.getD s381.2.2.2.2.2.2.1 (Int.toNat s381.2.2.2.1) (0, 0, (0, 0, ()), [], [], 0, 0, 0, 0, 0, 0, 0, 0, 0, 0, [], false, 0, [], [], ())).1] : List Int)) 8)
                     (some (.inl (s381.1, s381.2.1, s381.2.2.1, iAdd .i64 s381.2.2.2.1 1, y383.2.1, y383.2.2.1, s381.2.2.2.2.2.2.1, s381.2.2.2.2.2.2.2.1, s381.2.2.2.2.2.2.2.2.1, s381.2.2.2.2.2.2.2.2.2.1, s381.2.2.2.2.2.2.2.2.2.2.1, s381.2.2.2.2.2.2.2.2.2.2.2.1, s381.2.2.2.2.2.2.2.2.2.2.2.2.1, s381.2.2.2.2.2.2.2.2.2.2.2.2.2.1, s381.2.2.2.2.2.2.2.2.2.2.2.2.2.2.1, s381.2.2.2.2.2.2.2.2.2.2.2.2.2.2.2.1, s381.2.2.2.2.2.2.2.2.2.2.2.2.2.2.2.2.1, s381.2.2.2.2.2.2.2.2.2.2.2.2.2.2.2.2.2.1, s381.2.2.2.2.2.2.2.2.2.2.2.2.2.2.2.2.2.2.1, s381.2.2.2.2.2.2.2.2.2.2.2.2.2.2.2.2.2.2.2.1, s381.2.2.2.2.2.2.2.2.2.2.2.2.2.2.2.2.2.2.2.2.1, s381.2.2.2.2.2.2.2.2.2.2.2.2.2.2.2.2.2.2.2.2.2.1, s381.2.2.2.2.2.2.2.2.2.2.2.2.2.2.2.2.2.2.2.2.2.2.1, s381.2.2.2.2.2.2.2.2.2.2.2.2.2.2.2.2.2.2.2.2.2.2.2.1, s381.2.2.2.2.2.2.2.2.2.2.2.2.2.2.2.2.2.2.2.2.2.2.2.2.1, s381.2.2.2.2.2.2.2.2.2.2.2.2.2.2.2.2.2.2.2.2.2.2.2.2.2.1, s381.2.2.2.2.2.2.2.2.2.2.2.2.2.2.2.2.2.2.2.2.2.2.2.2.2.2.1 ++ ([(List.getD s381.2.2.2.2.2.2.1 (Int.toNat s381.2.2.2.1) (0, 0, (0, 0, ()), [], [], 0, 0, 0, 0, 0, 0, 0, 0, 0, 0, [], false, 0, [], [], ())).1] : List Int), s381.2.2.2.2.2.2.2.2.2.2.2.2.2.2.2.2.2.2.2.2.2.2.2.2.2.2.2.1, ()))) none)
                    (some (.inl (s381.1, s381.2.1, s381.2.2.1, iAdd .i64 s381.2.2.2.1 1, y383.2.1, y383.2.2.1, s381.2.2.2.2.2.2.1, s381.2.2.2.2.2.2.2.1, s381.2.2.2.2.2.2.2.2.1, s381.2.2.2.2.2.2.2.2.2.1, s381.2.2.2.2.2.2.2.2.2.2.1, s381.2.2.2.2.2.2.2.2.2.2.2.1, s381.2.2.2.2.2.2.2.2.2.2.2.2.1, s381.2.2.2.2.2.2.2.2.2.2.2.2.2.1, s381.2.2.2.2.2.2.2.2.2.2.2.2.2.2.1, s381.2.2.2.2.2.2.2.2.2.2.2.2.2.2.2.1, s381.2.2.2.2.2.2.2.2.2.2.2.2.2.2.2.2.1, s381.2.2.2.2.2.2.2.2.2.2.2.2.2.2.2.2.2.1, s381.2.2.2.2.2.2.2.2.2.2.2.2.2.2.2.2.2.2.1, s381.2.2.2.2.2.2.2.2.2.2.2.2.2.2.2.2.2.2.2.1, s381.2.2.2.2.2.2.2.2.2.2.2.2.2.2.2.2.2.2.2.2.1, s381.2.2.2.2.2.2.2.2.2.2.2.2.2.2.2.2.2.2.2.2.2.1, s381.2.2.2.2.2.2.2.2.2.2.2.2.2.2.2.2.2.2.2.2.2.2.1, s381.2.2.2.2.2.2.2.2.2.2.2.2.2.2.2.2.2.2.2.2.2.2.2.1, s381.2.2.2.2.2.2.2.2.2.2.2.2.2.2.2.2.2.2.2.2.2.2.2.2.1, s381.2.2.2.2.2.2.2.2.2.2.2.2.2.2.2.2.2.2.2.2.2.2.2.2.2.1, s381.2.2.2.2.2.2.2.2.2.2.2.2.2.2.2.2.2.2.2.2.2.2.2.2.2.2.1, s381.2.2.2.2.2.2.2.2.2.2.2.2.2.2.2.2.2.2.2.2.2.2.2.2.2.2.2.1, ()))))) none) none)
                (Option.map Sum.inr (cond (fits (List.length s381.2.2.2.2.2.2.1 + List.length ([(s381.2.2.2.2.2.2.2.1, s381.2.2.2.2.2.2.2.2.1, (s381.2.2.2.2.2.2.2.2.2.1, s381.2.2.2.2.2.2.2.2.2.2.1, ()), s381.2.2.2.2.2.2.2.2.2.2.2.2.2.2.2.2.2.2.2.2.2.2.2.1, s381.2.2.2.2.2.2.2.2.2.2.2.2.2.2.2.2.2.2.2.2.2.2.2.2.1, s381.2.2.2.2.2.2.2.2.2.2.2.1, s381.2.2.2.2.2.2.2.2.2.2.2.2.1, s381.2.2.2.2.2.2.2.2.2.2.2.2.2.1, s381.2.2.2.2.2.2.2.2.2.2.2.2.2.2.1, s381.2.2.2.2.2.2.2.2.2.2.2.2.2.2.2.1, s381.2.2.2.2.2.2.2.2.2.2.2.2.2.2.2.2.1, s381.2.2.2.2.2.2.2.2.2.2.2.2.2.2.2.2.2.1, s381.2.2.2.2.2.2.2.2.2.2.2.2.2.2.2.2.2.2.1, s381.2.2.2.2.2.2.2.2.2.2.2.2.2.2.2.2.2.2.2.1, s381.2.2.2.2.2.2.2.2.2.2.2.2.2.2.2.2.2.2.2.2.1, s381.2.2.2.2.2.2.2.2.2.2.2.2.2.2.2.2.2.2.2.2.2.2.2.2.2.1, s381.2.2.2.2.2.2.2.2.2.2.2.2.2.2.2.2.2.2.2.2.2.1, s381.2.2.2.2.2.2.2.2.2.2.2.2.2.2.2.2.2.2.2.2.2.2.1, s381.2.2.2.2.2.2.2.2.2.2.2.2.2.2.2.2.2.2.2.2.2.2.2.2.2.2.1, s381.2.2.2.2.2.2.2.2.2.2.2.2.2.2.2.2.2.2.2.2.2.2.2.2.2.2.2.1, ())] : List DS3)) 248)
                  (some (.inl (s381.1, iSub .i64 s381.2.1 1, s381.2.2.2.2.1, s381.2.2.2.2.2.1, s381.2.2.2.2.2.2.1 ++ ([(s381.2.2.2.2.2.2.2.1, s381.2.2.2.2.2.2.2.2.1, (s381.2.2.2.2.2.2.2.2.2.1, s381.2.2.2.2.2.2.2.2.2.2.1, ()), s381.2.2.2.2.2.2.2.2.2.2.2.2.2.2.2.2.2.2.2.2.2.2.2.1, s381.2.2.2.2.2.2.2.2.2.2.2.2.2.2.2.2.2.2.2.2.2.2.2.2.1, s381.2.2.2.2.2.2.2.2.2.2.2.1, s381.2.2.2.2.2.2.2.2.2.2.2.2.1, s381.2.2.2.2.2.2.2.2.2.2.2.2.2.1, s381.2.2.2.2.2.2.2.2.2.2.2.2.2.2.1, s381.2.2.2.2.2.2.2.2.2.2.2.2.2.2.2.1, s381.2.2.2.2.2.2.2.2.2.2.2.2.2.2.2.2.1, s381.2.2.2.2.2.2.2.2.2.2.2.2.2.2.2.2.2.1, s381.2.2.2.2.2.2.2.2.2.2.2.2.2.2.2.2.2.2.1, s381.2.2.2.2.2.2.2.2.2.2.2.2.2.2.2.2.2.2.2.1, s381.2.2.2.2.2.2.2.2.2.2.2.2.2.2.2.2.2.2.2.2.1, s381.2.2.2.2.2.2.2.2.2.2.2.2.2.2.2.2.2.2.2.2.2.2.2.2.2.1, s381.2.2.2.2.2.2.2.2.2.2.2.2.2.2.2.2.2.2.2.2.2.1, s381.2.2.2.2.2.2.2.2.2.2.2.2.2.2.2.2.2.2.2.2.2.2.1, s381.2.2.2.2.2.2.2.2.2.2.2.2.2.2.2.2.2.2.2.2.2.2.2.2.2.2.1, s381.2.2.2.2.2.2.2.2.2.2.2.2.2.2.2.2.2.2.2.2.2.2.2.2.2.2.2.1, ())] : List DS3), ()))) none)))
               (j380.1, j380.2.1, lenI j380.2.2.2.2.1, 0, j380.2.2.1, j380.2.2.2.1, j380.2.2.2.2.1, j380.2.2.2.2.2.1, j380.2.2.2.2.2.2.1, j380.2.2.2.2.2.2.2.1, j380.2.2.2.2.2.2.2.2.1, j380.2.2.2.2.2.2.2.2.2.1, j380.2.2.2.2.2.2.2.2.2.2.1, j380.2.2.2.2.2.2.2.2.2.2.2.1, j380.2.2.2.2.2.2.2.2.2.2.2.2.1, j380.2.2.2.2.2.2.2.2.2.2.2.2.2.1, j380.2.2.2.2.2.2.2.2.2.2.2.2.2.2.1, j380.2.2.2.2.2.2.2.2.2.2.2.2.2.2.2.1, j380.2.2.2.2.2.2.2.2.2.2.2.2.2.2.2.2.1, j380.2.2.2.2.2.2.2.2.2.2.2.2.2.2.2.2.2.1, j380.2.2.2.2.2.2.2.2.2.2.2.2.2.2.2.2.2.2.1, j380.2.2.2.2.2.2.2.2.2.2.2.2.2.2.2.2.2.2.2.1, j380.2.2.2.2.2.2.2.2.2.2.2.2.2.2.2.2.2.2.2.2.1, j380.2.2.2.2.2.2.2.2.2.2.2.2.2.2.2.2.2.2.2.2.2.1, j380.2.2.2.2.2.2.2.2.2.2.2.2.2.2.2.2.2.2.2.2.2.2.1, j380.2.2.2.2.2.2.2.2.2.2.2.2.2.2.2.2.2.2.2.2.2.2.2.1, ([] : List Int), j380.2.2.2.2.2.2.2.2.2.2.2.2.2.2.2.2.2.2.2.2.2.2.2.2.1, ())))) none) none) none) none)) none) none) none) none)
   (some (.inr (s353.2.2.2.2.1, s353.2.2.1, s353.2.2.2.1, ()))))
  (0, iAdd .i64 1 y352.1, y352.2.1, y352.2.2.1, ([] : List DS3), ())
noncomputable def cfg37 : Cfg := ⟨ttab, gtab, [i60], [h32, h56, h58, h59]⟩
def ish37 : Sh := ⟨2, [(1, (.int .i64))], [(0, .ptr 0 0 0)], [.box 98 [.d (.list (.int .i64)), .d (.int .i64)]]⟩
def osh37 : Sh := ⟨1, [(0, (.list tS3))], [], [.box 98 [.d (.list (.int .i64)), .d (.int .i64)]]⟩
theorem eqn37 (x : Int × (List Int) × Int × Unit) : xfunH cfg37 x37 158 [.t 4] [.fz 4 (.list tS3)] ish37 osh37 x = m37 x.1 x.2.1 x.2.2.1 := by kernel_rfl
noncomputable def h37 : HI := ⟨37, ish37, osh37, fun (x : Int × (List Int) × Int × Unit) => m37 x.1 x.2.1 x.2.2.1⟩
theorem okh37 : HOk Try.prog (gx gtab) h37 := hok mixed (cfg_p oki60 (cfg_h okh32 (cfg_h okh56 (cfg_h okh58 (cfg_h okh59 (cfg_nil _ _))))) : CfgOk _ cfg37) F37 eqn37
/- 38 treaty/treatymade2.Losses -/
def r38_0 : List Ins := [⟨some 4, none, .mov (.k (.slice none 0 0))⟩]
def r38_1 : List Ins := [⟨some 5, none, .mov (.k (.slice none 0 0))⟩]
def r38_2 : List Ins := [⟨some 6, none, .mov (.k (.int .i64 0))⟩]
def r38_3 : List Ins := [⟨some 9, none, .mov (.t 0)⟩,
  ⟨some 10, none, .mov (.t 1)⟩,
  ⟨some 11, none, .bin .add (.t 10) (.k (.int .i64 1))⟩,
  ⟨some 12, none, .call (.k (.func (.func 32) #[] #[])) [(.t 9), (.t 11)]⟩,
  ⟨some 7, none, .mov (.t 12)⟩]
def r38_4 : List Ins := [⟨some 13, none, .mov (.t 7)⟩,
  ⟨some 14, none, .bin .gtr (.t 13) (.k (.int .i64 0))⟩]
def r38_5 : List Ins := [⟨some 17, none, .mov (.t 6)⟩,
  ⟨some 18, none, .mov (.t 0)⟩,
  ⟨some 19, none, .call (.k (.func (.func 32) #[] #[])) [(.t 18), (.k (.int .i64 3))]⟩,
  ⟨some 20, none, .bin .add (.k (.int .i64 1)) (.t 19)⟩,
  ⟨some 21, none, .bin .add (.t 17) (.t 20)⟩,
  ⟨some 6, none, .mov (.t 21)⟩]
def r38_6 : List Ins := [⟨some 22, none, .mov (.t 6)⟩,
  ⟨some 23, none, .mov (.t 0)⟩,
  ⟨some 24, none, .call (.k (.func (.func 32) #[] #[])) [(.t 23), (.k (.int .i64 5))]⟩,
  ⟨some 25, none, .mov (.t 0)⟩,
  ⟨some 26, none, .call (.k (.func (.func 32) #[] #[])) [(.t 25), (.k (.int .i64 5))]⟩,
  ⟨some 27, none, .mov (.t 0)⟩,
  ⟨some 28, none, .call (.k (.func (.func 32) #[] #[])) [(.t 27), (.k (.int .i64 90))]⟩,
  ⟨some 29, none, .mov (.t 0)⟩,
  ⟨some 30, none, .call (.k (.func (.func 32) #[] #[])) [(.t 29), (.k (.int .i64 3))]⟩,
  ⟨some 31, none, .mov (.t 0)⟩,
  ⟨some 32, none, .call (.k (.func (.func 32) #[] #[])) [(.t 31), (.k (.int .i64 3))]⟩,
  ⟨some 33, none, .mov (.t 0)⟩,
  ⟨some 34, none, .call (.k (.func (.func 32) #[] #[])) [(.t 33), (.k (.int .i64 2))]⟩,
  ⟨some 35, none, .mov (.t 0)⟩,
  ⟨some 36, none, .call (.k (.func (.func 56) #[] #[])) [(.t 35)]⟩,
  ⟨some 37, none, .mov (.t 0)⟩,
  ⟨some 38, none, .call (.k (.func (.func 56) #[] #[])) [(.t 37)]⟩,
  ⟨some 39, none, .build [.int .i64 0, .int .i64 0, .int .i64 0, .int .i64 0, .int .i64 0, .int .i64 0, .int .i64 0, .int .i64 0, .int .i64 0, .int .i64 0] [(0, 1, (.t 22)), (1, 1, (.t 24)), (2, 1, (.t 26)), (3, 1, (.t 28)), (4, 1, (.t 30)), (5, 1, (.t 32)), (6, 1, (.t 34)), (7, 1, (.t 36)), (8, 1, (.t 38))]⟩,
  ⟨some 8, none, .alloc 76 (.agg #[.int .i64 0, .int .i64 0, .int .i64 0, .int .i64 0, .int .i64 0, .int .i64 0, .int .i64 0, .int .i64 0, .int .i64 0, .int .i64 0])⟩,
  ⟨none, none, .store 10 (.t 8) (.t 39)⟩]
def r38_7 : List Ins := [⟨some 40, none, .faddr 8 (.t 8)⟩,
  ⟨some 41, none, .load 1 false (.t 40)⟩,
  ⟨some 42, none, .bin .gtr (.t 41) (.k (.int .i64 0))⟩]
def r38_8 : List Ins := [⟨some 43, none, .mov (.t 0)⟩,
  ⟨some 44, none, .faddr 8 (.t 8)⟩,
  ⟨some 45, none, .load 1 false (.t 44)⟩,
  ⟨some 46, none, .bin .add (.t 45) (.k (.int .i64 1))⟩,
  ⟨some 47, none, .call (.k (.func (.func 32) #[] #[])) [(.t 43), (.t 46)]⟩,
  ⟨some 48, none, .faddr 9 (.t 8)⟩,
  ⟨none, none, .store 1 (.t 48) (.t 47)⟩]
def r38_9 : List Ins := [⟨some 49, none, .mov (.t 5)⟩,
  ⟨some 50, none, .load 10 true (.t 8)⟩,
  ⟨some 51, none, .bslice 76 10 [(.t 50)]⟩,
  ⟨some 52, none, .app 76 10 80 (.t 49) (.t 51)⟩,
  ⟨some 5, none, .mov (.t 52)⟩]
def r38_10 : List Ins := [⟨some 15, none, .mov (.t 7)⟩,
  ⟨some 16, none, .bin .sub (.t 15) (.k (.int .i64 1))⟩,
  ⟨some 7, none, .mov (.t 16)⟩]
def r38_11 : List Ins := [⟨some 53, none, .mov (.t 5)⟩,
  ⟨some 4, none, .mov (.t 53)⟩]
def x38 : XC := (.seq (.ops false r38_0) (.seq (.ops false r38_1) (.seq (.ops false r38_2) (.seq (.seq (.ops false r38_3) (.block 0 (.loop [.gh 5 76 tS0] ⟨54, [(6, (.int .i64)), (7, (.int .i64))], [(0, .ptr 0 0 0), (5, .row 1)], [.box 98 [.d (.list (.int .i64)), .d (.int .i64)], .row 76 tS0 false]⟩ (.seq (.seq (.ops false r38_4) (.cond (.t 14) .skip (.exit 0))) (.seq (.block 1 (.seq (.ops false r38_5) (.seq (.ops false r38_6) (.seq (.seq (.ops false r38_7) (.cond (.t 42) (.ops false r38_8) .skip)) (.ops false r38_9))))) (.ops false r38_10)))))) (.seq (.ops false r38_11) .ret)))))
theorem F38 : Fn Try.prog 38 54 x38.er [.t 4] := ⟨Try.f38, hcl, Try.func38, by kernel_rfl, by kernel_rfl, by kernel_rfl, by kernel_rfl⟩
noncomputable def m38 (a0 : Int) (a1 : List Int) (a2 : Int) : Option ((List DS0) × (List Int) × Int × Unit) :=
  (m32 (iAdd .i64 a0 1) a1 a2).bind fun y409 =>
  loopO (S := Int × Int × (List Int) × Int × (List DS0) × Unit) (R := (List DS0) × (List Int) × Int × Unit) (fun s410 =>
   cond (iLt 0 s410.2.1)
   ((m32 3 s410.2.2.1 s410.2.2.2.1).bind fun y411 =>
    (m32 5 y411.2.1 y411.2.2.1).bind fun y412 =>
    (m32 5 y412.2.1 y412.2.2.1).bind fun y413 =>
    (m32 90 y413.2.1 y413.2.2.1).bind fun y414 =>
    (m32 3 y414.2.1 y414.2.2.1).bind fun y415 =>
    (m32 3 y415.2.1 y415.2.2.1).bind fun y416 =>
    (m32 2 y416.2.1 y416.2.2.1).bind fun y417 =>
    (m56 y417.2.1 y417.2.2.1).bind fun y418 =>
    (m56 y418.2.1 y418.2.2.1).bind fun y419 =>
    cond (iLt 0 y419.1)
    ((m32 (iAdd .i64 y419.1 1) y419.2.1 y419.2.2.1).bind fun y420 =>
     cond (fits (List.length s410.2.2.2.2.1 + List.length ([(iAdd .i64 s410.1 (iAdd .i64 1 y411.1), y412.1, y413.1, y414.1, y415.1, y416.1, y417.1, y418.1, y419.1, y420.1, ())] : List DS0)) 80)
     (some (.inl (iAdd .i64 s410.1 (iAdd .i64 1 y411.1), iSub .i64 s410.2.1 1, y420.2.1, y420.2.2.1, s410.2.2.2.2.1 ++ ([(iAdd .i64 s410.1 (iAdd .i64 1 y411.1), y412.1, y413.1, y414.1, y415.1, y416.1, y417.1, y418.1, y419.1, y420.1, ())] : List DS0), ()))) none)
    (cond (fits (List.length s410.2.2.2.2.1 + List.length ([(iAdd .i64 s410.1 (iAdd .i64 1 y411.1), y412.1, y413.1, y414.1, y415.1, y416.1, y417.1, y418.1, y419.1, 0, ())] : List DS0)) 80)
     (some (.inl (iAdd .i64 s410.1 (iAdd .i64 1 y411.1), iSub .i64 s410.2.1 1, y419.2.1, y419.2.2.1, s410.2.2.2.2.1 ++ ([(iAdd .i64 s410.1 (iAdd .i64 1 y411.1), y412.1, y413.1, y414.1, y415.1, y416.1, y417.1, y418.1, y419.1, 0, ())] : List DS0), ()))) none))
   (some (.inr (s410.2.2.2.2.1, s410.2.2.1, s410.2.2.2.1, ()))))
  (0, y409.1, y409.2.1, y409.2.2.1, ([] : List DS0), ())
noncomputable def cfg38 : Cfg := ⟨ttab, gtab, [], [h32, h56]⟩
def ish38 : Sh := ⟨2, [(1, (.int .i64))], [(0, .ptr 0 0 0)], [.box 98 [.d (.list (.int .i64)), .d (.int .i64)]]⟩
def osh38 : Sh := ⟨1, [(0, (.list tS0))], [], [.box 98 [.d (.list (.int .i64)), .d (.int .i64)]]⟩
theorem eqn38 (x : Int × (List Int) × Int × Unit) : xfunH cfg38 x38 54 [.t 4] [.fz 4 (.list tS0)] ish38 osh38 x = m38 x.1 x.2.1 x.2.2.1 := by kernel_rfl
noncomputable def h38 : HI := ⟨38, ish38, osh38, fun (x : Int × (List Int) × Int × Unit) => m38 x.1 x.2.1 x.2.2.1⟩
theorem okh38 : HOk Try.prog (gx gtab) h38 := hok mixed (cfg_h okh32 (cfg_h okh56 (cfg_nil _ _)) : CfgOk _ cfg38) F38 eqn38
end Abs
end Go.Proofs.Ytbghnjkieghloaa
