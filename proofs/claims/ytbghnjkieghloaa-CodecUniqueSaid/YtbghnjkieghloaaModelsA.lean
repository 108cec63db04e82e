/- The functions' models on the typed machine, printed by a program of mine; that they are the code's is checked by the kernel. -/
import Derived.Test.YtbghnjkieghloaaXI
import Derived.Test.YtbghnjkieghloaaProg
import Derived.KernelRfl
namespace Go.Proofs.Ytbghnjkieghloaa
namespace Abs
set_option maxRecDepth 100000
set_option linter.unusedVariables false
theorem mixed : Try.prog.follows .mixedOrders = true := by kernel_rfl
abbrev tS0 : Ty := .tup [(.int .i64), (.int .i64), (.int .i64), (.int .i64), (.int .i64), (.int .i64), (.int .i64), (.int .i64), (.int .i64), (.int .i64)]
abbrev DS0 : Type := Int × Int × Int × Int × Int × Int × Int × Int × Int × Int × Unit
abbrev tS1 : Ty := .tup [(.int .i64), (.list tS0), (.int .i64), (.int .i64), (.int .i64), (.int .i64)]
abbrev DS1 : Type := Int × (List DS0) × Int × Int × Int × Int × Unit
abbrev tS2 : Ty := .tup [(.int .i64), (.int .i64)]
abbrev DS2 : Type := Int × Int × Unit
abbrev tS3 : Ty := .tup [(.int .i64), (.int .i64), tS2, (.list (.int .i64)), (.list (.int .i64)), (.int .i64), (.int .i64), (.int .i64), (.int .i64), (.int .i64), (.int .i64), (.int .i64), (.int .i64), (.int .i64), (.int .i64), (.list (.int .i64)), .bool, (.int .i64), (.list (.int .i64)), (.list tS2)]
abbrev DS3 : Type := Int × Int × DS2 × (List Int) × (List Int) × Int × Int × Int × Int × Int × Int × Int × Int × Int × Int × (List Int) × Bool × Int × (List Int) × (List DS2) × Unit
abbrev tS4 : Ty := .tup [(.int .i64), (.int .i64), (.int .i64)]
abbrev DS4 : Type := Int × Int × Int × Unit
abbrev tS5 : Ty := .tup [(.int .i64), (.int .i64), (.int .i64), (.int .i64), (.int .i64)]
abbrev DS5 : Type := Int × Int × Int × Int × Int × Unit
abbrev tS6 : Ty := .tup [(.int .i64), (.int .i64), tS5]
abbrev DS6 : Type := Int × Int × DS5 × Unit
abbrev tS7 : Ty := .tup [(.int .i64), (.int .i64), (.int .i64), (.list tS6)]
abbrev DS7 : Type := Int × Int × Int × (List DS6) × Unit
abbrev tS8 : Ty := .tup [(.int .i64), (.list tS3), (.list tS2), (.list tS4)]
abbrev DS8 : Type := Int × (List DS3) × (List DS2) × (List DS4) × Unit
instance (n : Nat) : OfNat Opd n := ⟨.t n⟩
@[reducible] def qI (d : Nat) (i : I) : Ins := ⟨some d, none, i⟩
@[reducible] def qT (d g : Nat) (i : I) : Ins := ⟨some d, some (g, true), i⟩
@[reducible] def qF (d g : Nat) (i : I) : Ins := ⟨some d, some (g, false), i⟩
@[reducible] def qN (i : I) : Ins := ⟨none, none, i⟩
@[reducible] def kN : Opd := .k (.slice none 0 0)
@[reducible] def kI (n : Int) : Opd := .k (.int .i64 n)
def ttab : Nat → Option Ty := fun n => if Nat.beq n 3 = true then some (.int .i64) else if Nat.beq n 5 = true then some (.int .u8) else if Nat.beq n 22 = true then some (.list (.int .u8)) else if Nat.beq n 38 = true then some tS1 else if Nat.beq n 50 = true then some tS7 else if Nat.beq n 76 = true then some tS0 else if Nat.beq n 92 = true then some tS5 else if Nat.beq n 94 = true then some tS6 else if Nat.beq n 107 = true then some tS3 else if Nat.beq n 116 = true then some tS2 else none
def gtab : GXT := fun _ => none
def hcl : List Nat := [11, 18, 25, 32, 36, 37, 38, 44, 45, 46, 47, 48, 50, 52, 53, 54, 55, 56, 57, 58, 59, 62, 64, 65, 66, 79, 80, 81, 82, 83, 86]
/- 33 treaty/amount.Valid -/
def r33_0 : List Ins := [qI 2 (.mov (.k (.bool false)))]
def r33_1 : List Ins := [qI 3 (.mov 0), qI 4 (.bin .leq (.k (.int .i64 (-17592186044416))) 3), qI 5 (.mov 4), qT 6 5 (.mov 0), qT 7 5 (.bin .leq 6 (kI 17592186044416)), qI 8 (.pick 5 7 (.k (.bool false))), qI 2 (.mov 8)]
def x33 : XC := (.seq (.ops false r33_0) (.seq (.ops false r33_1) .ret))
theorem F33 : Fn Try.prog 33 9 x33.er [.t 2] := ⟨Try.f33, hcl, Try.func33, by kernel_rfl, by kernel_rfl, by kernel_rfl, by kernel_rfl⟩
noncomputable def m33 (a0 : Int) : Option (Bool × Unit) :=
 some (cond (iLe (-17592186044416) a0) (iLe a0 17592186044416) false, ())
noncomputable def cfg33 : Cfg := ⟨ttab, gtab, [], []⟩
theorem eqn33 (x : Int × Unit) : xfun cfg33 x33 9 [.t 2] [(.int .i64)] [.bool] x = m33 x.1 := by kernel_rfl
noncomputable def i33 : PI := ⟨33, [(.int .i64)], [.bool], fun (x : Int × Unit) => m33 x.1⟩
theorem oki33 : POk Try.prog (gx gtab) i33 := pok mixed (cfg_nil _ _ : CfgOk _ cfg33) F33 eqn33
/- 34 treaty/codec.appendTo -/
def r34_0 : List Ins := [qI 4 (.mov kN)]
def r34_1 : List Ins := [qI 6 (.mov 1), qI 7 (.conv .u64 6), qI 8 (.bin .shl 7 (.k (.int .u64 1))), qI 5 (.mov 8)]
def r34_2 : List Ins := [qI 9 (.mov 1), qI 10 (.bin .lss 9 (kI 0))]
def r34_3 : List Ins := [qI 11 (.mov 1), qI 12 (.un .neg 11), qI 13 (.conv .u64 12), qI 14 (.bin .shl 13 (.k (.int .u64 1))), qI 15 (.bin .sub 14 (.k (.int .u64 1))), qI 5 (.mov 15)]
def r34_4 : List Ins := [qI 16 (.mov 5), qI 17 (.bin .geq 16 (.k (.int .u64 128)))]
def r34_5 : List Ins := [qI 18 (.mov 0), qI 19 (.mov 5), qI 20 (.bin .and 19 (.k (.int .u64 127))), qI 21 (.conv .u8 20), qI 22 (.bin .or 21 (.k (.int .u8 128))), qI 23 (.bslice 5 1 [22]), qI 24 (.app 5 1 1 18 23), qI 0 (.mov 24)]
def r34_6 : List Ins := [qI 25 (.mov 5), qI 26 (.bin .shr 25 (.k (.int .u64 7))), qI 5 (.mov 26)]
def r34_7 : List Ins := [qI 27 (.mov 0), qI 28 (.mov 5), qI 29 (.conv .u8 28), qI 30 (.bslice 5 1 [29]), qI 31 (.app 5 1 1 27 30), qI 4 (.mov 31)]
def x34 : XC := (.seq (.ops false r34_0) (.seq (.ops false r34_1) (.seq (.seq (.ops false r34_2) (.cond (.t 10) (.ops false r34_3) .skip)) (.seq (.block 0 (.loop [] ⟨32, [(5, (.int .u64))], [(0, .row 0)], [.row 5 (.int .u8) false]⟩ (.seq (.seq (.ops false r34_4) (.cond (.t 17) .skip (.exit 0))) (.block 1 (.seq (.ops false r34_5) (.ops false r34_6)))))) (.seq (.ops false r34_7) .ret)))))
theorem F34 : Fn Try.prog 34 32 x34.er [.t 4] := ⟨Try.f34, hcl, Try.func34, by kernel_rfl, by kernel_rfl, by kernel_rfl, by kernel_rfl⟩
noncomputable def m34 (a0 : Int) (a1 : List Int) : Option ((List Int) × Unit) :=
 cond (iLe 0 1)
 (cond (iLt a0 0)
 (cond (iLe 0 1)
 (loopO (S := Int × (List Int) × Unit) (R := (List Int) × Unit) (fun s6 =>
 cond (iLe 128 s6.1)
 (cond (fits (List.length s6.2.1 + List.length ([iOr .u8 (IntKind.wrap .u8 (iAnd .u64 s6.1 127)) 128] : List Int)) 1)
 (cond (iLe 0 7)
 (some (.inl (iShr .u64 s6.1 7, s6.2.1 ++ ([iOr .u8 (IntKind.wrap .u8 (iAnd .u64 s6.1 127)) 128] : List Int), ()))) none) none)
 (Option.map Sum.inr (cond (fits (List.length s6.2.1 + List.length ([IntKind.wrap .u8 s6.1] : List Int)) 1)
 (some (s6.2.1 ++ ([IntKind.wrap .u8 s6.1] : List Int), ())) none)))
 (iSub .u64 (iShl .u64 (IntKind.wrap .u64 (iNeg .i64 a0)) 1) 1, a1, ())) none)
 (loopO (S := Int × (List Int) × Unit) (R := (List Int) × Unit) (fun s7 =>
 cond (iLe 128 s7.1)
 (cond (fits (List.length s7.2.1 + List.length ([iOr .u8 (IntKind.wrap .u8 (iAnd .u64 s7.1 127)) 128] : List Int)) 1)
 (cond (iLe 0 7)
 (some (.inl (iShr .u64 s7.1 7, s7.2.1 ++ ([iOr .u8 (IntKind.wrap .u8 (iAnd .u64 s7.1 127)) 128] : List Int), ()))) none) none)
 (Option.map Sum.inr (cond (fits (List.length s7.2.1 + List.length ([IntKind.wrap .u8 s7.1] : List Int)) 1)
 (some (s7.2.1 ++ ([IntKind.wrap .u8 s7.1] : List Int), ())) none)))
 (iShl .u64 (IntKind.wrap .u64 a0) 1, a1, ()))) none
noncomputable def cfg34 : Cfg := ⟨ttab, gtab, [], []⟩
def ish34 : Sh := ⟨2, [(1, (.int .i64))], [(0, .row 0)], [.row 5 (.int .u8) false]⟩
def osh34 : Sh := ⟨1, [], [(0, .row 0)], [.row 5 (.int .u8) false]⟩
theorem eqn34 (x : Int × (List Int) × Unit) : xfunH cfg34 x34 32 [.t 4] [] ish34 osh34 x = m34 x.1 x.2.1 := by kernel_rfl
noncomputable def h34 : HI := ⟨34, ish34, osh34, fun (x : Int × (List Int) × Unit) => m34 x.1 x.2.1⟩
theorem okh34 : HOk Try.prog (gx gtab) h34 := hok mixed (cfg_nil _ _ : CfgOk _ cfg34) F34 eqn34
/- 13 treaty/codec.AppendNumber -/
def r13_0 : List Ins := [qI 4 (.mov kN), qI 5 (.mov (kI 0))]
def r13_1 : List Ins := [qI 6 (.mov 1), qI 7 (.call (.fn 33) [6]), qI 8 (.un .not 7)]
def r13_2 : List Ins := [qI 4 (.mov kN), qI 5 (.mov (kI 1))]
def r13_3 : List Ins := [qI 9 (.mov 0), qI 10 (.app 5 1 1 kN 9), qI 11 (.mov 1), qI 12 (.call (.fn 34) [10, 11]), qI 4 (.mov 12), qI 5 (.mov (kI 0))]
def x13 : XC := (.seq (.ops false r13_0) (.seq (.seq (.ops false r13_1) (.cond (.t 8) (.seq (.ops false r13_2) .ret) .skip)) (.seq (.ops false r13_3) .ret)))
theorem F13 : Fn Try.prog 13 13 x13.er [.t 4, .t 5] := ⟨Try.f13, hcl, Try.func13, by kernel_rfl, by kernel_rfl, by kernel_rfl, by kernel_rfl⟩
noncomputable def m13 (a0 : List Int) (a1 : Int) : Option ((List Int) × Int × Unit) :=
 (m33 a1).bind fun y1 =>
 cond (not y1.1)
 (some (([] : List Int), 1, ()))
 (cond (fits (List.length a0) 1)
 ((m34 a1 a0).bind fun y8 =>
 some (y8.1, 0, ())) none)
noncomputable def cfg13 : Cfg := ⟨ttab, gtab, [i33], [h34]⟩
theorem eqn13 (x : (List Int) × Int × Unit) : xfun cfg13 x13 13 [.t 4, .t 5] [(.list (.int .u8)), (.int .i64)] [(.list (.int .u8)), (.int .i64)] x = m13 x.1 x.2.1 := by kernel_rfl
noncomputable def i13 : PI := ⟨13, [(.list (.int .u8)), (.int .i64)], [(.list (.int .u8)), (.int .i64)], fun (x : (List Int) × Int × Unit) => m13 x.1 x.2.1⟩
theorem oki13 : POk Try.prog (gx gtab) i13 := pok mixed (cfg_p oki33 (cfg_h okh34 (cfg_nil _ _)) : CfgOk _ cfg13) F13 eqn13
/- 39 treaty/codec.known -/
def r39_0 : List Ins := [qI 2 (.mov (.k (.bool false)))]
def r39_1 : List Ins := [qI 3 (.mov 0), qI 4 (.bin .geq 3 (kI 1)), qI 5 (.mov 4), qT 6 5 (.mov 0), qT 7 5 (.bin .leq 6 (kI 5)), qI 8 (.pick 5 7 (.k (.bool false))), qI 2 (.mov 8)]
def x39 : XC := (.seq (.ops false r39_0) (.seq (.ops false r39_1) .ret))
theorem F39 : Fn Try.prog 39 9 x39.er [.t 2] := ⟨Try.f39, hcl, Try.func39, by kernel_rfl, by kernel_rfl, by kernel_rfl, by kernel_rfl⟩
noncomputable def m39 (a0 : Int) : Option (Bool × Unit) :=
 some (cond (iLe 1 a0) (iLe a0 5) false, ())
noncomputable def cfg39 : Cfg := ⟨ttab, gtab, [], []⟩
theorem eqn39 (x : Int × Unit) : xfun cfg39 x39 9 [.t 2] [(.int .i64)] [.bool] x = m39 x.1 := by kernel_rfl
noncomputable def i39 : PI := ⟨39, [(.int .i64)], [.bool], fun (x : Int × Unit) => m39 x.1⟩
theorem oki39 : POk Try.prog (gx gtab) i39 := pok mixed (cfg_nil _ _ : CfgOk _ cfg39) F39 eqn39
/- 40 treaty/codec.plain -/
def r40_0 : List Ins := [qI 1 (.box 38 6 0), qI 2 (.mov kN), qI 3 (.alloc 38 (.agg #[.int .i64 0, .slice none 0 0, .int .i64 0, .int .i64 0, .int .i64 0, .int .i64 0]))]
def r40_1 : List Ins := [qI 5 (.faddr 0 1), qI 6 (.load 1 false 5), qI 7 (.build [.int .i64 0, .slice none 0 0, .int .i64 0, .int .i64 0, .int .i64 0, .int .i64 0] [(0, 1, 6)]), qI 4 (.alloc 38 (.agg #[.int .i64 0, .slice none 0 0, .int .i64 0, .int .i64 0, .int .i64 0, .int .i64 0])), qN (.store 6 4 7)]
def r40_2 : List Ins := [qI 8 (.faddr 0 1), qI 9 (.load 1 false 8)]
def r40_3 : List Ins := [qI 11 (.bin .eql 9 (kI 3)), qI 10 (.mov 11)]
def r40_4 : List (Nat × Ins) := [(0, qI 12 (.faddr 2 1)),
(0, qI 13 (.load 1 false 12)),
(0, qI 14 (.faddr 4 1)),
(1, qI 15 (.load 1 false 14)),
(0, qI 16 (.faddr 2 4)),
(2, qN (.store 1 16 13)),
(0, qI 17 (.faddr 4 4)),
(0, qN (.store 1 17 15))]
def r40_5 : List (Nat × Ins) := [(0, qI 18 (.faddr 2 1)),
(0, qI 19 (.load 1 false 18)),
(0, qI 20 (.faddr 4 1)),
(0, qI 21 (.load 1 false 20)),
(2, qI 22 (.bslice 3 1 [19, 21])),
(1, qI 23 (.load 6 true 4)),
(0, qI 2 (.mov 22)),
(0, qN (.store 6 3 23))]
def r40_6 : List Ins := [qI 25 (.bin .eql 9 (kI 4)), qI 24 (.mov 25)]
def r40_7 : List (Nat × Ins) := [(0, qI 26 (.faddr 2 1)),
(0, qI 27 (.load 1 false 26)),
(0, qI 28 (.faddr 4 1)),
(1, qI 29 (.load 1 false 28)),
(0, qI 30 (.faddr 5 1)),
(1, qI 31 (.load 1 false 30)),
(0, qI 32 (.faddr 2 4)),
(2, qN (.store 1 32 27)),
(0, qI 33 (.faddr 4 4)),
(2, qN (.store 1 33 29)),
(0, qI 34 (.faddr 5 4)),
(0, qN (.store 1 34 31))]
def r40_8 : List (Nat × Ins) := [(0, qI 35 (.faddr 2 1)),
(0, qI 36 (.load 1 false 35)),
(0, qI 37 (.faddr 4 1)),
(0, qI 38 (.load 1 false 37)),
(0, qI 39 (.faddr 5 1)),
(0, qI 40 (.load 1 false 39)),
(2, qI 41 (.bslice 3 1 [36, 38, 40])),
(1, qI 42 (.load 6 true 4)),
(0, qI 2 (.mov 41)),
(0, qN (.store 6 3 42))]
def r40_9 : List Ins := [qI 44 (.bin .eql 9 (kI 5)), qI 43 (.mov 44)]
def r40_10 : List (Nat × Ins) := [(0, qI 45 (.faddr 2 1)),
(0, qI 46 (.load 1 false 45)),
(0, qI 47 (.faddr 3 1)),
(1, qI 48 (.load 1 false 47)),
(0, qI 49 (.faddr 2 4)),
(2, qN (.store 1 49 46)),
(0, qI 50 (.faddr 3 4)),
(0, qN (.store 1 50 48))]
def r40_11 : List (Nat × Ins) := [(0, qI 51 (.faddr 2 1)),
(0, qI 52 (.load 1 false 51)),
(0, qI 53 (.faddr 3 1)),
(0, qI 54 (.load 1 false 53)),
(2, qI 55 (.bslice 3 1 [52, 54])),
(1, qI 56 (.load 6 true 4)),
(0, qI 2 (.mov 55)),
(0, qN (.store 6 3 56))]
def r40_12 : List Ins := [qI 57 (.load 6 true 4), qI 2 (.mov kN), qN (.store 6 3 57)]
def x40 : XC := (.seq (.ops false r40_0) (.seq (.ops false r40_1) (.seq (.seq (.ops false r40_2) (.block 0 (.seq (.ops false r40_3) (.cond (.t 10) (.seq (.rops [2] r40_4) (.seq (.rops [] r40_5) .ret)) (.seq (.ops false r40_6) (.cond (.t 24) (.seq (.rops [2] r40_7) (.seq (.rops [] r40_8) .ret)) (.seq (.ops false r40_9) (.cond (.t 43) (.seq (.rops [2] r40_10) (.seq (.rops [] r40_11) .ret)) .skip)))))))) (.seq (.ops true r40_12) .ret))))
theorem F40 : Fn Try.prog 40 58 x40.er [.t 2, .c 3 6 true] := ⟨Try.f40, hcl, Try.func40, by kernel_rfl, by kernel_rfl, by kernel_rfl, by kernel_rfl⟩
noncomputable def m40 (a0 : DS1) : Option ((List Int) × DS1 × Unit) :=
 cond (iEq a0.1 3)
 (some (([a0.2.2.1, a0.2.2.2.2.1] : List Int), (a0.1, ([] : List DS0), a0.2.2.1, 0, a0.2.2.2.2.1, 0, ()), ()))
 (cond (iEq a0.1 4)
 (some (([a0.2.2.1, a0.2.2.2.2.1, a0.2.2.2.2.2.1] : List Int), (a0.1, ([] : List DS0), a0.2.2.1, 0, a0.2.2.2.2.1, a0.2.2.2.2.2.1, ()), ()))
 (cond (iEq a0.1 5)
 (some (([a0.2.2.1, a0.2.2.2.1] : List Int), (a0.1, ([] : List DS0), a0.2.2.1, a0.2.2.2.1, 0, 0, ()), ()))
 (some (([] : List Int), (a0.1, ([] : List DS0), 0, 0, 0, 0, ()), ()))))
noncomputable def cfg40 : Cfg := ⟨ttab, gtab, [], []⟩
theorem eqn40 (x : DS1 × Unit) : xfun cfg40 x40 58 [.t 2, .c 3 6 true] [tS1] [(.list (.int .i64)), tS1] x = m40 x.1 := by kernel_rfl
noncomputable def i40 : PI := ⟨40, [tS1], [(.list (.int .i64)), tS1], fun (x : DS1 × Unit) => m40 x.1⟩
theorem oki40 : POk Try.prog (gx gtab) i40 := pok mixed (cfg_nil _ _ : CfgOk _ cfg40) F40 eqn40
/- 34 treaty/codec.appendTo -/
def x34_1 : XC := (.seq (.ops false r34_0) (.seq (.ops false r34_1) (.seq (.seq (.ops false r34_2) (.cond (.t 10) (.ops false r34_3) .skip)) (.seq (.block 0 (.loop [.gh 0 5 (.int .u8)] ⟨32, [(5, (.int .u64))], [(0, .row 0)], [.row 5 (.int .u8) false]⟩ (.seq (.seq (.ops false r34_4) (.cond (.t 17) .skip (.exit 0))) (.block 1 (.seq (.ops false r34_5) (.ops false r34_6)))))) (.seq (.ops false r34_7) .ret)))))
theorem F34_1 : Fn Try.prog 34 32 x34_1.er [.t 4] := ⟨Try.f34, hcl, Try.func34, by kernel_rfl, by kernel_rfl, by kernel_rfl, by kernel_rfl⟩
noncomputable def m34_1 (a0 : Int) : Option ((List Int) × Unit) :=
 cond (iLe 0 1)
 (cond (iLt a0 0)
 (cond (iLe 0 1)
 (loopO (S := Int × (List Int) × Unit) (R := (List Int) × Unit) (fun s16 =>
 cond (iLe 128 s16.1)
 (cond (fits (List.length s16.2.1 + List.length ([iOr .u8 (IntKind.wrap .u8 (iAnd .u64 s16.1 127)) 128] : List Int)) 1)
 (cond (iLe 0 7)
 (some (.inl (iShr .u64 s16.1 7, s16.2.1 ++ ([iOr .u8 (IntKind.wrap .u8 (iAnd .u64 s16.1 127)) 128] : List Int), ()))) none) none)
 (Option.map Sum.inr (cond (fits (List.length s16.2.1 + List.length ([IntKind.wrap .u8 s16.1] : List Int)) 1)
 (some (s16.2.1 ++ ([IntKind.wrap .u8 s16.1] : List Int), ())) none)))
 (iSub .u64 (iShl .u64 (IntKind.wrap .u64 (iNeg .i64 a0)) 1) 1, ([] : List Int), ())) none)
 (loopO (S := Int × (List Int) × Unit) (R := (List Int) × Unit) (fun s17 =>
 cond (iLe 128 s17.1)
 (cond (fits (List.length s17.2.1 + List.length ([iOr .u8 (IntKind.wrap .u8 (iAnd .u64 s17.1 127)) 128] : List Int)) 1)
 (cond (iLe 0 7)
 (some (.inl (iShr .u64 s17.1 7, s17.2.1 ++ ([iOr .u8 (IntKind.wrap .u8 (iAnd .u64 s17.1 127)) 128] : List Int), ()))) none) none)
 (Option.map Sum.inr (cond (fits (List.length s17.2.1 + List.length ([IntKind.wrap .u8 s17.1] : List Int)) 1)
 (some (s17.2.1 ++ ([IntKind.wrap .u8 s17.1] : List Int), ())) none)))
 (iShl .u64 (IntKind.wrap .u64 a0) 1, ([] : List Int), ()))) none
noncomputable def cfg34_1 : Cfg := ⟨ttab, gtab, [], []⟩
def ish34_1 : Sh := ⟨2, [(1, (.int .i64))], [(0, .nil)], []⟩
def osh34_1 : Sh := ⟨1, [], [(0, .row 0)], [.row 5 (.int .u8) false]⟩
theorem eqn34_1 (x : Int × Unit) : xfunH cfg34_1 x34_1 32 [.t 4] [] ish34_1 osh34_1 x = m34_1 x.1 := by kernel_rfl
noncomputable def h34_1 : HI := ⟨34, ish34_1, osh34_1, fun (x : Int × Unit) => m34_1 x.1⟩
theorem okh34_1 : HOk Try.prog (gx gtab) h34_1 := hok mixed (cfg_nil _ _ : CfgOk _ cfg34_1) F34_1 eqn34_1
/- 41 treaty/codec.encode -/
def r41_0 : List Ins := [qI 2 (.mov kN), qI 3 (.mov (kI 0))]
def r41_1 : List Ins := [qI 4 (.mov kN)]
def r41_2 : List Ins := [qI 7 (.mov 0), qI 8 (.len 7), qI 9 (.mov (kI 0))]
def r41_3 : List Ins := [qI 10 (.bin .lss 9 8)]
def r41_4 : List Ins := [qI 11 (.iaddr 1 7 9), qI 12 (.load 1 false 11), qI 6 (.mov 12)]
def r41_5 : List Ins := [qI 13 (.mov 6), qI 14 (.call (.fn 33) [13]), qI 15 (.un .not 14)]
def r41_6 : List Ins := [qI 2 (.mov kN), qI 3 (.mov (kI 1))]
def r41_7 : List Ins := [qI 16 (.mov 4), qI 17 (.mov 6), qI 18 (.call (.fn 34) [16, 17]), qI 4 (.mov 18)]
def r41_8 : List Ins := [qI 19 (.bin .add 9 (kI 1)), qI 9 (.mov 19)]
def r41_9 : List Ins := [qI 20 (.mov 4), qI 2 (.mov 20), qI 3 (.mov (kI 0))]
def x41 : XC := (.seq (.ops false r41_0) (.seq (.ops false r41_1) (.seq (.seq (.ops false r41_2) (.block 0 (.loop [.gh 4 5 (.int .u8)] ⟨21, [(7, (.list (.int .i64))), (8, (.int .i64)), (9, (.int .i64))], [(4, .row 0)], [.row 5 (.int .u8) false]⟩ (.seq (.ops false r41_3) (.seq (.cond (.t 10) .skip (.exit 0)) (.seq (.block 1 (.seq (.ops false r41_4) (.seq (.seq (.ops false r41_5) (.cond (.t 15) (.seq (.ops false r41_6) .ret) .skip)) (.ops false r41_7)))) (.ops false r41_8))))))) (.seq (.ops false r41_9) .ret))))
theorem F41 : Fn Try.prog 41 21 x41.er [.t 2, .t 3] := ⟨Try.f41, hcl, Try.func41, by kernel_rfl, by kernel_rfl, by kernel_rfl, by kernel_rfl⟩
noncomputable def m41 (a0 : List Int) : Option ((List Int) × Int × Unit) :=
 loopO (S := (List Int) × Int × Int × (List Int) × Unit) (R := (List Int) × Int × Unit) (fun s19 =>
 cond (iLt s19.2.2.1 s19.2.1)
 (cond (bnd s19.2.2.1 (lenI s19.1))
 ((m33 (atI s19.1 s19.2.2.1 0)).bind fun y20 =>
 cond (not y20.1)
 (some (.inr (([] : List Int), 1, ())))
 ((m34 (atI s19.1 s19.2.2.1 0) s19.2.2.2.1).bind fun y21 =>
 some (.inl (s19.1, s19.2.1, iAdd .i64 s19.2.2.1 1, y21.1, ())))) none)
 (some (.inr (s19.2.2.2.1, 0, ()))))
 (a0, lenI a0, 0, ([] : List Int), ())
noncomputable def cfg41 : Cfg := ⟨ttab, gtab, [i33], [h34]⟩
theorem eqn41 (x : (List Int) × Unit) : xfun cfg41 x41 21 [.t 2, .t 3] [(.list (.int .i64))] [(.list (.int .u8)), (.int .i64)] x = m41 x.1 := by kernel_rfl
noncomputable def i41 : PI := ⟨41, [(.list (.int .i64))], [(.list (.int .u8)), (.int .i64)], fun (x : (List Int) × Unit) => m41 x.1⟩
theorem oki41 : POk Try.prog (gx gtab) i41 := pok mixed (cfg_p oki33 (cfg_h okh34 (cfg_nil _ _)) : CfgOk _ cfg41) F41 eqn41
/- 19 treaty/codec.EncodeCommand -/
def r19_0 : List Ins := [qI 1 (.box 38 6 0), qI 2 (.mov kN), qI 3 (.mov (kI 0))]
def r19_1 : List Ins := [qI 8 (.faddr 0 1), qI 9 (.load 1 false 8), qI 10 (.call (.fn 39) [9]), qI 11 (.un .not 10)]
def r19_2 : List Ins := [qI 2 (.mov kN), qI 3 (.mov (kI 11))]
def r19_3 : List Ins := [qI 13 (.load 6 true 1), qI 14 (.call (.fn 40) [13]), qI 12 (.mov 14), qI 15 (.ext 0 12), qI 16 (.ext 1 12), qI 5 (.alloc 38 (.agg #[.int .i64 0, .slice none 0 0, .int .i64 0, .int .i64 0, .int .i64 0, .int .i64 0])), qI 4 (.mov 15), qN (.store 6 5 16)]
def r19_4 : List Ins := [qI 17 (.faddr 2 1), qI 18 (.load 1 false 17), qI 19 (.faddr 2 5), qI 20 (.load 1 false 19), qI 21 (.bin .neq 18 20), qI 22 (.mov 21), qF 23 22 (.faddr 3 1), qF 24 22 (.load 1 false 23), qF 25 22 (.faddr 3 5), qF 26 22 (.load 1 false 25), qF 27 22 (.bin .neq 24 26), qI 28 (.pick 22 (.k (.bool true)) 27), qI 29 (.mov 28), qF 30 29 (.faddr 4 1), qF 31 29 (.load 1 false 30), qF 32 29 (.faddr 4 5), qF 33 29 (.load 1 false 32), qF 34 29 (.bin .neq 31 33), qI 35 (.pick 29 (.k (.bool true)) 34), qI 36 (.mov 35), qF 37 36 (.faddr 5 1), qF 38 36 (.load 1 false 37), qF 39 36 (.faddr 5 5), qF 40 36 (.load 1 false 39), qF 41 36 (.bin .neq 38 40), qI 42 (.pick 36 (.k (.bool true)) 41)]
def r19_5 : List Ins := [qI 2 (.mov kN), qI 3 (.mov (kI 20))]
def r19_6 : List Ins := [qI 43 (.faddr 0 1), qI 44 (.load 1 false 43), qI 45 (.bin .neq 44 (kI 1))]
def r19_7 : List Ins := [qI 46 (.faddr 1 1), qI 47 (.load 1 false 46), qI 48 (.len 47), qI 49 (.bin .gtr 48 (kI 0))]
def r19_8 : List Ins := [qI 2 (.mov kN), qI 3 (.mov (kI 20))]
def r19_9 : List Ins := [qI 50 (.faddr 0 1), qI 51 (.load 1 false 50), qI 52 (.bslice 3 1 [51]), qI 53 (.mov 4), qI 54 (.app 3 1 8 52 53), qI 55 (.call (.fn 41) [54]), qI 56 (.ext 0 55), qI 57 (.ext 1 55), qI 2 (.mov 56), qI 3 (.mov 57)]
def r19_10 : List Ins := [qI 58 (.faddr 1 1), qI 59 (.load 1 false 58), qI 60 (.len 59), qI 61 (.bin .gtr 60 (kI 64))]
def r19_11 : List Ins := [qI 2 (.mov kN), qI 3 (.mov (kI 4))]
def r19_12 : List Ins := [qI 62 (.faddr 0 1), qI 63 (.load 1 false 62), qI 64 (.faddr 1 1), qI 65 (.load 1 false 64), qI 66 (.len 65), qI 67 (.bslice 3 1 [63, 66]), qI 4 (.mov 67)]
def r19_13 : List Ins := [qI 68 (.faddr 1 1), qI 69 (.load 1 false 68), qI 70 (.len 69), qI 71 (.mov (kI 0))]
def r19_14 : List Ins := [qI 72 (.bin .lss 71 70)]
def r19_15 : List Ins := [qI 73 (.iaddr 10 69 71), qI 74 (.load 10 true 73), qI 7 (.alloc 76 (.agg #[.int .i64 0, .int .i64 0, .int .i64 0, .int .i64 0, .int .i64 0, .int .i64 0, .int .i64 0, .int .i64 0, .int .i64 0, .int .i64 0])), qN (.store 10 7 74)]
def r19_16 : List Ins := [qI 75 (.mov 4), qI 76 (.faddr 0 7), qI 77 (.load 1 false 76), qI 78 (.faddr 1 7), qI 79 (.load 1 false 78), qI 80 (.faddr 2 7), qI 81 (.load 1 false 80), qI 82 (.faddr 3 7), qI 83 (.load 1 false 82), qI 84 (.faddr 4 7), qI 85 (.load 1 false 84), qI 86 (.faddr 5 7), qI 87 (.load 1 false 86), qI 88 (.faddr 6 7), qI 89 (.load 1 false 88), qI 90 (.faddr 7 7), qI 91 (.load 1 false 90), qI 92 (.faddr 8 7), qI 93 (.load 1 false 92), qI 94 (.faddr 9 7), qI 95 (.load 1 false 94), qI 96 (.bslice 3 1 [77, 79, 81, 83, 85, 87, 89, 91, 93, 95]), qI 97 (.app 3 1 8 75 96), qI 4 (.mov 97)]
def r19_17 : List Ins := [qI 98 (.bin .add 71 (kI 1)), qI 71 (.mov 98)]
def r19_18 : List Ins := [qI 99 (.mov 4), qI 100 (.call (.fn 41) [99]), qI 101 (.ext 0 100), qI 102 (.ext 1 100), qI 2 (.mov 101), qI 3 (.mov 102)]
def x19 : XC := (.seq (.ops false r19_0) (.seq (.seq (.ops false r19_1) (.cond (.t 11) (.seq (.ops false r19_2) .ret) .skip)) (.seq (.ops false r19_3) (.seq (.seq (.ops false r19_4) (.cond (.t 42) (.seq (.ops false r19_5) .ret) .skip)) (.seq (.seq (.ops false r19_6) (.cond (.t 45) (.seq (.seq (.ops false r19_7) (.cond (.t 49) (.seq (.ops false r19_8) .ret) .skip)) (.seq (.ops false r19_9) .ret)) .skip)) (.seq (.seq (.ops false r19_10) (.cond (.t 61) (.seq (.ops false r19_11) .ret) .skip)) (.seq (.ops false r19_12) (.seq (.seq (.ops false r19_13) (.block 0 (.loop [] ⟨103, [(69, (.list tS0)), (70, (.int .i64)), (71, (.int .i64))], [(4, .row 0)], [.row 3 (.int .i64) false]⟩ (.seq (.ops false r19_14) (.seq (.cond (.t 72) .skip (.exit 0)) (.seq (.block 1 (.seq (.ops false r19_15) (.ops false r19_16))) (.ops false r19_17))))))) (.seq (.ops false r19_18) .ret)))))))))
theorem F19 : Fn Try.prog 19 103 x19.er [.t 2, .t 3] := ⟨Try.f19, hcl, Try.func19, by kernel_rfl, by kernel_rfl, by kernel_rfl, by kernel_rfl⟩
noncomputable def m19 (a0 : DS1) : Option ((List Int) × Int × Unit) :=
 (m39 a0.1).bind fun y25 =>
 cond (not y25.1)
 (some (([] : List Int), 11, ()))
 ((m40 (a0.1, a0.2.1, a0.2.2.1, a0.2.2.2.1, a0.2.2.2.2.1, a0.2.2.2.2.2.1, ())).bind fun y26 =>
 cond (cond (cond (cond (iNe a0.2.2.1 y26.2.1.2.2.1) true (iNe a0.2.2.2.1 y26.2.1.2.2.2.1)) true (iNe a0.2.2.2.2.1 y26.2.1.2.2.2.2.1)) true (iNe a0.2.2.2.2.2.1 y26.2.1.2.2.2.2.2.1))
 (some (([] : List Int), 20, ()))
 (cond (iNe a0.1 1)
 (cond (iLt 0 (lenI a0.2.1))
 (some (([] : List Int), 20, ()))
 (cond (fits (List.length ([a0.1] : List Int) + List.length y26.1) 8)
 ((m41 (([a0.1] : List Int) ++ y26.1)).bind fun y27 =>
 some (y27.1, y27.2.1, ())) none))
 (cond (iLt 64 (lenI a0.2.1))
 (some (([] : List Int), 4, ()))
 (loopO (S := (List DS0) × Int × Int × (List Int) × Unit) (R := (List Int) × Int × Unit) (fun s28 =>
 cond (iLt s28.2.2.1 s28.2.1)
 (cond (bnd s28.2.2.1 (lenI s28.1))
 (cond (fits (List.length s28.2.2.2.1 + List.length ([(atI s28.1 s28.2.2.1 (0, 0, 0, 0, 0, 0, 0, 0, 0, 0, ())).1, (atI s28.1 s28.2.2.1 (0, 0, 0, 0, 0, 0, 0, 0, 0, 0, ())).2.1, (atI s28.1 s28.2.2.1 (0, 0, 0, 0, 0, 0, 0, 0, 0, 0, ())).2.2.1, (atI s28.1 s28.2.2.1 (0, 0, 0, 0, 0, 0, 0, 0, 0, 0, ())).2.2.2.1, (atI s28.1 s28.2.2.1 (0, 0, 0, 0, 0, 0, 0, 0, 0, 0, ())).2.2.2.2.1, (atI s28.1 s28.2.2.1 (0, 0, 0, 0, 0, 0, 0, 0, 0, 0, ())).2.2.2.2.2.1, (atI s28.1 s28.2.2.1 (0, 0, 0, 0, 0, 0, 0, 0, 0, 0, ())).2.2.2.2.2.2.1, (atI s28.1 s28.2.2.1 (0, 0, 0, 0, 0, 0, 0, 0, 0, 0, ())).2.2.2.2.2.2.2.1, (atI s28.1 s28.2.2.1 (0, 0, 0, 0, 0, 0, 0, 0, 0, 0, ())).2.2.2.2.2.2.2.2.1, (atI s28.1 s28.2.2.1 (0, 0, 0, 0, 0, 0, 0, 0, 0, 0, ())).2.2.2.2.2.2.2.2.2.1] : List Int)) 8)
 (some (.inl (s28.1, s28.2.1, iAdd .i64 s28.2.2.1 1, s28.2.2.2.1 ++ ([(atI s28.1 s28.2.2.1 (0, 0, 0, 0, 0, 0, 0, 0, 0, 0, ())).1, (atI s28.1 s28.2.2.1 (0, 0, 0, 0, 0, 0, 0, 0, 0, 0, ())).2.1, (atI s28.1 s28.2.2.1 (0, 0, 0, 0, 0, 0, 0, 0, 0, 0, ())).2.2.1, (atI s28.1 s28.2.2.1 (0, 0, 0, 0, 0, 0, 0, 0, 0, 0, ())).2.2.2.1, (atI s28.1 s28.2.2.1 (0, 0, 0, 0, 0, 0, 0, 0, 0, 0, ())).2.2.2.2.1, (atI s28.1 s28.2.2.1 (0, 0, 0, 0, 0, 0, 0, 0, 0, 0, ())).2.2.2.2.2.1, (atI s28.1 s28.2.2.1 (0, 0, 0, 0, 0, 0, 0, 0, 0, 0, ())).2.2.2.2.2.2.1, (atI s28.1 s28.2.2.1 (0, 0, 0, 0, 0, 0, 0, 0, 0, 0, ())).2.2.2.2.2.2.2.1, (atI s28.1 s28.2.2.1 (0, 0, 0, 0, 0, 0, 0, 0, 0, 0, ())).2.2.2.2.2.2.2.2.1, (atI s28.1 s28.2.2.1 (0, 0, 0, 0, 0, 0, 0, 0, 0, 0, ())).2.2.2.2.2.2.2.2.2.1] : List Int), ()))) none) none)
 (Option.map Sum.inr ((m41 s28.2.2.2.1).bind fun y29 =>
 some (y29.1, y29.2.1, ()))))
 (a0.2.1, lenI a0.2.1, 0, ([a0.1, lenI a0.2.1] : List Int), ())))))
noncomputable def cfg19 : Cfg := ⟨ttab, gtab, [i39, i40, i41], []⟩
theorem eqn19 (x : DS1 × Unit) : xfun cfg19 x19 103 [.t 2, .t 3] [tS1] [(.list (.int .u8)), (.int .i64)] x = m19 x.1 := by kernel_rfl
noncomputable def i19 : PI := ⟨19, [tS1], [(.list (.int .u8)), (.int .i64)], fun (x : DS1 × Unit) => m19 x.1⟩
theorem oki19 : POk Try.prog (gx gtab) i19 := pok mixed (cfg_p oki39 (cfg_p oki40 (cfg_p oki41 (cfg_nil _ _))) : CfgOk _ cfg19) F19 eqn19
/- 16 treaty/codec.Number -/
def r16_0 : List Ins := [qI 2 (.mov (kI 0)), qI 3 (.mov (kI 0)), qI 4 (.mov (kI 0))]
def r16_1 : List Ins := [qI 7 (.mov 3), qI 8 (.mov 0), qI 9 (.len 8), qI 10 (.bin .lss 7 9), qI 11 (.mov 10), qT 12 11 (.mov 3), qT 13 11 (.bin .lss 12 (kI 10)), qI 14 (.pick 11 13 (.k (.bool false))), qI 15 (.mov 14), qT 16 15 (.mov 0), qT 17 15 (.mov 3), qT 18 15 (.iaddr 1 16 17), qT 19 15 (.load 1 false 18), qT 20 15 (.bin .and 19 (.k (.int .u8 128))), qT 21 15 (.bin .neq 20 (.k (.int .u8 0))), qI 22 (.pick 15 21 (.k (.bool false)))]
def r16_2 : List Ins := [qI 23 (.mov 3), qI 24 (.bin .add 23 (kI 1)), qI 3 (.mov 24)]
def r16_3 : List Ins := [qI 25 (.mov 3), qI 26 (.mov 0), qI 27 (.len 26), qI 28 (.bin .eql 25 27), qI 29 (.mov 28), qF 30 29 (.mov 3), qF 31 29 (.bin .eql 30 (kI 10)), qI 32 (.pick 29 (.k (.bool true)) 31), qI 33 (.mov 32), qF 34 33 (.mov 3), qF 35 33 (.bin .gtr 34 (kI 0)), qF 36 33 (.mov 35), qT 37 36 (.mov 0), qT 38 36 (.mov 3), qT 39 36 (.iaddr 1 37 38), qT 40 36 (.load 1 false 39), qT 41 36 (.bin .eql 40 (.k (.int .u8 0))), qF 42 33 (.pick 36 41 (.k (.bool false))), qI 43 (.pick 33 (.k (.bool true)) 42)]
def r16_4 : List Ins := [qI 2 (.mov (kI 0)), qI 3 (.mov (kI 0)), qI 4 (.mov (kI 5))]
def r16_5 : List Ins := [qI 44 (.mov 3), qI 45 (.bin .add 44 (kI 1)), qI 3 (.mov 45)]
def r16_6 : List Ins := [qI 5 (.mov (.k (.int .u64 0)))]
def r16_7 : List Ins := [qI 46 (.mov 3), qI 47 (.bin .sub 46 (kI 1)), qI 6 (.mov 47)]
def r16_8 : List Ins := [qI 48 (.mov 6), qI 49 (.bin .geq 48 (kI 0))]
def r16_9 : List Ins := [qI 52 (.mov 5), qI 53 (.bin .geq 52 (.k (.int .u64 144115188075855872)))]
def r16_10 : List Ins := [qI 2 (.mov (kI 0)), qI 3 (.mov (kI 0)), qI 4 (.mov (kI 1))]
def r16_11 : List Ins := [qI 54 (.mov 5), qI 55 (.bin .shl 54 (.k (.int .u64 7))), qI 56 (.mov 0), qI 57 (.mov 6), qI 58 (.iaddr 1 56 57), qI 59 (.load 1 false 58), qI 60 (.bin .and 59 (.k (.int .u8 127))), qI 61 (.conv .u64 60), qI 62 (.bin .or 55 61), qI 5 (.mov 62)]
def r16_12 : List Ins := [qI 50 (.mov 6), qI 51 (.bin .sub 50 (kI 1)), qI 6 (.mov 51)]
def r16_13 : List Ins := [qI 63 (.mov 5), qI 64 (.bin .gtr 63 (.k (.int .u64 35184372088832)))]
def r16_14 : List Ins := [qI 2 (.mov (kI 0)), qI 3 (.mov (kI 0)), qI 4 (.mov (kI 1))]
def r16_15 : List Ins := [qI 65 (.mov 5), qI 66 (.bin .shr 65 (.k (.int .u64 1))), qI 67 (.conv .i64 66), qI 2 (.mov 67)]
def r16_16 : List Ins := [qI 68 (.mov 5), qI 69 (.bin .and 68 (.k (.int .u64 1))), qI 70 (.bin .neq 69 (.k (.int .u64 0)))]
def r16_17 : List Ins := [qI 71 (.mov 2), qI 72 (.un .neg 71), qI 73 (.bin .sub 72 (kI 1)), qI 2 (.mov 73)]
def r16_18 : List Ins := [qI 74 (.mov 2), qI 75 (.mov 3), qI 2 (.mov 74), qI 3 (.mov 75), qI 4 (.mov (kI 0))]
def x16 : XC := (.seq (.ops false r16_0) (.seq (.block 0 (.loop [] ⟨76, [(0, (.list (.int .u8))), (3, (.int .i64))], [], []⟩ (.seq (.seq (.ops false r16_1) (.cond (.t 22) .skip (.exit 0))) (.block 1 (.ops false r16_2))))) (.seq (.seq (.ops false r16_3) (.cond (.t 43) (.seq (.ops false r16_4) .ret) .skip)) (.seq (.ops false r16_5) (.seq (.ops false r16_6) (.seq (.seq (.ops false r16_7) (.block 2 (.loop [] ⟨76, [(0, (.list (.int .u8))), (3, (.int .i64)), (5, (.int .u64)), (6, (.int .i64))], [], []⟩ (.seq (.seq (.ops false r16_8) (.cond (.t 49) .skip (.exit 2))) (.seq (.block 3 (.seq (.seq (.ops false r16_9) (.cond (.t 53) (.seq (.ops false r16_10) .ret) .skip)) (.ops false r16_11))) (.ops false r16_12)))))) (.seq (.seq (.ops false r16_13) (.cond (.t 64) (.seq (.ops false r16_14) .ret) .skip)) (.seq (.ops false r16_15) (.seq (.seq (.ops false r16_16) (.cond (.t 70) (.ops false r16_17) .skip)) (.seq (.ops false r16_18) .ret))))))))))
theorem F16 : Fn Try.prog 16 76 x16.er [.t 2, .t 3, .t 4] := ⟨Try.f16, hcl, Try.func16, by kernel_rfl, by kernel_rfl, by kernel_rfl, by kernel_rfl⟩
noncomputable def m16 (a0 : List Int) : Option (Int × Int × Int × Unit) :=
 loopO (S := (List Int) × Int × Unit) (R := Int × Int × Int × Unit) (fun s33 =>
 cond (or (bnd s33.2.1 (lenI s33.1)) (not (bEq (cond (iLt s33.2.1 (lenI s33.1)) (iLt s33.2.1 10) false) true)))
 (cond (cond (cond (iLt s33.2.1 (lenI s33.1)) (iLt s33.2.1 10) false) (iNe (iAnd .u8 (atI s33.1 s33.2.1 0) 128) 0) false)
 (some (.inl (s33.1, iAdd .i64 s33.2.1 1, ())))
 (Option.map Sum.inr (cond (cond (iEq s33.2.1 (lenI s33.1)) true (iEq s33.2.1 10))
 (some (0, 0, 5, ()))
 (cond (or (bnd s33.2.1 (lenI s33.1)) (not (bEq (iLt 0 s33.2.1) true)))
 (cond (cond (iLt 0 s33.2.1) (iEq (atI s33.1 s33.2.1 0) 0) false)
 (some (0, 0, 5, ()))
 (loopO (S := (List Int) × Int × Int × Int × Unit) (R := Int × Int × Int × Unit) (fun s34 =>
 cond (iLe 0 s34.2.2.2.1)
 (cond (iLe 144115188075855872 s34.2.2.1)
 (some (.inr (0, 0, 1, ())))
 (cond (iLe 0 7)
 (cond (bnd s34.2.2.2.1 (lenI s34.1))
 (some (.inl (s34.1, s34.2.1, iOr .u64 (iShl .u64 s34.2.2.1 7) (IntKind.wrap .u64 (iAnd .u8 (atI s34.1 s34.2.2.2.1 0) 127)), iSub .i64 s34.2.2.2.1 1, ()))) none) none))
 (Option.map Sum.inr (cond (iLt 35184372088832 s34.2.2.1)
 (some (0, 0, 1, ()))
 (cond (iLe 0 1)
 (cond (iNe (iAnd .u64 s34.2.2.1 1) 0)
 (some (iSub .i64 (iNeg .i64 (IntKind.wrap .i64 (iShr .u64 s34.2.2.1 1))) 1, s34.2.1, 0, ()))
 (some (IntKind.wrap .i64 (iShr .u64 s34.2.2.1 1), s34.2.1, 0, ()))) none))))
 (s33.1, iAdd .i64 s33.2.1 1, 0, iSub .i64 (iAdd .i64 s33.2.1 1) 1, ()))) none)))) none)
 (a0, 0, ())
noncomputable def cfg16 : Cfg := ⟨ttab, gtab, [], []⟩
theorem eqn16 (x : (List Int) × Unit) : xfun cfg16 x16 76 [.t 2, .t 3, .t 4] [(.list (.int .u8))] [(.int .i64), (.int .i64), (.int .i64)] x = m16 x.1 := by kernel_rfl
noncomputable def i16 : PI := ⟨16, [(.list (.int .u8))], [(.int .i64), (.int .i64), (.int .i64)], fun (x : (List Int) × Unit) => m16 x.1⟩
theorem oki16 : POk Try.prog (gx gtab) i16 := pok mixed (cfg_nil _ _ : CfgOk _ cfg16) F16 eqn16
/- 44 (*treaty/codec.reader).next -/
def r44_0 : List Ins := [qI 2 (.mov (kI 0))]
def r44_1 : List Ins := [qI 6 (.mov 0), qI 7 (.nck 6), qI 8 (.faddr 1 7), qI 9 (.load 1 false 8), qI 10 (.bin .neq 9 (kI 0))]
def r44_2 : List Ins := [qI 2 (.mov (kI 0))]
def r44_3 : List Ins := [qI 12 (.mov 0), qI 13 (.nck 12), qI 14 (.faddr 0 13), qI 15 (.load 1 false 14), qI 16 (.call (.fn 16) [15]), qI 11 (.mov 16), qI 17 (.ext 0 11), qI 18 (.ext 1 11), qI 19 (.ext 2 11), qI 3 (.mov 17), qI 4 (.mov 18), qI 5 (.mov 19)]
def r44_4 : List Ins := [qI 20 (.mov 5), qI 21 (.bin .neq 20 (kI 0))]
def r44_5 : List Ins := [qI 22 (.mov 0), qI 23 (.mov 5), qI 24 (.nck 22), qI 25 (.faddr 1 24), qN (.store 1 25 23)]
def r44_6 : List Ins := [qI 2 (.mov (kI 0))]
def r44_7 : List Ins := [qI 26 (.mov 0), qI 27 (.mov 0), qI 28 (.nck 27), qI 29 (.faddr 0 28), qI 30 (.load 1 false 29), qI 31 (.mov 4), qI 32 (.slice 1 30 (some 31) none), qI 33 (.nck 26), qI 34 (.faddr 0 33), qN (.store 1 34 32)]
def r44_8 : List Ins := [qI 35 (.mov 3), qI 2 (.mov 35)]
def x44 : XC := (.seq (.ops false r44_0) (.seq (.seq (.ops false r44_1) (.cond (.t 10) (.seq (.ops false r44_2) .ret) .skip)) (.seq (.ops false r44_3) (.seq (.seq (.ops false r44_4) (.cond (.t 21) (.seq (.ops false r44_5) (.seq (.ops false r44_6) .ret)) .skip)) (.seq (.ops false r44_7) (.seq (.ops false r44_8) .ret))))))
theorem F44 : Fn Try.prog 44 36 x44.er [.t 2] := ⟨Try.f44, hcl, Try.func44, by kernel_rfl, by kernel_rfl, by kernel_rfl, by kernel_rfl⟩
noncomputable def m44 (a0 : List Int) (a1 : Int) : Option (Int × (List Int) × Int × Unit) :=
 cond (iNe a1 0)
 (some (0, a0, a1, ()))
 ((m16 a0).bind fun y36 =>
 cond (iNe y36.2.2.1 0)
 (some (0, a0, y36.2.2.1, ()))
 (cond (cutOk y36.2.1 ((List.length a0 : Nat) : Int) (List.length a0))
 (some (y36.1, cutL y36.2.1 ((List.length a0 : Nat) : Int) a0, a1, ())) none))
noncomputable def cfg44 : Cfg := ⟨ttab, gtab, [i16], []⟩
def ish44 : Sh := ⟨1, [], [(0, .ptr 0 0 0)], [.box 80 [.d (.list (.int .u8)), .d (.int .i64)]]⟩
def osh44 : Sh := ⟨1, [(0, (.int .i64))], [], [.box 80 [.d (.list (.int .u8)), .d (.int .i64)]]⟩
theorem eqn44 (x : (List Int) × Int × Unit) : xfunH cfg44 x44 36 [.t 2] [] ish44 osh44 x = m44 x.1 x.2.1 := by kernel_rfl
noncomputable def h44 : HI := ⟨44, ish44, osh44, fun (x : (List Int) × Int × Unit) => m44 x.1 x.2.1⟩
theorem okh44 : HOk Try.prog (gx gtab) h44 := hok mixed (cfg_p oki16 (cfg_nil _ _) : CfgOk _ cfg44) F44 eqn44
/- 53 (*treaty/codec.reader).count -/
def r53_0 : List Ins := [qI 4 (.mov (kI 0))]
def r53_1 : List Ins := [qI 6 (.mov 0), qI 7 (.call (.fn 44) [6]), qI 5 (.mov 7)]
def r53_2 : List Ins := [qI 8 (.mov 0), qI 9 (.nck 8), qI 10 (.faddr 1 9), qI 11 (.load 1 false 10), qI 12 (.bin .eql 11 (kI 0)), qI 13 (.mov 12), qT 14 13 (.mov 5), qT 15 13 (.bin .lss 14 (kI 0)), qT 16 13 (.mov 15), qF 17 16 (.mov 5), qF 18 16 (.mov 1), qF 19 16 (.bin .gtr 17 18), qT 20 13 (.pick 16 (.k (.bool true)) 19), qI 21 (.pick 13 20 (.k (.bool false)))]
def r53_3 : List Ins := [qI 22 (.mov 0), qI 23 (.nck 22), qI 24 (.faddr 1 23), qN (.store 1 24 (kI 4))]
def r53_4 : List Ins := [qI 25 (.mov 0), qI 26 (.nck 25), qI 27 (.faddr 1 26), qI 28 (.load 1 false 27), qI 29 (.bin .neq 28 (kI 0))]
def r53_5 : List Ins := [qI 4 (.mov (kI 0))]
def r53_6 : List Ins := [qI 30 (.mov 5), qI 4 (.mov 30)]
def x53 : XC := (.seq (.ops false r53_0) (.seq (.ops false r53_1) (.seq (.seq (.ops false r53_2) (.cond (.t 21) (.ops false r53_3) .skip)) (.seq (.seq (.ops false r53_4) (.cond (.t 29) (.seq (.ops false r53_5) .ret) .skip)) (.seq (.ops false r53_6) .ret)))))
theorem F53 : Fn Try.prog 53 31 x53.er [.t 4] := ⟨Try.f53, hcl, Try.func53, by kernel_rfl, by kernel_rfl, by kernel_rfl, by kernel_rfl⟩
noncomputable def m53 (a0 : Int) (a1 : List Int) (a2 : Int) : Option (Int × (List Int) × Int × Unit) :=
 (m44 a1 a2).bind fun y41 =>
 cond (iEq y41.2.2.1 0)
 (cond (cond (iLt y41.1 0) true (iLt a0 y41.1))
 (some (0, y41.2.1, 4, ()))
 (cond (iNe y41.2.2.1 0)
 (some (0, y41.2.1, y41.2.2.1, ()))
 (some (y41.1, y41.2.1, y41.2.2.1, ()))))
 (cond (iNe y41.2.2.1 0)
 (some (0, y41.2.1, y41.2.2.1, ()))
 (some (y41.1, y41.2.1, y41.2.2.1, ())))
noncomputable def cfg53 : Cfg := ⟨ttab, gtab, [], [h44]⟩
def ish53 : Sh := ⟨2, [(1, (.int .i64))], [(0, .ptr 0 0 0)], [.box 80 [.d (.list (.int .u8)), .d (.int .i64)]]⟩
def osh53 : Sh := ⟨1, [(0, (.int .i64))], [], [.box 80 [.d (.list (.int .u8)), .d (.int .i64)]]⟩
theorem eqn53 (x : Int × (List Int) × Int × Unit) : xfunH cfg53 x53 31 [.t 4] [] ish53 osh53 x = m53 x.1 x.2.1 x.2.2.1 := by kernel_rfl
noncomputable def h53 : HI := ⟨53, ish53, osh53, fun (x : Int × (List Int) × Int × Unit) => m53 x.1 x.2.1 x.2.2.1⟩
theorem okh53 : HOk Try.prog (gx gtab) h53 := hok mixed (cfg_h okh44 (cfg_nil _ _) : CfgOk _ cfg53) F53 eqn53
/- 45 (*treaty/codec.reader).losses -/
def r45_0 : List Ins := [qI 2 (.mov kN)]
def r45_1 : List Ins := [qI 3 (.mov kN)]
def r45_2 : List Ins := [qI 8 (.mov 0), qI 9 (.call (.fn 53) [8, (kI 64)]), qI 4 (.mov 9)]
def r45_3 : List Ins := [qI 10 (.mov 4), qI 11 (.bin .gtr 10 (kI 0)), qI 12 (.mov 11), qT 13 12 (.mov 0), qT 14 12 (.nck 13), qT 15 12 (.faddr 1 14), qT 16 12 (.load 1 false 15), qT 17 12 (.bin .eql 16 (kI 0)), qI 18 (.pick 12 17 (.k (.bool false)))]
def r45_4 : List Ins := [qI 5 (.alloc 76 (.agg #[.int .i64 0, .int .i64 0, .int .i64 0, .int .i64 0, .int .i64 0, .int .i64 0, .int .i64 0, .int .i64 0, .int .i64 0, .int .i64 0]))]
def r45_5 : List Ins := [qI 21 (.faddr 0 5), qI 22 (.faddr 1 5), qI 23 (.faddr 2 5), qI 24 (.faddr 3 5), qI 25 (.faddr 4 5), qI 26 (.faddr 5 5), qI 27 (.faddr 6 5), qI 28 (.faddr 7 5), qI 29 (.faddr 8 5), qI 30 (.faddr 9 5), qI 31 (.bvec 95 [21, 22, 23, 24, 25, 26, 27, 28, 29, 30]), qI 32 (.len 31), qI 33 (.mov (kI 0))]
def r45_6 : List Ins := [qI 34 (.bin .lss 33 32)]
def r45_7 : List Ins := [qI 35 (.iaddr 1 31 33), qI 36 (.load 1 false 35), qI 7 (.mov 36)]
def r45_8 : List Ins := [qI 37 (.mov 7), qI 38 (.mov 0), qI 39 (.call (.fn 44) [38]), qI 40 (.nck 37), qN (.store 1 40 39)]
def r45_9 : List Ins := [qI 41 (.bin .add 33 (kI 1)), qI 33 (.mov 41)]
def r45_10 : List Ins := [qI 42 (.mov 3), qI 43 (.load 10 true 5), qI 44 (.bslice 76 10 [43]), qI 45 (.app 76 10 80 42 44), qI 3 (.mov 45)]
def r45_11 : List Ins := [qI 19 (.mov 4), qI 20 (.bin .sub 19 (kI 1)), qI 4 (.mov 20)]
def r45_12 : List Ins := [qI 46 (.mov 3), qI 2 (.mov 46)]
def x45 : XC := (.seq (.ops false r45_0) (.seq (.ops false r45_1) (.seq (.seq (.ops false r45_2) (.block 0 (.loop [.gh 3 76 tS0] ⟨47, [(4, (.int .i64))], [(0, .ptr 0 0 0), (3, .row 1)], [.box 80 [.d (.list (.int .u8)), .d (.int .i64)], .row 76 tS0 false]⟩ (.seq (.seq (.ops false r45_3) (.cond (.t 18) .skip (.exit 0))) (.seq (.block 1 (.seq (.ops false r45_4) (.seq (.seq (.ops false r45_5) (.block 2 (.loopU 11 (.seq (.ops false r45_6) (.seq (.cond (.t 34) .skip (.exit 2)) (.seq (.block 3 (.seq (.ops false r45_7) (.ops false r45_8))) (.ops false r45_9))))))) (.ops false r45_10)))) (.ops false r45_11)))))) (.seq (.ops false r45_12) .ret))))
theorem F45 : Fn Try.prog 45 47 x45.er [.t 2] := ⟨Try.f45, hcl, Try.func45, by kernel_rfl, by kernel_rfl, by kernel_rfl, by kernel_rfl⟩
noncomputable def m45 (a0 : List Int) (a1 : Int) : Option ((List Int) × Int × (List DS0) × Unit) :=
 (m53 64 a0 a1).bind fun y66 =>
 loopO (S := Int × (List Int) × Int × (List DS0) × Unit) (R := (List Int) × Int × (List DS0) × Unit) (fun s67 =>
 cond (cond (iLt 0 s67.1) (iEq s67.2.2.1 0) false)
 ((m44 s67.2.1 s67.2.2.1).bind fun y68 =>
 (m44 y68.2.1 y68.2.2.1).bind fun y69 =>
 (m44 y69.2.1 y69.2.2.1).bind fun y70 =>
 (m44 y70.2.1 y70.2.2.1).bind fun y71 =>
 (m44 y71.2.1 y71.2.2.1).bind fun y72 =>
 (m44 y72.2.1 y72.2.2.1).bind fun y73 =>
 (m44 y73.2.1 y73.2.2.1).bind fun y74 =>
 (m44 y74.2.1 y74.2.2.1).bind fun y75 =>
 (m44 y75.2.1 y75.2.2.1).bind fun y76 =>
 (m44 y76.2.1 y76.2.2.1).bind fun y77 =>
 cond (fits (List.length s67.2.2.2.1 + List.length ([(y68.1, y69.1, y70.1, y71.1, y72.1, y73.1, y74.1, y75.1, y76.1, y77.1, ())] : List DS0)) 80)
 (some (.inl (iSub .i64 s67.1 1, y77.2.1, y77.2.2.1, s67.2.2.2.1 ++ ([(y68.1, y69.1, y70.1, y71.1, y72.1, y73.1, y74.1, y75.1, y76.1, y77.1, ())] : List DS0), ()))) none)
 (some (.inr (s67.2.1, s67.2.2.1, s67.2.2.2.1, ()))))
 (y66.1, y66.2.1, y66.2.2.1, ([] : List DS0), ())
noncomputable def cfg45 : Cfg := ⟨ttab, gtab, [], [h44, h53]⟩
def ish45 : Sh := ⟨1, [], [(0, .ptr 0 0 0)], [.box 80 [.d (.list (.int .u8)), .d (.int .i64)]]⟩
def osh45 : Sh := ⟨1, [], [(0, .row 1)], [.box 80 [.d (.list (.int .u8)), .d (.int .i64)], .row 76 tS0 false]⟩
theorem eqn45 (x : (List Int) × Int × Unit) : xfunH cfg45 x45 47 [.t 2] [.gh 2 76 tS0] ish45 osh45 x = m45 x.1 x.2.1 := by kernel_rfl
noncomputable def h45 : HI := ⟨45, ish45, osh45, fun (x : (List Int) × Int × Unit) => m45 x.1 x.2.1⟩
theorem okh45 : HOk Try.prog (gx gtab) h45 := hok mixed (cfg_h okh44 (cfg_h okh53 (cfg_nil _ _)) : CfgOk _ cfg45) F45 eqn45
/- 46 (*treaty/codec.reader).end -/
def r46_0 : List Ins := [qI 2 (.mov (kI 0))]
def r46_1 : List Ins := [qI 3 (.mov 0), qI 4 (.nck 3), qI 5 (.faddr 1 4), qI 6 (.load 1 false 5), qI 7 (.bin .eql 6 (kI 0)), qI 8 (.mov 7), qT 9 8 (.mov 0), qT 10 8 (.nck 9), qT 11 8 (.faddr 0 10), qT 12 8 (.load 1 false 11), qT 13 8 (.len 12), qT 14 8 (.bin .gtr 13 (kI 0)), qI 15 (.pick 8 14 (.k (.bool false)))]
def r46_2 : List Ins := [qI 2 (.mov (kI 5))]
def r46_3 : List Ins := [qI 16 (.mov 0), qI 17 (.nck 16), qI 18 (.faddr 1 17), qI 19 (.load 1 false 18), qI 2 (.mov 19)]
def x46 : XC := (.seq (.ops false r46_0) (.seq (.seq (.ops false r46_1) (.cond (.t 15) (.seq (.ops false r46_2) .ret) .skip)) (.seq (.ops false r46_3) .ret)))
theorem F46 : Fn Try.prog 46 20 x46.er [.t 2] := ⟨Try.f46, hcl, Try.func46, by kernel_rfl, by kernel_rfl, by kernel_rfl, by kernel_rfl⟩
noncomputable def m46 (a0 : List Int) (a1 : Int) : Option (Int × (List Int) × Int × Unit) :=
 cond (cond (iEq a1 0) (iLt 0 (lenI a0)) false)
 (some (5, a0, a1, ()))
 (some (a1, a0, a1, ()))
noncomputable def cfg46 : Cfg := ⟨ttab, gtab, [], []⟩
def ish46 : Sh := ⟨1, [], [(0, .ptr 0 0 0)], [.box 80 [.d (.list (.int .u8)), .d (.int .i64)]]⟩
def osh46 : Sh := ⟨1, [(0, (.int .i64))], [], [.box 80 [.d (.list (.int .u8)), .d (.int .i64)]]⟩
theorem eqn46 (x : (List Int) × Int × Unit) : xfunH cfg46 x46 20 [.t 2] [] ish46 osh46 x = m46 x.1 x.2.1 := by kernel_rfl
noncomputable def h46 : HI := ⟨46, ish46, osh46, fun (x : (List Int) × Int × Unit) => m46 x.1 x.2.1⟩
theorem okh46 : HOk Try.prog (gx gtab) h46 := hok mixed (cfg_nil _ _ : CfgOk _ cfg46) F46 eqn46
/- 22 treaty/codec.DecodeCommand -/
def r22_0 : List Ins := [qI 2 (.alloc 38 (.agg #[.int .i64 0, .slice none 0 0, .int .i64 0, .int .i64 0, .int .i64 0, .int .i64 0])), qI 3 (.mov (kI 0))]
def r22_1 : List Ins := [qI 7 (.mov 0), qI 8 (.build [.slice none 0 0, .int .i64 0] [(0, 1, 7)]), qI 4 (.alloc 80 (.agg #[.slice none 0 0, .int .i64 0])), qN (.store 2 4 8)]
def r22_2 : List Ins := [qI 9 (.call (.fn 44) [4]), qI 10 (.build [.int .i64 0, .slice none 0 0, .int .i64 0, .int .i64 0, .int .i64 0, .int .i64 0] [(0, 1, 9)]), qI 5 (.alloc 38 (.agg #[.int .i64 0, .slice none 0 0, .int .i64 0, .int .i64 0, .int .i64 0, .int .i64 0])), qN (.store 6 5 10)]
def r22_3 : List Ins := [qI 11 (.faddr 1 4), qI 12 (.load 1 false 11), qI 13 (.bin .eql 12 (kI 0)), qI 14 (.mov 13), qT 15 14 (.faddr 0 5), qT 16 14 (.load 1 false 15), qT 17 14 (.call (.fn 39) [16]), qT 18 14 (.un .not 17), qI 19 (.pick 14 18 (.k (.bool false)))]
def r22_4 : List Ins := [qI 20 (.faddr 1 4), qN (.store 1 20 (kI 11))]
def r22_5 : List Ins := [qI 21 (.faddr 0 5), qI 22 (.load 1 false 21)]
def r22_6 : List Ins := [qI 24 (.bin .eql 22 (kI 1)), qI 23 (.mov 24)]
def r22_7 : List Ins := [qI 25 (.call (.fn 45) [4]), qI 26 (.faddr 1 5), qN (.store 1 26 25)]
def r22_8 : List Ins := [qI 28 (.bin .eql 22 (kI 3)), qI 27 (.mov 28)]
def r22_9 : List Ins := [qI 29 (.call (.fn 44) [4]), qI 30 (.faddr 2 5), qN (.store 1 30 29)]
def r22_10 : List Ins := [qI 31 (.call (.fn 44) [4]), qI 32 (.faddr 4 5), qN (.store 1 32 31)]
def r22_11 : List Ins := [qI 34 (.bin .eql 22 (kI 4)), qI 33 (.mov 34)]
def r22_12 : List Ins := [qI 35 (.call (.fn 44) [4]), qI 36 (.faddr 2 5), qN (.store 1 36 35)]
def r22_13 : List Ins := [qI 37 (.call (.fn 44) [4]), qI 38 (.faddr 4 5), qN (.store 1 38 37)]
def r22_14 : List Ins := [qI 39 (.call (.fn 44) [4]), qI 40 (.faddr 5 5), qN (.store 1 40 39)]
def r22_15 : List Ins := [qI 42 (.bin .eql 22 (kI 5)), qI 41 (.mov 42)]
def r22_16 : List Ins := [qI 43 (.call (.fn 44) [4]), qI 44 (.faddr 2 5), qN (.store 1 44 43)]
def r22_17 : List Ins := [qI 45 (.call (.fn 44) [4]), qI 46 (.faddr 3 5), qN (.store 1 46 45)]
def r22_18 : List Ins := [qI 47 (.call (.fn 46) [4]), qI 6 (.mov 47)]
def r22_19 : List Ins := [qI 48 (.mov 6), qI 49 (.bin .neq 48 (kI 0))]
def r22_20 : List Ins := [qI 50 (.build [.int .i64 0, .slice none 0 0, .int .i64 0, .int .i64 0, .int .i64 0, .int .i64 0] []), qI 51 (.mov 6), qN (.store 6 2 50), qI 3 (.mov 51)]
def r22_21 : List Ins := [qI 52 (.load 6 true 5), qN (.store 6 2 52), qI 3 (.mov (kI 0))]
def x22 : XC := (.seq (.ops false r22_0) (.seq (.ops false r22_1) (.seq (.ops false r22_2) (.seqj [] ⟨53, [], [(2, .ptr 0 0 0), (4, .ptr 1 0 0), (5, .ptr 2 0 0)], [.box 38 [.d (.int .i64), .nil, .d (.int .i64), .d (.int .i64), .d (.int .i64), .d (.int .i64)], .box 80 [.d (.list (.int .u8)), .d (.int .i64)], .box 38 [.d (.int .i64), .nil, .d (.int .i64), .d (.int .i64), .d (.int .i64), .d (.int .i64)]]⟩ (.seq (.ops false r22_3) (.cond (.t 19) (.ops false r22_4) .skip)) (.seq (.seq (.ops false r22_5) (.block 0 (.seq (.ops false r22_6) (.cond (.t 23) (.ops false r22_7) (.seq (.ops false r22_8) (.cond (.t 27) (.seq (.ops false r22_9) (.ops false r22_10)) (.seq (.ops false r22_11) (.cond (.t 33) (.seq (.ops false r22_12) (.seq (.ops false r22_13) (.ops false r22_14))) (.seq (.ops false r22_15) (.cond (.t 41) (.seq (.ops false r22_16) (.ops false r22_17)) .skip)))))))))) (.seq (.seq (.ops false r22_18) (.seq (.ops false r22_19) (.cond (.t 49) (.seq (.ops false r22_20) .ret) .skip))) (.seq (.ops false r22_21) .ret)))))))
theorem F22 : Fn Try.prog 22 53 x22.er [.c 2 6 true, .t 3] := ⟨Try.f22, hcl, Try.func22, by kernel_rfl, by kernel_rfl, by kernel_rfl, by kernel_rfl⟩
noncomputable def m22 (a0 : List Int) : Option (DS1 × Int × Unit) :=
 (m44 a0 0).bind fun y91 =>
 joinO (S := Int × Int × Int × Int × Int × (List Int) × Int × Int × Int × Int × Int × Int × Unit) (R := DS1 × Int × Unit)
 (cond (iEq y91.2.2.1 0)
 ((m39 y91.1).bind fun y92 =>
 cond (not y92.1)
 (some (.inl (0, 0, 0, 0, 0, y91.2.1, 11, y91.1, 0, 0, 0, 0, ())))
 (some (.inl (0, 0, 0, 0, 0, y91.2.1, y91.2.2.1, y91.1, 0, 0, 0, 0, ()))))
 (some (.inl (0, 0, 0, 0, 0, y91.2.1, y91.2.2.1, y91.1, 0, 0, 0, 0, ()))))
 (fun j93 =>
 cond (iEq j93.2.2.2.2.2.2.2.1 1)
 ((m45 j93.2.2.2.2.2.1 j93.2.2.2.2.2.2.1).bind fun y94 =>
 (m46 y94.1 y94.2.1).bind fun y95 =>
 cond (iNe y95.1 0)
 (some ((0, ([] : List DS0), 0, 0, 0, 0, ()), y95.1, ()))
 (some ((j93.2.2.2.2.2.2.2.1, y94.2.2.1, j93.2.2.2.2.2.2.2.2.1, j93.2.2.2.2.2.2.2.2.2.1, j93.2.2.2.2.2.2.2.2.2.2.1, j93.2.2.2.2.2.2.2.2.2.2.2.1, ()), 0, ())))
 (cond (iEq j93.2.2.2.2.2.2.2.1 3)
 ((m44 j93.2.2.2.2.2.1 j93.2.2.2.2.2.2.1).bind fun y96 =>
 (m44 y96.2.1 y96.2.2.1).bind fun y97 =>
 (m46 y97.2.1 y97.2.2.1).bind fun y98 =>
 cond (iNe y98.1 0)
 (some ((0, ([] : List DS0), 0, 0, 0, 0, ()), y98.1, ()))
 (some ((j93.2.2.2.2.2.2.2.1, ([] : List DS0), y96.1, j93.2.2.2.2.2.2.2.2.2.1, y97.1, j93.2.2.2.2.2.2.2.2.2.2.2.1, ()), 0, ())))
 (cond (iEq j93.2.2.2.2.2.2.2.1 4)
 ((m44 j93.2.2.2.2.2.1 j93.2.2.2.2.2.2.1).bind fun y99 =>
 (m44 y99.2.1 y99.2.2.1).bind fun y100 =>
 (m44 y100.2.1 y100.2.2.1).bind fun y101 =>
 (m46 y101.2.1 y101.2.2.1).bind fun y102 =>
 cond (iNe y102.1 0)
 (some ((0, ([] : List DS0), 0, 0, 0, 0, ()), y102.1, ()))
 (some ((j93.2.2.2.2.2.2.2.1, ([] : List DS0), y99.1, j93.2.2.2.2.2.2.2.2.2.1, y100.1, y101.1, ()), 0, ())))
 (cond (iEq j93.2.2.2.2.2.2.2.1 5)
 ((m44 j93.2.2.2.2.2.1 j93.2.2.2.2.2.2.1).bind fun y103 =>
 (m44 y103.2.1 y103.2.2.1).bind fun y104 =>
 (m46 y104.2.1 y104.2.2.1).bind fun y105 =>
 cond (iNe y105.1 0)
 (some ((0, ([] : List DS0), 0, 0, 0, 0, ()), y105.1, ()))
 (some ((j93.2.2.2.2.2.2.2.1, ([] : List DS0), y103.1, y104.1, j93.2.2.2.2.2.2.2.2.2.2.1, j93.2.2.2.2.2.2.2.2.2.2.2.1, ()), 0, ())))
 ((m46 j93.2.2.2.2.2.1 j93.2.2.2.2.2.2.1).bind fun y106 =>
 cond (iNe y106.1 0)
 (some ((0, ([] : List DS0), 0, 0, 0, 0, ()), y106.1, ()))
 (some ((j93.2.2.2.2.2.2.2.1, ([] : List DS0), j93.2.2.2.2.2.2.2.2.1, j93.2.2.2.2.2.2.2.2.2.1, j93.2.2.2.2.2.2.2.2.2.2.1, j93.2.2.2.2.2.2.2.2.2.2.2.1, ()), 0, ())))))))
noncomputable def cfg22 : Cfg := ⟨ttab, gtab, [i39], [h44, h45, h46]⟩
theorem eqn22 (x : (List Int) × Unit) : xfun cfg22 x22 53 [.c 2 6 true, .t 3] [(.list (.int .u8))] [tS1, (.int .i64)] x = m22 x.1 := by kernel_rfl
noncomputable def i22 : PI := ⟨22, [(.list (.int .u8))], [tS1, (.int .i64)], fun (x : (List Int) × Unit) => m22 x.1⟩
theorem oki22 : POk Try.prog (gx gtab) i22 := pok mixed (cfg_p oki39 (cfg_h okh44 (cfg_h okh45 (cfg_h okh46 (cfg_nil _ _)))) : CfgOk _ cfg22) F22 eqn22
/- 15 treaty/treatyref40.Same -/
def r15_0 : List Ins := [qI 4 (.mov (.k (.bool false)))]
def r15_1 : List Ins := [qI 6 (.mov 0), qI 7 (.len 6), qI 8 (.mov 1), qI 9 (.len 8), qI 10 (.bin .neq 7 9)]
def r15_2 : List Ins := [qI 4 (.mov (.k (.bool false)))]
def r15_3 : List Ins := [qI 11 (.mov 0), qI 12 (.len 11), qI 13 (.mov (kI 0))]
def r15_4 : List Ins := [qI 14 (.bin .lss 13 12)]
def r15_5 : List Ins := [qI 15 (.mov 13), qI 5 (.mov 15)]
def r15_6 : List Ins := [qI 16 (.mov 0), qI 17 (.mov 5), qI 18 (.iaddr 1 16 17), qI 19 (.load 1 false 18), qI 20 (.mov 1), qI 21 (.mov 5), qI 22 (.iaddr 1 20 21), qI 23 (.load 1 false 22), qI 24 (.bin .neq 19 23)]
def r15_7 : List Ins := [qI 4 (.mov (.k (.bool false)))]
def r15_8 : List Ins := [qI 25 (.bin .add 13 (kI 1)), qI 13 (.mov 25)]
def r15_9 : List Ins := [qI 4 (.mov (.k (.bool true)))]
def x15 : XC := (.seq (.ops false r15_0) (.seq (.seq (.ops false r15_1) (.cond (.t 10) (.seq (.ops false r15_2) .ret) .skip)) (.seq (.seq (.ops false r15_3) (.block 0 (.loop [] ⟨26, [(0, (.list (.int .u8))), (1, (.list (.int .u8))), (12, (.int .i64)), (13, (.int .i64))], [], []⟩ (.seq (.ops false r15_4) (.seq (.cond (.t 14) .skip (.exit 0)) (.seq (.block 1 (.seq (.ops false r15_5) (.seq (.ops true r15_6) (.cond (.t 24) (.seq (.ops false r15_7) .ret) .skip)))) (.ops false r15_8))))))) (.seq (.ops false r15_9) .ret))))
theorem F15 : Fn Try.prog 15 26 x15.er [.t 4] := ⟨Try.f15, hcl, Try.func15, by kernel_rfl, by kernel_rfl, by kernel_rfl, by kernel_rfl⟩
noncomputable def m15 (a0 : List Int) (a1 : List Int) : Option (Bool × Unit) :=
 cond (iNe (lenI a0) (lenI a1))
 (some (false, ()))
 (loopO (S := (List Int) × (List Int) × Int × Int × Unit) (R := Bool × Unit) (fun s109 =>
 cond (iLt s109.2.2.2.1 s109.2.2.1)
 (cond (bnd s109.2.2.2.1 (lenI s109.1))
 (cond (bnd s109.2.2.2.1 (lenI s109.2.1))
 (cond (iNe (atI s109.1 s109.2.2.2.1 0) (atI s109.2.1 s109.2.2.2.1 0))
 (some (.inr (false, ())))
 (some (.inl (s109.1, s109.2.1, s109.2.2.1, iAdd .i64 s109.2.2.2.1 1, ())))) none) none)
 (some (.inr (true, ()))))
 (a0, a1, lenI a0, 0, ()))
noncomputable def cfg15 : Cfg := ⟨ttab, gtab, [], []⟩
theorem eqn15 (x : (List Int) × (List Int) × Unit) : xfun cfg15 x15 26 [.t 4] [(.list (.int .u8)), (.list (.int .u8))] [.bool] x = m15 x.1 x.2.1 := by kernel_rfl
noncomputable def i15 : PI := ⟨15, [(.list (.int .u8)), (.list (.int .u8))], [.bool], fun (x : (List Int) × (List Int) × Unit) => m15 x.1 x.2.1⟩
theorem oki15 : POk Try.prog (gx gtab) i15 := pok mixed (cfg_nil _ _ : CfgOk _ cfg15) F15 eqn15
/- 9 treaty/treatylaw40.awake -/
def r9_0 : List Ins := [qI 0 (.mov (.k (.bool false)))]
def r9_1 : List Ins := [qI 8 (.call (.fn 13) [kN, (kI 64)]), qI 7 (.mov 8), qI 9 (.ext 0 7), qI 10 (.ext 1 7), qI 1 (.mov 9), qI 2 (.mov 10)]
def r9_2 : List Ins := [qI 12 (.build [.int .i64 0, .slice none 0 0, .int .i64 0, .int .i64 0, .int .i64 0, .int .i64 0] [(0, 1, (kI 3)), (2, 1, (kI 5)), (4, 1, (kI 2))]), qI 13 (.call (.fn 19) [12]), qI 11 (.mov 13), qI 14 (.ext 0 11), qI 15 (.ext 1 11), qI 3 (.mov 14), qI 4 (.mov 15)]
def r9_3 : List Ins := [qI 17 (.bslice 5 1 [(.k (.int .u8 6)), (.k (.int .u8 10)), (.k (.int .u8 4))]), qI 18 (.call (.fn 22) [17]), qI 16 (.mov 18), qI 19 (.ext 0 16), qI 20 (.ext 1 16), qI 5 (.alloc 38 (.agg #[.int .i64 0, .slice none 0 0, .int .i64 0, .int .i64 0, .int .i64 0, .int .i64 0])), qN (.store 6 5 19), qI 6 (.mov 20)]
def r9_4 : List Ins := [qI 21 (.mov 2), qI 22 (.bin .eql 21 (kI 0)), qI 23 (.mov 22), qT 24 23 (.mov 4), qT 25 23 (.bin .eql 24 (kI 0)), qI 26 (.pick 23 25 (.k (.bool false))), qI 27 (.mov 26), qT 28 27 (.mov 6), qT 29 27 (.bin .eql 28 (kI 0)), qI 30 (.pick 27 29 (.k (.bool false))), qI 31 (.mov 30), qT 32 31 (.mov 1), qT 33 31 (.bslice 5 1 [(.k (.int .u8 128)), (.k (.int .u8 1))]), qT 34 31 (.call (.fn 15) [32, 33]), qI 35 (.pick 31 34 (.k (.bool false))), qI 36 (.mov 35), qT 37 36 (.mov 3), qT 38 36 (.bslice 5 1 [(.k (.int .u8 6)), (.k (.int .u8 10)), (.k (.int .u8 4))]), qT 39 36 (.call (.fn 15) [37, 38]), qI 40 (.pick 36 39 (.k (.bool false))), qI 41 (.mov 40), qT 42 41 (.faddr 2 5), qT 43 41 (.load 1 false 42), qT 44 41 (.bin .eql 43 (kI 5)), qI 45 (.pick 41 44 (.k (.bool false))), qI 46 (.mov 45), qT 47 46 (.faddr 4 5), qT 48 46 (.load 1 false 47), qT 49 46 (.bin .eql 48 (kI 2)), qI 50 (.pick 46 49 (.k (.bool false))), qI 0 (.mov 50)]
def x9 : XC := (.seq (.ops false r9_0) (.seq (.ops false r9_1) (.seq (.ops false r9_2) (.seq (.ops false r9_3) (.seq (.ops false r9_4) .ret)))))
theorem F9 : Fn Try.prog 9 51 x9.er [.t 0] := ⟨Try.f9, hcl, Try.func9, by kernel_rfl, by kernel_rfl, by kernel_rfl, by kernel_rfl⟩
noncomputable def m9 : Option (Bool × Unit) :=
 (m13 ([] : List Int) 64).bind fun y9 =>
 (m19 (3, ([] : List DS0), 5, 0, 2, 0, ())).bind fun y30 =>
 (m22 ([6, 10, 4] : List Int)).bind fun y107 =>
 cond (cond (cond (iEq y9.2.1 0) (iEq y30.2.1 0) false) (iEq y107.2.1 0) false)
 ((m15 y9.1 ([128, 1] : List Int)).bind fun y110 =>
 cond y110.1
 ((m15 y30.1 ([6, 10, 4] : List Int)).bind fun y111 =>
 some (cond (cond y111.1 (iEq y107.1.2.2.1 5) false) (iEq y107.1.2.2.2.2.1 2) false, ()))
 (some (false, ())))
 (some (false, ()))
noncomputable def cfg9 : Cfg := ⟨ttab, gtab, [i13, i15, i19, i22], []⟩
theorem eqn9 (x : Unit) : xfun cfg9 x9 51 [.t 0] [] [.bool] x = m9 := by kernel_rfl
noncomputable def i9 : PI := ⟨9, [], [.bool], fun (x : Unit) => m9⟩
theorem oki9 : POk Try.prog (gx gtab) i9 := pok mixed (cfg_p oki13 (cfg_p oki15 (cfg_p oki19 (cfg_p oki22 (cfg_nil _ _)))) : CfgOk _ cfg9) F9 eqn9
/- 31 treaty/treatymade.New -/
def r31_0 : List Ins := [qI 2 (.mov (.k (.pointer none)))]
def r31_1 : List Ins := [qI 3 (.mov 0), qI 4 (.build [.slice none 0 0, .int .i64 0] [(0, 1, 3)]), qI 5 (.box 98 2 4), qI 2 (.mov 5)]
def x31 : XC := (.seq (.ops false r31_0) (.seq (.ops false r31_1) .ret))
theorem F31 : Fn Try.prog 31 6 x31.er [.t 2] := ⟨Try.f31, hcl, Try.func31, by kernel_rfl, by kernel_rfl, by kernel_rfl, by kernel_rfl⟩
noncomputable def m31 (a0 : List Int) : Option ((List Int) × Int × Unit) :=
 some (a0, 0, ())
noncomputable def cfg31 : Cfg := ⟨ttab, gtab, [], []⟩
def ish31 : Sh := ⟨1, [(0, (.list (.int .i64)))], [], []⟩
def osh31 : Sh := ⟨1, [], [(0, .ptr 0 0 0)], [.box 98 [.d (.list (.int .i64)), .d (.int .i64)]]⟩
theorem eqn31 (x : (List Int) × Unit) : xfunH cfg31 x31 6 [.t 2] [] ish31 osh31 x = m31 x.1 := by kernel_rfl
noncomputable def h31 : HI := ⟨31, ish31, osh31, fun (x : (List Int) × Unit) => m31 x.1⟩
theorem okh31 : HOk Try.prog (gx gtab) h31 := hok mixed (cfg_nil _ _ : CfgOk _ cfg31) F31 eqn31
/- 10 treaty/treatymade2.New -/
def r10_0 : List Ins := [qI 2 (.mov (.k (.pointer none)))]
def r10_1 : List Ins := [qI 3 (.mov 0), qI 4 (.call (.fn 31) [3]), qI 2 (.mov 4)]
def x10 : XC := (.seq (.ops false r10_0) (.seq (.ops false r10_1) .ret))
theorem F10 : Fn Try.prog 10 5 x10.er [.t 2] := ⟨Try.f10, hcl, Try.func10, by kernel_rfl, by kernel_rfl, by kernel_rfl, by kernel_rfl⟩
noncomputable def m10 (a0 : List Int) : Option ((List Int) × Int × Unit) :=
 (m31 a0).bind fun y114 =>
 some (y114.1, y114.2.1, ())
noncomputable def cfg10 : Cfg := ⟨ttab, gtab, [], [h31]⟩
def ish10 : Sh := ⟨1, [(0, (.list (.int .i64)))], [], []⟩
def osh10 : Sh := ⟨1, [], [(0, .ptr 0 0 0)], [.box 98 [.d (.list (.int .i64)), .d (.int .i64)]]⟩
theorem eqn10 (x : (List Int) × Unit) : xfunH cfg10 x10 5 [.t 2] [] ish10 osh10 x = m10 x.1 := by kernel_rfl
noncomputable def h10 : HI := ⟨10, ish10, osh10, fun (x : (List Int) × Unit) => m10 x.1⟩
theorem okh10 : HOk Try.prog (gx gtab) h10 := hok mixed (cfg_h okh31 (cfg_nil _ _) : CfgOk _ cfg10) F10 eqn10
/- 32 (*treaty/treatymade.Deck).Next -/
def r32_0 : List Ins := [qI 4 (.mov (kI 0))]
def r32_1 : List Ins := [qI 5 (.mov 0), qI 6 (.nck 5), qI 7 (.faddr 1 6), qI 8 (.load 1 false 7), qI 9 (.mov 0), qI 10 (.nck 9), qI 11 (.faddr 0 10), qI 12 (.load 1 false 11), qI 13 (.len 12), qI 14 (.bin .geq 8 13)]
def r32_2 : List Ins := [qI 4 (.mov (kI 0))]
def r32_3 : List Ins := [qI 15 (.mov 0), qI 16 (.nck 15), qI 17 (.faddr 1 16), qI 18 (.load 1 false 17), qI 19 (.bin .add 18 (kI 1)), qI 20 (.nck 15), qI 21 (.faddr 1 20), qN (.store 1 21 19)]
def r32_4 : List Ins := [qI 22 (.mov 0), qI 23 (.nck 22), qI 24 (.faddr 0 23), qI 25 (.load 1 false 24), qI 26 (.mov 0), qI 27 (.nck 26), qI 28 (.faddr 1 27), qI 29 (.load 1 false 28), qI 30 (.bin .sub 29 (kI 1)), qI 31 (.iaddr 1 25 30), qI 32 (.load 1 false 31), qI 33 (.mov 1), qI 34 (.bin .rem 32 33), qI 35 (.mov 1), qI 36 (.bin .add 34 35), qI 37 (.mov 1), qI 38 (.bin .rem 36 37), qI 4 (.mov 38)]
def x32 : XC := (.seq (.ops false r32_0) (.seq (.seq (.ops true r32_1) (.cond (.t 14) (.seq (.ops false r32_2) .ret) .skip)) (.seq (.ops false r32_3) (.seq (.ops true r32_4) .ret))))
theorem F32 : Fn Try.prog 32 39 x32.er [.t 4] := ⟨Try.f32, hcl, Try.func32, by kernel_rfl, by kernel_rfl, by kernel_rfl, by kernel_rfl⟩
noncomputable def m32 (a0 : Int) (a1 : List Int) (a2 : Int) : Option (Int × (List Int) × Int × Unit) :=
 cond (iLe (lenI a1) a2)
 (some (0, a1, a2, ()))
 (cond (bnd (iSub .i64 (iAdd .i64 a2 1) 1) (lenI a1))
 (cond (iNe a0 0)
 (cond (iNe a0 0)
 (some (iRem (iAdd .i64 (iRem (atI a1 (iSub .i64 (iAdd .i64 a2 1) 1) 0) a0) a0) a0, a1, iAdd .i64 a2 1, ())) none) none) none)
noncomputable def cfg32 : Cfg := ⟨ttab, gtab, [], []⟩
def ish32 : Sh := ⟨2, [(1, (.int .i64))], [(0, .ptr 0 0 0)], [.box 98 [.d (.list (.int .i64)), .d (.int .i64)]]⟩
def osh32 : Sh := ⟨1, [(0, (.int .i64))], [], [.box 98 [.d (.list (.int .i64)), .d (.int .i64)]]⟩
theorem eqn32 (x : Int × (List Int) × Int × Unit) : xfunH cfg32 x32 39 [.t 4] [] ish32 osh32 x = m32 x.1 x.2.1 x.2.2.1 := by kernel_rfl
noncomputable def h32 : HI := ⟨32, ish32, osh32, fun (x : Int × (List Int) × Int × Unit) => m32 x.1 x.2.1 x.2.2.1⟩
theorem okh32 : HOk Try.prog (gx gtab) h32 := hok mixed (cfg_nil _ _ : CfgOk _ cfg32) F32 eqn32
/- 11 (*treaty/treatymade.Deck).Upto -/
def r11_0 : List Ins := [qI 4 (.mov (kI 0))]
def r11_1 : List Ins := [qI 5 (.mov 0), qI 6 (.call (.fn 32) [5, (kI 6)])]
def r11_2 : List Ins := [qI 8 (.bin .eql 6 (kI 0)), qI 7 (.mov 8)]
def r11_3 : List Ins := [qI 9 (.mov 0), qI 10 (.call (.fn 32) [9, (kI 4)]), qI 11 (.mov 1), qI 12 (.min2 10 11), qI 4 (.mov 12)]
def r11_4 : List Ins := [qI 14 (.bin .eql 6 (kI 1)), qI 13 (.mov 14)]
def r11_5 : List Ins := [qI 15 (.mov 0), qI 16 (.call (.fn 32) [15, (kI 100)]), qI 17 (.mov 1), qI 18 (.min2 16 17), qI 4 (.mov 18)]
def r11_6 : List Ins := [qI 20 (.bin .eql 6 (kI 2)), qI 19 (.mov 20)]
def r11_7 : List Ins := [qI 21 (.mov 0), qI 22 (.call (.fn 32) [21, (kI 1048576)]), qI 23 (.mov 1), qI 24 (.min2 22 23), qI 4 (.mov 24)]
def r11_8 : List Ins := [qI 26 (.bin .eql 6 (kI 3)), qI 25 (.mov 26)]
def r11_9 : List Ins := [qI 27 (.mov 1), qI 28 (.mov 0), qI 29 (.mov 1), qI 30 (.bin .add 29 (kI 1)), qI 31 (.min2 (kI 3) 30), qI 32 (.call (.fn 32) [28, 31]), qI 33 (.bin .sub 27 32), qI 4 (.mov 33)]
def r11_10 : List Ins := [qI 34 (.mov 0), qI 35 (.mov 1), qI 36 (.bin .add 35 (kI 1)), qI 37 (.call (.fn 32) [34, 36]), qI 4 (.mov 37)]
def x11 : XC := (.seq (.ops false r11_0) (.seq (.seq (.ops false r11_1) (.block 0 (.seq (.ops false r11_2) (.cond (.t 7) (.seq (.ops false r11_3) .ret) (.seq (.ops false r11_4) (.cond (.t 13) (.seq (.ops false r11_5) .ret) (.seq (.ops false r11_6) (.cond (.t 19) (.seq (.ops false r11_7) .ret) (.seq (.ops false r11_8) (.cond (.t 25) (.seq (.ops false r11_9) .ret) .skip)))))))))) (.seq (.ops false r11_10) .ret)))
theorem F11 : Fn Try.prog 11 38 x11.er [.t 4] := ⟨Try.f11, hcl, Try.func11, by kernel_rfl, by kernel_rfl, by kernel_rfl, by kernel_rfl⟩
noncomputable def m11 (a0 : Int) (a1 : List Int) (a2 : Int) : Option (Int × (List Int) × Int × Unit) :=
 (m32 6 a1 a2).bind fun y122 =>
 cond (iEq y122.1 0)
 ((m32 4 y122.2.1 y122.2.2.1).bind fun y123 =>
 some (iMin y123.1 a0, y123.2.1, y123.2.2.1, ()))
 (cond (iEq y122.1 1)
 ((m32 100 y122.2.1 y122.2.2.1).bind fun y124 =>
 some (iMin y124.1 a0, y124.2.1, y124.2.2.1, ()))
 (cond (iEq y122.1 2)
 ((m32 1048576 y122.2.1 y122.2.2.1).bind fun y125 =>
 some (iMin y125.1 a0, y125.2.1, y125.2.2.1, ()))
 (cond (iEq y122.1 3)
 ((m32 (iMin 3 (iAdd .i64 a0 1)) y122.2.1 y122.2.2.1).bind fun y126 =>
 some (iSub .i64 a0 y126.1, y126.2.1, y126.2.2.1, ()))
 ((m32 (iAdd .i64 a0 1) y122.2.1 y122.2.2.1).bind fun y127 =>
 some (y127.1, y127.2.1, y127.2.2.1, ())))))
noncomputable def cfg11 : Cfg := ⟨ttab, gtab, [], [h32]⟩
def ish11 : Sh := ⟨2, [(1, (.int .i64))], [(0, .ptr 0 0 0)], [.box 98 [.d (.list (.int .i64)), .d (.int .i64)]]⟩
def osh11 : Sh := ⟨1, [(0, (.int .i64))], [], [.box 98 [.d (.list (.int .i64)), .d (.int .i64)]]⟩
theorem eqn11 (x : Int × (List Int) × Int × Unit) : xfunH cfg11 x11 38 [.t 4] [] ish11 osh11 x = m11 x.1 x.2.1 x.2.2.1 := by kernel_rfl
noncomputable def h11 : HI := ⟨11, ish11, osh11, fun (x : Int × (List Int) × Int × Unit) => m11 x.1 x.2.1 x.2.2.1⟩
theorem okh11 : HOk Try.prog (gx gtab) h11 := hok mixed (cfg_h okh32 (cfg_nil _ _) : CfgOk _ cfg11) F11 eqn11
/- 12 treaty/treatyref01.Clamp -/
def r12_0 : List Ins := [qI 2 (.mov (kI 0))]
def r12_1 : List Ins := [qI 3 (.mov 0), qI 4 (.bin .gtr 3 (kI 17592186044416))]
def r12_2 : List Ins := [qI 2 (.mov (kI 17592186044416))]
def r12_3 : List Ins := [qI 5 (.mov 0), qI 6 (.bin .lss 5 (.k (.int .i64 (-17592186044416))))]
def r12_4 : List Ins := [qI 2 (.mov (.k (.int .i64 (-17592186044416))))]
def r12_5 : List Ins := [qI 7 (.mov 0), qI 2 (.mov 7)]
def x12 : XC := (.seq (.ops false r12_0) (.seq (.seq (.ops false r12_1) (.cond (.t 4) (.seq (.ops false r12_2) .ret) .skip)) (.seq (.seq (.ops false r12_3) (.cond (.t 6) (.seq (.ops false r12_4) .ret) .skip)) (.seq (.ops false r12_5) .ret))))
theorem F12 : Fn Try.prog 12 8 x12.er [.t 2] := ⟨Try.f12, hcl, Try.func12, by kernel_rfl, by kernel_rfl, by kernel_rfl, by kernel_rfl⟩
noncomputable def m12 (a0 : Int) : Option (Int × Unit) :=
 cond (iLt 17592186044416 a0)
 (some (17592186044416, ()))
 (cond (iLt a0 (-17592186044416))
 (some ((-17592186044416), ()))
 (some (a0, ())))
noncomputable def cfg12 : Cfg := ⟨ttab, gtab, [], []⟩
theorem eqn12 (x : Int × Unit) : xfun cfg12 x12 8 [.t 2] [(.int .i64)] [(.int .i64)] x = m12 x.1 := by kernel_rfl
noncomputable def i12 : PI := ⟨12, [(.int .i64)], [(.int .i64)], fun (x : Int × Unit) => m12 x.1⟩
theorem oki12 : POk Try.prog (gx gtab) i12 := pok mixed (cfg_nil _ _ : CfgOk _ cfg12) F12 eqn12
/- 35 treaty/treatyref01.Valid -/
def r35_0 : List Ins := [qI 2 (.mov (.k (.bool false)))]
def r35_1 : List Ins := [qI 3 (.mov 0), qI 4 (.bin .geq 3 (.k (.int .i64 (-17592186044416)))), qI 5 (.mov 4), qT 6 5 (.mov 0), qT 7 5 (.bin .leq 6 (kI 17592186044416)), qI 8 (.pick 5 7 (.k (.bool false))), qI 2 (.mov 8)]
def x35 : XC := (.seq (.ops false r35_0) (.seq (.ops false r35_1) .ret))
theorem F35 : Fn Try.prog 35 9 x35.er [.t 2] := ⟨Try.f35, hcl, Try.func35, by kernel_rfl, by kernel_rfl, by kernel_rfl, by kernel_rfl⟩
noncomputable def m35 (a0 : Int) : Option (Bool × Unit) :=
 some (cond (iLe (-17592186044416) a0) (iLe a0 17592186044416) false, ())
noncomputable def cfg35 : Cfg := ⟨ttab, gtab, [], []⟩
theorem eqn35 (x : Int × Unit) : xfun cfg35 x35 9 [.t 2] [(.int .i64)] [.bool] x = m35 x.1 := by kernel_rfl
noncomputable def i35 : PI := ⟨35, [(.int .i64)], [.bool], fun (x : Int × Unit) => m35 x.1⟩
theorem oki35 : POk Try.prog (gx gtab) i35 := pok mixed (cfg_nil _ _ : CfgOk _ cfg35) F35 eqn35
/- 14 treaty/treatyref40.AppendNumber -/
def r14_0 : List Ins := [qI 4 (.mov kN), qI 5 (.mov (kI 0))]
def r14_1 : List Ins := [qI 8 (.mov 1), qI 9 (.call (.fn 35) [8]), qI 10 (.un .not 9)]
def r14_2 : List Ins := [qI 4 (.mov kN), qI 5 (.mov (kI 1))]
def r14_3 : List Ins := [qI 11 (.mov 1), qI 12 (.bin .mul (kI 2) 11), qI 6 (.mov 12)]
def r14_4 : List Ins := [qI 13 (.mov 1), qI 14 (.bin .lss 13 (kI 0))]
def r14_5 : List Ins := [qI 15 (.mov 1), qI 16 (.bin .mul (.k (.int .i64 (-2))) 15), qI 17 (.bin .sub 16 (kI 1)), qI 6 (.mov 17)]
def r14_6 : List Ins := [qI 18 (.bslice 5 1 []), qI 19 (.mov 0), qI 20 (.app 5 1 1 18 19), qI 7 (.mov 20)]
def r14_7 : List Ins := [qI 21 (.mov 6), qI 22 (.bin .geq 21 (kI 128))]
def r14_8 : List Ins := [qI 23 (.mov 7), qI 24 (.mov 6), qI 25 (.bin .rem 24 (kI 128)), qI 26 (.bin .add (kI 128) 25), qI 27 (.conv .u8 26), qI 28 (.bslice 5 1 [27]), qI 29 (.app 5 1 1 23 28), qI 7 (.mov 29)]
def r14_9 : List Ins := [qI 30 (.mov 6), qI 31 (.bin .quo 30 (kI 128)), qI 6 (.mov 31)]
def r14_10 : List Ins := [qI 32 (.mov 7), qI 33 (.mov 6), qI 34 (.conv .u8 33), qI 35 (.bslice 5 1 [34]), qI 36 (.app 5 1 1 32 35), qI 4 (.mov 36), qI 5 (.mov (kI 0))]
def x14 : XC := (.seq (.ops false r14_0) (.seq (.seq (.ops false r14_1) (.cond (.t 10) (.seq (.ops false r14_2) .ret) .skip)) (.seq (.ops false r14_3) (.seq (.seq (.ops false r14_4) (.cond (.t 14) (.ops false r14_5) .skip)) (.seq (.ops false r14_6) (.seq (.block 0 (.loop [] ⟨37, [(6, (.int .i64))], [(7, .row 0)], [.row 5 (.int .u8) false]⟩ (.seq (.seq (.ops false r14_7) (.cond (.t 22) .skip (.exit 0))) (.block 1 (.seq (.ops false r14_8) (.ops false r14_9)))))) (.seq (.ops false r14_10) .ret)))))))
theorem F14 : Fn Try.prog 14 37 x14.er [.t 4, .t 5] := ⟨Try.f14, hcl, Try.func14, by kernel_rfl, by kernel_rfl, by kernel_rfl, by kernel_rfl⟩
noncomputable def m14 (a0 : List Int) (a1 : Int) : Option ((List Int) × Int × Unit) :=
 (m35 a1).bind fun y135 =>
 cond (not y135.1)
 (some (([] : List Int), 1, ()))
 (cond (iLt a1 0)
 (cond (fits (List.length ([] : List Int) + List.length a0) 1)
 (loopO (S := Int × (List Int) × Unit) (R := (List Int) × Int × Unit) (fun s136 =>
 cond (iLe 128 s136.1)
 (cond (iNe 128 0)
 (cond (fits (List.length s136.2.1 + List.length ([IntKind.wrap .u8 (iAdd .i64 128 (iRem s136.1 128))] : List Int)) 1)
 (cond (iNe 128 0)
 (some (.inl (iQuo .i64 s136.1 128, s136.2.1 ++ ([IntKind.wrap .u8 (iAdd .i64 128 (iRem s136.1 128))] : List Int), ()))) none) none) none)
 (Option.map Sum.inr (cond (fits (List.length s136.2.1 + List.length ([IntKind.wrap .u8 s136.1] : List Int)) 1)
 (some (s136.2.1 ++ ([IntKind.wrap .u8 s136.1] : List Int), 0, ())) none)))
 (iSub .i64 (iMul .i64 (-2) a1) 1, ([] : List Int) ++ a0, ())) none)
 (cond (fits (List.length ([] : List Int) + List.length a0) 1)
 (loopO (S := Int × (List Int) × Unit) (R := (List Int) × Int × Unit) (fun s137 =>
 cond (iLe 128 s137.1)
 (cond (iNe 128 0)
 (cond (fits (List.length s137.2.1 + List.length ([IntKind.wrap .u8 (iAdd .i64 128 (iRem s137.1 128))] : List Int)) 1)
 (cond (iNe 128 0)
 (some (.inl (iQuo .i64 s137.1 128, s137.2.1 ++ ([IntKind.wrap .u8 (iAdd .i64 128 (iRem s137.1 128))] : List Int), ()))) none) none) none)
 (Option.map Sum.inr (cond (fits (List.length s137.2.1 + List.length ([IntKind.wrap .u8 s137.1] : List Int)) 1)
 (some (s137.2.1 ++ ([IntKind.wrap .u8 s137.1] : List Int), 0, ())) none)))
 (iMul .i64 2 a1, ([] : List Int) ++ a0, ())) none))
noncomputable def cfg14 : Cfg := ⟨ttab, gtab, [i35], []⟩
theorem eqn14 (x : (List Int) × Int × Unit) : xfun cfg14 x14 37 [.t 4, .t 5] [(.list (.int .u8)), (.int .i64)] [(.list (.int .u8)), (.int .i64)] x = m14 x.1 x.2.1 := by kernel_rfl
noncomputable def i14 : PI := ⟨14, [(.list (.int .u8)), (.int .i64)], [(.list (.int .u8)), (.int .i64)], fun (x : (List Int) × Int × Unit) => m14 x.1 x.2.1⟩
theorem oki14 : POk Try.prog (gx gtab) i14 := pok mixed (cfg_p oki35 (cfg_nil _ _) : CfgOk _ cfg14) F14 eqn14
/- 17 treaty/treatyref40.Number -/
def r17_0 : List Ins := [qI 2 (.mov (kI 0)), qI 3 (.mov (kI 0)), qI 4 (.mov (kI 0))]
def r17_1 : List Ins := [qI 7 (.mov 3), qI 8 (.mov 0), qI 9 (.len 8), qI 10 (.bin .lss 7 9), qI 11 (.mov 10), qT 12 11 (.mov 0), qT 13 11 (.mov 3), qT 14 11 (.iaddr 1 12 13), qT 15 11 (.load 1 false 14), qT 16 11 (.bin .geq 15 (.k (.int .u8 128))), qI 17 (.pick 11 16 (.k (.bool false)))]
def r17_2 : List Ins := [qI 18 (.mov 3), qI 19 (.bin .add 18 (kI 1)), qI 3 (.mov 19)]
def r17_3 : List Ins := [qI 20 (.mov 3), qI 21 (.bin .eql 20 (kI 10))]
def r17_4 : List Ins := [qI 2 (.mov (kI 0)), qI 3 (.mov (kI 0)), qI 4 (.mov (kI 5))]
def r17_5 : List Ins := [qI 22 (.mov 3), qI 23 (.mov 0), qI 24 (.len 23), qI 25 (.bin .eql 22 24), qI 26 (.mov 25), qF 27 26 (.mov 3), qF 28 26 (.bin .gtr 27 (kI 0)), qF 29 26 (.mov 28), qT 30 29 (.mov 0), qT 31 29 (.mov 3), qT 32 29 (.iaddr 1 30 31), qT 33 29 (.load 1 false 32), qT 34 29 (.bin .eql 33 (.k (.int .u8 0))), qF 35 26 (.pick 29 34 (.k (.bool false))), qI 36 (.pick 26 (.k (.bool true)) 35)]
def r17_6 : List Ins := [qI 2 (.mov (kI 0)), qI 3 (.mov (kI 0)), qI 4 (.mov (kI 5))]
def r17_7 : List Ins := [qI 37 (.mov 3), qI 38 (.bin .add 37 (kI 1)), qI 3 (.mov 38)]
def r17_8 : List Ins := [qI 39 (.mov 3), qI 40 (.bin .gtr 39 (kI 7))]
def r17_9 : List Ins := [qI 2 (.mov (kI 0)), qI 3 (.mov (kI 0)), qI 4 (.mov (kI 1))]
def r17_10 : List Ins := [qI 5 (.mov (kI 0))]
def r17_11 : List Ins := [qI 41 (.mov 3), qI 42 (.bin .sub 41 (kI 1)), qI 6 (.mov 42)]
def r17_12 : List Ins := [qI 43 (.mov 6), qI 44 (.bin .geq 43 (kI 0))]
def r17_13 : List Ins := [qI 47 (.mov 5), qI 48 (.bin .mul (kI 128) 47), qI 49 (.mov 0), qI 50 (.mov 6), qI 51 (.iaddr 1 49 50), qI 52 (.load 1 false 51), qI 53 (.bin .rem 52 (.k (.int .u8 128))), qI 54 (.conv .i64 53), qI 55 (.bin .add 48 54), qI 5 (.mov 55)]
def r17_14 : List Ins := [qI 45 (.mov 6), qI 46 (.bin .sub 45 (kI 1)), qI 6 (.mov 46)]
def r17_15 : List Ins := [qI 56 (.mov 5), qI 57 (.bin .quo 56 (kI 2)), qI 2 (.mov 57)]
def r17_16 : List Ins := [qI 58 (.mov 5), qI 59 (.bin .rem 58 (kI 2)), qI 60 (.bin .eql 59 (kI 1))]
def r17_17 : List Ins := [qI 61 (.mov 5), qI 62 (.bin .add 61 (kI 1)), qI 63 (.un .neg 62), qI 64 (.bin .quo 63 (kI 2)), qI 2 (.mov 64)]
def r17_18 : List Ins := [qI 65 (.mov 2), qI 66 (.call (.fn 35) [65]), qI 67 (.un .not 66)]
def r17_19 : List Ins := [qI 2 (.mov (kI 0)), qI 3 (.mov (kI 0)), qI 4 (.mov (kI 1))]
def r17_20 : List Ins := [qI 68 (.mov 2), qI 69 (.mov 3), qI 2 (.mov 68), qI 3 (.mov 69), qI 4 (.mov (kI 0))]
def x17 : XC := (.seq (.ops false r17_0) (.seq (.block 0 (.loop [] ⟨70, [(0, (.list (.int .u8))), (3, (.int .i64))], [], []⟩ (.seq (.seq (.ops false r17_1) (.cond (.t 17) .skip (.exit 0))) (.block 1 (.seq (.ops false r17_2) (.seq (.ops false r17_3) (.cond (.t 21) (.seq (.ops false r17_4) .ret) .skip))))))) (.seq (.seq (.ops false r17_5) (.cond (.t 36) (.seq (.ops false r17_6) .ret) .skip)) (.seq (.ops false r17_7) (.seq (.seq (.ops false r17_8) (.cond (.t 40) (.seq (.ops false r17_9) .ret) .skip)) (.seq (.ops false r17_10) (.seq (.seq (.ops false r17_11) (.block 2 (.loop [] ⟨70, [(0, (.list (.int .u8))), (3, (.int .i64)), (5, (.int .i64)), (6, (.int .i64))], [], []⟩ (.seq (.seq (.ops false r17_12) (.cond (.t 44) .skip (.exit 2))) (.seq (.block 3 (.ops false r17_13)) (.ops false r17_14)))))) (.seq (.ops false r17_15) (.seq (.seq (.ops false r17_16) (.cond (.t 60) (.ops false r17_17) .skip)) (.seq (.seq (.ops false r17_18) (.cond (.t 67) (.seq (.ops false r17_19) .ret) .skip)) (.seq (.ops false r17_20) .ret)))))))))))
theorem F17 : Fn Try.prog 17 70 x17.er [.t 2, .t 3, .t 4] := ⟨Try.f17, hcl, Try.func17, by kernel_rfl, by kernel_rfl, by kernel_rfl, by kernel_rfl⟩
noncomputable def m17 (a0 : List Int) : Option (Int × Int × Int × Unit) :=
 loopO (S := (List Int) × Int × Unit) (R := Int × Int × Int × Unit) (fun s145 =>
 cond (or (bnd s145.2.1 (lenI s145.1)) (not (bEq (iLt s145.2.1 (lenI s145.1)) true)))
 (cond (cond (iLt s145.2.1 (lenI s145.1)) (iLe 128 (atI s145.1 s145.2.1 0)) false)
 (cond (iEq (iAdd .i64 s145.2.1 1) 10)
 (some (.inr (0, 0, 5, ())))
 (some (.inl (s145.1, iAdd .i64 s145.2.1 1, ()))))
 (Option.map Sum.inr (cond (iEq s145.2.1 (lenI s145.1))
 (some (0, 0, 5, ()))
 (cond (or (bnd s145.2.1 (lenI s145.1)) (not (bEq (iLt 0 s145.2.1) true)))
 (cond (cond (iLt 0 s145.2.1) (iEq (atI s145.1 s145.2.1 0) 0) false)
 (some (0, 0, 5, ()))
 (cond (iLt 7 (iAdd .i64 s145.2.1 1))
 (some (0, 0, 1, ()))
 (loopO (S := (List Int) × Int × Int × Int × Unit) (R := Int × Int × Int × Unit) (fun s146 =>
 cond (iLe 0 s146.2.2.2.1)
 (cond (bnd s146.2.2.2.1 (lenI s146.1))
 (cond (iNe 128 0)
 (some (.inl (s146.1, s146.2.1, iAdd .i64 (iMul .i64 128 s146.2.2.1) (IntKind.wrap .i64 (iRem (atI s146.1 s146.2.2.2.1 0) 128)), iSub .i64 s146.2.2.2.1 1, ()))) none) none)
 (Option.map Sum.inr (cond (iNe 2 0)
 (cond (iNe 2 0)
 (cond (iEq (iRem s146.2.2.1 2) 1)
 (cond (iNe 2 0)
 ((m35 (iQuo .i64 (iNeg .i64 (iAdd .i64 s146.2.2.1 1)) 2)).bind fun y147 =>
 cond (not y147.1)
 (some (0, 0, 1, ()))
 (some (iQuo .i64 (iNeg .i64 (iAdd .i64 s146.2.2.1 1)) 2, s146.2.1, 0, ()))) none)
 ((m35 (iQuo .i64 s146.2.2.1 2)).bind fun y148 =>
 cond (not y148.1)
 (some (0, 0, 1, ()))
 (some (iQuo .i64 s146.2.2.1 2, s146.2.1, 0, ())))) none) none)))
 (s145.1, iAdd .i64 s145.2.1 1, 0, iSub .i64 (iAdd .i64 s145.2.1 1) 1, ())))) none)))) none)
 (a0, 0, ())
noncomputable def cfg17 : Cfg := ⟨ttab, gtab, [i35], []⟩
theorem eqn17 (x : (List Int) × Unit) : xfun cfg17 x17 70 [.t 2, .t 3, .t 4] [(.list (.int .u8))] [(.int .i64), (.int .i64), (.int .i64)] x = m17 x.1 := by kernel_rfl
noncomputable def i17 : PI := ⟨17, [(.list (.int .u8))], [(.int .i64), (.int .i64), (.int .i64)], fun (x : (List Int) × Unit) => m17 x.1⟩
theorem oki17 : POk Try.prog (gx gtab) i17 := pok mixed (cfg_p oki35 (cfg_nil _ _) : CfgOk _ cfg17) F17 eqn17
/- 3 treaty/treatylaw40.CodecNumber -/
def r3_0 : List Ins := [qI 6 (.mov (.k (.bool false)))]
def r3_1 : List Ins := [qI 20 (.mov 0), qI 21 (.len 20), qI 22 (.bin .gtr 21 (kI 100))]
def r3_2 : List Ins := [qI 23 (.call (.fn 9) []), qI 6 (.mov 23)]
def r3_3 : List Ins := [qI 24 (.mov 2), qI 25 (.call (.fn 10) [24]), qI 26 (.call (.fn 11) [25, (kI 17592186044416)]), qI 7 (.mov 26)]
def r3_4 : List Ins := [qI 27 (.mov 1), qI 28 (.mov 1), qI 29 (.call (.fn 12) [28]), qI 30 (.mov 7), qI 31 (.mov 7), qI 32 (.un .neg 31), qI 33 (.bslice 3 1 [27, 29, 30, 32]), qI 34 (.len 33), qI 35 (.mov (kI 0))]
def r3_5 : List Ins := [qI 36 (.bin .lss 35 34)]
def r3_6 : List Ins := [qI 37 (.iaddr 1 33 35), qI 38 (.load 1 false 37), qI 9 (.mov 38)]
def r3_7 : List Ins := [qI 40 (.mov 0), qI 41 (.mov 9), qI 42 (.call (.fn 13) [40, 41]), qI 39 (.mov 42), qI 43 (.ext 0 39), qI 44 (.ext 1 39), qI 10 (.mov 43), qI 11 (.mov 44)]
def r3_8 : List Ins := [qI 46 (.mov 0), qI 47 (.mov 9), qI 48 (.call (.fn 14) [46, 47]), qI 45 (.mov 48), qI 49 (.ext 0 45), qI 50 (.ext 1 45), qI 12 (.mov 49), qI 13 (.mov 50)]
def r3_9 : List Ins := [qI 51 (.mov 10), qI 52 (.mov 12), qI 53 (.call (.fn 15) [51, 52]), qI 54 (.un .not 53), qI 55 (.mov 54), qF 56 55 (.mov 11), qF 57 55 (.mov 13), qF 58 55 (.bin .neq 56 57), qI 59 (.pick 55 (.k (.bool true)) 58)]
def r3_10 : List Ins := [qI 6 (.mov (.k (.bool false)))]
def r3_11 : List Ins := [qI 60 (.bin .add 35 (kI 1)), qI 35 (.mov 60)]
def r3_12 : List Ins := [qI 62 (.mov 0), qI 63 (.call (.fn 16) [62]), qI 61 (.mov 63), qI 64 (.ext 0 61), qI 65 (.ext 1 61), qI 66 (.ext 2 61), qI 14 (.mov 64), qI 15 (.mov 65), qI 16 (.mov 66)]
def r3_13 : List Ins := [qI 68 (.mov 0), qI 69 (.call (.fn 17) [68]), qI 67 (.mov 69), qI 70 (.ext 0 67), qI 71 (.ext 1 67), qI 72 (.ext 2 67), qI 17 (.mov 70), qI 18 (.mov 71), qI 19 (.mov 72)]
def r3_14 : List Ins := [qI 73 (.mov 14), qI 74 (.mov 17), qI 75 (.bin .eql 73 74), qI 76 (.mov 75), qT 77 76 (.mov 15), qT 78 76 (.mov 18), qT 79 76 (.bin .eql 77 78), qI 80 (.pick 76 79 (.k (.bool false))), qI 81 (.mov 80), qT 82 81 (.mov 16), qT 83 81 (.mov 19), qT 84 81 (.bin .eql 82 83), qI 85 (.pick 81 84 (.k (.bool false))), qI 86 (.mov 85), qT 87 86 (.call (.fn 9) []), qI 88 (.pick 86 87 (.k (.bool false))), qI 6 (.mov 88)]
def x3 : XC := (.seq (.ops false r3_0) (.seq (.seq (.ops false r3_1) (.cond (.t 22) (.seq (.ops false r3_2) .ret) .skip)) (.seq (.ops false r3_3) (.seq (.seq (.ops false r3_4) (.block 0 (.loop [] ⟨89, [(0, (.list (.int .u8))), (34, (.int .i64)), (35, (.int .i64))], [(33, .row 0)], [.row 3 (.int .i64) false]⟩ (.seq (.ops false r3_5) (.seq (.cond (.t 36) .skip (.exit 0)) (.seq (.block 1 (.seq (.ops false r3_6) (.seq (.ops false r3_7) (.seq (.ops false r3_8) (.seq (.ops false r3_9) (.cond (.t 59) (.seq (.ops false r3_10) .ret) .skip)))))) (.ops false r3_11))))))) (.seq (.ops false r3_12) (.seq (.ops false r3_13) (.seq (.ops false r3_14) .ret)))))))
theorem F3 : Fn Try.prog 3 89 x3.er [.t 6] := ⟨Try.f3, hcl, Try.func3, by kernel_rfl, by kernel_rfl, by kernel_rfl, by kernel_rfl⟩
noncomputable def m3 (a0 : List Int) (a1 : Int) (a2 : List Int) : Option (Bool × Unit) :=
 cond (iLt 100 (lenI a0))
 ((m9).bind fun y151 =>
 some (y151.1, ()))
 ((m10 a2).bind fun y152 =>
 (m11 17592186044416 y152.1 y152.2.1).bind fun y153 =>
 (m12 a1).bind fun y154 =>
 loopO (S := (List Int) × Int × Int × (List Int) × Unit) (R := Bool × Unit) (fun s155 =>
 cond (iLt s155.2.2.1 s155.2.1)
 (cond (bnd s155.2.2.1 (lenI s155.2.2.2.1))
 (cond (inB (Int.toNat s155.2.2.1) s155.2.2.2.1)
 ((m13 s155.1 (List.getD s155.2.2.2.1 (Int.toNat s155.2.2.1) 0)).bind fun y156 =>
 (m14 s155.1 (List.getD s155.2.2.2.1 (Int.toNat s155.2.2.1) 0)).bind fun y157 =>
 (m15 y156.1 y157.1).bind fun y158 =>
 cond (cond (not y158.1) true (iNe y156.2.1 y157.2.1))
 (some (.inr (false, ())))
 (some (.inl (s155.1, s155.2.1, iAdd .i64 s155.2.2.1 1, s155.2.2.2.1, ())))) none) none)
 (Option.map Sum.inr ((m16 s155.1).bind fun y159 =>
 (m17 s155.1).bind fun y160 =>
 cond (cond (cond (iEq y159.1 y160.1) (iEq y159.2.1 y160.2.1) false) (iEq y159.2.2.1 y160.2.2.1) false)
 ((m9).bind fun y161 =>
 some (y161.1, ()))
 (some (false, ())))))
 (a0, lenI ([a1, y154.1, y153.1, iNeg .i64 y153.1] : List Int), 0, ([a1, y154.1, y153.1, iNeg .i64 y153.1] : List Int), ()))
noncomputable def cfg3 : Cfg := ⟨ttab, gtab, [i12, i13, i14, i15, i16, i17, i9], [h10, h11]⟩
theorem eqn3 (x : (List Int) × Int × (List Int) × Unit) : xfun cfg3 x3 89 [.t 6] [(.list (.int .u8)), (.int .i64), (.list (.int .i64))] [.bool] x = m3 x.1 x.2.1 x.2.2.1 := by kernel_rfl
noncomputable def i3 : PI := ⟨3, [(.list (.int .u8)), (.int .i64), (.list (.int .i64))], [.bool], fun (x : (List Int) × Int × (List Int) × Unit) => m3 x.1 x.2.1 x.2.2.1⟩
theorem oki3 : POk Try.prog (gx gtab) i3 := pok mixed (cfg_p oki12 (cfg_p oki13 (cfg_p oki14 (cfg_p oki15 (cfg_p oki16 (cfg_p oki17 (cfg_p oki9 (cfg_h okh10 (cfg_h okh11 (cfg_nil _ _))))))))) : CfgOk _ cfg3) F3 eqn3
/- 4 treaty/treatylaw40.CodecNumbers -/
def r4_0 : List Ins := [qI 4 (.mov (.k (.bool false)))]
def r4_1 : List Ins := [qI 10 (.mov 0), qI 11 (.call (.fn 12) [10]), qI 0 (.mov 11)]
def r4_2 : List Ins := [qI 13 (.mov 0), qI 14 (.call (.fn 13) [kN, 13]), qI 12 (.mov 14), qI 15 (.ext 0 12), qI 16 (.ext 1 12), qI 5 (.mov 15), qI 6 (.mov 16)]
def r4_3 : List Ins := [qI 18 (.bslice 5 1 []), qI 19 (.mov 5), qI 20 (.app 5 1 1 18 19), qI 21 (.mov 1), qI 22 (.app 5 1 1 20 21), qI 23 (.call (.fn 16) [22]), qI 17 (.mov 23), qI 24 (.ext 0 17), qI 25 (.ext 1 17), qI 26 (.ext 2 17), qI 7 (.mov 24), qI 8 (.mov 25), qI 9 (.mov 26)]
def r4_4 : List Ins := [qI 27 (.mov 6), qI 28 (.bin .eql 27 (kI 0)), qI 29 (.mov 28), qT 30 29 (.mov 9), qT 31 29 (.bin .eql 30 (kI 0)), qI 32 (.pick 29 31 (.k (.bool false))), qI 33 (.mov 32), qT 34 33 (.mov 7), qT 35 33 (.mov 0), qT 36 33 (.bin .eql 34 35), qI 37 (.pick 33 36 (.k (.bool false))), qI 38 (.mov 37), qT 39 38 (.mov 8), qT 40 38 (.mov 5), qT 41 38 (.len 40), qT 42 38 (.bin .eql 39 41), qI 43 (.pick 38 42 (.k (.bool false))), qI 44 (.mov 43), qT 45 44 (.mov 5), qT 46 44 (.len 45), qT 47 44 (.bin .geq 46 (kI 1)), qI 48 (.pick 44 47 (.k (.bool false))), qI 49 (.mov 48), qT 50 49 (.mov 5), qT 51 49 (.len 50), qT 52 49 (.bin .leq 51 (kI 7)), qI 53 (.pick 49 52 (.k (.bool false))), qI 54 (.mov 53), qT 55 54 (.call (.fn 9) []), qI 56 (.pick 54 55 (.k (.bool false))), qI 4 (.mov 56)]
def x4 : XC := (.seq (.ops false r4_0) (.seq (.ops false r4_1) (.seq (.ops false r4_2) (.seq (.ops false r4_3) (.seq (.ops false r4_4) .ret)))))
theorem F4 : Fn Try.prog 4 57 x4.er [.t 4] := ⟨Try.f4, hcl, Try.func4, by kernel_rfl, by kernel_rfl, by kernel_rfl, by kernel_rfl⟩
noncomputable def m4 (a0 : Int) (a1 : List Int) : Option (Bool × Unit) :=
 (m12 a0).bind fun y162 =>
 (m13 ([] : List Int) y162.1).bind fun y163 =>
 cond (fits (List.length ([] : List Int) + List.length y163.1) 1)
 (cond (fits (List.length (([] : List Int) ++ y163.1) + List.length a1) 1)
 ((m16 ((([] : List Int) ++ y163.1) ++ a1)).bind fun y164 =>
 cond (cond (cond (cond (cond (cond (iEq y163.2.1 0) (iEq y164.2.2.1 0) false) (iEq y164.1 y162.1) false) (iEq y164.2.1 (lenI y163.1)) false) (iLe 1 (lenI y163.1)) false) (iLe (lenI y163.1) 7) false)
 ((m9).bind fun y165 =>
 some (y165.1, ()))
 (some (false, ()))) none) none
noncomputable def cfg4 : Cfg := ⟨ttab, gtab, [i12, i13, i16, i9], []⟩
theorem eqn4 (x : Int × (List Int) × Unit) : xfun cfg4 x4 57 [.t 4] [(.int .i64), (.list (.int .u8))] [.bool] x = m4 x.1 x.2.1 := by kernel_rfl
noncomputable def i4 : PI := ⟨4, [(.int .i64), (.list (.int .u8))], [.bool], fun (x : Int × (List Int) × Unit) => m4 x.1 x.2.1⟩
theorem oki4 : POk Try.prog (gx gtab) i4 := pok mixed (cfg_p oki12 (cfg_p oki13 (cfg_p oki16 (cfg_p oki9 (cfg_nil _ _)))) : CfgOk _ cfg4) F4 eqn4
/- 64 (*treaty/treatymade.Deck).subset -/
def r64_0 : List Ins := [qI 6 (.mov kN)]
def r64_1 : List Ins := [qI 7 (.mov kN)]
def r64_2 : List Ins := [qI 9 (.mov 0), qI 10 (.call (.fn 32) [9, (kI 2)]), qI 11 (.bin .eql 10 (kI 0))]
def r64_3 : List Ins := [qI 6 (.mov kN)]
def r64_4 : List Ins := [qI 12 (.mov 1), qI 8 (.mov 12)]
def r64_5 : List Ins := [qI 13 (.mov 8), qI 14 (.mov 2), qI 15 (.bin .leq 13 14)]
def r64_6 : List Ins := [qI 18 (.mov 0), qI 19 (.call (.fn 32) [18, (kI 3)]), qI 20 (.bin .gtr 19 (kI 0))]
def r64_7 : List Ins := [qI 21 (.mov 7), qI 22 (.mov 8), qI 23 (.bslice 3 1 [22]), qI 24 (.app 3 1 8 21 23), qI 7 (.mov 24)]
def r64_8 : List Ins := [qI 16 (.mov 8), qI 17 (.bin .add 16 (kI 1)), qI 8 (.mov 17)]
def r64_9 : List Ins := [qI 25 (.mov 7), qI 6 (.mov 25)]
def x64 : XC := (.seq (.ops false r64_0) (.seq (.ops false r64_1) (.seq (.seq (.ops false r64_2) (.cond (.t 11) (.seq (.ops false r64_3) .ret) .skip)) (.seq (.seq (.ops false r64_4) (.block 0 (.loop [.gh 7 3 (.int .i64)] ⟨26, [(2, (.int .i64)), (8, (.int .i64))], [(0, .ptr 0 0 0), (7, .row 1)], [.box 98 [.d (.list (.int .i64)), .d (.int .i64)], .row 3 (.int .i64) false]⟩ (.seq (.seq (.ops false r64_5) (.cond (.t 15) .skip (.exit 0))) (.seq (.block 1 (.seq (.ops false r64_6) (.cond (.t 20) (.ops false r64_7) .skip))) (.ops false r64_8)))))) (.seq (.ops false r64_9) .ret)))))
theorem F64 : Fn Try.prog 64 26 x64.er [.t 6] := ⟨Try.f64, hcl, Try.func64, by kernel_rfl, by kernel_rfl, by kernel_rfl, by kernel_rfl⟩
noncomputable def m64 (a0 : Int) (a1 : Int) (a2 : List Int) (a3 : Int) : Option ((List Int) × Int × (List Int) × Unit) :=
 (m32 2 a2 a3).bind fun y180 =>
 cond (iEq y180.1 0)
 (some (y180.2.1, y180.2.2.1, ([] : List Int), ()))
 (loopO (S := Int × Int × (List Int) × Int × (List Int) × Unit) (R := (List Int) × Int × (List Int) × Unit) (fun s181 =>
 cond (iLe s181.2.1 s181.1)
 ((m32 3 s181.2.2.1 s181.2.2.2.1).bind fun y182 =>
 cond (iLt 0 y182.1)
 (cond (fits (List.length s181.2.2.2.2.1 + List.length ([s181.2.1] : List Int)) 8)
 (some (.inl (s181.1, iAdd .i64 s181.2.1 1, y182.2.1, y182.2.2.1, s181.2.2.2.2.1 ++ ([s181.2.1] : List Int), ()))) none)
 (some (.inl (s181.1, iAdd .i64 s181.2.1 1, y182.2.1, y182.2.2.1, s181.2.2.2.2.1, ()))))
 (some (.inr (s181.2.2.1, s181.2.2.2.1, s181.2.2.2.2.1, ()))))
 (a1, a0, y180.2.1, y180.2.2.1, ([] : List Int), ()))
noncomputable def cfg64 : Cfg := ⟨ttab, gtab, [], [h32]⟩
def ish64 : Sh := ⟨3, [(1, (.int .i64)), (2, (.int .i64))], [(0, .ptr 0 0 0)], [.box 98 [.d (.list (.int .i64)), .d (.int .i64)]]⟩
def osh64 : Sh := ⟨1, [], [(0, .row 1)], [.box 98 [.d (.list (.int .i64)), .d (.int .i64)], .row 3 (.int .i64) false]⟩
theorem eqn64 (x : Int × Int × (List Int) × Int × Unit) : xfunH cfg64 x64 26 [.t 6] [.gh 6 3 (.int .i64)] ish64 osh64 x = m64 x.1 x.2.1 x.2.2.1 x.2.2.2.1 := by kernel_rfl
noncomputable def h64 : HI := ⟨64, ish64, osh64, fun (x : Int × Int × (List Int) × Int × Unit) => m64 x.1 x.2.1 x.2.2.1 x.2.2.2.1⟩
theorem okh64 : HOk Try.prog (gx gtab) h64 := hok mixed (cfg_h okh32 (cfg_nil _ _) : CfgOk _ cfg64) F64 eqn64
/- 65 (*treaty/treatymade.Deck).Money -/
def r65_0 : List Ins := [qI 2 (.mov (kI 0))]
def r65_1 : List Ins := [qI 3 (.mov 0), qI 4 (.call (.fn 11) [3, (kI 1073741824)]), qI 2 (.mov 4)]
def x65 : XC := (.seq (.ops false r65_0) (.seq (.ops false r65_1) .ret))
theorem F65 : Fn Try.prog 65 5 x65.er [.t 2] := ⟨Try.f65, hcl, Try.func65, by kernel_rfl, by kernel_rfl, by kernel_rfl, by kernel_rfl⟩
noncomputable def m65 (a0 : List Int) (a1 : Int) : Option (Int × (List Int) × Int × Unit) :=
 (m11 1073741824 a0 a1).bind fun y186 =>
 some (y186.1, y186.2.1, y186.2.2.1, ())
noncomputable def cfg65 : Cfg := ⟨ttab, gtab, [], [h11]⟩
def ish65 : Sh := ⟨1, [], [(0, .ptr 0 0 0)], [.box 98 [.d (.list (.int .i64)), .d (.int .i64)]]⟩
def osh65 : Sh := ⟨1, [(0, (.int .i64))], [], [.box 98 [.d (.list (.int .i64)), .d (.int .i64)]]⟩
theorem eqn65 (x : (List Int) × Int × Unit) : xfunH cfg65 x65 5 [.t 2] [] ish65 osh65 x = m65 x.1 x.2.1 := by kernel_rfl
noncomputable def h65 : HI := ⟨65, ish65, osh65, fun (x : (List Int) × Int × Unit) => m65 x.1 x.2.1⟩
theorem okh65 : HOk Try.prog (gx gtab) h65 := hok mixed (cfg_h okh11 (cfg_nil _ _) : CfgOk _ cfg65) F65 eqn65
/- 58 (*treaty/treatymade.Deck).Parts -/
def r58_0 : List Ins := [qI 2 (.mov kN)]
def r58_1 : List Ins := [qI 3 (.mov kN)]
def r58_2 : List Ins := [qI 4 (.mov (kI 1000000)), qI 5 (.mov (kI 0))]
def r58_3 : List Ins := [qI 8 (.mov 0), qI 9 (.call (.fn 32) [8, (kI 5)]), qI 6 (.mov 9)]
def r58_4 : List Ins := [qI 10 (.mov 6), qI 11 (.bin .gtr 10 (kI 0)), qI 12 (.mov 11), qT 13 12 (.mov 4), qT 14 12 (.bin .gtr 13 (kI 0)), qI 15 (.pick 12 14 (.k (.bool false)))]
def r58_5 : List Ins := [qI 18 (.mov 5), qI 19 (.bin .add 18 (kI 1)), qI 20 (.mov 0), qI 21 (.call (.fn 32) [20, (kI 3)]), qI 22 (.bin .add 19 21), qI 5 (.mov 22)]
def r58_6 : List Ins := [qI 23 (.mov 0), qI 24 (.mov 4), qI 25 (.bin .sub 24 (kI 1)), qI 26 (.call (.fn 11) [23, 25]), qI 27 (.bin .add (kI 1) 26), qI 7 (.mov 27)]
def r58_7 : List Ins := [qI 28 (.mov 3), qI 29 (.mov 5), qI 30 (.mov 7), qI 31 (.build [.int .i64 0, .int .i64 0] [(0, 1, 29), (1, 1, 30)]), qI 32 (.bslice 116 2 [31]), qI 33 (.app 116 2 16 28 32), qI 34 (.mov 4), qI 35 (.mov 7), qI 36 (.bin .sub 34 35), qI 3 (.mov 33), qI 4 (.mov 36)]
def r58_8 : List Ins := [qI 16 (.mov 6), qI 17 (.bin .sub 16 (kI 1)), qI 6 (.mov 17)]
def r58_9 : List Ins := [qI 37 (.mov 3), qI 2 (.mov 37)]
def x58 : XC := (.seq (.ops false r58_0) (.seq (.ops false r58_1) (.seq (.ops false r58_2) (.seq (.seq (.ops false r58_3) (.block 0 (.loop [.gh 3 116 tS2] ⟨38, [(4, (.int .i64)), (5, (.int .i64)), (6, (.int .i64))], [(0, .ptr 0 0 0), (3, .row 1)], [.box 98 [.d (.list (.int .i64)), .d (.int .i64)], .row 116 tS2 false]⟩ (.seq (.seq (.ops false r58_4) (.cond (.t 15) .skip (.exit 0))) (.seq (.block 1 (.seq (.ops false r58_5) (.seq (.ops false r58_6) (.ops false r58_7)))) (.ops false r58_8)))))) (.seq (.ops false r58_9) .ret)))))
theorem F58 : Fn Try.prog 58 38 x58.er [.t 2] := ⟨Try.f58, hcl, Try.func58, by kernel_rfl, by kernel_rfl, by kernel_rfl, by kernel_rfl⟩
noncomputable def m58 (a0 : List Int) (a1 : Int) : Option ((List Int) × Int × (List DS2) × Unit) :=
 (m32 5 a0 a1).bind fun y196 =>
 loopO (S := Int × Int × Int × (List Int) × Int × (List DS2) × Unit) (R := (List Int) × Int × (List DS2) × Unit) (fun s197 =>
 cond (cond (iLt 0 s197.2.2.1) (iLt 0 s197.1) false)
 ((m32 3 s197.2.2.2.1 s197.2.2.2.2.1).bind fun y198 =>
 (m11 (iSub .i64 s197.1 1) y198.2.1 y198.2.2.1).bind fun y199 =>
 cond (fits (List.length s197.2.2.2.2.2.1 + List.length ([(iAdd .i64 (iAdd .i64 s197.2.1 1) y198.1, iAdd .i64 1 y199.1, ())] : List DS2)) 16)
 (some (.inl (iSub .i64 s197.1 (iAdd .i64 1 y199.1), iAdd .i64 (iAdd .i64 s197.2.1 1) y198.1, iSub .i64 s197.2.2.1 1, y199.2.1, y199.2.2.1, s197.2.2.2.2.2.1 ++ ([(iAdd .i64 (iAdd .i64 s197.2.1 1) y198.1, iAdd .i64 1 y199.1, ())] : List DS2), ()))) none)
 (some (.inr (s197.2.2.2.1, s197.2.2.2.2.1, s197.2.2.2.2.2.1, ()))))
 (1000000, 0, y196.1, y196.2.1, y196.2.2.1, ([] : List DS2), ())
noncomputable def cfg58 : Cfg := ⟨ttab, gtab, [], [h11, h32]⟩
def ish58 : Sh := ⟨1, [], [(0, .ptr 0 0 0)], [.box 98 [.d (.list (.int .i64)), .d (.int .i64)]]⟩
def osh58 : Sh := ⟨1, [], [(0, .row 1)], [.box 98 [.d (.list (.int .i64)), .d (.int .i64)], .row 116 tS2 false]⟩
theorem eqn58 (x : (List Int) × Int × Unit) : xfunH cfg58 x58 38 [.t 2] [.gh 2 116 tS2] ish58 osh58 x = m58 x.1 x.2.1 := by kernel_rfl
noncomputable def h58 : HI := ⟨58, ish58, osh58, fun (x : (List Int) × Int × Unit) => m58 x.1 x.2.1⟩
theorem okh58 : HOk Try.prog (gx gtab) h58 := hok mixed (cfg_h okh11 (cfg_h okh32 (cfg_nil _ _)) : CfgOk _ cfg58) F58 eqn58
/- 66 (*treaty/treatymade.Deck).Range -/
def r66_0 : List Ins := [qI 6 (.mov (kI 0))]
def r66_1 : List Ins := [qI 7 (.mov 1), qI 8 (.mov 0), qI 9 (.mov 2), qI 10 (.mov 1), qI 11 (.bin .sub 9 10), qI 12 (.bin .add 11 (kI 1)), qI 13 (.call (.fn 32) [8, 12]), qI 14 (.bin .add 7 13), qI 6 (.mov 14)]
def x66 : XC := (.seq (.ops false r66_0) (.seq (.ops false r66_1) .ret))
theorem F66 : Fn Try.prog 66 15 x66.er [.t 6] := ⟨Try.f66, hcl, Try.func66, by kernel_rfl, by kernel_rfl, by kernel_rfl, by kernel_rfl⟩
noncomputable def m66 (a0 : Int) (a1 : Int) (a2 : List Int) (a3 : Int) : Option (Int × (List Int) × Int × Unit) :=
 (m32 (iAdd .i64 (iSub .i64 a1 a0) 1) a2 a3).bind fun y206 =>
 some (iAdd .i64 a0 y206.1, y206.2.1, y206.2.2.1, ())
noncomputable def cfg66 : Cfg := ⟨ttab, gtab, [], [h32]⟩
def ish66 : Sh := ⟨3, [(1, (.int .i64)), (2, (.int .i64))], [(0, .ptr 0 0 0)], [.box 98 [.d (.list (.int .i64)), .d (.int .i64)]]⟩
def osh66 : Sh := ⟨1, [(0, (.int .i64))], [], [.box 98 [.d (.list (.int .i64)), .d (.int .i64)]]⟩
theorem eqn66 (x : Int × Int × (List Int) × Int × Unit) : xfunH cfg66 x66 15 [.t 6] [] ish66 osh66 x = m66 x.1 x.2.1 x.2.2.1 x.2.2.2.1 := by kernel_rfl
noncomputable def h66 : HI := ⟨66, ish66, osh66, fun (x : Int × Int × (List Int) × Int × Unit) => m66 x.1 x.2.1 x.2.2.1 x.2.2.2.1⟩
theorem okh66 : HOk Try.prog (gx gtab) h66 := hok mixed (cfg_h okh32 (cfg_nil _ _) : CfgOk _ cfg66) F66 eqn66
/- 59 (*treaty/treatymade.Deck).Treaty -/
def r59_0 : List Ins := [qI 6 (.alloc 107 (.agg #[.int .i64 0, .int .i64 0, .int .i64 0, .int .i64 0, .slice none 0 0, .slice none 0 0, .int .i64 0, .int .i64 0, .int .i64 0, .int .i64 0, .int .i64 0, .int .i64 0, .int .i64 0, .int .i64 0, .int .i64 0, .int .i64 0, .slice none 0 0, .bool false, .int .i64 0, .slice none 0 0, .slice none 0 0]))]
def r59_1 : List Ins := [qI 9 (.mov 1), qI 10 (.mov 2), qI 11 (.mov 0), qI 12 (.call (.fn 32) [11, (kI 10)]), qI 13 (.mov 0), qI 14 (.call (.fn 32) [13, (kI 60)]), qI 15 (.bin .add (kI 60) 14), qI 16 (.build [.int .i64 0, .int .i64 0] [(0, 1, 12), (1, 1, 15)]), qI 17 (.mov 0), qI 18 (.call (.fn 64) [17, (kI 0), (kI 2)]), qI 19 (.mov 0), qI 20 (.call (.fn 64) [19, (kI 0), (kI 2)]), qI 21 (.mov 0), qI 22 (.call (.fn 65) [21]), qI 23 (.mov 0), qI 24 (.call (.fn 58) [23]), qI 25 (.build [.int .i64 0, .int .i64 0, .int .i64 0, .int .i64 0, .slice none 0 0, .slice none 0 0, .int .i64 0, .int .i64 0, .int .i64 0, .int .i64 0, .int .i64 0, .int .i64 0, .int .i64 0, .int .i64 0, .int .i64 0, .int .i64 0, .slice none 0 0, .bool false, .int .i64 0, .slice none 0 0, .slice none 0 0] [(0, 1, 9), (1, 1, 10), (2, 2, 16), (4, 1, 18), (5, 1, 20), (15, 1, 22), (20, 1, 24)]), qI 7 (.alloc 107 (.agg #[.int .i64 0, .int .i64 0, .int .i64 0, .int .i64 0, .slice none 0 0, .slice none 0 0, .int .i64 0, .int .i64 0, .int .i64 0, .int .i64 0, .int .i64 0, .int .i64 0, .int .i64 0, .int .i64 0, .int .i64 0, .int .i64 0, .slice none 0 0, .bool false, .int .i64 0, .slice none 0 0, .slice none 0 0])), qN (.store 21 7 25)]
def r59_2 : List Ins := [qI 26 (.mov 2)]
def r59_3 : List Ins := [qI 35 (.bin .eql 26 (kI 1)), qI 34 (.mov 35)]
def r59_4 : List Ins := [qI 36 (.mov 0), qI 37 (.call (.fn 11) [36, (kI 999999)]), qI 38 (.bin .add (kI 1) 37), qI 39 (.faddr 7 7), qN (.store 1 39 38)]
def r59_5 : List Ins := [qI 40 (.mov 0), qI 41 (.call (.fn 32) [40, (kI 2)]), qI 42 (.bin .eql 41 (kI 1))]
def r59_6 : List Ins := [qI 43 (.mov 0), qI 44 (.call (.fn 65) [43]), qI 45 (.faddr 11 7), qN (.store 1 45 44)]
def r59_7 : List Ins := [qI 47 (.bin .eql 26 (kI 2)), qI 46 (.mov 47)]
def r59_8 : List Ins := [qI 48 (.mov 0), qI 49 (.call (.fn 11) [48, (kI 1073741823)]), qI 50 (.bin .add (kI 1) 49), qI 51 (.mov 0), qI 52 (.call (.fn 66) [51, (kI 1), (kI 9)]), qI 53 (.faddr 8 7), qN (.store 1 53 50), qI 54 (.faddr 9 7), qN (.store 1 54 52)]
def r59_9 : List Ins := [qI 56 (.bin .eql 26 (kI 3)), qI 55 (.mov 56)]
def r59_10 : List Ins := [qI 57 (.mov 0), qI 58 (.call (.fn 66) [57, (kI 1), (kI 4)]), qI 59 (.mov 0), qI 60 (.call (.fn 11) [59, (kI 999999)]), qI 61 (.bin .add (kI 1) 60), qI 62 (.faddr 6 7), qN (.store 1 62 58), qI 63 (.faddr 7 7), qN (.store 1 63 61)]
def r59_11 : List Ins := [qI 27 (.mov 0), qI 28 (.call (.fn 11) [27, (kI 1073741824)]), qI 29 (.mov 0), qI 30 (.call (.fn 11) [29, (kI 1073741823)]), qI 31 (.bin .add (kI 1) 30), qI 32 (.faddr 10 7), qN (.store 1 32 28), qI 33 (.faddr 11 7), qN (.store 1 33 31)]
def r59_12 : List Ins := [qI 64 (.mov 2), qI 65 (.bin .eql 64 (kI 4)), qI 66 (.mov 65), qF 67 66 (.mov 2), qF 68 66 (.bin .eql 67 (kI 5)), qI 69 (.pick 66 (.k (.bool true)) 68)]
def r59_13 : List Ins := [qI 70 (.mov 0), qI 71 (.call (.fn 32) [70, (kI 2)]), qI 72 (.bin .eql 71 (kI 1))]
def r59_14 : List Ins := [qI 73 (.mov 0), qI 74 (.call (.fn 65) [73]), qI 75 (.faddr 13 7), qN (.store 1 75 74)]
def r59_15 : List Ins := [qI 76 (.mov 0), qI 77 (.call (.fn 32) [76, (kI 2)]), qI 78 (.bin .eql 77 (kI 1))]
def r59_16 : List Ins := [qI 79 (.mov 0), qI 80 (.call (.fn 65) [79]), qI 81 (.faddr 14 7), qN (.store 1 81 80)]
def r59_17 : List Ins := [qI 82 (.mov 0), qI 83 (.call (.fn 32) [82, (kI 4)]), qI 8 (.mov 83)]
def r59_18 : List Ins := [qI 84 (.mov 8), qI 85 (.bin .gtr 84 (kI 0))]
def r59_19 : List (Nat × Ins) := [(0, qI 88 (.faddr 16 7)),
(1, qI 89 (.load 1 false 88)),
(0, qI 90 (.mov 0)),
(2, qI 91 (.call (.fn 11) [90, (kI 2000000)])),
(2, qI 92 (.bslice 3 1 [91])),
(0, qI 93 (.app 3 1 8 89 92)),
(0, qI 94 (.faddr 16 7)),
(0, qN (.store 1 94 93))]
def r59_20 : List Ins := [qI 86 (.mov 8), qI 87 (.bin .sub 86 (kI 1)), qI 8 (.mov 87)]
def r59_21 : List Ins := [qI 95 (.faddr 16 7), qI 96 (.load 1 false 95), qI 97 (.len 96), qI 98 (.bin .gtr 97 (kI 0)), qI 99 (.mov 98), qT 100 99 (.mov 0), qT 101 99 (.call (.fn 32) [100, (kI 2)]), qT 102 99 (.bin .eql 101 (kI 1)), qI 103 (.pick 99 102 (.k (.bool false))), qI 104 (.faddr 17 7), qN (.store 1 104 103)]
def r59_22 : List Ins := [qI 105 (.mov 2), qI 106 (.bin .eql 105 (kI 4)), qI 107 (.mov 106), qT 108 107 (.mov 0), qT 109 107 (.call (.fn 32) [108, (kI 2)]), qT 110 107 (.bin .eql 109 (kI 1)), qI 111 (.pick 107 110 (.k (.bool false)))]
def r59_23 : List Ins := [qI 112 (.mov 0), qI 113 (.call (.fn 11) [112, (kI 1000)]), qI 114 (.bin .add (kI 1) 113), qI 115 (.faddr 18 7), qN (.store 1 115 114)]
def r59_24 : List Ins := [qI 116 (.mov 2), qI 117 (.bin .eql 116 (kI 5))]
def r59_25 : List Ins := [qI 118 (.mov 0), qI 119 (.call (.fn 66) [118, (kI 1), (kI 30)]), qI 120 (.faddr 12 7), qN (.store 1 120 119)]
def r59_26 : List Ins := [qI 121 (.load 21 true 7), qN (.store 21 6 121)]
def x59 : XC := (.seq (.ops false r59_0) (.seq (.ops false r59_1) (.seqj [] ⟨122, [(2, (.int .i64))], [(0, .ptr 0 0 0), (6, .ptr 1 0 0), (7, .ptr 2 0 0)], [.box 98 [.d (.list (.int .i64)), .d (.int .i64)], .box 107 [.d (.int .i64), .d (.int .i64), .d (.int .i64), .d (.int .i64), .nil, .nil, .d (.int .i64), .d (.int .i64), .d (.int .i64), .d (.int .i64), .d (.int .i64), .d (.int .i64), .d (.int .i64), .d (.int .i64), .d (.int .i64), .d (.int .i64), .nil, .d .bool, .d (.int .i64), .nil, .nil], .box 107 [.d (.int .i64), .d (.int .i64), .d (.int .i64), .d (.int .i64), .row 3, .row 4, .d (.int .i64), .d (.int .i64), .d (.int .i64), .d (.int .i64), .d (.int .i64), .d (.int .i64), .d (.int .i64), .d (.int .i64), .d (.int .i64), .d (.int .i64), .nil, .d .bool, .d (.int .i64), .nil, .row 5], .row 3 (.int .i64) false, .row 3 (.int .i64) false, .row 116 tS2 false]⟩ (.seq (.ops false r59_2) (.block 0 (.seq (.ops false r59_3) (.cond (.t 34) (.seq (.ops false r59_4) (.seq (.ops false r59_5) (.cond (.t 42) (.ops false r59_6) .skip))) (.seq (.ops false r59_7) (.cond (.t 46) (.ops false r59_8) (.seq (.ops false r59_9) (.cond (.t 55) (.ops false r59_10) (.ops false r59_11))))))))) (.seqj [.ghc 7 16 3 (.int .i64)] ⟨122, [(2, (.int .i64))], [(0, .ptr 0 0 0), (6, .ptr 1 0 0), (7, .ptr 2 0 0)], [.box 98 [.d (.list (.int .i64)), .d (.int .i64)], .box 107 [.d (.int .i64), .d (.int .i64), .d (.int .i64), .d (.int .i64), .nil, .nil, .d (.int .i64), .d (.int .i64), .d (.int .i64), .d (.int .i64), .d (.int .i64), .d (.int .i64), .d (.int .i64), .d (.int .i64), .d (.int .i64), .d (.int .i64), .nil, .d .bool, .d (.int .i64), .nil, .nil], .box 107 [.d (.int .i64), .d (.int .i64), .d (.int .i64), .d (.int .i64), .row 3, .row 4, .d (.int .i64), .d (.int .i64), .d (.int .i64), .d (.int .i64), .d (.int .i64), .d (.int .i64), .d (.int .i64), .d (.int .i64), .d (.int .i64), .d (.int .i64), .row 5, .d .bool, .d (.int .i64), .nil, .row 6], .row 3 (.int .i64) false, .row 3 (.int .i64) false, .row 3 (.int .i64) false, .row 116 tS2 false]⟩ (.seq (.ops false r59_12) (.cond (.t 69) (.seqj [] ⟨122, [(2, (.int .i64))], [(0, .ptr 0 0 0), (6, .ptr 1 0 0), (7, .ptr 2 0 0)], [.box 98 [.d (.list (.int .i64)), .d (.int .i64)], .box 107 [.d (.int .i64), .d (.int .i64), .d (.int .i64), .d (.int .i64), .nil, .nil, .d (.int .i64), .d (.int .i64), .d (.int .i64), .d (.int .i64), .d (.int .i64), .d (.int .i64), .d (.int .i64), .d (.int .i64), .d (.int .i64), .d (.int .i64), .nil, .d .bool, .d (.int .i64), .nil, .nil], .box 107 [.d (.int .i64), .d (.int .i64), .d (.int .i64), .d (.int .i64), .row 3, .row 4, .d (.int .i64), .d (.int .i64), .d (.int .i64), .d (.int .i64), .d (.int .i64), .d (.int .i64), .d (.int .i64), .d (.int .i64), .d (.int .i64), .d (.int .i64), .nil, .d .bool, .d (.int .i64), .nil, .row 5], .row 3 (.int .i64) false, .row 3 (.int .i64) false, .row 116 tS2 false]⟩ (.seq (.ops false r59_13) (.cond (.t 72) (.ops false r59_14) .skip)) (.seqj [] ⟨122, [(2, (.int .i64))], [(0, .ptr 0 0 0), (6, .ptr 1 0 0), (7, .ptr 2 0 0)], [.box 98 [.d (.list (.int .i64)), .d (.int .i64)], .box 107 [.d (.int .i64), .d (.int .i64), .d (.int .i64), .d (.int .i64), .nil, .nil, .d (.int .i64), .d (.int .i64), .d (.int .i64), .d (.int .i64), .d (.int .i64), .d (.int .i64), .d (.int .i64), .d (.int .i64), .d (.int .i64), .d (.int .i64), .nil, .d .bool, .d (.int .i64), .nil, .nil], .box 107 [.d (.int .i64), .d (.int .i64), .d (.int .i64), .d (.int .i64), .row 3, .row 4, .d (.int .i64), .d (.int .i64), .d (.int .i64), .d (.int .i64), .d (.int .i64), .d (.int .i64), .d (.int .i64), .d (.int .i64), .d (.int .i64), .d (.int .i64), .nil, .d .bool, .d (.int .i64), .nil, .row 5], .row 3 (.int .i64) false, .row 3 (.int .i64) false, .row 116 tS2 false]⟩ (.seq (.ops false r59_15) (.cond (.t 78) (.ops false r59_16) .skip)) (.seq (.seq (.ops false r59_17) (.block 1 (.loop [.ghc 7 16 3 (.int .i64)] ⟨122, [(2, (.int .i64)), (8, (.int .i64))], [(0, .ptr 0 0 0), (6, .ptr 1 0 0), (7, .ptr 2 0 0)], [.box 98 [.d (.list (.int .i64)), .d (.int .i64)], .box 107 [.d (.int .i64), .d (.int .i64), .d (.int .i64), .d (.int .i64), .nil, .nil, .d (.int .i64), .d (.int .i64), .d (.int .i64), .d (.int .i64), .d (.int .i64), .d (.int .i64), .d (.int .i64), .d (.int .i64), .d (.int .i64), .d (.int .i64), .nil, .d .bool, .d (.int .i64), .nil, .nil], .box 107 [.d (.int .i64), .d (.int .i64), .d (.int .i64), .d (.int .i64), .row 3, .row 4, .d (.int .i64), .d (.int .i64), .d (.int .i64), .d (.int .i64), .d (.int .i64), .d (.int .i64), .d (.int .i64), .d (.int .i64), .d (.int .i64), .d (.int .i64), .row 5, .d .bool, .d (.int .i64), .nil, .row 6], .row 3 (.int .i64) false, .row 3 (.int .i64) false, .row 3 (.int .i64) false, .row 116 tS2 false]⟩ (.seq (.seq (.ops false r59_18) (.cond (.t 85) .skip (.exit 1))) (.seq (.block 2 (.rops [0] r59_19)) (.ops false r59_20)))))) (.ops false r59_21)))) .skip)) (.seq (.seq (.ops false r59_22) (.cond (.t 111) (.ops false r59_23) .skip)) (.seq (.seq (.ops false r59_24) (.cond (.t 117) (.ops false r59_25) .skip)) (.seq (.ops false r59_26) .ret)))))))
theorem F59 : Fn Try.prog 59 122 x59.er [.c 6 21 true] := ⟨Try.f59, hcl, Try.func59, by kernel_rfl, by kernel_rfl, by kernel_rfl, by kernel_rfl⟩
noncomputable def m59 (a0 : Int) (a1 : Int) (a2 : List Int) (a3 : Int) : Option (Int × Int × Int × Int × Int × Int × Int × Int × Int × Int × Int × Int × Int × Int × Bool × Int × (List Int) × Int × (List Int) × (List Int) × (List Int) × (List DS2) × Unit) :=
 (m32 10 a2 a3).bind fun y260 =>
 (m32 60 y260.2.1 y260.2.2.1).bind fun y261 =>
 (m64 0 2 y261.2.1 y261.2.2.1).bind fun y262 =>
 (m64 0 2 y262.1 y262.2.1).bind fun y263 =>
 (m65 y263.1 y263.2.1).bind fun y264 =>
 (m58 y264.2.1 y264.2.2.1).bind fun y265 =>
 joinO (S := Int × (List Int) × Int × Int × Int × Int × Int × Int × Int × Int × Int × Int × Int × Int × Int × Int × Int × Bool × Int × Int × Int × Int × Int × Int × Int × Int × Int × Int × Int × Int × Int × Int × Int × Bool × Int × (List Int) × (List Int) × (List DS2) × Unit) (R := Int × Int × Int × Int × Int × Int × Int × Int × Int × Int × Int × Int × Int × Int × Bool × Int × (List Int) × Int × (List Int) × (List Int) × (List Int) × (List DS2) × Unit)
 (cond (iEq a1 1)
 ((m11 999999 y265.1 y265.2.1).bind fun y266 =>
 (m32 2 y266.2.1 y266.2.2.1).bind fun y267 =>
 cond (iEq y267.1 1)
 ((m65 y267.2.1 y267.2.2.1).bind fun y268 =>
 some (.inl (a1, y268.2.1, y268.2.2.1, 0, 0, 0, 0, 0, 0, 0, 0, 0, 0, 0, 0, 0, 0, false, 0, a0, a1, y260.1, iAdd .i64 60 y261.1, 0, iAdd .i64 1 y266.1, 0, 0, 0, y268.1, 0, 0, 0, y264.1, false, 0, y262.2.2.1, y263.2.2.1, y265.2.2.1, ())))
 (some (.inl (a1, y267.2.1, y267.2.2.1, 0, 0, 0, 0, 0, 0, 0, 0, 0, 0, 0, 0, 0, 0, false, 0, a0, a1, y260.1, iAdd .i64 60 y261.1, 0, iAdd .i64 1 y266.1, 0, 0, 0, 0, 0, 0, 0, y264.1, false, 0, y262.2.2.1, y263.2.2.1, y265.2.2.1, ()))))
 (cond (iEq a1 2)
 ((m11 1073741823 y265.1 y265.2.1).bind fun y269 =>
 (m66 1 9 y269.2.1 y269.2.2.1).bind fun y270 =>
 some (.inl (a1, y270.2.1, y270.2.2.1, 0, 0, 0, 0, 0, 0, 0, 0, 0, 0, 0, 0, 0, 0, false, 0, a0, a1, y260.1, iAdd .i64 60 y261.1, 0, 0, iAdd .i64 1 y269.1, y270.1, 0, 0, 0, 0, 0, y264.1, false, 0, y262.2.2.1, y263.2.2.1, y265.2.2.1, ())))
 (cond (iEq a1 3)
 ((m66 1 4 y265.1 y265.2.1).bind fun y271 =>
 (m11 999999 y271.2.1 y271.2.2.1).bind fun y272 =>
 some (.inl (a1, y272.2.1, y272.2.2.1, 0, 0, 0, 0, 0, 0, 0, 0, 0, 0, 0, 0, 0, 0, false, 0, a0, a1, y260.1, iAdd .i64 60 y261.1, y271.1, iAdd .i64 1 y272.1, 0, 0, 0, 0, 0, 0, 0, y264.1, false, 0, y262.2.2.1, y263.2.2.1, y265.2.2.1, ())))
 ((m11 1073741824 y265.1 y265.2.1).bind fun y273 =>
 (m11 1073741823 y273.2.1 y273.2.2.1).bind fun y274 =>
 some (.inl (a1, y274.2.1, y274.2.2.1, 0, 0, 0, 0, 0, 0, 0, 0, 0, 0, 0, 0, 0, 0, false, 0, a0, a1, y260.1, iAdd .i64 60 y261.1, 0, 0, 0, 0, y273.1, iAdd .i64 1 y274.1, 0, 0, 0, y264.1, false, 0, y262.2.2.1, y263.2.2.1, y265.2.2.1, ()))))))
 (fun j275 =>
 joinO (S := Int × (List Int) × Int × Int × Int × Int × Int × Int × Int × Int × Int × Int × Int × Int × Int × Int × Int × Bool × Int × Int × Int × Int × Int × Int × Int × Int × Int × Int × Int × Int × Int × Int × Int × Bool × Int × (List Int) × (List Int) × (List Int) × (List DS2) × Unit) (R := Int × Int × Int × Int × Int × Int × Int × Int × Int × Int × Int × Int × Int × Int × Bool × Int × (List Int) × Int × (List Int) × (List Int) × (List Int) × (List DS2) × Unit)
 (cond (cond (iEq j275.1 4) true (iEq j275.1 5))
 (joinO (S := Int × (List Int) × Int × Int × Int × Int × Int × Int × Int × Int × Int × Int × Int × Int × Int × Int × Int × Bool × Int × Int × Int × Int × Int × Int × Int × Int × Int × Int × Int × Int × Int × Int × Int × Bool × Int × (List Int) × (List Int) × (List DS2) × Unit) (R := (Int × (List Int) × Int × Int × Int × Int × Int × Int × Int × Int × Int × Int × Int × Int × Int × Int × Int × Bool × Int × Int × Int × Int × Int × Int × Int × Int × Int × Int × Int × Int × Int × Int × Int × Bool × Int × (List Int) × (List Int) × (List Int) × (List DS2) × Unit) ⊕ (Int × Int × Int × Int × Int × Int × Int × Int × Int × Int × Int × Int × Int × Int × Bool × Int × (List Int) × Int × (List Int) × (List Int) × (List Int) × (List DS2) × Unit))
 ((m32 2 j275.2.1 j275.2.2.1).bind fun y276 =>
 cond (iEq y276.1 1)
 ((m65 y276.2.1 y276.2.2.1).bind fun y277 =>
 some (.inl (j275.1, y277.2.1, y277.2.2.1, j275.2.2.2.1, j275.2.2.2.2.1, j275.2.2.2.2.2.1, j275.2.2.2.2.2.2.1, j275.2.2.2.2.2.2.2.1, j275.2.2.2.2.2.2.2.2.1, j275.2.2.2.2.2.2.2.2.2.1, j275.2.2.2.2.2.2.2.2.2.2.1, j275.2.2.2.2.2.2.2.2.2.2.2.1, j275.2.2.2.2.2.2.2.2.2.2.2.2.1, j275.2.2.2.2.2.2.2.2.2.2.2.2.2.1, j275.2.2.2.2.2.2.2.2.2.2.2.2.2.2.1, j275.2.2.2.2.2.2.2.2.2.2.2.2.2.2.2.1, j275.2.2.2.2.2.2.2.2.2.2.2.2.2.2.2.2.1, j275.2.2.2.2.2.2.2.2.2.2.2.2.2.2.2.2.2.1, j275.2.2.2.2.2.2.2.2.2.2.2.2.2.2.2.2.2.2.1, j275.2.2.2.2.2.2.2.2.2.2.2.2.2.2.2.2.2.2.2.1, j275.2.2.2.2.2.2.2.2.2.2.2.2.2.2.2.2.2.2.2.2.1, j275.2.2.2.2.2.2.2.2.2.2.2.2.2.2.2.2.2.2.2.2.2.1, j275.2.2.2.2.2.2.2.2.2.2.2.2.2.2.2.2.2.2.2.2.2.2.1, j275.2.2.2.2.2.2.2.2.2.2.2.2.2.2.2.2.2.2.2.2.2.2.2.1, j275.2.2.2.2.2.2.2.2.2.2.2.2.2.2.2.2.2.2.2.2.2.2.2.2.1, j275.2.2.2.2.2.2.2.2.2.2.2.2.2.2.2.2.2.2.2.2.2.2.2.2.2.1, j275.2.2.2.2.2.2.2.2.2.2.2.2.2.2.2.2.2.2.2.2.2.2.2.2.2.2.1, j275.2.2.2.2.2.2.2.2.2.2.2.2.2.2.2.2.2.2.2.2.2.2.2.2.2.2.2.1, j275.2.2.2.2.2.2.2.2.2.2.2.2.2.2.2.2.2.2.2.2.2.2.2.2.2.2.2.2.1, j275.2.2.2.2.2.2.2.2.2.2.2.2.2.2.2.2.2.2.2.2.2.2.2.2.2.2.2.2.2.1, y277.1, j275.2.2.2.2.2.2.2.2.2.2.2.2.2.2.2.2.2.2.2.2.2.2.2.2.2.2.2.2.2.2.2.1, j275.2.2.2.2.2.2.2.2.2.2.2.2.2.2.2.2.2.2.2.2.2.2.2.2.2.2.2.2.2.2.2.2.1, j275.2.2.2.2.2.2.2.2.2.2.2.2.2.2.2.2.2.2.2.2.2.2.2.2.2.2.2.2.2.2.2.2.2.1, j275.2.2.2.2.2.2.2.2.2.2.2.2.2.2.2.2.2.2.2.2.2.2.2.2.2.2.2.2.2.2.2.2.2.2.1, j275.2.2.2.2.2.2.2.2.2.2.2.2.2.2.2.2.2.2.2.2.2.2.2.2.2.2.2.2.2.2.2.2.2.2.2.1, j275.2.2.2.2.2.2.2.2.2.2.2.2.2.2.2.2.2.2.2.2.2.2.2.2.2.2.2.2.2.2.2.2.2.2.2.2.1, j275.2.2.2.2.2.2.2.2.2.2.2.2.2.2.2.2.2.2.2.2.2.2.2.2.2.2.2.2.2.2.2.2.2.2.2.2.2.1, ())))
 (some (.inl (j275.1, y276.2.1, y276.2.2.1, j275.2.2.2.1, j275.2.2.2.2.1, j275.2.2.2.2.2.1, j275.2.2.2.2.2.2.1, j275.2.2.2.2.2.2.2.1, j275.2.2.2.2.2.2.2.2.1, j275.2.2.2.2.2.2.2.2.2.1, j275.2.2.2.2.2.2.2.2.2.2.1, j275.2.2.2.2.2.2.2.2.2.2.2.1, j275.2.2.2.2.2.2.2.2.2.2.2.2.1, j275.2.2.2.2.2.2.2.2.2.2.2.2.2.1, j275.2.2.2.2.2.2.2.2.2.2.2.2.2.2.1, j275.2.2.2.2.2.2.2.2.2.2.2.2.2.2.2.1, j275.2.2.2.2.2.2.2.2.2.2.2.2.2.2.2.2.1, j275.2.2.2.2.2.2.2.2.2.2.2.2.2.2.2.2.2.1, j275.2.2.2.2.2.2.2.2.2.2.2.2.2.2.2.2.2.2.1, j275.2.2.2.2.2.2.2.2.2.2.2.2.2.2.2.2.2.2.2.1, j275.2.2.2.2.2.2.2.2.2.2.2.2.2.2.2.2.2.2.2.2.1, j275.2.2.2.2.2.2.2.2.2.2.2.2.2.2.2.2.2.2.2.2.2.1, j275.2.2.2.2.2.2.2.2.2.2.2.2.2.2.2.2.2.2.2.2.2.2.1, j275.2.2.2.2.2.2.2.2.2.2.2.2.2.2.2.2.2.2.2.2.2.2.2.1, j275.2.2.2.2.2.2.2.2.2.2.2.2.2.2.2.2.2.2.2.2.2.2.2.2.1, j275.2.2.2.2.2.2.2.2.2.2.2.2.2.2.2.2.2.2.2.2.2.2.2.2.2.1, j275.2.2.2.2.2.2.2.2.2.2.2.2.2.2.2.2.2.2.2.2.2.2.2.2.2.2.1, j275.2.2.2.2.2.2.2.2.2.2.2.2.2.2.2.2.2.2.2.2.2.2.2.2.2.2.2.1, j275.2.2.2.2.2.2.2.2.2.2.2.2.2.2.2.2.2.2.2.2.2.2.2.2.2.2.2.2.1, j275.2.2.2.2.2.2.2.2.2.2.2.2.2.2.2.2.2.2.2.2.2.2.2.2.2.2.2.2.2.1, j275.2.2.2.2.2.2.2.2.2.2.2.2.2.2.2.2.2.2.2.2.2.2.2.2.2.2.2.2.2.2.1, j275.2.2.2.2.2.2.2.2.2.2.2.2.2.2.2.2.2.2.2.2.2.2.2.2.2.2.2.2.2.2.2.1, j275.2.2.2.2.2.2.2.2.2.2.2.2.2.2.2.2.2.2.2.2.2.2.2.2.2.2.2.2.2.2.2.2.1, j275.2.2.2.2.2.2.2.2.2.2.2.2.2.2.2.2.2.2.2.2.2.2.2.2.2.2.2.2.2.2.2.2.2.1, j275.2.2.2.2.2.2.2.2.2.2.2.2.2.2.2.2.2.2.2.2.2.2.2.2.2.2.2.2.2.2.2.2.2.2.1, j275.2.2.2.2.2.2.2.2.2.2.2.2.2.2.2.2.2.2.2.2.2.2.2.2.2.2.2.2.2.2.2.2.2.2.2.1, j275.2.2.2.2.2.2.2.2.2.2.2.2.2.2.2.2.2.2.2.2.2.2.2.2.2.2.2.2.2.2.2.2.2.2.2.2.1, j275.2.2.2.2.2.2.2.2.2.2.2.2.2.2.2.2.2.2.2.2.2.2.2.2.2.2.2.2.2.2.2.2.2.2.2.2.2.1, ()))))
 (fun j278 =>
 joinO (S := Int × (List Int) × Int × Int × Int × Int × Int × Int × Int × Int × Int × Int × Int × Int × Int × Int × Int × Bool × Int × Int × Int × Int × Int × Int × Int × Int × Int × Int × Int × Int × Int × Int × Int × Bool × Int × (List Int) × (List Int) × (List DS2) × Unit) (R := (Int × (List Int) × Int × Int × Int × Int × Int × Int × Int × Int × Int × Int × Int × Int × Int × Int × Int × Bool × Int × Int × Int × Int × Int × Int × Int × Int × Int × Int × Int × Int × Int × Int × Int × Bool × Int × (List Int) × (List Int) × (List Int) × (List DS2) × Unit) ⊕ (Int × Int × Int × Int × Int × Int × Int × Int × Int × Int × Int × Int × Int × Int × Bool × Int × (List Int) × Int × (List Int) × (List Int) × (List Int) × (List DS2) × Unit))
 ((m32 2 j278.2.1 j278.2.2.1).bind fun y279 =>
 cond (iEq y279.1 1)
 ((m65 y279.2.1 y279.2.2.1).bind fun y280 =>
 some (.inl (j278.1, y280.2.1, y280.2.2.1, j278.2.2.2.1, j278.2.2.2.2.1, j278.2.2.2.2.2.1, j278.2.2.2.2.2.2.1, j278.2.2.2.2.2.2.2.1, j278.2.2.2.2.2.2.2.2.1, j278.2.2.2.2.2.2.2.2.2.1, j278.2.2.2.2.2.2.2.2.2.2.1, j278.2.2.2.2.2.2.2.2.2.2.2.1, j278.2.2.2.2.2.2.2.2.2.2.2.2.1, j278.2.2.2.2.2.2.2.2.2.2.2.2.2.1, j278.2.2.2.2.2.2.2.2.2.2.2.2.2.2.1, j278.2.2.2.2.2.2.2.2.2.2.2.2.2.2.2.1, j278.2.2.2.2.2.2.2.2.2.2.2.2.2.2.2.2.1, j278.2.2.2.2.2.2.2.2.2.2.2.2.2.2.2.2.2.1, j278.2.2.2.2.2.2.2.2.2.2.2.2.2.2.2.2.2.2.1, j278.2.2.2.2.2.2.2.2.2.2.2.2.2.2.2.2.2.2.2.1, j278.2.2.2.2.2.2.2.2.2.2.2.2.2.2.2.2.2.2.2.2.1, j278.2.2.2.2.2.2.2.2.2.2.2.2.2.2.2.2.2.2.2.2.2.1, j278.2.2.2.2.2.2.2.2.2.2.2.2.2.2.2.2.2.2.2.2.2.2.1, j278.2.2.2.2.2.2.2.2.2.2.2.2.2.2.2.2.2.2.2.2.2.2.2.1, j278.2.2.2.2.2.2.2.2.2.2.2.2.2.2.2.2.2.2.2.2.2.2.2.2.1, j278.2.2.2.2.2.2.2.2.2.2.2.2.2.2.2.2.2.2.2.2.2.2.2.2.2.1, j278.2.2.2.2.2.2.2.2.2.2.2.2.2.2.2.2.2.2.2.2.2.2.2.2.2.2.1, j278.2.2.2.2.2.2.2.2.2.2.2.2.2.2.2.2.2.2.2.2.2.2.2.2.2.2.2.1, j278.2.2.2.2.2.2.2.2.2.2.2.2.2.2.2.2.2.2.2.2.2.2.2.2.2.2.2.2.1, j278.2.2.2.2.2.2.2.2.2.2.2.2.2.2.2.2.2.2.2.2.2.2.2.2.2.2.2.2.2.1, j278.2.2.2.2.2.2.2.2.2.2.2.2.2.2.2.2.2.2.2.2.2.2.2.2.2.2.2.2.2.2.1, y280.1, j278.2.2.2.2.2.2.2.2.2.2.2.2.2.2.2.2.2.2.2.2.2.2.2.2.2.2.2.2.2.2.2.2.1, j278.2.2.2.2.2.2.2.2.2.2.2.2.2.2.2.2.2.2.2.2.2.2.2.2.2.2.2.2.2.2.2.2.2.1, j278.2.2.2.2.2.2.2.2.2.2.2.2.2.2.2.2.2.2.2.2.2.2.2.2.2.2.2.2.2.2.2.2.2.2.1, j278.2.2.2.2.2.2.2.2.2.2.2.2.2.2.2.2.2.2.2.2.2.2.2.2.2.2.2.2.2.2.2.2.2.2.2.1, j278.2.2.2.2.2.2.2.2.2.2.2.2.2.2.2.2.2.2.2.2.2.2.2.2.2.2.2.2.2.2.2.2.2.2.2.2.1, j278.2.2.2.2.2.2.2.2.2.2.2.2.2.2.2.2.2.2.2.2.2.2.2.2.2.2.2.2.2.2.2.2.2.2.2.2.2.1, ())))
 (some (.inl (j278.1, y279.2.1, y279.2.2.1, j278.2.2.2.1, j278.2.2.2.2.1, j278.2.2.2.2.2.1, j278.2.2.2.2.2.2.1, j278.2.2.2.2.2.2.2.1, j278.2.2.2.2.2.2.2.2.1, j278.2.2.2.2.2.2.2.2.2.1, j278.2.2.2.2.2.2.2.2.2.2.1, j278.2.2.2.2.2.2.2.2.2.2.2.1, j278.2.2.2.2.2.2.2.2.2.2.2.2.1, j278.2.2.2.2.2.2.2.2.2.2.2.2.2.1, j278.2.2.2.2.2.2.2.2.2.2.2.2.2.2.1, j278.2.2.2.2.2.2.2.2.2.2.2.2.2.2.2.1, j278.2.2.2.2.2.2.2.2.2.2.2.2.2.2.2.2.1, j278.2.2.2.2.2.2.2.2.2.2.2.2.2.2.2.2.2.1, j278.2.2.2.2.2.2.2.2.2.2.2.2.2.2.2.2.2.2.1, j278.2.2.2.2.2.2.2.2.2.2.2.2.2.2.2.2.2.2.2.1, j278.2.2.2.2.2.2.2.2.2.2.2.2.2.2.2.2.2.2.2.2.1, j278.2.2.2.2.2.2.2.2.2.2.2.2.2.2.2.2.2.2.2.2.2.1, j278.2.2.2.2.2.2.2.2.2.2.2.2.2.2.2.2.2.2.2.2.2.2.1, j278.2.2.2.2.2.2.2.2.2.2.2.2.2.2.2.2.2.2.2.2.2.2.2.1, j278.2.2.2.2.2.2.2.2.2.2.2.2.2.2.2.2.2.2.2.2.2.2.2.2.1, j278.2.2.2.2.2.2.2.2.2.2.2.2.2.2.2.2.2.2.2.2.2.2.2.2.2.1, j278.2.2.2.2.2.2.2.2.2.2.2.2.2.2.2.2.2.2.2.2.2.2.2.2.2.2.1, j278.2.2.2.2.2.2.2.2.2.2.2.2.2.2.2.2.2.2.2.2.2.2.2.2.2.2.2.1, j278.2.2.2.2.2.2.2.2.2.2.2.2.2.2.2.2.2.2.2.2.2.2.2.2.2.2.2.2.1, j278.2.2.2.2.2.2.2.2.2.2.2.2.2.2.2.2.2.2.2.2.2.2.2.2.2.2.2.2.2.1, j278.2.2.2.2.2.2.2.2.2.2.2.2.2.2.2.2.2.2.2.2.2.2.2.2.2.2.2.2.2.2.1, j278.2.2.2.2.2.2.2.2.2.2.2.2.2.2.2.2.2.2.2.2.2.2.2.2.2.2.2.2.2.2.2.1, j278.2.2.2.2.2.2.2.2.2.2.2.2.2.2.2.2.2.2.2.2.2.2.2.2.2.2.2.2.2.2.2.2.1, j278.2.2.2.2.2.2.2.2.2.2.2.2.2.2.2.2.2.2.2.2.2.2.2.2.2.2.2.2.2.2.2.2.2.1, j278.2.2.2.2.2.2.2.2.2.2.2.2.2.2.2.2.2.2.2.2.2.2.2.2.2.2.2.2.2.2.2.2.2.2.1, j278.2.2.2.2.2.2.2.2.2.2.2.2.2.2.2.2.2.2.2.2.2.2.2.2.2.2.2.2.2.2.2.2.2.2.2.1, j278.2.2.2.2.2.2.2.2.2.2.2.2.2.2.2.2.2.2.2.2.2.2.2.2.2.2.2.2.2.2.2.2.2.2.2.2.1, j278.2.2.2.2.2.2.2.2.2.2.2.2.2.2.2.2.2.2.2.2.2.2.2.2.2.2.2.2.2.2.2.2.2.2.2.2.2.1, ()))))
 (fun j281 =>
 (m32 4 j281.2.1 j281.2.2.1).bind fun y282 =>
 loopO (S := Int × Int × (List Int) × Int × Int × Int × Int × Int × Int × Int × Int × Int × Int × Int × Int × Int × Int × Int × Bool × Int × Int × Int × Int × Int × Int × Int × Int × Int × Int × Int × Int × Int × Int × Int × Bool × Int × (List Int) × (List Int) × (List Int) × (List DS2) × Unit) (R := (Int × (List Int) × Int × Int × Int × Int × Int × Int × Int × Int × Int × Int × Int × Int × Int × Int × Int × Bool × Int × Int × Int × Int × Int × Int × Int × Int × Int × Int × Int × Int × Int × Int × Int × Bool × Int × (List Int) × (List Int) × (List Int) × (List DS2) × Unit) ⊕ (Int × Int × Int × Int × Int × Int × Int × Int × Int × Int × Int × Int × Int × Int × Bool × Int × (List Int) × Int × (List Int) × (List Int) × (List Int) × (List DS2) × Unit)) (fun s283 =>
 cond (iLt 0 s283.2.1)
 ((m11 2000000 s283.2.2.1 s283.2.2.2.1).bind fun y284 =>
 cond (fits (List.length s283.2.2.2.2.2.2.2.2.2.2.2.2.2.2.2.2.2.2.2.2.2.2.2.2.2.2.2.2.2.2.2.2.2.2.2.2.2.2.1 + List.length ([y284.1] : List Int)) 8)
 (some (.inl (s283.1, iSub .i64 s283.2.1 1, y284.2.1, y284.2.2.1, s283.2.2.2.2.1, s283.2.2.2.2.2.1, s283.2.2.2.2.2.2.1, s283.2.2.2.2.2.2.2.1, s283.2.2.2.2.2.2.2.2.1, s283.2.2.2.2.2.2.2.2.2.1, s283.2.2.2.2.2.2.2.2.2.2.1, s283.2.2.2.2.2.2.2.2.2.2.2.1, s283.2.2.2.2.2.2.2.2.2.2.2.2.1, s283.2.2.2.2.2.2.2.2.2.2.2.2.2.1, s283.2.2.2.2.2.2.2.2.2.2.2.2.2.2.1, s283.2.2.2.2.2.2.2.2.2.2.2.2.2.2.2.1, s283.2.2.2.2.2.2.2.2.2.2.2.2.2.2.2.2.1, s283.2.2.2.2.2.2.2.2.2.2.2.2.2.2.2.2.2.1, s283.2.2.2.2.2.2.2.2.2.2.2.2.2.2.2.2.2.2.1, s283.2.2.2.2.2.2.2.2.2.2.2.2.2.2.2.2.2.2.2.1, s283.2.2.2.2.2.2.2.2.2.2.2.2.2.2.2.2.2.2.2.2.1, s283.2.2.2.2.2.2.2.2.2.2.2.2.2.2.2.2.2.2.2.2.2.1, s283.2.2.2.2.2.2.2.2.2.2.2.2.2.2.2.2.2.2.2.2.2.2.1, s283.2.2.2.2.2.2.2.2.2.2.2.2.2.2.2.2.2.2.2.2.2.2.2.1, s283.2.2.2.2.2.2.2.2.2.2.2.2.2.2.2.2.2.2.2.2.2.2.2.2.1, s283.2.2.2.2.2.2.2.2.2.2.2.2.2.2.2.2.2.2.2.2.2.2.2.2.2.1, s283.2.2.2.2.2.2.2.2.2.2.2.2.2.2.2.2.2.2.2.2.2.2.2.2.2.2.1, s283.2.2.2.2.2.2.2.2.2.2.2.2.2.2.2.2.2.2.2.2.2.2.2.2.2.2.2.1, s283.2.2.2.2.2.2.2.2.2.2.2.2.2.2.2.2.2.2.2.2.2.2.2.2.2.2.2.2.1, s283.2.2.2.2.2.2.2.2.2.2.2.2.2.2.2.2.2.2.2.2.2.2.2.2.2.2.2.2.2.1, s283.2.2.2.2.2.2.2.2.2.2.2.2.2.2.2.2.2.2.2.2.2.2.2.2.2.2.2.2.2.2.1, s283.2.2.2.2.2.2.2.2.2.2.2.2.2.2.2.2.2.2.2.2.2.2.2.2.2.2.2.2.2.2.2.1, s283.2.2.2.2.2.2.2.2.2.2.2.2.2.2.2.2.2.2.2.2.2.2.2.2.2.2.2.2.2.2.2.2.1, s283.2.2.2.2.2.2.2.2.2.2.2.2.2.2.2.2.2.2.2.2.2.2.2.2.2.2.2.2.2.2.2.2.2.1, s283.2.2.2.2.2.2.2.2.2.2.2.2.2.2.2.2.2.2.2.2.2.2.2.2.2.2.2.2.2.2.2.2.2.2.1, s283.2.2.2.2.2.2.2.2.2.2.2.2.2.2.2.2.2.2.2.2.2.2.2.2.2.2.2.2.2.2.2.2.2.2.2.1, s283.2.2.2.2.2.2.2.2.2.2.2.2.2.2.2.2.2.2.2.2.2.2.2.2.2.2.2.2.2.2.2.2.2.2.2.2.1, s283.2.2.2.2.2.2.2.2.2.2.2.2.2.2.2.2.2.2.2.2.2.2.2.2.2.2.2.2.2.2.2.2.2.2.2.2.2.1, s283.2.2.2.2.2.2.2.2.2.2.2.2.2.2.2.2.2.2.2.2.2.2.2.2.2.2.2.2.2.2.2.2.2.2.2.2.2.2.1 ++ ([y284.1] : List Int), s283.2.2.2.2.2.2.2.2.2.2.2.2.2.2.2.2.2.2.2.2.2.2.2.2.2.2.2.2.2.2.2.2.2.2.2.2.2.2.2.1, ()))) none)
 (Option.map Sum.inr (cond (iLt 0 (lenI s283.2.2.2.2.2.2.2.2.2.2.2.2.2.2.2.2.2.2.2.2.2.2.2.2.2.2.2.2.2.2.2.2.2.2.2.2.2.2.1))
 ((m32 2 s283.2.2.1 s283.2.2.2.1).bind fun y285 =>
 some (.inl (s283.1, y285.2.1, y285.2.2.1, s283.2.2.2.2.1, s283.2.2.2.2.2.1, s283.2.2.2.2.2.2.1, s283.2.2.2.2.2.2.2.1, s283.2.2.2.2.2.2.2.2.1, s283.2.2.2.2.2.2.2.2.2.1, s283.2.2.2.2.2.2.2.2.2.2.1, s283.2.2.2.2.2.2.2.2.2.2.2.1, s283.2.2.2.2.2.2.2.2.2.2.2.2.1, s283.2.2.2.2.2.2.2.2.2.2.2.2.2.1, s283.2.2.2.2.2.2.2.2.2.2.2.2.2.2.1, s283.2.2.2.2.2.2.2.2.2.2.2.2.2.2.2.1, s283.2.2.2.2.2.2.2.2.2.2.2.2.2.2.2.2.1, s283.2.2.2.2.2.2.2.2.2.2.2.2.2.2.2.2.2.1, s283.2.2.2.2.2.2.2.2.2.2.2.2.2.2.2.2.2.2.1, s283.2.2.2.2.2.2.2.2.2.2.2.2.2.2.2.2.2.2.2.1, s283.2.2.2.2.2.2.2.2.2.2.2.2.2.2.2.2.2.2.2.2.1, s283.2.2.2.2.2.2.2.2.2.2.2.2.2.2.2.2.2.2.2.2.2.1, s283.2.2.2.2.2.2.2.2.2.2.2.2.2.2.2.2.2.2.2.2.2.2.1, s283.2.2.2.2.2.2.2.2.2.2.2.2.2.2.2.2.2.2.2.2.2.2.2.1, s283.2.2.2.2.2.2.2.2.2.2.2.2.2.2.2.2.2.2.2.2.2.2.2.2.1, s283.2.2.2.2.2.2.2.2.2.2.2.2.2.2.2.2.2.2.2.2.2.2.2.2.2.1, s283.2.2.2.2.2.2.2.2.2.2.2.2.2.2.2.2.2.2.2.2.2.2.2.2.2.2.1, s283.2.2.2.2.2.2.2.2.2.2.2.2.2.2.2.2.2.2.2.2.2.2.2.2.2.2.2.1, s283.2.2.2.2.2.2.2.2.2.2.2.2.2.2.2.2.2.2.2.2.2.2.2.2.2.2.2.2.1, s283.2.2.2.2.2.2.2.2.2.2.2.2.2.2.2.2.2.2.2.2.2.2.2.2.2.2.2.2.2.1, s283.2.2.2.2.2.2.2.2.2.2.2.2.2.2.2.2.2.2.2.2.2.2.2.2.2.2.2.2.2.2.1, s283.2.2.2.2.2.2.2.2.2.2.2.2.2.2.2.2.2.2.2.2.2.2.2.2.2.2.2.2.2.2.2.1, s283.2.2.2.2.2.2.2.2.2.2.2.2.2.2.2.2.2.2.2.2.2.2.2.2.2.2.2.2.2.2.2.2.1, s283.2.2.2.2.2.2.2.2.2.2.2.2.2.2.2.2.2.2.2.2.2.2.2.2.2.2.2.2.2.2.2.2.2.1, iEq y285.1 1, s283.2.2.2.2.2.2.2.2.2.2.2.2.2.2.2.2.2.2.2.2.2.2.2.2.2.2.2.2.2.2.2.2.2.2.2.1, s283.2.2.2.2.2.2.2.2.2.2.2.2.2.2.2.2.2.2.2.2.2.2.2.2.2.2.2.2.2.2.2.2.2.2.2.2.1, s283.2.2.2.2.2.2.2.2.2.2.2.2.2.2.2.2.2.2.2.2.2.2.2.2.2.2.2.2.2.2.2.2.2.2.2.2.2.1, s283.2.2.2.2.2.2.2.2.2.2.2.2.2.2.2.2.2.2.2.2.2.2.2.2.2.2.2.2.2.2.2.2.2.2.2.2.2.2.1, s283.2.2.2.2.2.2.2.2.2.2.2.2.2.2.2.2.2.2.2.2.2.2.2.2.2.2.2.2.2.2.2.2.2.2.2.2.2.2.2.1, ())))
 (some (.inl (s283.1, s283.2.2.1, s283.2.2.2.1, s283.2.2.2.2.1, s283.2.2.2.2.2.1, s283.2.2.2.2.2.2.1, s283.2.2.2.2.2.2.2.1, s283.2.2.2.2.2.2.2.2.1, s283.2.2.2.2.2.2.2.2.2.1, s283.2.2.2.2.2.2.2.2.2.2.1, s283.2.2.2.2.2.2.2.2.2.2.2.1, s283.2.2.2.2.2.2.2.2.2.2.2.2.1, s283.2.2.2.2.2.2.2.2.2.2.2.2.2.1, s283.2.2.2.2.2.2.2.2.2.2.2.2.2.2.1, s283.2.2.2.2.2.2.2.2.2.2.2.2.2.2.2.1, s283.2.2.2.2.2.2.2.2.2.2.2.2.2.2.2.2.1, s283.2.2.2.2.2.2.2.2.2.2.2.2.2.2.2.2.2.1, s283.2.2.2.2.2.2.2.2.2.2.2.2.2.2.2.2.2.2.1, s283.2.2.2.2.2.2.2.2.2.2.2.2.2.2.2.2.2.2.2.1, s283.2.2.2.2.2.2.2.2.2.2.2.2.2.2.2.2.2.2.2.2.1, s283.2.2.2.2.2.2.2.2.2.2.2.2.2.2.2.2.2.2.2.2.2.1, s283.2.2.2.2.2.2.2.2.2.2.2.2.2.2.2.2.2.2.2.2.2.2.1, s283.2.2.2.2.2.2.2.2.2.2.2.2.2.2.2.2.2.2.2.2.2.2.2.1, s283.2.2.2.2.2.2.2.2.2.2.2.2.2.2.2.2.2.2.2.2.2.2.2.2.1, s283.2.2.2.2.2.2.2.2.2.2.2.2.2.2.2.2.2.2.2.2.2.2.2.2.2.1, s283.2.2.2.2.2.2.2.2.2.2.2.2.2.2.2.2.2.2.2.2.2.2.2.2.2.2.1, s283.2.2.2.2.2.2.2.2.2.2.2.2.2.2.2.2.2.2.2.2.2.2.2.2.2.2.2.1, s283.2.2.2.2.2.2.2.2.2.2.2.2.2.2.2.2.2.2.2.2.2.2.2.2.2.2.2.2.1, s283.2.2.2.2.2.2.2.2.2.2.2.2.2.2.2.2.2.2.2.2.2.2.2.2.2.2.2.2.2.1, s283.2.2.2.2.2.2.2.2.2.2.2.2.2.2.2.2.2.2.2.2.2.2.2.2.2.2.2.2.2.2.1, s283.2.2.2.2.2.2.2.2.2.2.2.2.2.2.2.2.2.2.2.2.2.2.2.2.2.2.2.2.2.2.2.1, s283.2.2.2.2.2.2.2.2.2.2.2.2.2.2.2.2.2.2.2.2.2.2.2.2.2.2.2.2.2.2.2.2.1, s283.2.2.2.2.2.2.2.2.2.2.2.2.2.2.2.2.2.2.2.2.2.2.2.2.2.2.2.2.2.2.2.2.2.1, false, s283.2.2.2.2.2.2.2.2.2.2.2.2.2.2.2.2.2.2.2.2.2.2.2.2.2.2.2.2.2.2.2.2.2.2.2.1, s283.2.2.2.2.2.2.2.2.2.2.2.2.2.2.2.2.2.2.2.2.2.2.2.2.2.2.2.2.2.2.2.2.2.2.2.2.1, s283.2.2.2.2.2.2.2.2.2.2.2.2.2.2.2.2.2.2.2.2.2.2.2.2.2.2.2.2.2.2.2.2.2.2.2.2.2.1, s283.2.2.2.2.2.2.2.2.2.2.2.2.2.2.2.2.2.2.2.2.2.2.2.2.2.2.2.2.2.2.2.2.2.2.2.2.2.2.1, s283.2.2.2.2.2.2.2.2.2.2.2.2.2.2.2.2.2.2.2.2.2.2.2.2.2.2.2.2.2.2.2.2.2.2.2.2.2.2.2.1, ()))))))
 (j281.1, y282.1, y282.2.1, y282.2.2.1, j281.2.2.2.1, j281.2.2.2.2.1, j281.2.2.2.2.2.1, j281.2.2.2.2.2.2.1, j281.2.2.2.2.2.2.2.1, j281.2.2.2.2.2.2.2.2.1, j281.2.2.2.2.2.2.2.2.2.1, j281.2.2.2.2.2.2.2.2.2.2.1, j281.2.2.2.2.2.2.2.2.2.2.2.1, j281.2.2.2.2.2.2.2.2.2.2.2.2.1, j281.2.2.2.2.2.2.2.2.2.2.2.2.2.1, j281.2.2.2.2.2.2.2.2.2.2.2.2.2.2.1, j281.2.2.2.2.2.2.2.2.2.2.2.2.2.2.2.1, j281.2.2.2.2.2.2.2.2.2.2.2.2.2.2.2.2.1, j281.2.2.2.2.2.2.2.2.2.2.2.2.2.2.2.2.2.1, j281.2.2.2.2.2.2.2.2.2.2.2.2.2.2.2.2.2.2.1, j281.2.2.2.2.2.2.2.2.2.2.2.2.2.2.2.2.2.2.2.1, j281.2.2.2.2.2.2.2.2.2.2.2.2.2.2.2.2.2.2.2.2.1, j281.2.2.2.2.2.2.2.2.2.2.2.2.2.2.2.2.2.2.2.2.2.1, j281.2.2.2.2.2.2.2.2.2.2.2.2.2.2.2.2.2.2.2.2.2.2.1, j281.2.2.2.2.2.2.2.2.2.2.2.2.2.2.2.2.2.2.2.2.2.2.2.1, j281.2.2.2.2.2.2.2.2.2.2.2.2.2.2.2.2.2.2.2.2.2.2.2.2.1, j281.2.2.2.2.2.2.2.2.2.2.2.2.2.2.2.2.2.2.2.2.2.2.2.2.2.1, j281.2.2.2.2.2.2.2.2.2.2.2.2.2.2.2.2.2.2.2.2.2.2.2.2.2.2.1, j281.2.2.2.2.2.2.2.2.2.2.2.2.2.2.2.2.2.2.2.2.2.2.2.2.2.2.2.1, j281.2.2.2.2.2.2.2.2.2.2.2.2.2.2.2.2.2.2.2.2.2.2.2.2.2.2.2.2.1, j281.2.2.2.2.2.2.2.2.2.2.2.2.2.2.2.2.2.2.2.2.2.2.2.2.2.2.2.2.2.1, j281.2.2.2.2.2.2.2.2.2.2.2.2.2.2.2.2.2.2.2.2.2.2.2.2.2.2.2.2.2.2.1, j281.2.2.2.2.2.2.2.2.2.2.2.2.2.2.2.2.2.2.2.2.2.2.2.2.2.2.2.2.2.2.2.1, j281.2.2.2.2.2.2.2.2.2.2.2.2.2.2.2.2.2.2.2.2.2.2.2.2.2.2.2.2.2.2.2.2.1, j281.2.2.2.2.2.2.2.2.2.2.2.2.2.2.2.2.2.2.2.2.2.2.2.2.2.2.2.2.2.2.2.2.2.1, j281.2.2.2.2.2.2.2.2.2.2.2.2.2.2.2.2.2.2.2.2.2.2.2.2.2.2.2.2.2.2.2.2.2.2.1, j281.2.2.2.2.2.2.2.2.2.2.2.2.2.2.2.2.2.2.2.2.2.2.2.2.2.2.2.2.2.2.2.2.2.2.2.1, j281.2.2.2.2.2.2.2.2.2.2.2.2.2.2.2.2.2.2.2.2.2.2.2.2.2.2.2.2.2.2.2.2.2.2.2.2.1, ([] : List Int), j281.2.2.2.2.2.2.2.2.2.2.2.2.2.2.2.2.2.2.2.2.2.2.2.2.2.2.2.2.2.2.2.2.2.2.2.2.2.1, ()))))
 (some (.inl (j275.1, j275.2.1, j275.2.2.1, j275.2.2.2.1, j275.2.2.2.2.1, j275.2.2.2.2.2.1, j275.2.2.2.2.2.2.1, j275.2.2.2.2.2.2.2.1, j275.2.2.2.2.2.2.2.2.1, j275.2.2.2.2.2.2.2.2.2.1, j275.2.2.2.2.2.2.2.2.2.2.1, j275.2.2.2.2.2.2.2.2.2.2.2.1, j275.2.2.2.2.2.2.2.2.2.2.2.2.1, j275.2.2.2.2.2.2.2.2.2.2.2.2.2.1, j275.2.2.2.2.2.2.2.2.2.2.2.2.2.2.1, j275.2.2.2.2.2.2.2.2.2.2.2.2.2.2.2.1, j275.2.2.2.2.2.2.2.2.2.2.2.2.2.2.2.2.1, j275.2.2.2.2.2.2.2.2.2.2.2.2.2.2.2.2.2.1, j275.2.2.2.2.2.2.2.2.2.2.2.2.2.2.2.2.2.2.1, j275.2.2.2.2.2.2.2.2.2.2.2.2.2.2.2.2.2.2.2.1, j275.2.2.2.2.2.2.2.2.2.2.2.2.2.2.2.2.2.2.2.2.1, j275.2.2.2.2.2.2.2.2.2.2.2.2.2.2.2.2.2.2.2.2.2.1, j275.2.2.2.2.2.2.2.2.2.2.2.2.2.2.2.2.2.2.2.2.2.2.1, j275.2.2.2.2.2.2.2.2.2.2.2.2.2.2.2.2.2.2.2.2.2.2.2.1, j275.2.2.2.2.2.2.2.2.2.2.2.2.2.2.2.2.2.2.2.2.2.2.2.2.1, j275.2.2.2.2.2.2.2.2.2.2.2.2.2.2.2.2.2.2.2.2.2.2.2.2.2.1, j275.2.2.2.2.2.2.2.2.2.2.2.2.2.2.2.2.2.2.2.2.2.2.2.2.2.2.1, j275.2.2.2.2.2.2.2.2.2.2.2.2.2.2.2.2.2.2.2.2.2.2.2.2.2.2.2.1, j275.2.2.2.2.2.2.2.2.2.2.2.2.2.2.2.2.2.2.2.2.2.2.2.2.2.2.2.2.1, j275.2.2.2.2.2.2.2.2.2.2.2.2.2.2.2.2.2.2.2.2.2.2.2.2.2.2.2.2.2.1, j275.2.2.2.2.2.2.2.2.2.2.2.2.2.2.2.2.2.2.2.2.2.2.2.2.2.2.2.2.2.2.1, j275.2.2.2.2.2.2.2.2.2.2.2.2.2.2.2.2.2.2.2.2.2.2.2.2.2.2.2.2.2.2.2.1, j275.2.2.2.2.2.2.2.2.2.2.2.2.2.2.2.2.2.2.2.2.2.2.2.2.2.2.2.2.2.2.2.2.1, j275.2.2.2.2.2.2.2.2.2.2.2.2.2.2.2.2.2.2.2.2.2.2.2.2.2.2.2.2.2.2.2.2.2.1, j275.2.2.2.2.2.2.2.2.2.2.2.2.2.2.2.2.2.2.2.2.2.2.2.2.2.2.2.2.2.2.2.2.2.2.1, j275.2.2.2.2.2.2.2.2.2.2.2.2.2.2.2.2.2.2.2.2.2.2.2.2.2.2.2.2.2.2.2.2.2.2.2.1, j275.2.2.2.2.2.2.2.2.2.2.2.2.2.2.2.2.2.2.2.2.2.2.2.2.2.2.2.2.2.2.2.2.2.2.2.2.1, ([] : List Int), j275.2.2.2.2.2.2.2.2.2.2.2.2.2.2.2.2.2.2.2.2.2.2.2.2.2.2.2.2.2.2.2.2.2.2.2.2.2.1, ()))))
 (fun j286 =>
 cond (iEq j286.1 4)
 ((m32 2 j286.2.1 j286.2.2.1).bind fun y287 =>
 cond (iEq y287.1 1)
 ((m11 1000 y287.2.1 y287.2.2.1).bind fun y288 =>
 cond (iEq j286.1 5)
 ((m66 1 30 y288.2.1 y288.2.2.1).bind fun y289 =>
 some (j286.2.2.2.2.2.2.2.2.2.2.2.2.2.2.2.2.2.2.2.1, j286.2.2.2.2.2.2.2.2.2.2.2.2.2.2.2.2.2.2.2.2.1, j286.2.2.2.2.2.2.2.2.2.2.2.2.2.2.2.2.2.2.2.2.2.1, j286.2.2.2.2.2.2.2.2.2.2.2.2.2.2.2.2.2.2.2.2.2.2.1, j286.2.2.2.2.2.2.2.2.2.2.2.2.2.2.2.2.2.2.2.2.2.2.2.1, j286.2.2.2.2.2.2.2.2.2.2.2.2.2.2.2.2.2.2.2.2.2.2.2.2.1, j286.2.2.2.2.2.2.2.2.2.2.2.2.2.2.2.2.2.2.2.2.2.2.2.2.2.1, j286.2.2.2.2.2.2.2.2.2.2.2.2.2.2.2.2.2.2.2.2.2.2.2.2.2.2.1, j286.2.2.2.2.2.2.2.2.2.2.2.2.2.2.2.2.2.2.2.2.2.2.2.2.2.2.2.1, j286.2.2.2.2.2.2.2.2.2.2.2.2.2.2.2.2.2.2.2.2.2.2.2.2.2.2.2.2.1, y289.1, j286.2.2.2.2.2.2.2.2.2.2.2.2.2.2.2.2.2.2.2.2.2.2.2.2.2.2.2.2.2.2.1, j286.2.2.2.2.2.2.2.2.2.2.2.2.2.2.2.2.2.2.2.2.2.2.2.2.2.2.2.2.2.2.2.1, j286.2.2.2.2.2.2.2.2.2.2.2.2.2.2.2.2.2.2.2.2.2.2.2.2.2.2.2.2.2.2.2.2.1, j286.2.2.2.2.2.2.2.2.2.2.2.2.2.2.2.2.2.2.2.2.2.2.2.2.2.2.2.2.2.2.2.2.2.1, iAdd .i64 1 y288.1, y289.2.1, y289.2.2.1, j286.2.2.2.2.2.2.2.2.2.2.2.2.2.2.2.2.2.2.2.2.2.2.2.2.2.2.2.2.2.2.2.2.2.2.2.1, j286.2.2.2.2.2.2.2.2.2.2.2.2.2.2.2.2.2.2.2.2.2.2.2.2.2.2.2.2.2.2.2.2.2.2.2.2.1, j286.2.2.2.2.2.2.2.2.2.2.2.2.2.2.2.2.2.2.2.2.2.2.2.2.2.2.2.2.2.2.2.2.2.2.2.2.2.1, j286.2.2.2.2.2.2.2.2.2.2.2.2.2.2.2.2.2.2.2.2.2.2.2.2.2.2.2.2.2.2.2.2.2.2.2.2.2.2.1, ()))
 (some (j286.2.2.2.2.2.2.2.2.2.2.2.2.2.2.2.2.2.2.2.1, j286.2.2.2.2.2.2.2.2.2.2.2.2.2.2.2.2.2.2.2.2.1, j286.2.2.2.2.2.2.2.2.2.2.2.2.2.2.2.2.2.2.2.2.2.1, j286.2.2.2.2.2.2.2.2.2.2.2.2.2.2.2.2.2.2.2.2.2.2.1, j286.2.2.2.2.2.2.2.2.2.2.2.2.2.2.2.2.2.2.2.2.2.2.2.1, j286.2.2.2.2.2.2.2.2.2.2.2.2.2.2.2.2.2.2.2.2.2.2.2.2.1, j286.2.2.2.2.2.2.2.2.2.2.2.2.2.2.2.2.2.2.2.2.2.2.2.2.2.1, j286.2.2.2.2.2.2.2.2.2.2.2.2.2.2.2.2.2.2.2.2.2.2.2.2.2.2.1, j286.2.2.2.2.2.2.2.2.2.2.2.2.2.2.2.2.2.2.2.2.2.2.2.2.2.2.2.1, j286.2.2.2.2.2.2.2.2.2.2.2.2.2.2.2.2.2.2.2.2.2.2.2.2.2.2.2.2.1, j286.2.2.2.2.2.2.2.2.2.2.2.2.2.2.2.2.2.2.2.2.2.2.2.2.2.2.2.2.2.1, j286.2.2.2.2.2.2.2.2.2.2.2.2.2.2.2.2.2.2.2.2.2.2.2.2.2.2.2.2.2.2.1, j286.2.2.2.2.2.2.2.2.2.2.2.2.2.2.2.2.2.2.2.2.2.2.2.2.2.2.2.2.2.2.2.1, j286.2.2.2.2.2.2.2.2.2.2.2.2.2.2.2.2.2.2.2.2.2.2.2.2.2.2.2.2.2.2.2.2.1, j286.2.2.2.2.2.2.2.2.2.2.2.2.2.2.2.2.2.2.2.2.2.2.2.2.2.2.2.2.2.2.2.2.2.1, iAdd .i64 1 y288.1, y288.2.1, y288.2.2.1, j286.2.2.2.2.2.2.2.2.2.2.2.2.2.2.2.2.2.2.2.2.2.2.2.2.2.2.2.2.2.2.2.2.2.2.2.1, j286.2.2.2.2.2.2.2.2.2.2.2.2.2.2.2.2.2.2.2.2.2.2.2.2.2.2.2.2.2.2.2.2.2.2.2.2.1, j286.2.2.2.2.2.2.2.2.2.2.2.2.2.2.2.2.2.2.2.2.2.2.2.2.2.2.2.2.2.2.2.2.2.2.2.2.2.1, j286.2.2.2.2.2.2.2.2.2.2.2.2.2.2.2.2.2.2.2.2.2.2.2.2.2.2.2.2.2.2.2.2.2.2.2.2.2.2.1, ())))
 (cond (iEq j286.1 5)
 ((m66 1 30 y287.2.1 y287.2.2.1).bind fun y290 =>
 some (j286.2.2.2.2.2.2.2.2.2.2.2.2.2.2.2.2.2.2.2.1, j286.2.2.2.2.2.2.2.2.2.2.2.2.2.2.2.2.2.2.2.2.1, j286.2.2.2.2.2.2.2.2.2.2.2.2.2.2.2.2.2.2.2.2.2.1, j286.2.2.2.2.2.2.2.2.2.2.2.2.2.2.2.2.2.2.2.2.2.2.1, j286.2.2.2.2.2.2.2.2.2.2.2.2.2.2.2.2.2.2.2.2.2.2.2.1, j286.2.2.2.2.2.2.2.2.2.2.2.2.2.2.2.2.2.2.2.2.2.2.2.2.1, j286.2.2.2.2.2.2.2.2.2.2.2.2.2.2.2.2.2.2.2.2.2.2.2.2.2.1, j286.2.2.2.2.2.2.2.2.2.2.2.2.2.2.2.2.2.2.2.2.2.2.2.2.2.2.1, j286.2.2.2.2.2.2.2.2.2.2.2.2.2.2.2.2.2.2.2.2.2.2.2.2.2.2.2.1, j286.2.2.2.2.2.2.2.2.2.2.2.2.2.2.2.2.2.2.2.2.2.2.2.2.2.2.2.2.1, y290.1, j286.2.2.2.2.2.2.2.2.2.2.2.2.2.2.2.2.2.2.2.2.2.2.2.2.2.2.2.2.2.2.1, j286.2.2.2.2.2.2.2.2.2.2.2.2.2.2.2.2.2.2.2.2.2.2.2.2.2.2.2.2.2.2.2.1, j286.2.2.2.2.2.2.2.2.2.2.2.2.2.2.2.2.2.2.2.2.2.2.2.2.2.2.2.2.2.2.2.2.1, j286.2.2.2.2.2.2.2.2.2.2.2.2.2.2.2.2.2.2.2.2.2.2.2.2.2.2.2.2.2.2.2.2.2.1, j286.2.2.2.2.2.2.2.2.2.2.2.2.2.2.2.2.2.2.2.2.2.2.2.2.2.2.2.2.2.2.2.2.2.2.1, y290.2.1, y290.2.2.1, j286.2.2.2.2.2.2.2.2.2.2.2.2.2.2.2.2.2.2.2.2.2.2.2.2.2.2.2.2.2.2.2.2.2.2.2.1, j286.2.2.2.2.2.2.2.2.2.2.2.2.2.2.2.2.2.2.2.2.2.2.2.2.2.2.2.2.2.2.2.2.2.2.2.2.1, j286.2.2.2.2.2.2.2.2.2.2.2.2.2.2.2.2.2.2.2.2.2.2.2.2.2.2.2.2.2.2.2.2.2.2.2.2.2.1, j286.2.2.2.2.2.2.2.2.2.2.2.2.2.2.2.2.2.2.2.2.2.2.2.2.2.2.2.2.2.2.2.2.2.2.2.2.2.2.1, ()))
 (some (j286.2.2.2.2.2.2.2.2.2.2.2.2.2.2.2.2.2.2.2.1, j286.2.2.2.2.2.2.2.2.2.2.2.2.2.2.2.2.2.2.2.2.1, j286.2.2.2.2.2.2.2.2.2.2.2.2.2.2.2.2.2.2.2.2.2.1, j286.2.2.2.2.2.2.2.2.2.2.2.2.2.2.2.2.2.2.2.2.2.2.1, j286.2.2.2.2.2.2.2.2.2.2.2.2.2.2.2.2.2.2.2.2.2.2.2.1, j286.2.2.2.2.2.2.2.2.2.2.2.2.2.2.2.2.2.2.2.2.2.2.2.2.1, j286.2.2.2.2.2.2.2.2.2.2.2.2.2.2.2.2.2.2.2.2.2.2.2.2.2.1, j286.2.2.2.2.2.2.2.2.2.2.2.2.2.2.2.2.2.2.2.2.2.2.2.2.2.2.1, j286.2.2.2.2.2.2.2.2.2.2.2.2.2.2.2.2.2.2.2.2.2.2.2.2.2.2.2.1, j286.2.2.2.2.2.2.2.2.2.2.2.2.2.2.2.2.2.2.2.2.2.2.2.2.2.2.2.2.1, j286.2.2.2.2.2.2.2.2.2.2.2.2.2.2.2.2.2.2.2.2.2.2.2.2.2.2.2.2.2.1, j286.2.2.2.2.2.2.2.2.2.2.2.2.2.2.2.2.2.2.2.2.2.2.2.2.2.2.2.2.2.2.1, j286.2.2.2.2.2.2.2.2.2.2.2.2.2.2.2.2.2.2.2.2.2.2.2.2.2.2.2.2.2.2.2.1, j286.2.2.2.2.2.2.2.2.2.2.2.2.2.2.2.2.2.2.2.2.2.2.2.2.2.2.2.2.2.2.2.2.1, j286.2.2.2.2.2.2.2.2.2.2.2.2.2.2.2.2.2.2.2.2.2.2.2.2.2.2.2.2.2.2.2.2.2.1, j286.2.2.2.2.2.2.2.2.2.2.2.2.2.2.2.2.2.2.2.2.2.2.2.2.2.2.2.2.2.2.2.2.2.2.1, y287.2.1, y287.2.2.1, j286.2.2.2.2.2.2.2.2.2.2.2.2.2.2.2.2.2.2.2.2.2.2.2.2.2.2.2.2.2.2.2.2.2.2.2.1, j286.2.2.2.2.2.2.2.2.2.2.2.2.2.2.2.2.2.2.2.2.2.2.2.2.2.2.2.2.2.2.2.2.2.2.2.2.1, j286.2.2.2.2.2.2.2.2.2.2.2.2.2.2.2.2.2.2.2.2.2.2.2.2.2.2.2.2.2.2.2.2.2.2.2.2.2.1, j286.2.2.2.2.2.2.2.2.2.2.2.2.2.2.2.2.2.2.2.2.2.2.2.2.2.2.2.2.2.2.2.2.2.2.2.2.2.2.1, ()))))
 (cond (iEq j286.1 5)
 ((m66 1 30 j286.2.1 j286.2.2.1).bind fun y291 =>
 some (j286.2.2.2.2.2.2.2.2.2.2.2.2.2.2.2.2.2.2.2.1, j286.2.2.2.2.2.2.2.2.2.2.2.2.2.2.2.2.2.2.2.2.1, j286.2.2.2.2.2.2.2.2.2.2.2.2.2.2.2.2.2.2.2.2.2.1, j286.2.2.2.2.2.2.2.2.2.2.2.2.2.2.2.2.2.2.2.2.2.2.1, j286.2.2.2.2.2.2.2.2.2.2.2.2.2.2.2.2.2.2.2.2.2.2.2.1, j286.2.2.2.2.2.2.2.2.2.2.2.2.2.2.2.2.2.2.2.2.2.2.2.2.1, j286.2.2.2.2.2.2.2.2.2.2.2.2.2.2.2.2.2.2.2.2.2.2.2.2.2.1, j286.2.2.2.2.2.2.2.2.2.2.2.2.2.2.2.2.2.2.2.2.2.2.2.2.2.2.1, j286.2.2.2.2.2.2.2.2.2.2.2.2.2.2.2.2.2.2.2.2.2.2.2.2.2.2.2.1, j286.2.2.2.2.2.2.2.2.2.2.2.2.2.2.2.2.2.2.2.2.2.2.2.2.2.2.2.2.1, y291.1, j286.2.2.2.2.2.2.2.2.2.2.2.2.2.2.2.2.2.2.2.2.2.2.2.2.2.2.2.2.2.2.1, j286.2.2.2.2.2.2.2.2.2.2.2.2.2.2.2.2.2.2.2.2.2.2.2.2.2.2.2.2.2.2.2.1, j286.2.2.2.2.2.2.2.2.2.2.2.2.2.2.2.2.2.2.2.2.2.2.2.2.2.2.2.2.2.2.2.2.1, j286.2.2.2.2.2.2.2.2.2.2.2.2.2.2.2.2.2.2.2.2.2.2.2.2.2.2.2.2.2.2.2.2.2.1, j286.2.2.2.2.2.2.2.2.2.2.2.2.2.2.2.2.2.2.2.2.2.2.2.2.2.2.2.2.2.2.2.2.2.2.1, y291.2.1, y291.2.2.1, j286.2.2.2.2.2.2.2.2.2.2.2.2.2.2.2.2.2.2.2.2.2.2.2.2.2.2.2.2.2.2.2.2.2.2.2.1, j286.2.2.2.2.2.2.2.2.2.2.2.2.2.2.2.2.2.2.2.2.2.2.2.2.2.2.2.2.2.2.2.2.2.2.2.2.1, j286.2.2.2.2.2.2.2.2.2.2.2.2.2.2.2.2.2.2.2.2.2.2.2.2.2.2.2.2.2.2.2.2.2.2.2.2.2.1, j286.2.2.2.2.2.2.2.2.2.2.2.2.2.2.2.2.2.2.2.2.2.2.2.2.2.2.2.2.2.2.2.2.2.2.2.2.2.2.1, ()))
 (some (j286.2.2.2.2.2.2.2.2.2.2.2.2.2.2.2.2.2.2.2.1, j286.2.2.2.2.2.2.2.2.2.2.2.2.2.2.2.2.2.2.2.2.1, j286.2.2.2.2.2.2.2.2.2.2.2.2.2.2.2.2.2.2.2.2.2.1, j286.2.2.2.2.2.2.2.2.2.2.2.2.2.2.2.2.2.2.2.2.2.2.1, j286.2.2.2.2.2.2.2.2.2.2.2.2.2.2.2.2.2.2.2.2.2.2.2.1, j286.2.2.2.2.2.2.2.2.2.2.2.2.2.2.2.2.2.2.2.2.2.2.2.2.1, j286.2.2.2.2.2.2.2.2.2.2.2.2.2.2.2.2.2.2.2.2.2.2.2.2.2.1, j286.2.2.2.2.2.2.2.2.2.2.2.2.2.2.2.2.2.2.2.2.2.2.2.2.2.2.1, j286.2.2.2.2.2.2.2.2.2.2.2.2.2.2.2.2.2.2.2.2.2.2.2.2.2.2.2.1, j286.2.2.2.2.2.2.2.2.2.2.2.2.2.2.2.2.2.2.2.2.2.2.2.2.2.2.2.2.1, j286.2.2.2.2.2.2.2.2.2.2.2.2.2.2.2.2.2.2.2.2.2.2.2.2.2.2.2.2.2.1, j286.2.2.2.2.2.2.2.2.2.2.2.2.2.2.2.2.2.2.2.2.2.2.2.2.2.2.2.2.2.2.1, j286.2.2.2.2.2.2.2.2.2.2.2.2.2.2.2.2.2.2.2.2.2.2.2.2.2.2.2.2.2.2.2.1, j286.2.2.2.2.2.2.2.2.2.2.2.2.2.2.2.2.2.2.2.2.2.2.2.2.2.2.2.2.2.2.2.2.1, j286.2.2.2.2.2.2.2.2.2.2.2.2.2.2.2.2.2.2.2.2.2.2.2.2.2.2.2.2.2.2.2.2.2.1, j286.2.2.2.2.2.2.2.2.2.2.2.2.2.2.2.2.2.2.2.2.2.2.2.2.2.2.2.2.2.2.2.2.2.2.1, j286.2.1, j286.2.2.1, j286.2.2.2.2.2.2.2.2.2.2.2.2.2.2.2.2.2.2.2.2.2.2.2.2.2.2.2.2.2.2.2.2.2.2.2.1, j286.2.2.2.2.2.2.2.2.2.2.2.2.2.2.2.2.2.2.2.2.2.2.2.2.2.2.2.2.2.2.2.2.2.2.2.2.1, j286.2.2.2.2.2.2.2.2.2.2.2.2.2.2.2.2.2.2.2.2.2.2.2.2.2.2.2.2.2.2.2.2.2.2.2.2.2.1, j286.2.2.2.2.2.2.2.2.2.2.2.2.2.2.2.2.2.2.2.2.2.2.2.2.2.2.2.2.2.2.2.2.2.2.2.2.2.2.1, ())))))
noncomputable def cfg59 : Cfg := ⟨ttab, gtab, [], [h11, h32, h58, h64, h65, h66]⟩
def ish59 : Sh := ⟨3, [(1, (.int .i64)), (2, (.int .i64))], [(0, .ptr 0 0 0)], [.box 98 [.d (.list (.int .i64)), .d (.int .i64)]]⟩
def osh59 : Sh := ⟨1, [], [(0, .agg [.d (.int .i64), .d (.int .i64), .d (.int .i64), .d (.int .i64), .row 1, .row 2, .d (.int .i64), .d (.int .i64), .d (.int .i64), .d (.int .i64), .d (.int .i64), .d (.int .i64), .d (.int .i64), .d (.int .i64), .d (.int .i64), .d (.int .i64), .row 3, .d .bool, .d (.int .i64), .nil, .row 4])], [.box 98 [.d (.list (.int .i64)), .d (.int .i64)], .row 3 (.int .i64) false, .row 3 (.int .i64) false, .row 3 (.int .i64) false, .row 116 tS2 false]⟩
theorem eqn59 (x : Int × Int × (List Int) × Int × Unit) : xfunH cfg59 x59 122 [.c 6 21 true] [.ghc 6 16 3 (.int .i64)] ish59 osh59 x = m59 x.1 x.2.1 x.2.2.1 x.2.2.2.1 := by kernel_rfl
noncomputable def h59 : HI := ⟨59, ish59, osh59, fun (x : Int × Int × (List Int) × Int × Unit) => m59 x.1 x.2.1 x.2.2.1 x.2.2.2.1⟩
theorem okh59 : HOk Try.prog (gx gtab) h59 := hok mixed (cfg_h okh11 (cfg_h okh32 (cfg_h okh58 (cfg_h okh64 (cfg_h okh65 (cfg_h okh66 (cfg_nil _ _)))))) : CfgOk _ cfg59) F59 eqn59
/- 56 treaty/treatymade2.Small -/
def r56_0 : List Ins := [qI 2 (.mov (kI 0))]
def r56_1 : List Ins := [qI 3 (.mov 0), qI 4 (.call (.fn 32) [3, (kI 4)])]
def r56_2 : List Ins := [qI 6 (.bin .eql 4 (kI 0)), qI 5 (.mov 6)]
def r56_3 : List Ins := [qI 7 (.mov 0), qI 8 (.call (.fn 32) [7, (kI 4)]), qI 2 (.mov 8)]
def r56_4 : List Ins := [qI 10 (.bin .eql 4 (kI 1)), qI 9 (.mov 10)]
def r56_5 : List Ins := [qI 11 (.bin .eql 4 (kI 2)), qI 9 (.mov 11)]
def r56_6 : List Ins := [qI 12 (.mov 0), qI 13 (.call (.fn 32) [12, (kI 1000)]), qI 2 (.mov 13)]
def r56_7 : List Ins := [qI 14 (.mov 0), qI 15 (.call (.fn 32) [14, (kI 268435456)]), qI 2 (.mov 15)]
def x56 : XC := (.seq (.ops false r56_0) (.seq (.seq (.ops false r56_1) (.block 0 (.seq (.ops false r56_2) (.cond (.t 5) (.seq (.ops false r56_3) .ret) (.seq (.seq (.ops false r56_4) (.cond (.t 9) .skip (.ops false r56_5))) (.cond (.t 9) (.seq (.ops false r56_6) .ret) .skip)))))) (.seq (.ops false r56_7) .ret)))
theorem F56 : Fn Try.prog 56 16 x56.er [.t 2] := ⟨Try.f56, hcl, Try.func56, by kernel_rfl, by kernel_rfl, by kernel_rfl, by kernel_rfl⟩
noncomputable def m56 (a0 : List Int) (a1 : Int) : Option (Int × (List Int) × Int × Unit) :=
 (m32 4 a0 a1).bind fun y298 =>
 cond (iEq y298.1 0)
 ((m32 4 y298.2.1 y298.2.2.1).bind fun y299 =>
 some (y299.1, y299.2.1, y299.2.2.1, ()))
 (cond (iEq y298.1 1)
 ((m32 1000 y298.2.1 y298.2.2.1).bind fun y300 =>
 some (y300.1, y300.2.1, y300.2.2.1, ()))
 (cond (iEq y298.1 2)
 ((m32 1000 y298.2.1 y298.2.2.1).bind fun y301 =>
 some (y301.1, y301.2.1, y301.2.2.1, ()))
 ((m32 268435456 y298.2.1 y298.2.2.1).bind fun y302 =>
 some (y302.1, y302.2.1, y302.2.2.1, ()))))
noncomputable def cfg56 : Cfg := ⟨ttab, gtab, [], [h32]⟩
def ish56 : Sh := ⟨1, [], [(0, .ptr 0 0 0)], [.box 98 [.d (.list (.int .i64)), .d (.int .i64)]]⟩
def osh56 : Sh := ⟨1, [(0, (.int .i64))], [], [.box 98 [.d (.list (.int .i64)), .d (.int .i64)]]⟩
theorem eqn56 (x : (List Int) × Int × Unit) : xfunH cfg56 x56 16 [.t 2] [] ish56 osh56 x = m56 x.1 x.2.1 := by kernel_rfl
noncomputable def h56 : HI := ⟨56, ish56, osh56, fun (x : (List Int) × Int × Unit) => m56 x.1 x.2.1⟩
theorem okh56 : HOk Try.prog (gx gtab) h56 := hok mixed (cfg_h okh32 (cfg_nil _ _) : CfgOk _ cfg56) F56 eqn56
/- 69 treaty/treatyref01.PeriodValid -/
def r69_0 : List Ins := [qI 1 (.box 104 2 0), qI 2 (.mov (.k (.bool false)))]
def r69_1 : List Ins := [qI 3 (.faddr 0 1), qI 4 (.load 1 false 3), qI 5 (.bin .geq 4 (kI 0)), qI 6 (.mov 5), qT 7 6 (.faddr 0 1), qT 8 6 (.load 1 false 7), qT 9 6 (.faddr 1 1), qT 10 6 (.load 1 false 9), qT 11 6 (.bin .lss 8 10), qI 12 (.pick 6 11 (.k (.bool false))), qI 13 (.mov 12), qT 14 13 (.faddr 1 1), qT 15 13 (.load 1 false 14), qT 16 13 (.bin .leq 15 (kI 876600)), qI 17 (.pick 13 16 (.k (.bool false))), qI 2 (.mov 17)]
def x69 : XC := (.seq (.ops false r69_0) (.seq (.ops false r69_1) .ret))
theorem F69 : Fn Try.prog 69 18 x69.er [.t 2] := ⟨Try.f69, hcl, Try.func69, by kernel_rfl, by kernel_rfl, by kernel_rfl, by kernel_rfl⟩
noncomputable def m69 (a0 : DS2) : Option (Bool × Unit) :=
 some (cond (cond (iLe 0 a0.1) (iLt a0.1 a0.2.1) false) (iLe a0.2.1 876600) false, ())
noncomputable def cfg69 : Cfg := ⟨ttab, gtab, [], []⟩
theorem eqn69 (x : DS2 × Unit) : xfun cfg69 x69 18 [.t 2] [tS2] [.bool] x = m69 x.1 := by kernel_rfl
noncomputable def i69 : PI := ⟨69, [tS2], [.bool], fun (x : DS2 × Unit) => m69 x.1⟩
theorem oki69 : POk Try.prog (gx gtab) i69 := pok mixed (cfg_nil _ _ : CfgOk _ cfg69) F69 eqn69
/- 67 treaty/treatyref01.Overlap -/
def r67_0 : List Ins := [qI 2 (.box 104 2 0), qI 3 (.box 104 2 1), qI 4 (.alloc 104 (.agg #[.int .i64 0, .int .i64 0])), qI 5 (.mov (.k (.bool false)))]
def r67_1 : List Ins := [qI 7 (.faddr 0 2), qI 8 (.load 1 false 7), qI 9 (.faddr 0 3), qI 10 (.load 1 false 9), qI 11 (.max2 8 10), qI 12 (.faddr 1 2), qI 13 (.load 1 false 12), qI 14 (.faddr 1 3), qI 15 (.load 1 false 14), qI 16 (.min2 13 15), qI 17 (.build [.int .i64 0, .int .i64 0] [(0, 1, 11), (1, 1, 16)]), qI 6 (.alloc 104 (.agg #[.int .i64 0, .int .i64 0])), qN (.store 2 6 17)]
def r67_2 : List Ins := [qI 18 (.load 2 true 2), qI 19 (.call (.fn 69) [18]), qI 20 (.un .not 19), qI 21 (.mov 20), qF 22 21 (.load 2 true 3), qF 23 21 (.call (.fn 69) [22]), qF 24 21 (.un .not 23), qI 25 (.pick 21 (.k (.bool true)) 24), qI 26 (.mov 25), qF 27 26 (.faddr 0 6), qF 28 26 (.load 1 false 27), qF 29 26 (.faddr 1 6), qF 30 26 (.load 1 false 29), qF 31 26 (.bin .geq 28 30), qI 32 (.pick 26 (.k (.bool true)) 31)]
def r67_3 : List Ins := [qI 33 (.build [.int .i64 0, .int .i64 0] []), qN (.store 2 4 33), qI 5 (.mov (.k (.bool false)))]
def r67_4 : List Ins := [qI 34 (.load 2 true 6), qN (.store 2 4 34), qI 5 (.mov (.k (.bool true)))]
def x67 : XC := (.seq (.ops false r67_0) (.seq (.ops false r67_1) (.seq (.seq (.ops false r67_2) (.cond (.t 32) (.seq (.ops false r67_3) .ret) .skip)) (.seq (.ops false r67_4) .ret))))
theorem F67 : Fn Try.prog 67 35 x67.er [.c 4 2 true, .t 5] := ⟨Try.f67, hcl, Try.func67, by kernel_rfl, by kernel_rfl, by kernel_rfl, by kernel_rfl⟩
noncomputable def m67 (a0 : DS2) (a1 : DS2) : Option (DS2 × Bool × Unit) :=
 (m69 (a0.1, a0.2.1, ())).bind fun y329 =>
 cond (not y329.1)
 (some ((0, 0, ()), false, ()))
 ((m69 (a1.1, a1.2.1, ())).bind fun y330 =>
 cond (cond (not y330.1) true (iLe (iMin a0.2.1 a1.2.1) (iMax a0.1 a1.1)))
 (some ((0, 0, ()), false, ()))
 (some ((iMax a0.1 a1.1, iMin a0.2.1 a1.2.1, ()), true, ())))
noncomputable def cfg67 : Cfg := ⟨ttab, gtab, [i69], []⟩
theorem eqn67 (x : DS2 × DS2 × Unit) : xfun cfg67 x67 35 [.c 4 2 true, .t 5] [tS2, tS2] [tS2, .bool] x = m67 x.1 x.2.1 := by kernel_rfl
noncomputable def i67 : PI := ⟨67, [tS2, tS2], [tS2, .bool], fun (x : DS2 × DS2 × Unit) => m67 x.1 x.2.1⟩
theorem oki67 : POk Try.prog (gx gtab) i67 := pok mixed (cfg_p oki69 (cfg_nil _ _) : CfgOk _ cfg67) F67 eqn67
/- 70 treaty/treatyref25.Has -/
def r70_0 : List Ins := [qI 4 (.mov (.k (.bool false)))]
def r70_1 : List Ins := [qI 7 (.mov 0), qI 8 (.len 7), qI 9 (.mov (kI 0))]
def r70_2 : List Ins := [qI 10 (.bin .lss 9 8)]
def r70_3 : List Ins := [qI 11 (.iaddr 1 7 9), qI 12 (.load 1 false 11), qI 6 (.mov 12)]
def r70_4 : List Ins := [qI 13 (.mov 6), qI 14 (.mov 1), qI 15 (.bin .eql 13 14)]
def r70_5 : List Ins := [qI 4 (.mov (.k (.bool true)))]
def r70_6 : List Ins := [qI 16 (.bin .add 9 (kI 1)), qI 9 (.mov 16)]
def r70_7 : List Ins := [qI 4 (.mov (.k (.bool false)))]
def x70 : XC := (.seq (.ops false r70_0) (.seq (.seq (.ops false r70_1) (.block 0 (.loop [] ⟨17, [(1, (.int .i64)), (7, (.list (.int .i64))), (8, (.int .i64)), (9, (.int .i64))], [], []⟩ (.seq (.ops false r70_2) (.seq (.cond (.t 10) .skip (.exit 0)) (.seq (.block 1 (.seq (.ops false r70_3) (.seq (.ops false r70_4) (.cond (.t 15) (.seq (.ops false r70_5) .ret) .skip)))) (.ops false r70_6))))))) (.seq (.ops false r70_7) .ret)))
theorem F70 : Fn Try.prog 70 17 x70.er [.t 4] := ⟨Try.f70, hcl, Try.func70, by kernel_rfl, by kernel_rfl, by kernel_rfl, by kernel_rfl⟩
noncomputable def m70 (a0 : List Int) (a1 : Int) : Option (Bool × Unit) :=
 loopO (S := Int × (List Int) × Int × Int × Unit) (R := Bool × Unit) (fun s334 =>
 cond (iLt s334.2.2.2.1 s334.2.2.1)
 (cond (bnd s334.2.2.2.1 (lenI s334.2.1))
 (cond (iEq (atI s334.2.1 s334.2.2.2.1 0) s334.1)
 (some (.inr (true, ())))
 (some (.inl (s334.1, s334.2.1, s334.2.2.1, iAdd .i64 s334.2.2.2.1 1, ())))) none)
 (some (.inr (false, ()))))
 (a1, a0, lenI a0, 0, ())
noncomputable def cfg70 : Cfg := ⟨ttab, gtab, [], []⟩
theorem eqn70 (x : (List Int) × Int × Unit) : xfun cfg70 x70 17 [.t 4] [(.list (.int .i64)), (.int .i64)] [.bool] x = m70 x.1 x.2.1 := by kernel_rfl
noncomputable def i70 : PI := ⟨70, [(.list (.int .i64)), (.int .i64)], [.bool], fun (x : (List Int) × Int × Unit) => m70 x.1 x.2.1⟩
theorem oki70 : POk Try.prog (gx gtab) i70 := pok mixed (cfg_nil _ _ : CfgOk _ cfg70) F70 eqn70
/- 68 treaty/treatyref25.common -/
def r68_0 : List Ins := [qI 4 (.mov (.k (.bool false)))]
def r68_1 : List Ins := [qI 7 (.mov 0), qI 8 (.len 7), qI 9 (.mov (kI 0))]
def r68_2 : List Ins := [qI 10 (.bin .lss 9 8)]
def r68_3 : List Ins := [qI 11 (.iaddr 1 7 9), qI 12 (.load 1 false 11), qI 6 (.mov 12)]
def r68_4 : List Ins := [qI 13 (.mov 1), qI 14 (.mov 6), qI 15 (.call (.fn 70) [13, 14])]
def r68_5 : List Ins := [qI 4 (.mov (.k (.bool true)))]
def r68_6 : List Ins := [qI 16 (.bin .add 9 (kI 1)), qI 9 (.mov 16)]
def r68_7 : List Ins := [qI 17 (.mov 0), qI 18 (.len 17), qI 19 (.bin .eql 18 (kI 0)), qI 20 (.mov 19), qF 21 20 (.mov 1), qF 22 20 (.len 21), qF 23 20 (.bin .eql 22 (kI 0)), qI 24 (.pick 20 (.k (.bool true)) 23), qI 4 (.mov 24)]
def x68 : XC := (.seq (.ops false r68_0) (.seq (.seq (.ops false r68_1) (.block 0 (.loop [] ⟨25, [(0, (.list (.int .i64))), (1, (.list (.int .i64))), (7, (.list (.int .i64))), (8, (.int .i64)), (9, (.int .i64))], [], []⟩ (.seq (.ops false r68_2) (.seq (.cond (.t 10) .skip (.exit 0)) (.seq (.block 1 (.seq (.ops false r68_3) (.seq (.ops false r68_4) (.cond (.t 15) (.seq (.ops false r68_5) .ret) .skip)))) (.ops false r68_6))))))) (.seq (.ops false r68_7) .ret)))
theorem F68 : Fn Try.prog 68 25 x68.er [.t 4] := ⟨Try.f68, hcl, Try.func68, by kernel_rfl, by kernel_rfl, by kernel_rfl, by kernel_rfl⟩
noncomputable def m68 (a0 : List Int) (a1 : List Int) : Option (Bool × Unit) :=
 loopO (S := (List Int) × (List Int) × (List Int) × Int × Int × Unit) (R := Bool × Unit) (fun s336 =>
 cond (iLt s336.2.2.2.2.1 s336.2.2.2.1)
 (cond (bnd s336.2.2.2.2.1 (lenI s336.2.2.1))
 ((m70 s336.2.1 (atI s336.2.2.1 s336.2.2.2.2.1 0)).bind fun y337 =>
 cond y337.1
 (some (.inr (true, ())))
 (some (.inl (s336.1, s336.2.1, s336.2.2.1, s336.2.2.2.1, iAdd .i64 s336.2.2.2.2.1 1, ())))) none)
 (some (.inr (cond (iEq (lenI s336.1) 0) true (iEq (lenI s336.2.1) 0), ()))))
 (a0, a1, a0, lenI a0, 0, ())
noncomputable def cfg68 : Cfg := ⟨ttab, gtab, [i70], []⟩
theorem eqn68 (x : (List Int) × (List Int) × Unit) : xfun cfg68 x68 25 [.t 4] [(.list (.int .i64)), (.list (.int .i64))] [.bool] x = m68 x.1 x.2.1 := by kernel_rfl
noncomputable def i68 : PI := ⟨68, [(.list (.int .i64)), (.list (.int .i64))], [.bool], fun (x : (List Int) × (List Int) × Unit) => m68 x.1 x.2.1⟩
theorem oki68 : POk Try.prog (gx gtab) i68 := pok mixed (cfg_p oki70 (cfg_nil _ _) : CfgOk _ cfg68) F68 eqn68
/- 60 treaty/treatyref25.Meet -/
def r60_0 : List Ins := [qI 2 (.box 107 21 0), qI 3 (.box 107 21 1), qI 4 (.mov (.k (.bool false)))]
def r60_1 : List Ins := [qI 8 (.faddr 2 2), qI 9 (.load 2 true 8), qI 10 (.faddr 2 3), qI 11 (.load 2 true 10), qI 12 (.call (.fn 67) [9, 11]), qI 7 (.mov 12), qI 13 (.ext 0 7), qI 14 (.ext 1 7), qI 5 (.alloc 104 (.agg #[.int .i64 0, .int .i64 0])), qN (.store 2 5 13), qI 6 (.mov 14)]
def r60_2 : List Ins := [qI 15 (.mov 6), qI 16 (.mov 15), qT 17 16 (.faddr 4 2), qT 18 16 (.load 1 false 17), qT 19 16 (.faddr 4 3), qT 20 16 (.load 1 false 19), qT 21 16 (.call (.fn 68) [18, 20]), qI 22 (.pick 16 21 (.k (.bool false))), qI 23 (.mov 22), qT 24 23 (.faddr 5 2), qT 25 23 (.load 1 false 24), qT 26 23 (.faddr 5 3), qT 27 23 (.load 1 false 26), qT 28 23 (.call (.fn 68) [25, 27]), qI 29 (.pick 23 28 (.k (.bool false))), qI 30 (.mov 29), qT 31 30 (.faddr 1 2), qT 32 30 (.load 1 false 31), qT 33 30 (.bin .eql 32 (kI 3)), qT 34 30 (.mov 33), qT 35 34 (.faddr 1 3), qT 36 34 (.load 1 false 35), qT 37 34 (.bin .eql 36 (kI 3)), qT 38 30 (.pick 34 37 (.k (.bool false))), qT 39 30 (.mov 38), qT 40 39 (.faddr 6 2), qT 41 39 (.load 1 false 40), qT 42 39 (.faddr 6 3), qT 43 39 (.load 1 false 42), qT 44 39 (.bin .neq 41 43), qT 45 30 (.pick 39 44 (.k (.bool false))), qT 46 30 (.un .not 45), qI 47 (.pick 30 46 (.k (.bool false))), qI 4 (.mov 47)]
def x60 : XC := (.seq (.ops false r60_0) (.seq (.ops false r60_1) (.seq (.ops false r60_2) .ret)))
theorem F60 : Fn Try.prog 60 48 x60.er [.t 4] := ⟨Try.f60, hcl, Try.func60, by kernel_rfl, by kernel_rfl, by kernel_rfl, by kernel_rfl⟩
noncomputable def m60 (a0 : DS3) (a1 : DS3) : Option (Bool × Unit) :=
 (m67 (a0.2.2.1.1, a0.2.2.1.2.1, ()) (a1.2.2.1.1, a1.2.2.1.2.1, ())).bind fun y331 =>
 cond y331.2.1
 ((m68 a0.2.2.2.1 a1.2.2.2.1).bind fun y338 =>
 cond y338.1
 ((m68 a0.2.2.2.2.1 a1.2.2.2.2.1).bind fun y339 =>
 cond y339.1
 (some (not (cond (cond (iEq a0.2.1 3) (iEq a1.2.1 3) false) (iNe a0.2.2.2.2.2.1 a1.2.2.2.2.2.1) false), ()))
 (some (false, ())))
 (some (false, ())))
 (some (false, ()))
noncomputable def cfg60 : Cfg := ⟨ttab, gtab, [i67, i68], []⟩
theorem eqn60 (x : DS3 × DS3 × Unit) : xfun cfg60 x60 48 [.t 4] [tS3, tS3] [.bool] x = m60 x.1 x.2.1 := by kernel_rfl
noncomputable def i60 : PI := ⟨60, [tS3, tS3], [.bool], fun (x : DS3 × DS3 × Unit) => m60 x.1 x.2.1⟩
theorem oki60 : POk Try.prog (gx gtab) i60 := pok mixed (cfg_p oki67 (cfg_p oki68 (cfg_nil _ _)) : CfgOk _ cfg60) F60 eqn60
/- 37 treaty/treatymade2.Treaties -/
def r37_0 : List Ins := [qI 4 (.mov kN)]
def r37_1 : List Ins := [qI 5 (.mov kN)]
def r37_2 : List Ins := [qI 6 (.mov (kI 0))]
def r37_3 : List Ins := [qI 14 (.mov 0), qI 15 (.mov 1), qI 16 (.call (.fn 32) [14, 15]), qI 17 (.bin .add (kI 1) 16), qI 7 (.mov 17)]
def r37_4 : List Ins := [qI 18 (.mov 7), qI 19 (.bin .gtr 18 (kI 0))]
def r37_5 : List Ins := [qI 22 (.mov 6), qI 23 (.mov 0), qI 24 (.call (.fn 32) [23, (kI 3)]), qI 25 (.bin .add (kI 1) 24), qI 26 (.bin .add 22 25), qI 6 (.mov 26)]
def r37_6 : List Ins := [qI 27 (.mov 5), qI 28 (.len 27), qI 29 (.bin .sub 28 (kI 1)), qI 8 (.mov 29)]
def r37_7 : List (Nat × Ins) := [(0, qI 30 (.mov 8)),
(0, qI 31 (.bin .geq 30 (kI 0))),
(0, qI 32 (.mov 31)),
(0, qT 33 32 (.mov 5)),
(0, qT 34 32 (.mov 8)),
(0, qT 35 32 (.iaddr 21 33 34)),
(0, qT 36 32 (.faddr 1 35)),
(0, qT 37 32 (.load 1 false 36)),
(0, qT 38 32 (.bin .neq 37 (kI 6))),
(0, qI 39 (.pick 32 38 (.k (.bool false)))),
(0, qI 40 (.mov 39)),
(0, qT 41 40 (.mov 5)),
(0, qT 42 40 (.mov 8)),
(0, qT 43 40 (.iaddr 21 41 42)),
(0, qT 44 40 (.faddr 1 43)),
(0, qT 45 40 (.load 1 false 44)),
(0, qT 46 40 (.bin .geq 45 (kI 4))),
(0, qI 47 (.pick 40 46 (.k (.bool false)))),
(0, qI 48 (.mov 47)),
(0, qT 49 48 (.mov 0)),
(2, qT 50 48 (.call (.fn 32) [49, (kI 2)])),
(0, qT 51 48 (.bin .eql 50 (kI 0))),
(0, qI 52 (.pick 48 51 (.k (.bool false)))),
(0, qI 53 (.mov 52)),
(0, qT 54 53 (.mov 5)),
(0, qT 55 53 (.mov 8)),
(0, qT 56 53 (.iaddr 21 54 55)),
(0, qT 57 53 (.faddr 10 56)),
(0, qT 58 53 (.load 1 false 57)),
(0, qT 59 53 (.mov 5)),
(0, qT 60 53 (.mov 8)),
(0, qT 61 53 (.iaddr 21 59 60)),
(0, qT 62 53 (.faddr 11 61)),
(0, qT 63 53 (.load 1 false 62)),
(0, qT 64 53 (.bin .add 58 63)),
(0, qT 65 53 (.bin .lss 64 (kI 536870912))),
(0, qI 66 (.pick 53 65 (.k (.bool false))))]
def r37_8 : List Ins := [qI 67 (.mov 5), qI 68 (.mov 8), qI 69 (.iaddr 21 67 68), qI 70 (.load 21 true 69), qI 9 (.alloc 107 (.agg #[.int .i64 0, .int .i64 0, .int .i64 0, .int .i64 0, .slice none 0 0, .slice none 0 0, .int .i64 0, .int .i64 0, .int .i64 0, .int .i64 0, .int .i64 0, .int .i64 0, .int .i64 0, .int .i64 0, .int .i64 0, .int .i64 0, .slice none 0 0, .bool false, .int .i64 0, .slice none 0 0, .slice none 0 0])), qN (.store 21 9 70)]
def r37_9 : List Ins := [qI 71 (.mov 6), qI 72 (.faddr 0 9), qN (.store 1 72 71)]
def r37_10 : List (Nat × Ins) := [(0, qI 73 (.faddr 10 9)),
(1, qI 74 (.load 1 false 73)),
(0, qI 75 (.faddr 11 9)),
(1, qI 76 (.load 1 false 75)),
(0, qI 77 (.mov 0)),
(2, qI 78 (.call (.fn 32) [77, (kI 2)])),
(0, qI 79 (.mov 0)),
(2, qI 80 (.call (.fn 32) [79, (kI 40)])),
(0, qI 81 (.bin .mul 78 80)),
(0, qI 82 (.bin .add 76 81)),
(0, qI 83 (.bin .add 74 82)),
(0, qI 84 (.faddr 10 9)),
(0, qN (.store 1 84 83))]
def r37_11 : List Ins := [qI 85 (.mov 0), qI 86 (.call (.fn 56) [85]), qI 87 (.bin .add (kI 1) 86), qI 88 (.faddr 11 9), qN (.store 1 88 87)]
def r37_12 : List Ins := [qI 89 (.mov 0), qI 90 (.call (.fn 32) [89, (kI 3)]), qI 91 (.bin .quo 90 (kI 2)), qI 92 (.mov 0), qI 93 (.call (.fn 56) [92]), qI 94 (.bin .mul 91 93), qI 95 (.mov 0), qI 96 (.call (.fn 32) [95, (kI 3)]), qI 97 (.bin .quo 96 (kI 2)), qI 98 (.mov 0), qI 99 (.call (.fn 56) [98]), qI 100 (.bin .mul 97 99), qI 101 (.faddr 13 9), qN (.store 1 101 94), qI 102 (.faddr 14 9), qN (.store 1 102 100)]
def r37_13 : List Ins := [qI 103 (.mov 0), qI 104 (.call (.fn 58) [103]), qI 105 (.faddr 20 9), qN (.store 1 105 104)]
def r37_14 : List Ins := [qI 106 (.mov 5), qI 107 (.load 21 true 9), qI 108 (.bslice 107 21 [107]), qI 109 (.app 107 21 248 106 108), qI 5 (.mov 109)]
def r37_15 : List Ins := [qI 110 (.mov 0), qI 111 (.call (.fn 32) [110, (kI 6)]), qI 112 (.bin .add (kI 1) 111), qI 10 (.mov 112)]
def r37_16 : List Ins := [qI 113 (.mov 0), qI 114 (.mov 6), qI 115 (.mov 10), qI 116 (.call (.fn 59) [113, 114, 115]), qI 11 (.alloc 107 (.agg #[.int .i64 0, .int .i64 0, .int .i64 0, .int .i64 0, .slice none 0 0, .slice none 0 0, .int .i64 0, .int .i64 0, .int .i64 0, .int .i64 0, .int .i64 0, .int .i64 0, .int .i64 0, .int .i64 0, .int .i64 0, .int .i64 0, .slice none 0 0, .bool false, .int .i64 0, .slice none 0 0, .slice none 0 0])), qN (.store 21 11 116)]
def r37_17 : List Ins := [qI 117 (.mov 10), qI 118 (.bin .geq 117 (kI 4))]
def r37_18 : List Ins := [qI 119 (.mov 0), qI 120 (.call (.fn 56) [119]), qI 121 (.mov 0), qI 122 (.call (.fn 56) [121]), qI 123 (.bin .add (kI 1) 122), qI 124 (.faddr 10 11), qN (.store 1 124 120), qI 125 (.faddr 11 11), qN (.store 1 125 123)]
def r37_19 : List Ins := [qI 126 (.mov 0), qI 127 (.call (.fn 32) [126, (kI 3)]), qI 128 (.bin .gtr 127 (kI 0))]
def r37_20 : List Ins := [qI 129 (.faddr 4 11), qN (.store 1 129 kN), qI 130 (.faddr 5 11), qN (.store 1 130 kN)]
def r37_21 : List Ins := [qI 131 (.mov 5), qI 132 (.len 131), qI 133 (.mov (kI 0))]
def r37_22 : List Ins := [qI 134 (.bin .lss 133 132)]
def r37_23 : List Ins := [qI 135 (.iaddr 21 131 133), qI 136 (.load 21 true 135), qI 13 (.alloc 107 (.agg #[.int .i64 0, .int .i64 0, .int .i64 0, .int .i64 0, .slice none 0 0, .slice none 0 0, .int .i64 0, .int .i64 0, .int .i64 0, .int .i64 0, .int .i64 0, .int .i64 0, .int .i64 0, .int .i64 0, .int .i64 0, .int .i64 0, .slice none 0 0, .bool false, .int .i64 0, .slice none 0 0, .slice none 0 0])), qN (.store 21 13 136)]
def r37_24 : List Ins := [qI 137 (.load 21 true 11), qI 138 (.load 21 true 13), qI 139 (.call (.fn 60) [137, 138]), qI 140 (.mov 139), qF 141 140 (.mov 0), qF 142 140 (.call (.fn 32) [141, (kI 4)]), qF 143 140 (.bin .eql 142 (kI 0)), qI 144 (.pick 140 (.k (.bool true)) 143)]
def r37_25 : List Ins := [qI 145 (.faddr 19 11), qI 146 (.load 1 false 145), qI 147 (.faddr 0 13), qI 148 (.load 1 false 147), qI 149 (.bslice 3 1 [148]), qI 150 (.app 3 1 8 146 149), qI 151 (.faddr 19 11), qN (.store 1 151 150)]
def r37_26 : List Ins := [qI 152 (.bin .add 133 (kI 1)), qI 133 (.mov 152)]
def r37_27 : List Ins := [qI 153 (.mov 5), qI 154 (.load 21 true 11), qI 155 (.bslice 107 21 [154]), qI 156 (.app 107 21 248 153 155), qI 5 (.mov 156)]
def r37_28 : List Ins := [qI 20 (.mov 7), qI 21 (.bin .sub 20 (kI 1)), qI 7 (.mov 21)]
def r37_29 : List Ins := [qI 157 (.mov 5), qI 4 (.mov 157)]
def x37 : XC := (.seq (.ops false r37_0) (.seq (.ops false r37_1) (.seq (.ops false r37_2) (.seq (.seq (.ops false r37_3) (.block 0 (.loop [.gh 5 107 tS3] ⟨158, [(6, (.int .i64)), (7, (.int .i64))], [(0, .ptr 0 0 0), (5, .row 1)], [.box 98 [.d (.list (.int .i64)), .d (.int .i64)], .row 107 tS3 false]⟩ (.seq (.seq (.ops false r37_4) (.cond (.t 19) .skip (.exit 0))) (.seq (.block 1 (.seq (.ops false r37_5) (.seq (.ops false r37_6) (.seq (.seq (.rops [0] r37_7) (.cond (.t 66) (.seq (.ops false r37_8) (.seq (.ops false r37_9) (.seq (.rops [0] r37_10) (.seq (.ops false r37_11) (.seq (.ops false r37_12) (.seq (.ops false r37_13) (.seq (.ops false r37_14) (.exit 1)))))))) .skip)) (.seq (.ops false r37_15) (.seq (.ops false r37_16) (.seqj [.gh 5 107 tS3] ⟨158, [(6, (.int .i64)), (7, (.int .i64))], [(0, .ptr 0 0 0), (5, .row 1), (11, .ptr 2 0 0)], [.box 98 [.d (.list (.int .i64)), .d (.int .i64)], .row 107 tS3 false, .box 107 [.d (.int .i64), .d (.int .i64), .d (.int .i64), .d (.int .i64), .row 3, .row 4, .d (.int .i64), .d (.int .i64), .d (.int .i64), .d (.int .i64), .d (.int .i64), .d (.int .i64), .d (.int .i64), .d (.int .i64), .d (.int .i64), .d (.int .i64), .row 5, .d .bool, .d (.int .i64), .nil, .row 6], .row 3 (.int .i64) false, .row 3 (.int .i64) false, .row 3 (.int .i64) false, .row 116 tS2 false]⟩ (.seq (.ops false r37_17) (.cond (.t 118) (.ops false r37_18) .skip)) (.seqj [.gh 5 107 tS3, .ghc 11 4 3 (.int .i64), .ghc 11 5 3 (.int .i64)] ⟨158, [(6, (.int .i64)), (7, (.int .i64))], [(0, .ptr 0 0 0), (5, .row 1), (11, .ptr 2 0 0)], [.box 98 [.d (.list (.int .i64)), .d (.int .i64)], .row 107 tS3 false, .box 107 [.d (.int .i64), .d (.int .i64), .d (.int .i64), .d (.int .i64), .row 3, .row 4, .d (.int .i64), .d (.int .i64), .d (.int .i64), .d (.int .i64), .d (.int .i64), .d (.int .i64), .d (.int .i64), .d (.int .i64), .d (.int .i64), .d (.int .i64), .row 5, .d .bool, .d (.int .i64), .nil, .row 6], .row 3 (.int .i64) false, .row 3 (.int .i64) false, .row 3 (.int .i64) false, .row 116 tS2 false]⟩ (.seq (.ops false r37_19) (.cond (.t 128) (.ops false r37_20) .skip)) (.seq (.seq (.ops false r37_21) (.block 2 (.loop [.gh 5 107 tS3, .gh 131 107 tS3, .ghc 11 19 3 (.int .i64)] ⟨158, [(6, (.int .i64)), (7, (.int .i64)), (132, (.int .i64)), (133, (.int .i64))], [(0, .ptr 0 0 0), (5, .row 1), (11, .ptr 2 0 0), (131, .row 1)], [.box 98 [.d (.list (.int .i64)), .d (.int .i64)], .row 107 tS3 false, .box 107 [.d (.int .i64), .d (.int .i64), .d (.int .i64), .d (.int .i64), .row 3, .row 4, .d (.int .i64), .d (.int .i64), .d (.int .i64), .d (.int .i64), .d (.int .i64), .d (.int .i64), .d (.int .i64), .d (.int .i64), .d (.int .i64), .d (.int .i64), .row 5, .d .bool, .d (.int .i64), .row 6, .row 7], .row 3 (.int .i64) false, .row 3 (.int .i64) false, .row 3 (.int .i64) false, .row 3 (.int .i64) false, .row 116 tS2 false]⟩ (.seq (.ops false r37_22) (.seq (.cond (.t 134) .skip (.exit 2)) (.seq (.block 3 (.seq (.ops false r37_23) (.seq (.ops false r37_24) (.cond (.t 144) (.ops false r37_25) .skip)))) (.ops false r37_26))))))) (.ops false r37_27)))))))))) (.ops false r37_28)))))) (.seq (.ops false r37_29) .ret)))))
theorem F37 : Fn Try.prog 37 158 x37.er [.t 4] := ⟨Try.f37, hcl, Try.func37, by kernel_rfl, by kernel_rfl, by kernel_rfl, by kernel_rfl⟩
noncomputable def m37 (a0 : Int) (a1 : List Int) (a2 : Int) : Option ((List DS3) × (List Int) × Int × Unit) :=
 (m32 a0 a1 a2).bind fun y352 =>
 loopO (S := Int × Int × (List Int) × Int × (List DS3) × Unit) (R := (List DS3) × (List Int) × Int × Unit) (fun s353 =>
 cond (iLt 0 s353.2.1)
 ((m32 3 s353.2.2.1 s353.2.2.2.1).bind fun y354 =>
 cond (or (bnd (iSub .i64 (lenI s353.2.2.2.2.1) 1) (lenI s353.2.2.2.2.1)) (not (bEq (iLe 0 (iSub .i64 (lenI s353.2.2.2.2.1) 1)) true)))
 (cond (or (inB (Int.toNat (iSub .i64 (lenI s353.2.2.2.2.1) 1)) s353.2.2.2.2.1) (not (bEq (iLe 0 (iSub .i64 (lenI s353.2.2.2.2.1) 1)) true)))
 (cond (or (bnd (iSub .i64 (lenI s353.2.2.2.2.1) 1) (lenI s353.2.2.2.2.1)) (not (bEq (cond (iLe 0 (iSub .i64 (lenI s353.2.2.2.2.1) 1)) (iNe ((List.getD s353.2.2.2.2.1 (Int.toNat (iSub .i64 (lenI s353.2.2.2.2.1) 1)) (0, 0, (0, 0, ()), [], [], 0, 0, 0, 0, 0, 0, 0, 0, 0, 0, [], false, 0, [], [], ())).2.1) 6) false) true)))
 (cond (or (inB (Int.toNat (iSub .i64 (lenI s353.2.2.2.2.1) 1)) s353.2.2.2.2.1) (not (bEq (cond (iLe 0 (iSub .i64 (lenI s353.2.2.2.2.1) 1)) (iNe ((List.getD s353.2.2.2.2.1 (Int.toNat (iSub .i64 (lenI s353.2.2.2.2.1) 1)) (0, 0, (0, 0, ()), [], [], 0, 0, 0, 0, 0, 0, 0, 0, 0, 0, [], false, 0, [], [], ())).2.1) 6) false) true)))
 (cond (cond (cond (iLe 0 (iSub .i64 (lenI s353.2.2.2.2.1) 1)) (iNe ((List.getD s353.2.2.2.2.1 (Int.toNat (iSub .i64 (lenI s353.2.2.2.2.1) 1)) (0, 0, (0, 0, ()), [], [], 0, 0, 0, 0, 0, 0, 0, 0, 0, 0, [], false, 0, [], [], ())).2.1) 6) false) (iLe 4 ((List.getD s353.2.2.2.2.1 (Int.toNat (iSub .i64 (lenI s353.2.2.2.2.1) 1)) (0, 0, (0, 0, ()), [], [], 0, 0, 0, 0, 0, 0, 0, 0, 0, 0, [], false, 0, [], [], ())).2.1)) false)
 ((m32 2 y354.2.1 y354.2.2.1).bind fun y355 =>
 cond (or (bnd (iSub .i64 (lenI s353.2.2.2.2.1) 1) (lenI s353.2.2.2.2.1)) (not (bEq (iEq y355.1 0) true)))
 (cond (or (inB (Int.toNat (iSub .i64 (lenI s353.2.2.2.2.1) 1)) s353.2.2.2.2.1) (not (bEq (iEq y355.1 0) true)))
 (cond (or (bnd (iSub .i64 (lenI s353.2.2.2.2.1) 1) (lenI s353.2.2.2.2.1)) (not (bEq (iEq y355.1 0) true)))
 (cond (or (inB (Int.toNat (iSub .i64 (lenI s353.2.2.2.2.1) 1)) s353.2.2.2.2.1) (not (bEq (iEq y355.1 0) true)))
 (cond (cond (iEq y355.1 0) (iLt (iAdd .i64 ((List.getD s353.2.2.2.2.1 (Int.toNat (iSub .i64 (lenI s353.2.2.2.2.1) 1)) (0, 0, (0, 0, ()), [], [], 0, 0, 0, 0, 0, 0, 0, 0, 0, 0, [], false, 0, [], [], ())).2.2.2.2.2.2.2.2.2.1) ((List.getD s353.2.2.2.2.1 (Int.toNat (iSub .i64 (lenI s353.2.2.2.2.1) 1)) (0, 0, (0, 0, ()), [], [], 0, 0, 0, 0, 0, 0, 0, 0, 0, 0, [], false, 0, [], [], ())).2.2.2.2.2.2.2.2.2.2.1)) 536870912) false)
 (cond (bnd (iSub .i64 (lenI s353.2.2.2.2.1) 1) (lenI s353.2.2.2.2.1))
 (cond (inB (Int.toNat (iSub .i64 (lenI s353.2.2.2.2.1) 1)) s353.2.2.2.2.1)
 ((m32 2 y355.2.1 y355.2.2.1).bind fun y356 =>
 (m32 40 y356.2.1 y356.2.2.1).bind fun y357 =>
 (m56 y357.2.1 y357.2.2.1).bind fun y358 =>
 (m32 3 y358.2.1 y358.2.2.1).bind fun y359 =>
 cond (iNe 2 0)
 ((m56 y359.2.1 y359.2.2.1).bind fun y360 =>
 (m32 3 y360.2.1 y360.2.2.1).bind fun y361 =>
 cond (iNe 2 0)
 ((m56 y361.2.1 y361.2.2.1).bind fun y362 =>
 (m58 y362.2.1 y362.2.2.1).bind fun y363 =>
 cond (fits (List.length s353.2.2.2.2.1 + List.length ([(iAdd .i64 s353.1 (iAdd .i64 1 y354.1), (List.getD s353.2.2.2.2.1 (Int.toNat (iSub .i64 (lenI s353.2.2.2.2.1) 1)) (0, 0, (0, 0, ()), [], [], 0, 0, 0, 0, 0, 0, 0, 0, 0, 0, [], false, 0, [], [], ())).2.1, (((List.getD s353.2.2.2.2.1 (Int.toNat (iSub .i64 (lenI s353.2.2.2.2.1) 1)) (0, 0, (0, 0, ()), [], [], 0, 0, 0, 0, 0, 0, 0, 0, 0, 0, [], false, 0, [], [], ())).2.2.1).1, ((List.getD s353.2.2.2.2.1 (Int.toNat (iSub .i64 (lenI s353.2.2.2.2.1) 1)) (0, 0, (0, 0, ()), [], [], 0, 0, 0, 0, 0, 0, 0, 0, 0, 0, [], false, 0, [], [], ())).2.2.1).2.1, ()), (List.getD s353.2.2.2.2.1 (Int.toNat (iSub .i64 (lenI s353.2.2.2.2.1) 1)) (0, 0, (0, 0, ()), [], [], 0, 0, 0, 0, 0, 0, 0, 0, 0, 0, [], false, 0, [], [], ())).2.2.2.1, (List.getD s353.2.2.2.2.1 (Int.toNat (iSub .i64 (lenI s353.2.2.2.2.1) 1)) (0, 0, (0, 0, ()), [], [], 0, 0, 0, 0, 0, 0, 0, 0, 0, 0, [], false, 0, [], [], ())).2.2.2.2.1, (List.getD s353.2.2.2.2.1 (Int.toNat (iSub .i64 (lenI s353.2.2.2.2.1) 1)) (0, 0, (0, 0, ()), [], [], 0, 0, 0, 0, 0, 0, 0, 0, 0, 0, [], false, 0, [], [], ())).2.2.2.2.2.1, (List.getD s353.2.2.2.2.1 (Int.toNat (iSub .i64 (lenI s353.2.2.2.2.1) 1)) (0, 0, (0, 0, ()), [], [], 0, 0, 0, 0, 0, 0, 0, 0, 0, 0, [], false, 0, [], [], ())).2.2.2.2.2.2.1, (List.getD s353.2.2.2.2.1 (Int.toNat (iSub .i64 (lenI s353.2.2.2.2.1) 1)) (0, 0, (0, 0, ()), [], [], 0, 0, 0, 0, 0, 0, 0, 0, 0, 0, [], false, 0, [], [], ())).2.2.2.2.2.2.2.1, (List.getD s353.2.2.2.2.1 (Int.toNat (iSub .i64 (lenI s353.2.2.2.2.1) 1)) (0, 0, (0, 0, ()), [], [], 0, 0, 0, 0, 0, 0, 0, 0, 0, 0, [], false, 0, [], [], ())).2.2.2.2.2.2.2.2.1, iAdd .i64 ((List.getD s353.2.2.2.2.1 (Int.toNat (iSub .i64 (lenI s353.2.2.2.2.1) 1)) (0, 0, (0, 0, ()), [], [], 0, 0, 0, 0, 0, 0, 0, 0, 0, 0, [], false, 0, [], [], ())).2.2.2.2.2.2.2.2.2.1) (iAdd .i64 ((List.getD s353.2.2.2.2.1 (Int.toNat (iSub .i64 (lenI s353.2.2.2.2.1) 1)) (0, 0, (0, 0, ()), [], [], 0, 0, 0, 0, 0, 0, 0, 0, 0, 0, [], false, 0, [], [], ())).2.2.2.2.2.2.2.2.2.2.1) (iMul .i64 y356.1 y357.1)), iAdd .i64 1 y358.1, (List.getD s353.2.2.2.2.1 (Int.toNat (iSub .i64 (lenI s353.2.2.2.2.1) 1)) (0, 0, (0, 0, ()), [], [], 0, 0, 0, 0, 0, 0, 0, 0, 0, 0, [], false, 0, [], [], ())).2.2.2.2.2.2.2.2.2.2.2.1, iMul .i64 (iQuo .i64 y359.1 2) y360.1, iMul .i64 (iQuo .i64 y361.1 2) y362.1, (List.getD s353.2.2.2.2.1 (Int.toNat (iSub .i64 (lenI s353.2.2.2.2.1) 1)) (0, 0, (0, 0, ()), [], [], 0, 0, 0, 0, 0, 0, 0, 0, 0, 0, [], false, 0, [], [], ())).2.2.2.2.2.2.2.2.2.2.2.2.2.2.1, (List.getD s353.2.2.2.2.1 (Int.toNat (iSub .i64 (lenI s353.2.2.2.2.1) 1)) (0, 0, (0, 0, ()), [], [], 0, 0, 0, 0, 0, 0, 0, 0, 0, 0, [], false, 0, [], [], ())).2.2.2.2.2.2.2.2.2.2.2.2.2.2.2.1, (List.getD s353.2.2.2.2.1 (Int.toNat (iSub .i64 (lenI s353.2.2.2.2.1) 1)) (0, 0, (0, 0, ()), [], [], 0, 0, 0, 0, 0, 0, 0, 0, 0, 0, [], false, 0, [], [], ())).2.2.2.2.2.2.2.2.2.2.2.2.2.2.2.2.1, (List.getD s353.2.2.2.2.1 (Int.toNat (iSub .i64 (lenI s353.2.2.2.2.1) 1)) (0, 0, (0, 0, ()), [], [], 0, 0, 0, 0, 0, 0, 0, 0, 0, 0, [], false, 0, [], [], ())).2.2.2.2.2.2.2.2.2.2.2.2.2.2.2.2.2.1, (List.getD s353.2.2.2.2.1 (Int.toNat (iSub .i64 (lenI s353.2.2.2.2.1) 1)) (0, 0, (0, 0, ()), [], [], 0, 0, 0, 0, 0, 0, 0, 0, 0, 0, [], false, 0, [], [], ())).2.2.2.2.2.2.2.2.2.2.2.2.2.2.2.2.2.2.1, y363.2.2.1, ())] : List DS3)) 248)
 (some (.inl (iAdd .i64 s353.1 (iAdd .i64 1 y354.1), iSub .i64 s353.2.1 1, y363.1, y363.2.1, s353.2.2.2.2.1 ++ ([(iAdd .i64 s353.1 (iAdd .i64 1 y354.1), (List.getD s353.2.2.2.2.1 (Int.toNat (iSub .i64 (lenI s353.2.2.2.2.1) 1)) (0, 0, (0, 0, ()), [], [], 0, 0, 0, 0, 0, 0, 0, 0, 0, 0, [], false, 0, [], [], ())).2.1, (((List.getD s353.2.2.2.2.1 (Int.toNat (iSub .i64 (lenI s353.2.2.2.2.1) 1)) (0, 0, (0, 0, ()), [], [], 0, 0, 0, 0, 0, 0, 0, 0, 0, 0, [], false, 0, [], [], ())).2.2.1).1, ((List.getD s353.2.2.2.2.1 (Int.toNat (iSub .i64 (lenI s353.2.2.2.2.1) 1)) (0, 0, (0, 0, ()), [], [], 0, 0, 0, 0, 0, 0, 0, 0, 0, 0, [], false, 0, [], [], ())).2.2.1).2.1, ()), (List.getD s353.2.2.2.2.1 (Int.toNat (iSub .i64 (lenI s353.2.2.2.2.1) 1)) (0, 0, (0, 0, ()), [], [], 0, 0, 0, 0, 0, 0, 0, 0, 0, 0, [], false, 0, [], [], ())).2.2.2.1, (List.getD s353.2.2.2.2.1 (Int.toNat (iSub .i64 (lenI s353.2.2.2.2.1) 1)) (0, 0, (0, 0, ()), [], [], 0, 0, 0, 0, 0, 0, 0, 0, 0, 0, [], false, 0, [], [], ())).2.2.2.2.1, (List.getD s353.2.2.2.2.1 (Int.toNat (iSub .i64 (lenI s353.2.2.2.2.1) 1)) (0, 0, (0, 0, ()), [], [], 0, 0, 0, 0, 0, 0, 0, 0, 0, 0, [], false, 0, [], [], ())).2.2.2.2.2.1, (List.getD s353.2.2.2.2.1 (Int.toNat (iSub .i64 (lenI s353.2.2.2.2.1) 1)) (0, 0, (0, 0, ()), [], [], 0, 0, 0, 0, 0, 0, 0, 0, 0, 0, [], false, 0, [], [], ())).2.2.2.2.2.2.1, (List.getD s353.2.2.2.2.1 (Int.toNat (iSub .i64 (lenI s353.2.2.2.2.1) 1)) (0, 0, (0, 0, ()), [], [], 0, 0, 0, 0, 0, 0, 0, 0, 0, 0, [], false, 0, [], [], ())).2.2.2.2.2.2.2.1, (List.getD s353.2.2.2.2.1 (Int.toNat (iSub .i64 (lenI s353.2.2.2.2.1) 1)) (0, 0, (0, 0, ()), [], [], 0, 0, 0, 0, 0, 0, 0, 0, 0, 0, [], false, 0, [], [], ())).2.2.2.2.2.2.2.2.1, iAdd .i64 ((List.getD s353.2.2.2.2.1 (Int.toNat (iSub .i64 (lenI s353.2.2.2.2.1) 1)) (0, 0, (0, 0, ()), [], [], 0, 0, 0, 0, 0, 0, 0, 0, 0, 0, [], false, 0, [], [], ())).2.2.2.2.2.2.2.2.2.1) (iAdd .i64 ((List.getD s353.2.2.2.2.1 (Int.toNat (iSub .i64 (lenI s353.2.2.2.2.1) 1)) (0, 0, (0, 0, ()), [], [], 0, 0, 0, 0, 0, 0, 0, 0, 0, 0, [], false, 0, [], [], ())).2.2.2.2.2.2.2.2.2.2.1) (iMul .i64 y356.1 y357.1)), iAdd .i64 1 y358.1, (List.getD s353.2.2.2.2.1 (Int.toNat (iSub .i64 (lenI s353.2.2.2.2.1) 1)) (0, 0, (0, 0, ()), [], [], 0, 0, 0, 0, 0, 0, 0, 0, 0, 0, [], false, 0, [], [], ())).2.2.2.2.2.2.2.2.2.2.2.1, iMul .i64 (iQuo .i64 y359.1 2) y360.1, iMul .i64 (iQuo .i64 y361.1 2) y362.1, (List.getD s353.2.2.2.2.1 (Int.toNat (iSub .i64 (lenI s353.2.2.2.2.1) 1)) (0, 0, (0, 0, ()), [], [], 0, 0, 0, 0, 0, 0, 0, 0, 0, 0, [], false, 0, [], [], ())).2.2.2.2.2.2.2.2.2.2.2.2.2.2.1, (List.getD s353.2.2.2.2.1 (Int.toNat (iSub .i64 (lenI s353.2.2.2.2.1) 1)) (0, 0, (0, 0, ()), [], [], 0, 0, 0, 0, 0, 0, 0, 0, 0, 0, [], false, 0, [], [], ())).2.2.2.2.2.2.2.2.2.2.2.2.2.2.2.1, (List.getD s353.2.2.2.2.1 (Int.toNat (iSub .i64 (lenI s353.2.2.2.2.1) 1)) (0, 0, (0, 0, ()), [], [], 0, 0, 0, 0, 0, 0, 0, 0, 0, 0, [], false, 0, [], [], ())).2.2.2.2.2.2.2.2.2.2.2.2.2.2.2.2.1, (List.getD s353.2.2.2.2.1 (Int.toNat (iSub .i64 (lenI s353.2.2.2.2.1) 1)) (0, 0, (0, 0, ()), [], [], 0, 0, 0, 0, 0, 0, 0, 0, 0, 0, [], false, 0, [], [], ())).2.2.2.2.2.2.2.2.2.2.2.2.2.2.2.2.2.1, (List.getD s353.2.2.2.2.1 (Int.toNat (iSub .i64 (lenI s353.2.2.2.2.1) 1)) (0, 0, (0, 0, ()), [], [], 0, 0, 0, 0, 0, 0, 0, 0, 0, 0, [], false, 0, [], [], ())).2.2.2.2.2.2.2.2.2.2.2.2.2.2.2.2.2.2.1, y363.2.2.1, ())] : List DS3), ()))) none) none) none) none) none)
 ((m32 6 y355.2.1 y355.2.2.1).bind fun y364 =>
 (m59 (iAdd .i64 s353.1 (iAdd .i64 1 y354.1)) (iAdd .i64 1 y364.1) y364.2.1 y364.2.2.1).bind fun y365 =>
 joinO (S := Int × Int × (List Int) × Int × (List DS3) × Int × Int × Int × Int × Int × Int × Int × Int × Int × Int × Int × Int × Int × Int × Bool × Int × (List Int) × (List Int) × (List Int) × (List DS2) × Unit) (R := (Int × Int × (List Int) × Int × (List DS3) × Unit) ⊕ ((List DS3) × (List Int) × Int × Unit))
 (cond (iLe 4 (iAdd .i64 1 y364.1))
 ((m56 y365.2.2.2.2.2.2.2.2.2.2.2.2.2.2.2.2.1 y365.2.2.2.2.2.2.2.2.2.2.2.2.2.2.2.2.2.1).bind fun y366 =>
 (m56 y366.2.1 y366.2.2.1).bind fun y367 =>
 some (.inl (iAdd .i64 s353.1 (iAdd .i64 1 y354.1), s353.2.1, y367.2.1, y367.2.2.1, s353.2.2.2.2.1, y365.1, y365.2.1, y365.2.2.1, y365.2.2.2.1, y365.2.2.2.2.1, y365.2.2.2.2.2.1, y365.2.2.2.2.2.2.1, y365.2.2.2.2.2.2.2.1, y366.1, iAdd .i64 1 y367.1, y365.2.2.2.2.2.2.2.2.2.2.1, y365.2.2.2.2.2.2.2.2.2.2.2.1, y365.2.2.2.2.2.2.2.2.2.2.2.2.1, y365.2.2.2.2.2.2.2.2.2.2.2.2.2.1, y365.2.2.2.2.2.2.2.2.2.2.2.2.2.2.1, y365.2.2.2.2.2.2.2.2.2.2.2.2.2.2.2.1, y365.2.2.2.2.2.2.2.2.2.2.2.2.2.2.2.2.2.2.1, y365.2.2.2.2.2.2.2.2.2.2.2.2.2.2.2.2.2.2.2.1, y365.2.2.2.2.2.2.2.2.2.2.2.2.2.2.2.2.2.2.2.2.1, y365.2.2.2.2.2.2.2.2.2.2.2.2.2.2.2.2.2.2.2.2.2.1, ())))
 (some (.inl (iAdd .i64 s353.1 (iAdd .i64 1 y354.1), s353.2.1, y365.2.2.2.2.2.2.2.2.2.2.2.2.2.2.2.2.1, y365.2.2.2.2.2.2.2.2.2.2.2.2.2.2.2.2.2.1, s353.2.2.2.2.1, y365.1, y365.2.1, y365.2.2.1, y365.2.2.2.1, y365.2.2.2.2.1, y365.2.2.2.2.2.1, y365.2.2.2.2.2.2.1, y365.2.2.2.2.2.2.2.1, y365.2.2.2.2.2.2.2.2.1, y365.2.2.2.2.2.2.2.2.2.1, y365.2.2.2.2.2.2.2.2.2.2.1, y365.2.2.2.2.2.2.2.2.2.2.2.1, y365.2.2.2.2.2.2.2.2.2.2.2.2.1, y365.2.2.2.2.2.2.2.2.2.2.2.2.2.1, y365.2.2.2.2.2.2.2.2.2.2.2.2.2.2.1, y365.2.2.2.2.2.2.2.2.2.2.2.2.2.2.2.1, y365.2.2.2.2.2.2.2.2.2.2.2.2.2.2.2.2.2.2.1, y365.2.2.2.2.2.2.2.2.2.2.2.2.2.2.2.2.2.2.2.1, y365.2.2.2.2.2.2.2.2.2.2.2.2.2.2.2.2.2.2.2.2.1, y365.2.2.2.2.2.2.2.2.2.2.2.2.2.2.2.2.2.2.2.2.2.1, ()))))
 (fun j368 =>
 joinO (S := Int × Int × (List Int) × Int × (List DS3) × Int × Int × Int × Int × Int × Int × Int × Int × Int × Int × Int × Int × Int × Int × Bool × Int × (List Int) × (List Int) × (List Int) × (List DS2) × Unit) (R := (Int × Int × (List Int) × Int × (List DS3) × Unit) ⊕ ((List DS3) × (List Int) × Int × Unit))
 ((m32 3 j368.2.2.1 j368.2.2.2.1).bind fun y369 =>
 cond (iLt 0 y369.1)
 (some (.inl (j368.1, j368.2.1, y369.2.1, y369.2.2.1, j368.2.2.2.2.1, j368.2.2.2.2.2.1, j368.2.2.2.2.2.2.1, j368.2.2.2.2.2.2.2.1, j368.2.2.2.2.2.2.2.2.1, j368.2.2.2.2.2.2.2.2.2.1, j368.2.2.2.2.2.2.2.2.2.2.1, j368.2.2.2.2.2.2.2.2.2.2.2.1, j368.2.2.2.2.2.2.2.2.2.2.2.2.1, j368.2.2.2.2.2.2.2.2.2.2.2.2.2.1, j368.2.2.2.2.2.2.2.2.2.2.2.2.2.2.1, j368.2.2.2.2.2.2.2.2.2.2.2.2.2.2.2.1, j368.2.2.2.2.2.2.2.2.2.2.2.2.2.2.2.2.1, j368.2.2.2.2.2.2.2.2.2.2.2.2.2.2.2.2.2.1, j368.2.2.2.2.2.2.2.2.2.2.2.2.2.2.2.2.2.2.1, j368.2.2.2.2.2.2.2.2.2.2.2.2.2.2.2.2.2.2.2.1, j368.2.2.2.2.2.2.2.2.2.2.2.2.2.2.2.2.2.2.2.2.1, ([] : List Int), ([] : List Int), j368.2.2.2.2.2.2.2.2.2.2.2.2.2.2.2.2.2.2.2.2.2.2.2.1, j368.2.2.2.2.2.2.2.2.2.2.2.2.2.2.2.2.2.2.2.2.2.2.2.2.1, ())))
 (some (.inl (j368.1, j368.2.1, y369.2.1, y369.2.2.1, j368.2.2.2.2.1, j368.2.2.2.2.2.1, j368.2.2.2.2.2.2.1, j368.2.2.2.2.2.2.2.1, j368.2.2.2.2.2.2.2.2.1, j368.2.2.2.2.2.2.2.2.2.1, j368.2.2.2.2.2.2.2.2.2.2.1, j368.2.2.2.2.2.2.2.2.2.2.2.1, j368.2.2.2.2.2.2.2.2.2.2.2.2.1, j368.2.2.2.2.2.2.2.2.2.2.2.2.2.1, j368.2.2.2.2.2.2.2.2.2.2.2.2.2.2.1, j368.2.2.2.2.2.2.2.2.2.2.2.2.2.2.2.1, j368.2.2.2.2.2.2.2.2.2.2.2.2.2.2.2.2.1, j368.2.2.2.2.2.2.2.2.2.2.2.2.2.2.2.2.2.1, j368.2.2.2.2.2.2.2.2.2.2.2.2.2.2.2.2.2.2.1, j368.2.2.2.2.2.2.2.2.2.2.2.2.2.2.2.2.2.2.2.1, j368.2.2.2.2.2.2.2.2.2.2.2.2.2.2.2.2.2.2.2.2.1, j368.2.2.2.2.2.2.2.2.2.2.2.2.2.2.2.2.2.2.2.2.2.1, j368.2.2.2.2.2.2.2.2.2.2.2.2.2.2.2.2.2.2.2.2.2.2.1, j368.2.2.2.2.2.2.2.2.2.2.2.2.2.2.2.2.2.2.2.2.2.2.2.1, j368.2.2.2.2.2.2.2.2.2.2.2.2.2.2.2.2.2.2.2.2.2.2.2.2.1, ()))))
 (fun j370 =>
 loopO (S := Int × Int × Int × Int × (List Int) × Int × (List DS3) × Int × Int × Int × Int × Int × Int × Int × Int × Int × Int × Int × Int × Int × Int × Bool × Int × (List Int) × (List Int) × (List Int) × (List Int) × (List DS2) × Unit) (R := (Int × Int × (List Int) × Int × (List DS3) × Unit) ⊕ ((List DS3) × (List Int) × Int × Unit)) (fun s371 =>
 cond (iLt s371.2.2.2.1 s371.2.2.1)
 (cond (bnd s371.2.2.2.1 (lenI s371.2.2.2.2.2.2.1))
 (cond (inB (Int.toNat s371.2.2.2.1) s371.2.2.2.2.2.2.1)
 ((m60 (s371.2.2.2.2.2.2.2.1, s371.2.2.2.2.2.2.2.2.1, (s371.2.2.2.2.2.2.2.2.2.1, s371.2.2.2.2.2.2.2.2.2.2.1, ()), s371.2.2.2.2.2.2.2.2.2.2.2.2.2.2.2.2.2.2.2.2.2.2.2.1, s371.2.2.2.2.2.2.2.2.2.2.2.2.2.2.2.2.2.2.2.2.2.2.2.2.1, s371.2.2.2.2.2.2.2.2.2.2.2.1, s371.2.2.2.2.2.2.2.2.2.2.2.2.1, s371.2.2.2.2.2.2.2.2.2.2.2.2.2.1, s371.2.2.2.2.2.2.2.2.2.2.2.2.2.2.1, s371.2.2.2.2.2.2.2.2.2.2.2.2.2.2.2.1, s371.2.2.2.2.2.2.2.2.2.2.2.2.2.2.2.2.1, s371.2.2.2.2.2.2.2.2.2.2.2.2.2.2.2.2.2.1, s371.2.2.2.2.2.2.2.2.2.2.2.2.2.2.2.2.2.2.1, s371.2.2.2.2.2.2.2.2.2.2.2.2.2.2.2.2.2.2.2.1, s371.2.2.2.2.2.2.2.2.2.2.2.2.2.2.2.2.2.2.2.2.1, s371.2.2.2.2.2.2.2.2.2.2.2.2.2.2.2.2.2.2.2.2.2.2.2.2.2.1, s371.2.2.2.2.2.2.2.2.2.2.2.2.2.2.2.2.2.2.2.2.2.1, s371.2.2.2.2.2.2.2.2.2.2.2.2.2.2.2.2.2.2.2.2.2.2.1, s371.2.2.2.2.2.2.2.2.2.2.2.2.2.2.2.2.2.2.2.2.2.2.2.2.2.2.1, s371.2.2.2.2.2.2.2.2.2.2.2.2.2.2.2.2.2.2.2.2.2.2.2.2.2.2.2.1, ()) ((List.getD s371.2.2.2.2.2.2.1 (Int.toNat s371.2.2.2.1) (0, 0, (0, 0, ()), [], [], 0, 0, 0, 0, 0, 0, 0, 0, 0, 0, [], false, 0, [], [], ())).1, (List.getD s371.2.2.2.2.2.2.1 (Int.toNat s371.2.2.2.1) (0, 0, (0, 0, ()), [], [], 0, 0, 0, 0, 0, 0, 0, 0, 0, 0, [], false, 0, [], [], ())).2.1, (((List.getD s371.2.2.2.2.2.2.1 (Int.toNat s371.2.2.2.1) (0, 0, (0, 0, ()), [], [], 0, 0, 0, 0, 0, 0, 0, 0, 0, 0, [], false, 0, [], [], ())).2.2.1).1, ((List.getD s371.2.2.2.2.2.2.1 (Int.toNat s371.2.2.2.1) (0, 0, (0, 0, ()), [], [], 0, 0, 0, 0, 0, 0, 0, 0, 0, 0, [], false, 0, [], [], ())).2.2.1).2.1, ()), (List.getD s371.2.2.2.2.2.2.1 (Int.toNat s371.2.2.2.1) (0, 0, (0, 0, ()), [], [], 0, 0, 0, 0, 0, 0, 0, 0, 0, 0, [], false, 0, [], [], ())).2.2.2.1, (List.getD s371.2.2.2.2.2.2.1 (Int.toNat s371.2.2.2.1) (0, 0, (0, 0, ()), [], [], 0, 0, 0, 0, 0, 0, 0, 0, 0, 0, [], false, 0, [], [], ())).2.2.2.2.1, (List.getD s371.2.2.2.2.2.2.1 (Int.toNat s371.2.2.2.1) (0, 0, (0, 0, ()), [], [], 0, 0, 0, 0, 0, 0, 0, 0, 0, 0, [], false, 0, [], [], ())).2.2.2.2.2.1, (List.getD s371.2.2.2.2.2.2.1 (Int.toNat s371.2.2.2.1) (0, 0, (0, 0, ()), [], [], 0, 0, 0, 0, 0, 0, 0, 0, 0, 0, [], false, 0, [], [], ())).2.2.2.2.2.2.1, (List.getD s371.2.2.2.2.2.2.1 (Int.toNat s371.2.2.2.1) (0, 0, (0, 0, ()), [], [], 0, 0, 0, 0, 0, 0, 0, 0, 0, 0, [], false, 0, [], [], ())).2.2.2.2.2.2.2.1, (List.getD s371.2.2.2.2.2.2.1 (Int.toNat s371.2.2.2.1) (0, 0, (0, 0, ()), [], [], 0, 0, 0, 0, 0, 0, 0, 0, 0, 0, [], false, 0, [], [], ())).2.2.2.2.2.2.2.2.1, (List.getD s371.2.2.2.2.2.2.1 (Int.toNat s371.2.2.2.1) (0, 0, (0, 0, ()), [], [], 0, 0, 0, 0, 0, 0, 0, 0, 0, 0, [], false, 0, [], [], ())).2.2.2.2.2.2.2.2.2.1, (List.getD s371.2.2.2.2.2.2.1 (Int.toNat s371.2.2.2.1) (0, 0, (0, 0, ()), [], [], 0, 0, 0, 0, 0, 0, 0, 0, 0, 0, [], false, 0, [], [], ())).2.2.2.2.2.2.2.2.2.2.1, (List.getD s371.2.2.2.2.2.2.1 (Int.toNat s371.2.2.2.1) (0, 0, (0, 0, ()), [], [], 0, 0, 0, 0, 0, 0, 0, 0, 0, 0, [], false, 0, [], [], ())).2.2.2.2.2.2.2.2.2.2.2.1, (List.getD s371.2.2.2.2.2.2.1 (Int.toNat s371.2.2.2.1) (0, 0, (0, 0, ()), [], [], 0, 0, 0, 0, 0, 0, 0, 0, 0, 0, [], false, 0, [], [], ())).2.2.2.2.2.2.2.2.2.2.2.2.1, (List.getD s371.2.2.2.2.2.2.1 (Int.toNat s371.2.2.2.1) (0, 0, (0, 0, ()), [], [], 0, 0, 0, 0, 0, 0, 0, 0, 0, 0, [], false, 0, [], [], ())).2.2.2.2.2.2.2.2.2.2.2.2.2.1, (List.getD s371.2.2.2.2.2.2.1 (Int.toNat s371.2.2.2.1) (0, 0, (0, 0, ()), [], [], 0, 0, 0, 0, 0, 0, 0, 0, 0, 0, [], false, 0, [], [], ())).2.2.2.2.2.2.2.2.2.2.2.2.2.2.1, (List.getD s371.2.2.2.2.2.2.1 (Int.toNat s371.2.2.2.1) (0, 0, (0, 0, ()), [], [], 0, 0, 0, 0, 0, 0, 0, 0, 0, 0, [], false, 0, [], [], ())).2.2.2.2.2.2.2.2.2.2.2.2.2.2.2.1, (List.getD s371.2.2.2.2.2.2.1 (Int.toNat s371.2.2.2.1) (0, 0, (0, 0, ()), [], [], 0, 0, 0, 0, 0, 0, 0, 0, 0, 0, [], false, 0, [], [], ())).2.2.2.2.2.2.2.2.2.2.2.2.2.2.2.2.1, (List.getD s371.2.2.2.2.2.2.1 (Int.toNat s371.2.2.2.1) (0, 0, (0, 0, ()), [], [], 0, 0, 0, 0, 0, 0, 0, 0, 0, 0, [], false, 0, [], [], ())).2.2.2.2.2.2.2.2.2.2.2.2.2.2.2.2.2.1, (List.getD s371.2.2.2.2.2.2.1 (Int.toNat s371.2.2.2.1) (0, 0, (0, 0, ()), [], [], 0, 0, 0, 0, 0, 0, 0, 0, 0, 0, [], false, 0, [], [], ())).2.2.2.2.2.2.2.2.2.2.2.2.2.2.2.2.2.2.1, (List.getD s371.2.2.2.2.2.2.1 (Int.toNat s371.2.2.2.1) (0, 0, (0, 0, ()), [], [], 0, 0, 0, 0, 0, 0, 0, 0, 0, 0, [], false, 0, [], [], ())).2.2.2.2.2.2.2.2.2.2.2.2.2.2.2.2.2.2.2.1, ())).bind fun y372 =>
 cond y372.1
 (cond (fits (List.length s371.2.2.2.2.2.2.2.2.2.2.2.2.2.2.2.2.2.2.2.2.2.2.2.2.2.2.1 + List.length ([(List.getD s371.2.2.2.2.2.2.1 (Int.toNat s371.2.2.2.1) (0, 0, (0, 0, ()), [], [], 0, 0, 0, 0, 0, 0, 0, 0, 0, 0, [], false, 0, [], [], ())).1] : List Int)) 8)
 (some (.inl (s371.1, s371.2.1, s371.2.2.1, iAdd .i64 s371.2.2.2.1 1, s371.2.2.2.2.1, s371.2.2.2.2.2.1, s371.2.2.2.2.2.2.1, s371.2.2.2.2.2.2.2.1, s371.2.2.2.2.2.2.2.2.1, s371.2.2.2.2.2.2.2.2.2.1, s371.2.2.2.2.2.2.2.2.2.2.1, s371.2.2.2.2.2.2.2.2.2.2.2.1, s371.2.2.2.2.2.2.2.2.2.2.2.2.1, s371.2.2.2.2.2.2.2.2.2.2.2.2.2.1, s371.2.2.2.2.2.2.2.2.2.2.2.2.2.2.1, s371.2.2.2.2.2.2.2.2.2.2.2.2.2.2.2.1, s371.2.2.2.2.2.2.2.2.2.2.2.2.2.2.2.2.1, s371.2.2.2.2.2.2.2.2.2.2.2.2.2.2.2.2.2.1, s371.2.2.2.2.2.2.2.2.2.2.2.2.2.2.2.2.2.2.1, s371.2.2.2.2.2.2.2.2.2.2.2.2.2.2.2.2.2.2.2.1, s371.2.2.2.2.2.2.2.2.2.2.2.2.2.2.2.2.2.2.2.2.1, s371.2.2.2.2.2.2.2.2.2.2.2.2.2.2.2.2.2.2.2.2.2.1, s371.2.2.2.2.2.2.2.2.2.2.2.2.2.2.2.2.2.2.2.2.2.2.1, s371.2.2.2.2.2.2.2.2.2.2.2.2.2.2.2.2.2.2.2.2.2.2.2.1, s371.2.2.2.2.2.2.2.2.2.2.2.2.2.2.2.2.2.2.2.2.2.2.2.2.1, s371.2.2.2.2.2.2.2.2.2.2.2.2.2.2.2.2.2.2.2.2.2.2.2.2.2.1, s371.2.2.2.2.2.2.2.2.2.2.2.2.2.2.2.2.2.2.2.2.2.2.2.2.2.2.1 ++ ([(List.getD s371.2.2.2.2.2.2.1 (Int.toNat s371.2.2.2.1) (0, 0, (0, 0, ()), [], [], 0, 0, 0, 0, 0, 0, 0, 0, 0, 0, [], false, 0, [], [], ())).1] : List Int), s371.2.2.2.2.2.2.2.2.2.2.2.2.2.2.2.2.2.2.2.2.2.2.2.2.2.2.2.1, ()))) none)
 ((m32 4 s371.2.2.2.2.1 s371.2.2.2.2.2.1).bind fun y373 =>
 cond (iEq y373.1 0)
 (cond (fits (List.length s371.2.2.2.2.2.2.2.2.2.2.2.2.2.2.2.2.2.2.2.2.2.2.2.2.2.2.1 + List.length ([(List.getD s371.2.2.2.2.2.2.1 (Int.toNat s371.2.2.2.1) (0, 0, (0, 0, ()), [], [], 0, 0, 0, 0, 0, 0, 0, 0, 0, 0, [], false, 0, [], [], ())).1] : List Int)) 8)
 (some (.inl (s371.1, s371.2.1, s371.2.2.1, iAdd .i64 s371.2.2.2.1 1, y373.2.1, y373.2.2.1, s371.2.2.2.2.2.2.1, s371.2.2.2.2.2.2.2.1, s371.2.2.2.2.2.2.2.2.1, s371.2.2.2.2.2.2.2.2.2.1, s371.2.2.2.2.2.2.2.2.2.2.1, s371.2.2.2.2.2.2.2.2.2.2.2.1, s371.2.2.2.2.2.2.2.2.2.2.2.2.1, s371.2.2.2.2.2.2.2.2.2.2.2.2.2.1, s371.2.2.2.2.2.2.2.2.2.2.2.2.2.2.1, s371.2.2.2.2.2.2.2.2.2.2.2.2.2.2.2.1, s371.2.2.2.2.2.2.2.2.2.2.2.2.2.2.2.2.1, s371.2.2.2.2.2.2.2.2.2.2.2.2.2.2.2.2.2.1, s371.2.2.2.2.2.2.2.2.2.2.2.2.2.2.2.2.2.2.1, s371.2.2.2.2.2.2.2.2.2.2.2.2.2.2.2.2.2.2.2.1, s371.2.2.2.2.2.2.2.2.2.2.2.2.2.2.2.2.2.2.2.2.1, s371.2.2.2.2.2.2.2.2.2.2.2.2.2.2.2.2.2.2.2.2.2.1, s371.2.2.2.2.2.2.2.2.2.2.2.2.2.2.2.2.2.2.2.2.2.2.1, s371.2.2.2.2.2.2.2.2.2.2.2.2.2.2.2.2.2.2.2.2.2.2.2.1, s371.2.2.2.2.2.2.2.2.2.2.2.2.2.2.2.2.2.2.2.2.2.2.2.2.1, s371.2.2.2.2.2.2.2.2.2.2.2.2.2.2.2.2.2.2.2.2.2.2.2.2.2.1, s371.2.2.2.2.2.2.2.2.2.2.2.2.2.2.2.2.2.2.2.2.2.2.2.2.2.2.1 ++ ([(List.getD s371.2.2.2.2.2.2.1 (Int.toNat s371.2.2.2.1) (0, 0, (0, 0, ()), [], [], 0, 0, 0, 0, 0, 0, 0, 0, 0, 0, [], false, 0, [], [], ())).1] : List Int), s371.2.2.2.2.2.2.2.2.2.2.2.2.2.2.2.2.2.2.2.2.2.2.2.2.2.2.2.1, ()))) none)
 (some (.inl (s371.1, s371.2.1, s371.2.2.1, iAdd .i64 s371.2.2.2.1 1, y373.2.1, y373.2.2.1, s371.2.2.2.2.2.2.1, s371.2.2.2.2.2.2.2.1, s371.2.2.2.2.2.2.2.2.1, s371.2.2.2.2.2.2.2.2.2.1, s371.2.2.2.2.2.2.2.2.2.2.1, s371.2.2.2.2.2.2.2.2.2.2.2.1, s371.2.2.2.2.2.2.2.2.2.2.2.2.1, s371.2.2.2.2.2.2.2.2.2.2.2.2.2.1, s371.2.2.2.2.2.2.2.2.2.2.2.2.2.2.1, s371.2.2.2.2.2.2.2.2.2.2.2.2.2.2.2.1, s371.2.2.2.2.2.2.2.2.2.2.2.2.2.2.2.2.1, s371.2.2.2.2.2.2.2.2.2.2.2.2.2.2.2.2.2.1, s371.2.2.2.2.2.2.2.2.2.2.2.2.2.2.2.2.2.2.1, s371.2.2.2.2.2.2.2.2.2.2.2.2.2.2.2.2.2.2.2.1, s371.2.2.2.2.2.2.2.2.2.2.2.2.2.2.2.2.2.2.2.2.1, s371.2.2.2.2.2.2.2.2.2.2.2.2.2.2.2.2.2.2.2.2.2.1, s371.2.2.2.2.2.2.2.2.2.2.2.2.2.2.2.2.2.2.2.2.2.2.1, s371.2.2.2.2.2.2.2.2.2.2.2.2.2.2.2.2.2.2.2.2.2.2.2.1, s371.2.2.2.2.2.2.2.2.2.2.2.2.2.2.2.2.2.2.2.2.2.2.2.2.1, s371.2.2.2.2.2.2.2.2.2.2.2.2.2.2.2.2.2.2.2.2.2.2.2.2.2.1, s371.2.2.2.2.2.2.2.2.2.2.2.2.2.2.2.2.2.2.2.2.2.2.2.2.2.2.1, s371.2.2.2.2.2.2.2.2.2.2.2.2.2.2.2.2.2.2.2.2.2.2.2.2.2.2.2.1, ()))))) none) none)
 (Option.map Sum.inr (cond (fits (List.length s371.2.2.2.2.2.2.1 + List.length ([(s371.2.2.2.2.2.2.2.1, s371.2.2.2.2.2.2.2.2.1, (s371.2.2.2.2.2.2.2.2.2.1, s371.2.2.2.2.2.2.2.2.2.2.1, ()), s371.2.2.2.2.2.2.2.2.2.2.2.2.2.2.2.2.2.2.2.2.2.2.2.1, s371.2.2.2.2.2.2.2.2.2.2.2.2.2.2.2.2.2.2.2.2.2.2.2.2.1, s371.2.2.2.2.2.2.2.2.2.2.2.1, s371.2.2.2.2.2.2.2.2.2.2.2.2.1, s371.2.2.2.2.2.2.2.2.2.2.2.2.2.1, s371.2.2.2.2.2.2.2.2.2.2.2.2.2.2.1, s371.2.2.2.2.2.2.2.2.2.2.2.2.2.2.2.1, s371.2.2.2.2.2.2.2.2.2.2.2.2.2.2.2.2.1, s371.2.2.2.2.2.2.2.2.2.2.2.2.2.2.2.2.2.1, s371.2.2.2.2.2.2.2.2.2.2.2.2.2.2.2.2.2.2.1, s371.2.2.2.2.2.2.2.2.2.2.2.2.2.2.2.2.2.2.2.1, s371.2.2.2.2.2.2.2.2.2.2.2.2.2.2.2.2.2.2.2.2.1, s371.2.2.2.2.2.2.2.2.2.2.2.2.2.2.2.2.2.2.2.2.2.2.2.2.2.1, s371.2.2.2.2.2.2.2.2.2.2.2.2.2.2.2.2.2.2.2.2.2.1, s371.2.2.2.2.2.2.2.2.2.2.2.2.2.2.2.2.2.2.2.2.2.2.1, s371.2.2.2.2.2.2.2.2.2.2.2.2.2.2.2.2.2.2.2.2.2.2.2.2.2.2.1, s371.2.2.2.2.2.2.2.2.2.2.2.2.2.2.2.2.2.2.2.2.2.2.2.2.2.2.2.1, ())] : List DS3)) 248)
 (some (.inl (s371.1, iSub .i64 s371.2.1 1, s371.2.2.2.2.1, s371.2.2.2.2.2.1, s371.2.2.2.2.2.2.1 ++ ([(s371.2.2.2.2.2.2.2.1, s371.2.2.2.2.2.2.2.2.1, (s371.2.2.2.2.2.2.2.2.2.1, s371.2.2.2.2.2.2.2.2.2.2.1, ()), s371.2.2.2.2.2.2.2.2.2.2.2.2.2.2.2.2.2.2.2.2.2.2.2.1, s371.2.2.2.2.2.2.2.2.2.2.2.2.2.2.2.2.2.2.2.2.2.2.2.2.1, s371.2.2.2.2.2.2.2.2.2.2.2.1, s371.2.2.2.2.2.2.2.2.2.2.2.2.1, s371.2.2.2.2.2.2.2.2.2.2.2.2.2.1, s371.2.2.2.2.2.2.2.2.2.2.2.2.2.2.1, s371.2.2.2.2.2.2.2.2.2.2.2.2.2.2.2.1, s371.2.2.2.2.2.2.2.2.2.2.2.2.2.2.2.2.1, s371.2.2.2.2.2.2.2.2.2.2.2.2.2.2.2.2.2.1, s371.2.2.2.2.2.2.2.2.2.2.2.2.2.2.2.2.2.2.1, s371.2.2.2.2.2.2.2.2.2.2.2.2.2.2.2.2.2.2.2.1, s371.2.2.2.2.2.2.2.2.2.2.2.2.2.2.2.2.2.2.2.2.1, s371.2.2.2.2.2.2.2.2.2.2.2.2.2.2.2.2.2.2.2.2.2.2.2.2.2.1, s371.2.2.2.2.2.2.2.2.2.2.2.2.2.2.2.2.2.2.2.2.2.1, s371.2.2.2.2.2.2.2.2.2.2.2.2.2.2.2.2.2.2.2.2.2.2.1, s371.2.2.2.2.2.2.2.2.2.2.2.2.2.2.2.2.2.2.2.2.2.2.2.2.2.2.1, s371.2.2.2.2.2.2.2.2.2.2.2.2.2.2.2.2.2.2.2.2.2.2.2.2.2.2.2.1, ())] : List DS3), ()))) none)))
 (j370.1, j370.2.1, lenI j370.2.2.2.2.1, 0, j370.2.2.1, j370.2.2.2.1, j370.2.2.2.2.1, j370.2.2.2.2.2.1, j370.2.2.2.2.2.2.1, j370.2.2.2.2.2.2.2.1, j370.2.2.2.2.2.2.2.2.1, j370.2.2.2.2.2.2.2.2.2.1, j370.2.2.2.2.2.2.2.2.2.2.1, j370.2.2.2.2.2.2.2.2.2.2.2.1, j370.2.2.2.2.2.2.2.2.2.2.2.2.1, j370.2.2.2.2.2.2.2.2.2.2.2.2.2.1, j370.2.2.2.2.2.2.2.2.2.2.2.2.2.2.1, j370.2.2.2.2.2.2.2.2.2.2.2.2.2.2.2.1, j370.2.2.2.2.2.2.2.2.2.2.2.2.2.2.2.2.1, j370.2.2.2.2.2.2.2.2.2.2.2.2.2.2.2.2.2.1, j370.2.2.2.2.2.2.2.2.2.2.2.2.2.2.2.2.2.2.1, j370.2.2.2.2.2.2.2.2.2.2.2.2.2.2.2.2.2.2.2.1, j370.2.2.2.2.2.2.2.2.2.2.2.2.2.2.2.2.2.2.2.2.1, j370.2.2.2.2.2.2.2.2.2.2.2.2.2.2.2.2.2.2.2.2.2.1, j370.2.2.2.2.2.2.2.2.2.2.2.2.2.2.2.2.2.2.2.2.2.2.1, j370.2.2.2.2.2.2.2.2.2.2.2.2.2.2.2.2.2.2.2.2.2.2.2.1, ([] : List Int), j370.2.2.2.2.2.2.2.2.2.2.2.2.2.2.2.2.2.2.2.2.2.2.2.2.1, ()))))) none) none) none) none)
 (cond (or (bnd (iSub .i64 (lenI s353.2.2.2.2.1) 1) (lenI s353.2.2.2.2.1)) (not (bEq false true)))
 (cond (or (inB (Int.toNat (iSub .i64 (lenI s353.2.2.2.2.1) 1)) s353.2.2.2.2.1) (not (bEq false true)))
 (cond (or (bnd (iSub .i64 (lenI s353.2.2.2.2.1) 1) (lenI s353.2.2.2.2.1)) (not (bEq false true)))
 (cond (or (inB (Int.toNat (iSub .i64 (lenI s353.2.2.2.2.1) 1)) s353.2.2.2.2.1) (not (bEq false true)))
 ((m32 6 y354.2.1 y354.2.2.1).bind fun y374 =>
 (m59 (iAdd .i64 s353.1 (iAdd .i64 1 y354.1)) (iAdd .i64 1 y374.1) y374.2.1 y374.2.2.1).bind fun y375 =>
 joinO (S := Int × Int × (List Int) × Int × (List DS3) × Int × Int × Int × Int × Int × Int × Int × Int × Int × Int × Int × Int × Int × Int × Bool × Int × (List Int) × (List Int) × (List Int) × (List DS2) × Unit) (R := (Int × Int × (List Int) × Int × (List DS3) × Unit) ⊕ ((List DS3) × (List Int) × Int × Unit))
 (cond (iLe 4 (iAdd .i64 1 y374.1))
 ((m56 y375.2.2.2.2.2.2.2.2.2.2.2.2.2.2.2.2.1 y375.2.2.2.2.2.2.2.2.2.2.2.2.2.2.2.2.2.1).bind fun y376 =>
 (m56 y376.2.1 y376.2.2.1).bind fun y377 =>
 some (.inl (iAdd .i64 s353.1 (iAdd .i64 1 y354.1), s353.2.1, y377.2.1, y377.2.2.1, s353.2.2.2.2.1, y375.1, y375.2.1, y375.2.2.1, y375.2.2.2.1, y375.2.2.2.2.1, y375.2.2.2.2.2.1, y375.2.2.2.2.2.2.1, y375.2.2.2.2.2.2.2.1, y376.1, iAdd .i64 1 y377.1, y375.2.2.2.2.2.2.2.2.2.2.1, y375.2.2.2.2.2.2.2.2.2.2.2.1, y375.2.2.2.2.2.2.2.2.2.2.2.2.1, y375.2.2.2.2.2.2.2.2.2.2.2.2.2.1, y375.2.2.2.2.2.2.2.2.2.2.2.2.2.2.1, y375.2.2.2.2.2.2.2.2.2.2.2.2.2.2.2.1, y375.2.2.2.2.2.2.2.2.2.2.2.2.2.2.2.2.2.2.1, y375.2.2.2.2.2.2.2.2.2.2.2.2.2.2.2.2.2.2.2.1, y375.2.2.2.2.2.2.2.2.2.2.2.2.2.2.2.2.2.2.2.2.1, y375.2.2.2.2.2.2.2.2.2.2.2.2.2.2.2.2.2.2.2.2.2.1, ())))
 (some (.inl (iAdd .i64 s353.1 (iAdd .i64 1 y354.1), s353.2.1, y375.2.2.2.2.2.2.2.2.2.2.2.2.2.2.2.2.1, y375.2.2.2.2.2.2.2.2.2.2.2.2.2.2.2.2.2.1, s353.2.2.2.2.1, y375.1, y375.2.1, y375.2.2.1, y375.2.2.2.1, y375.2.2.2.2.1, y375.2.2.2.2.2.1, y375.2.2.2.2.2.2.1, y375.2.2.2.2.2.2.2.1, y375.2.2.2.2.2.2.2.2.1, y375.2.2.2.2.2.2.2.2.2.1, y375.2.2.2.2.2.2.2.2.2.2.1, y375.2.2.2.2.2.2.2.2.2.2.2.1, y375.2.2.2.2.2.2.2.2.2.2.2.2.1, y375.2.2.2.2.2.2.2.2.2.2.2.2.2.1, y375.2.2.2.2.2.2.2.2.2.2.2.2.2.2.1, y375.2.2.2.2.2.2.2.2.2.2.2.2.2.2.2.1, y375.2.2.2.2.2.2.2.2.2.2.2.2.2.2.2.2.2.2.1, y375.2.2.2.2.2.2.2.2.2.2.2.2.2.2.2.2.2.2.2.1, y375.2.2.2.2.2.2.2.2.2.2.2.2.2.2.2.2.2.2.2.2.1, y375.2.2.2.2.2.2.2.2.2.2.2.2.2.2.2.2.2.2.2.2.2.1, ()))))
 (fun j378 =>
 joinO (S := Int × Int × (List Int) × Int × (List DS3) × Int × Int × Int × Int × Int × Int × Int × Int × Int × Int × Int × Int × Int × Int × Bool × Int × (List Int) × (List Int) × (List Int) × (List DS2) × Unit) (R := (Int × Int × (List Int) × Int × (List DS3) × Unit) ⊕ ((List DS3) × (List Int) × Int × Unit))
 ((m32 3 j378.2.2.1 j378.2.2.2.1).bind fun y379 =>
 cond (iLt 0 y379.1)
 (some (.inl (j378.1, j378.2.1, y379.2.1, y379.2.2.1, j378.2.2.2.2.1, j378.2.2.2.2.2.1, j378.2.2.2.2.2.2.1, j378.2.2.2.2.2.2.2.1, j378.2.2.2.2.2.2.2.2.1, j378.2.2.2.2.2.2.2.2.2.1, j378.2.2.2.2.2.2.2.2.2.2.1, j378.2.2.2.2.2.2.2.2.2.2.2.1, j378.2.2.2.2.2.2.2.2.2.2.2.2.1, j378.2.2.2.2.2.2.2.2.2.2.2.2.2.1, j378.2.2.2.2.2.2.2.2.2.2.2.2.2.2.1, j378.2.2.2.2.2.2.2.2.2.2.2.2.2.2.2.1, j378.2.2.2.2.2.2.2.2.2.2.2.2.2.2.2.2.1, j378.2.2.2.2.2.2.2.2.2.2.2.2.2.2.2.2.2.1, j378.2.2.2.2.2.2.2.2.2.2.2.2.2.2.2.2.2.2.1, j378.2.2.2.2.2.2.2.2.2.2.2.2.2.2.2.2.2.2.2.1, j378.2.2.2.2.2.2.2.2.2.2.2.2.2.2.2.2.2.2.2.2.1, ([] : List Int), ([] : List Int), j378.2.2.2.2.2.2.2.2.2.2.2.2.2.2.2.2.2.2.2.2.2.2.2.1, j378.2.2.2.2.2.2.2.2.2.2.2.2.2.2.2.2.2.2.2.2.2.2.2.2.1, ())))
 (some (.inl (j378.1, j378.2.1, y379.2.1, y379.2.2.1, j378.2.2.2.2.1, j378.2.2.2.2.2.1, j378.2.2.2.2.2.2.1, j378.2.2.2.2.2.2.2.1, j378.2.2.2.2.2.2.2.2.1, j378.2.2.2.2.2.2.2.2.2.1, j378.2.2.2.2.2.2.2.2.2.2.1, j378.2.2.2.2.2.2.2.2.2.2.2.1, j378.2.2.2.2.2.2.2.2.2.2.2.2.1, j378.2.2.2.2.2.2.2.2.2.2.2.2.2.1, j378.2.2.2.2.2.2.2.2.2.2.2.2.2.2.1, j378.2.2.2.2.2.2.2.2.2.2.2.2.2.2.2.1, j378.2.2.2.2.2.2.2.2.2.2.2.2.2.2.2.2.1, j378.2.2.2.2.2.2.2.2.2.2.2.2.2.2.2.2.2.1, j378.2.2.2.2.2.2.2.2.2.2.2.2.2.2.2.2.2.2.1, j378.2.2.2.2.2.2.2.2.2.2.2.2.2.2.2.2.2.2.2.1, j378.2.2.2.2.2.2.2.2.2.2.2.2.2.2.2.2.2.2.2.2.1, j378.2.2.2.2.2.2.2.2.2.2.2.2.2.2.2.2.2.2.2.2.2.1, j378.2.2.2.2.2.2.2.2.2.2.2.2.2.2.2.2.2.2.2.2.2.2.1, j378.2.2.2.2.2.2.2.2.2.2.2.2.2.2.2.2.2.2.2.2.2.2.2.1, j378.2.2.2.2.2.2.2.2.2.2.2.2.2.2.2.2.2.2.2.2.2.2.2.2.1, ()))))
 (fun j380 =>
 loopO (S := Int × Int × Int × Int × (List Int) × Int × (List DS3) × Int × Int × Int × Int × Int × Int × Int × Int × Int × Int × Int × Int × Int × Int × Bool × Int × (List Int) × (List Int) × (List Int) × (List Int) × (List DS2) × Unit) (R := (Int × Int × (List Int) × Int × (List DS3) × Unit) ⊕ ((List DS3) × (List Int) × Int × Unit)) (fun s381 =>
 cond (iLt s381.2.2.2.1 s381.2.2.1)
 (cond (bnd s381.2.2.2.1 (lenI s381.2.2.2.2.2.2.1))
 (cond (inB (Int.toNat s381.2.2.2.1) s381.2.2.2.2.2.2.1)
 ((m60 (s381.2.2.2.2.2.2.2.1, s381.2.2.2.2.2.2.2.2.1, (s381.2.2.2.2.2.2.2.2.2.1, s381.2.2.2.2.2.2.2.2.2.2.1, ()), s381.2.2.2.2.2.2.2.2.2.2.2.2.2.2.2.2.2.2.2.2.2.2.2.1, s381.2.2.2.2.2.2.2.2.2.2.2.2.2.2.2.2.2.2.2.2.2.2.2.2.1, s381.2.2.2.2.2.2.2.2.2.2.2.1, s381.2.2.2.2.2.2.2.2.2.2.2.2.1, s381.2.2.2.2.2.2.2.2.2.2.2.2.2.1, s381.2.2.2.2.2.2.2.2.2.2.2.2.2.2.1, s381.2.2.2.2.2.2.2.2.2.2.2.2.2.2.2.1, s381.2.2.2.2.2.2.2.2.2.2.2.2.2.2.2.2.1, s381.2.2.2.2.2.2.2.2.2.2.2.2.2.2.2.2.2.1, s381.2.2.2.2.2.2.2.2.2.2.2.2.2.2.2.2.2.2.1, s381.2.2.2.2.2.2.2.2.2.2.2.2.2.2.2.2.2.2.2.1, s381.2.2.2.2.2.2.2.2.2.2.2.2.2.2.2.2.2.2.2.2.1, s381.2.2.2.2.2.2.2.2.2.2.2.2.2.2.2.2.2.2.2.2.2.2.2.2.2.1, s381.2.2.2.2.2.2.2.2.2.2.2.2.2.2.2.2.2.2.2.2.2.1, s381.2.2.2.2.2.2.2.2.2.2.2.2.2.2.2.2.2.2.2.2.2.2.1, s381.2.2.2.2.2.2.2.2.2.2.2.2.2.2.2.2.2.2.2.2.2.2.2.2.2.2.1, s381.2.2.2.2.2.2.2.2.2.2.2.2.2.2.2.2.2.2.2.2.2.2.2.2.2.2.2.1, ()) ((List.getD s381.2.2.2.2.2.2.1 (Int.toNat s381.2.2.2.1) (0, 0, (0, 0, ()), [], [], 0, 0, 0, 0, 0, 0, 0, 0, 0, 0, [], false, 0, [], [], ())).1, (List.getD s381.2.2.2.2.2.2.1 (Int.toNat s381.2.2.2.1) (0, 0, (0, 0, ()), [], [], 0, 0, 0, 0, 0, 0, 0, 0, 0, 0, [], false, 0, [], [], ())).2.1, (((List.getD s381.2.2.2.2.2.2.1 (Int.toNat s381.2.2.2.1) (0, 0, (0, 0, ()), [], [], 0, 0, 0, 0, 0, 0, 0, 0, 0, 0, [], false, 0, [], [], ())).2.2.1).1, ((List.getD s381.2.2.2.2.2.2.1 (Int.toNat s381.2.2.2.1) (0, 0, (0, 0, ()), [], [], 0, 0, 0, 0, 0, 0, 0, 0, 0, 0, [], false, 0, [], [], ())).2.2.1).2.1, ()), (List.getD s381.2.2.2.2.2.2.1 (Int.toNat s381.2.2.2.1) (0, 0, (0, 0, ()), [], [], 0, 0, 0, 0, 0, 0, 0, 0, 0, 0, [], false, 0, [], [], ())).2.2.2.1, (List.getD s381.2.2.2.2.2.2.1 (Int.toNat s381.2.2.2.1) (0, 0, (0, 0, ()), [], [], 0, 0, 0, 0, 0, 0, 0, 0, 0, 0, [], false, 0, [], [], ())).2.2.2.2.1, (List.getD s381.2.2.2.2.2.2.1 (Int.toNat s381.2.2.2.1) (0, 0, (0, 0, ()), [], [], 0, 0, 0, 0, 0, 0, 0, 0, 0, 0, [], false, 0, [], [], ())).2.2.2.2.2.1, (List.getD s381.2.2.2.2.2.2.1 (Int.toNat s381.2.2.2.1) (0, 0, (0, 0, ()), [], [], 0, 0, 0, 0, 0, 0, 0, 0, 0, 0, [], false, 0, [], [], ())).2.2.2.2.2.2.1, (List.getD s381.2.2.2.2.2.2.1 (Int.toNat s381.2.2.2.1) (0, 0, (0, 0, ()), [], [], 0, 0, 0, 0, 0, 0, 0, 0, 0, 0, [], false, 0, [], [], ())).2.2.2.2.2.2.2.1, (List.getD s381.2.2.2.2.2.2.1 (Int.toNat s381.2.2.2.1) (0, 0, (0, 0, ()), [], [], 0, 0, 0, 0, 0, 0, 0, 0, 0, 0, [], false, 0, [], [], ())).2.2.2.2.2.2.2.2.1, (List.getD s381.2.2.2.2.2.2.1 (Int.toNat s381.2.2.2.1) (0, 0, (0, 0, ()), [], [], 0, 0, 0, 0, 0, 0, 0, 0, 0, 0, [], false, 0, [], [], ())).2.2.2.2.2.2.2.2.2.1, (List.getD s381.2.2.2.2.2.2.1 (Int.toNat s381.2.2.2.1) (0, 0, (0, 0, ()), [], [], 0, 0, 0, 0, 0, 0, 0, 0, 0, 0, [], false, 0, [], [], ())).2.2.2.2.2.2.2.2.2.2.1, (List.getD s381.2.2.2.2.2.2.1 (Int.toNat s381.2.2.2.1) (0, 0, (0, 0, ()), [], [], 0, 0, 0, 0, 0, 0, 0, 0, 0, 0, [], false, 0, [], [], ())).2.2.2.2.2.2.2.2.2.2.2.1, (List.getD s381.2.2.2.2.2.2.1 (Int.toNat s381.2.2.2.1) (0, 0, (0, 0, ()), [], [], 0, 0, 0, 0, 0, 0, 0, 0, 0, 0, [], false, 0, [], [], ())).2.2.2.2.2.2.2.2.2.2.2.2.1, (List.getD s381.2.2.2.2.2.2.1 (Int.toNat s381.2.2.2.1) (0, 0, (0, 0, ()), [], [], 0, 0, 0, 0, 0, 0, 0, 0, 0, 0, [], false, 0, [], [], ())).2.2.2.2.2.2.2.2.2.2.2.2.2.1, (List.getD s381.2.2.2.2.2.2.1 (Int.toNat s381.2.2.2.1) (0, 0, (0, 0, ()), [], [], 0, 0, 0, 0, 0, 0, 0, 0, 0, 0, [], false, 0, [], [], ())).2.2.2.2.2.2.2.2.2.2.2.2.2.2.1, (List.getD s381.2.2.2.2.2.2.1 (Int.toNat s381.2.2.2.1) (0, 0, (0, 0, ()), [], [], 0, 0, 0, 0, 0, 0, 0, 0, 0, 0, [], false, 0, [], [], ())).2.2.2.2.2.2.2.2.2.2.2.2.2.2.2.1, (List.getD s381.2.2.2.2.2.2.1 (Int.toNat s381.2.2.2.1) (0, 0, (0, 0, ()), [], [], 0, 0, 0, 0, 0, 0, 0, 0, 0, 0, [], false, 0, [], [], ())).2.2.2.2.2.2.2.2.2.2.2.2.2.2.2.2.1, (List.getD s381.2.2.2.2.2.2.1 (Int.toNat s381.2.2.2.1) (0, 0, (0, 0, ()), [], [], 0, 0, 0, 0, 0, 0, 0, 0, 0, 0, [], false, 0, [], [], ())).2.2.2.2.2.2.2.2.2.2.2.2.2.2.2.2.2.1, (List.getD s381.2.2.2.2.2.2.1 (Int.toNat s381.2.2.2.1) (0, 0, (0, 0, ()), [], [], 0, 0, 0, 0, 0, 0, 0, 0, 0, 0, [], false, 0, [], [], ())).2.2.2.2.2.2.2.2.2.2.2.2.2.2.2.2.2.2.1, (List.getD s381.2.2.2.2.2.2.1 (Int.toNat s381.2.2.2.1) (0, 0, (0, 0, ()), [], [], 0, 0, 0, 0, 0, 0, 0, 0, 0, 0, [], false, 0, [], [], ())).2.2.2.2.2.2.2.2.2.2.2.2.2.2.2.2.2.2.2.1, ())).bind fun y382 =>
 cond y382.1
 (cond (fits (List.length s381.2.2.2.2.2.2.2.2.2.2.2.2.2.2.2.2.2.2.2.2.2.2.2.2.2.2.1 + List.length ([(List.getD s381.2.2.2.2.2.2.1 (Int.toNat s381.2.2.2.1) (0, 0, (0, 0, ()), [], [], 0, 0, 0, 0, 0, 0, 0, 0, 0, 0, [], false, 0, [], [], ())).1] : List Int)) 8)
 (some (.inl (s381.1, s381.2.1, s381.2.2.1, iAdd .i64 s381.2.2.2.1 1, s381.2.2.2.2.1, s381.2.2.2.2.2.1, s381.2.2.2.2.2.2.1, s381.2.2.2.2.2.2.2.1, s381.2.2.2.2.2.2.2.2.1, s381.2.2.2.2.2.2.2.2.2.1, s381.2.2.2.2.2.2.2.2.2.2.1, s381.2.2.2.2.2.2.2.2.2.2.2.1, s381.2.2.2.2.2.2.2.2.2.2.2.2.1, s381.2.2.2.2.2.2.2.2.2.2.2.2.2.1, s381.2.2.2.2.2.2.2.2.2.2.2.2.2.2.1, s381.2.2.2.2.2.2.2.2.2.2.2.2.2.2.2.1, s381.2.2.2.2.2.2.2.2.2.2.2.2.2.2.2.2.1, s381.2.2.2.2.2.2.2.2.2.2.2.2.2.2.2.2.2.1, s381.2.2.2.2.2.2.2.2.2.2.2.2.2.2.2.2.2.2.1, s381.2.2.2.2.2.2.2.2.2.2.2.2.2.2.2.2.2.2.2.1, s381.2.2.2.2.2.2.2.2.2.2.2.2.2.2.2.2.2.2.2.2.1, s381.2.2.2.2.2.2.2.2.2.2.2.2.2.2.2.2.2.2.2.2.2.1, s381.2.2.2.2.2.2.2.2.2.2.2.2.2.2.2.2.2.2.2.2.2.2.1, s381.2.2.2.2.2.2.2.2.2.2.2.2.2.2.2.2.2.2.2.2.2.2.2.1, s381.2.2.2.2.2.2.2.2.2.2.2.2.2.2.2.2.2.2.2.2.2.2.2.2.1, s381.2.2.2.2.2.2.2.2.2.2.2.2.2.2.2.2.2.2.2.2.2.2.2.2.2.1, s381.2.2.2.2.2.2.2.2.2.2.2.2.2.2.2.2.2.2.2.2.2.2.2.2.2.2.1 ++ ([(List.getD s381.2.2.2.2.2.2.1 (Int.toNat s381.2.2.2.1) (0, 0, (0, 0, ()), [], [], 0, 0, 0, 0, 0, 0, 0, 0, 0, 0, [], false, 0, [], [], ())).1] : List Int), s381.2.2.2.2.2.2.2.2.2.2.2.2.2.2.2.2.2.2.2.2.2.2.2.2.2.2.2.1, ()))) none)
 ((m32 4 s381.2.2.2.2.1 s381.2.2.2.2.2.1).bind fun y383 =>
 cond (iEq y383.1 0)
 (cond (fits (List.length s381.2.2.2.2.2.2.2.2.2.2.2.2.2.2.2.2.2.2.2.2.2.2.2.2.2.2.1 + List.length ([(List.getD s381.2.2.2.2.2.2.1 (Int.toNat s381.2.2.2.1) (0, 0, (0, 0, ()), [], [], 0, 0, 0, 0, 0, 0, 0, 0, 0, 0, [], false, 0, [], [], ())).1] : List Int)) 8)
 (some (.inl (s381.1, s381.2.1, s381.2.2.1, iAdd .i64 s381.2.2.2.1 1, y383.2.1, y383.2.2.1, s381.2.2.2.2.2.2.1, s381.2.2.2.2.2.2.2.1, s381.2.2.2.2.2.2.2.2.1, s381.2.2.2.2.2.2.2.2.2.1, s381.2.2.2.2.2.2.2.2.2.2.1, s381.2.2.2.2.2.2.2.2.2.2.2.1, s381.2.2.2.2.2.2.2.2.2.2.2.2.1, s381.2.2.2.2.2.2.2.2.2.2.2.2.2.1, s381.2.2.2.2.2.2.2.2.2.2.2.2.2.2.1, s381.2.2.2.2.2.2.2.2.2.2.2.2.2.2.2.1, s381.2.2.2.2.2.2.2.2.2.2.2.2.2.2.2.2.1, s381.2.2.2.2.2.2.2.2.2.2.2.2.2.2.2.2.2.1, s381.2.2.2.2.2.2.2.2.2.2.2.2.2.2.2.2.2.2.1, s381.2.2.2.2.2.2.2.2.2.2.2.2.2.2.2.2.2.2.2.1, s381.2.2.2.2.2.2.2.2.2.2.2.2.2.2.2.2.2.2.2.2.1, s381.2.2.2.2.2.2.2.2.2.2.2.2.2.2.2.2.2.2.2.2.2.1, s381.2.2.2.2.2.2.2.2.2.2.2.2.2.2.2.2.2.2.2.2.2.2.1, s381.2.2.2.2.2.2.2.2.2.2.2.2.2.2.2.2.2.2.2.2.2.2.2.1, s381.2.2.2.2.2.2.2.2.2.2.2.2.2.2.2.2.2.2.2.2.2.2.2.2.1, s381.2.2.2.2.2.2.2.2.2.2.2.2.2.2.2.2.2.2.2.2.2.2.2.2.2.1, s381.2.2.2.2.2.2.2.2.2.2.2.2.2.2.2.2.2.2.2.2.2.2.2.2.2.2.1 ++ ([(List.getD s381.2.2.2.2.2.2.1 (Int.toNat s381.2.2.2.1) (0, 0, (0, 0, ()), [], [], 0, 0, 0, 0, 0, 0, 0, 0, 0, 0, [], false, 0, [], [], ())).1] : List Int), s381.2.2.2.2.2.2.2.2.2.2.2.2.2.2.2.2.2.2.2.2.2.2.2.2.2.2.2.1, ()))) none)
 (some (.inl (s381.1, s381.2.1, s381.2.2.1, iAdd .i64 s381.2.2.2.1 1, y383.2.1, y383.2.2.1, s381.2.2.2.2.2.2.1, s381.2.2.2.2.2.2.2.1, s381.2.2.2.2.2.2.2.2.1, s381.2.2.2.2.2.2.2.2.2.1, s381.2.2.2.2.2.2.2.2.2.2.1, s381.2.2.2.2.2.2.2.2.2.2.2.1, s381.2.2.2.2.2.2.2.2.2.2.2.2.1, s381.2.2.2.2.2.2.2.2.2.2.2.2.2.1, s381.2.2.2.2.2.2.2.2.2.2.2.2.2.2.1, s381.2.2.2.2.2.2.2.2.2.2.2.2.2.2.2.1, s381.2.2.2.2.2.2.2.2.2.2.2.2.2.2.2.2.1, s381.2.2.2.2.2.2.2.2.2.2.2.2.2.2.2.2.2.1, s381.2.2.2.2.2.2.2.2.2.2.2.2.2.2.2.2.2.2.1, s381.2.2.2.2.2.2.2.2.2.2.2.2.2.2.2.2.2.2.2.1, s381.2.2.2.2.2.2.2.2.2.2.2.2.2.2.2.2.2.2.2.2.1, s381.2.2.2.2.2.2.2.2.2.2.2.2.2.2.2.2.2.2.2.2.2.1, s381.2.2.2.2.2.2.2.2.2.2.2.2.2.2.2.2.2.2.2.2.2.2.1, s381.2.2.2.2.2.2.2.2.2.2.2.2.2.2.2.2.2.2.2.2.2.2.2.1, s381.2.2.2.2.2.2.2.2.2.2.2.2.2.2.2.2.2.2.2.2.2.2.2.2.1, s381.2.2.2.2.2.2.2.2.2.2.2.2.2.2.2.2.2.2.2.2.2.2.2.2.2.1, s381.2.2.2.2.2.2.2.2.2.2.2.2.2.2.2.2.2.2.2.2.2.2.2.2.2.2.1, s381.2.2.2.2.2.2.2.2.2.2.2.2.2.2.2.2.2.2.2.2.2.2.2.2.2.2.2.1, ()))))) none) none)
 (Option.map Sum.inr (cond (fits (List.length s381.2.2.2.2.2.2.1 + List.length ([(s381.2.2.2.2.2.2.2.1, s381.2.2.2.2.2.2.2.2.1, (s381.2.2.2.2.2.2.2.2.2.1, s381.2.2.2.2.2.2.2.2.2.2.1, ()), s381.2.2.2.2.2.2.2.2.2.2.2.2.2.2.2.2.2.2.2.2.2.2.2.1, s381.2.2.2.2.2.2.2.2.2.2.2.2.2.2.2.2.2.2.2.2.2.2.2.2.1, s381.2.2.2.2.2.2.2.2.2.2.2.1, s381.2.2.2.2.2.2.2.2.2.2.2.2.1, s381.2.2.2.2.2.2.2.2.2.2.2.2.2.1, s381.2.2.2.2.2.2.2.2.2.2.2.2.2.2.1, s381.2.2.2.2.2.2.2.2.2.2.2.2.2.2.2.1, s381.2.2.2.2.2.2.2.2.2.2.2.2.2.2.2.2.1, s381.2.2.2.2.2.2.2.2.2.2.2.2.2.2.2.2.2.1, s381.2.2.2.2.2.2.2.2.2.2.2.2.2.2.2.2.2.2.1, s381.2.2.2.2.2.2.2.2.2.2.2.2.2.2.2.2.2.2.2.1, s381.2.2.2.2.2.2.2.2.2.2.2.2.2.2.2.2.2.2.2.2.1, s381.2.2.2.2.2.2.2.2.2.2.2.2.2.2.2.2.2.2.2.2.2.2.2.2.2.1, s381.2.2.2.2.2.2.2.2.2.2.2.2.2.2.2.2.2.2.2.2.2.1, s381.2.2.2.2.2.2.2.2.2.2.2.2.2.2.2.2.2.2.2.2.2.2.1, s381.2.2.2.2.2.2.2.2.2.2.2.2.2.2.2.2.2.2.2.2.2.2.2.2.2.2.1, s381.2.2.2.2.2.2.2.2.2.2.2.2.2.2.2.2.2.2.2.2.2.2.2.2.2.2.2.1, ())] : List DS3)) 248)
 (some (.inl (s381.1, iSub .i64 s381.2.1 1, s381.2.2.2.2.1, s381.2.2.2.2.2.1, s381.2.2.2.2.2.2.1 ++ ([(s381.2.2.2.2.2.2.2.1, s381.2.2.2.2.2.2.2.2.1, (s381.2.2.2.2.2.2.2.2.2.1, s381.2.2.2.2.2.2.2.2.2.2.1, ()), s381.2.2.2.2.2.2.2.2.2.2.2.2.2.2.2.2.2.2.2.2.2.2.2.1, s381.2.2.2.2.2.2.2.2.2.2.2.2.2.2.2.2.2.2.2.2.2.2.2.2.1, s381.2.2.2.2.2.2.2.2.2.2.2.1, s381.2.2.2.2.2.2.2.2.2.2.2.2.1, s381.2.2.2.2.2.2.2.2.2.2.2.2.2.1, s381.2.2.2.2.2.2.2.2.2.2.2.2.2.2.1, s381.2.2.2.2.2.2.2.2.2.2.2.2.2.2.2.1, s381.2.2.2.2.2.2.2.2.2.2.2.2.2.2.2.2.1, s381.2.2.2.2.2.2.2.2.2.2.2.2.2.2.2.2.2.1, s381.2.2.2.2.2.2.2.2.2.2.2.2.2.2.2.2.2.2.1, s381.2.2.2.2.2.2.2.2.2.2.2.2.2.2.2.2.2.2.2.1, s381.2.2.2.2.2.2.2.2.2.2.2.2.2.2.2.2.2.2.2.2.1, s381.2.2.2.2.2.2.2.2.2.2.2.2.2.2.2.2.2.2.2.2.2.2.2.2.2.1, s381.2.2.2.2.2.2.2.2.2.2.2.2.2.2.2.2.2.2.2.2.2.1, s381.2.2.2.2.2.2.2.2.2.2.2.2.2.2.2.2.2.2.2.2.2.2.1, s381.2.2.2.2.2.2.2.2.2.2.2.2.2.2.2.2.2.2.2.2.2.2.2.2.2.2.1, s381.2.2.2.2.2.2.2.2.2.2.2.2.2.2.2.2.2.2.2.2.2.2.2.2.2.2.2.1, ())] : List DS3), ()))) none)))
 (j380.1, j380.2.1, lenI j380.2.2.2.2.1, 0, j380.2.2.1, j380.2.2.2.1, j380.2.2.2.2.1, j380.2.2.2.2.2.1, j380.2.2.2.2.2.2.1, j380.2.2.2.2.2.2.2.1, j380.2.2.2.2.2.2.2.2.1, j380.2.2.2.2.2.2.2.2.2.1, j380.2.2.2.2.2.2.2.2.2.2.1, j380.2.2.2.2.2.2.2.2.2.2.2.1, j380.2.2.2.2.2.2.2.2.2.2.2.2.1, j380.2.2.2.2.2.2.2.2.2.2.2.2.2.1, j380.2.2.2.2.2.2.2.2.2.2.2.2.2.2.1, j380.2.2.2.2.2.2.2.2.2.2.2.2.2.2.2.1, j380.2.2.2.2.2.2.2.2.2.2.2.2.2.2.2.2.1, j380.2.2.2.2.2.2.2.2.2.2.2.2.2.2.2.2.2.1, j380.2.2.2.2.2.2.2.2.2.2.2.2.2.2.2.2.2.2.1, j380.2.2.2.2.2.2.2.2.2.2.2.2.2.2.2.2.2.2.2.1, j380.2.2.2.2.2.2.2.2.2.2.2.2.2.2.2.2.2.2.2.2.1, j380.2.2.2.2.2.2.2.2.2.2.2.2.2.2.2.2.2.2.2.2.2.1, j380.2.2.2.2.2.2.2.2.2.2.2.2.2.2.2.2.2.2.2.2.2.2.1, j380.2.2.2.2.2.2.2.2.2.2.2.2.2.2.2.2.2.2.2.2.2.2.2.1, ([] : List Int), j380.2.2.2.2.2.2.2.2.2.2.2.2.2.2.2.2.2.2.2.2.2.2.2.2.1, ())))) none) none) none) none)) none) none) none) none)
 (some (.inr (s353.2.2.2.2.1, s353.2.2.1, s353.2.2.2.1, ()))))
 (0, iAdd .i64 1 y352.1, y352.2.1, y352.2.2.1, ([] : List DS3), ())
noncomputable def cfg37 : Cfg := ⟨ttab, gtab, [i60], [h32, h56, h58, h59]⟩
def ish37 : Sh := ⟨2, [(1, (.int .i64))], [(0, .ptr 0 0 0)], [.box 98 [.d (.list (.int .i64)), .d (.int .i64)]]⟩
def osh37 : Sh := ⟨1, [(0, (.list tS3))], [], [.box 98 [.d (.list (.int .i64)), .d (.int .i64)]]⟩
theorem eqn37 (x : Int × (List Int) × Int × Unit) : xfunH cfg37 x37 158 [.t 4] [.fz 4 (.list tS3)] ish37 osh37 x = m37 x.1 x.2.1 x.2.2.1 := by kernel_rfl
noncomputable def h37 : HI := ⟨37, ish37, osh37, fun (x : Int × (List Int) × Int × Unit) => m37 x.1 x.2.1 x.2.2.1⟩
theorem okh37 : HOk Try.prog (gx gtab) h37 := hok mixed (cfg_p oki60 (cfg_h okh32 (cfg_h okh56 (cfg_h okh58 (cfg_h okh59 (cfg_nil _ _))))) : CfgOk _ cfg37) F37 eqn37
/- 38 treaty/treatymade2.Losses -/
def r38_0 : List Ins := [qI 4 (.mov kN)]
def r38_1 : List Ins := [qI 5 (.mov kN)]
def r38_2 : List Ins := [qI 6 (.mov (kI 0))]
def r38_3 : List Ins := [qI 9 (.mov 0), qI 10 (.mov 1), qI 11 (.bin .add 10 (kI 1)), qI 12 (.call (.fn 32) [9, 11]), qI 7 (.mov 12)]
def r38_4 : List Ins := [qI 13 (.mov 7), qI 14 (.bin .gtr 13 (kI 0))]
def r38_5 : List Ins := [qI 17 (.mov 6), qI 18 (.mov 0), qI 19 (.call (.fn 32) [18, (kI 3)]), qI 20 (.bin .add (kI 1) 19), qI 21 (.bin .add 17 20), qI 6 (.mov 21)]
def r38_6 : List Ins := [qI 22 (.mov 6), qI 23 (.mov 0), qI 24 (.call (.fn 32) [23, (kI 5)]), qI 25 (.mov 0), qI 26 (.call (.fn 32) [25, (kI 5)]), qI 27 (.mov 0), qI 28 (.call (.fn 32) [27, (kI 90)]), qI 29 (.mov 0), qI 30 (.call (.fn 32) [29, (kI 3)]), qI 31 (.mov 0), qI 32 (.call (.fn 32) [31, (kI 3)]), qI 33 (.mov 0), qI 34 (.call (.fn 32) [33, (kI 2)]), qI 35 (.mov 0), qI 36 (.call (.fn 56) [35]), qI 37 (.mov 0), qI 38 (.call (.fn 56) [37]), qI 39 (.build [.int .i64 0, .int .i64 0, .int .i64 0, .int .i64 0, .int .i64 0, .int .i64 0, .int .i64 0, .int .i64 0, .int .i64 0, .int .i64 0] [(0, 1, 22), (1, 1, 24), (2, 1, 26), (3, 1, 28), (4, 1, 30), (5, 1, 32), (6, 1, 34), (7, 1, 36), (8, 1, 38)]), qI 8 (.alloc 76 (.agg #[.int .i64 0, .int .i64 0, .int .i64 0, .int .i64 0, .int .i64 0, .int .i64 0, .int .i64 0, .int .i64 0, .int .i64 0, .int .i64 0])), qN (.store 10 8 39)]
def r38_7 : List Ins := [qI 40 (.faddr 8 8), qI 41 (.load 1 false 40), qI 42 (.bin .gtr 41 (kI 0))]
def r38_8 : List Ins := [qI 43 (.mov 0), qI 44 (.faddr 8 8), qI 45 (.load 1 false 44), qI 46 (.bin .add 45 (kI 1)), qI 47 (.call (.fn 32) [43, 46]), qI 48 (.faddr 9 8), qN (.store 1 48 47)]
def r38_9 : List Ins := [qI 49 (.mov 5), qI 50 (.load 10 true 8), qI 51 (.bslice 76 10 [50]), qI 52 (.app 76 10 80 49 51), qI 5 (.mov 52)]
def r38_10 : List Ins := [qI 15 (.mov 7), qI 16 (.bin .sub 15 (kI 1)), qI 7 (.mov 16)]
def r38_11 : List Ins := [qI 53 (.mov 5), qI 4 (.mov 53)]
def x38 : XC := (.seq (.ops false r38_0) (.seq (.ops false r38_1) (.seq (.ops false r38_2) (.seq (.seq (.ops false r38_3) (.block 0 (.loop [.gh 5 76 tS0] ⟨54, [(6, (.int .i64)), (7, (.int .i64))], [(0, .ptr 0 0 0), (5, .row 1)], [.box 98 [.d (.list (.int .i64)), .d (.int .i64)], .row 76 tS0 false]⟩ (.seq (.seq (.ops false r38_4) (.cond (.t 14) .skip (.exit 0))) (.seq (.block 1 (.seq (.ops false r38_5) (.seq (.ops false r38_6) (.seq (.seq (.ops false r38_7) (.cond (.t 42) (.ops false r38_8) .skip)) (.ops false r38_9))))) (.ops false r38_10)))))) (.seq (.ops false r38_11) .ret)))))
theorem F38 : Fn Try.prog 38 54 x38.er [.t 4] := ⟨Try.f38, hcl, Try.func38, by kernel_rfl, by kernel_rfl, by kernel_rfl, by kernel_rfl⟩
noncomputable def m38 (a0 : Int) (a1 : List Int) (a2 : Int) : Option ((List DS0) × (List Int) × Int × Unit) :=
 (m32 (iAdd .i64 a0 1) a1 a2).bind fun y409 =>
 loopO (S := Int × Int × (List Int) × Int × (List DS0) × Unit) (R := (List DS0) × (List Int) × Int × Unit) (fun s410 =>
 cond (iLt 0 s410.2.1)
 ((m32 3 s410.2.2.1 s410.2.2.2.1).bind fun y411 =>
 (m32 5 y411.2.1 y411.2.2.1).bind fun y412 =>
 (m32 5 y412.2.1 y412.2.2.1).bind fun y413 =>
 (m32 90 y413.2.1 y413.2.2.1).bind fun y414 =>
 (m32 3 y414.2.1 y414.2.2.1).bind fun y415 =>
 (m32 3 y415.2.1 y415.2.2.1).bind fun y416 =>
 (m32 2 y416.2.1 y416.2.2.1).bind fun y417 =>
 (m56 y417.2.1 y417.2.2.1).bind fun y418 =>
 (m56 y418.2.1 y418.2.2.1).bind fun y419 =>
 cond (iLt 0 y419.1)
 ((m32 (iAdd .i64 y419.1 1) y419.2.1 y419.2.2.1).bind fun y420 =>
 cond (fits (List.length s410.2.2.2.2.1 + List.length ([(iAdd .i64 s410.1 (iAdd .i64 1 y411.1), y412.1, y413.1, y414.1, y415.1, y416.1, y417.1, y418.1, y419.1, y420.1, ())] : List DS0)) 80)
 (some (.inl (iAdd .i64 s410.1 (iAdd .i64 1 y411.1), iSub .i64 s410.2.1 1, y420.2.1, y420.2.2.1, s410.2.2.2.2.1 ++ ([(iAdd .i64 s410.1 (iAdd .i64 1 y411.1), y412.1, y413.1, y414.1, y415.1, y416.1, y417.1, y418.1, y419.1, y420.1, ())] : List DS0), ()))) none)
 (cond (fits (List.length s410.2.2.2.2.1 + List.length ([(iAdd .i64 s410.1 (iAdd .i64 1 y411.1), y412.1, y413.1, y414.1, y415.1, y416.1, y417.1, y418.1, y419.1, 0, ())] : List DS0)) 80)
 (some (.inl (iAdd .i64 s410.1 (iAdd .i64 1 y411.1), iSub .i64 s410.2.1 1, y419.2.1, y419.2.2.1, s410.2.2.2.2.1 ++ ([(iAdd .i64 s410.1 (iAdd .i64 1 y411.1), y412.1, y413.1, y414.1, y415.1, y416.1, y417.1, y418.1, y419.1, 0, ())] : List DS0), ()))) none))
 (some (.inr (s410.2.2.2.2.1, s410.2.2.1, s410.2.2.2.1, ()))))
 (0, y409.1, y409.2.1, y409.2.2.1, ([] : List DS0), ())
noncomputable def cfg38 : Cfg := ⟨ttab, gtab, [], [h32, h56]⟩
def ish38 : Sh := ⟨2, [(1, (.int .i64))], [(0, .ptr 0 0 0)], [.box 98 [.d (.list (.int .i64)), .d (.int .i64)]]⟩
def osh38 : Sh := ⟨1, [(0, (.list tS0))], [], [.box 98 [.d (.list (.int .i64)), .d (.int .i64)]]⟩
theorem eqn38 (x : Int × (List Int) × Int × Unit) : xfunH cfg38 x38 54 [.t 4] [.fz 4 (.list tS0)] ish38 osh38 x = m38 x.1 x.2.1 x.2.2.1 := by kernel_rfl
noncomputable def h38 : HI := ⟨38, ish38, osh38, fun (x : Int × (List Int) × Int × Unit) => m38 x.1 x.2.1 x.2.2.1⟩
theorem okh38 : HOk Try.prog (gx gtab) h38 := hok mixed (cfg_h okh32 (cfg_h okh56 (cfg_nil _ _)) : CfgOk _ cfg38) F38 eqn38
/- 54 treaty/treatymade2.treaty -/
def r54_0 : List Ins := [qI 3 (.box 70 4 1), qI 4 (.mov (kI 0))]
def r54_1 : List Ins := [qI 5 (.faddr 1 3), qI 6 (.load 1 false 5), qI 7 (.len 6), qI 8 (.bin .gtr 7 (kI 0)), qI 9 (.mov 8), qT 10 9 (.mov 0), qT 11 9 (.call (.fn 32) [10, (kI 8)]), qT 12 9 (.bin .gtr 11 (kI 0)), qI 13 (.pick 9 12 (.k (.bool false)))]
def r54_2 : List (Nat × Ins) := [(0, qI 14 (.faddr 1 3)),
(1, qI 15 (.load 1 false 14)),
(0, qI 16 (.mov 0)),
(0, qI 17 (.faddr 1 3)),
(0, qI 18 (.load 1 false 17)),
(0, qI 19 (.len 18)),
(2, qI 20 (.call (.fn 32) [16, 19])),
(0, qI 21 (.iaddr 21 15 20)),
(0, qI 22 (.faddr 0 21)),
(0, qI 23 (.load 1 false 22)),
(0, qI 4 (.mov 23))]
def r54_3 : List Ins := [qI 24 (.mov 0), qI 25 (.call (.fn 32) [24, (kI 4)]), qI 4 (.mov 25)]
def x54 : XC := (.seq (.ops false r54_0) (.seq (.seq (.ops false r54_1) (.cond (.t 13) (.seq (.rops [0] r54_2) .ret) .skip)) (.seq (.ops false r54_3) .ret)))
theorem F54 : Fn Try.prog 54 26 x54.er [.t 4] := ⟨Try.f54, hcl, Try.func54, by kernel_rfl, by kernel_rfl, by kernel_rfl, by kernel_rfl⟩
noncomputable def m54 (a0 : DS8) (a1 : List Int) (a2 : Int) : Option (Int × (List Int) × Int × Unit) :=
 cond (iLt 0 (lenI a0.2.1))
 ((m32 8 a1 a2).bind fun y427 =>
 cond (iLt 0 y427.1)
 ((m32 (lenI a0.2.1) y427.2.1 y427.2.2.1).bind fun y428 =>
 cond (bnd y428.1 (lenI a0.2.1))
 (some ((atI a0.2.1 y428.1 (0, 0, (0, 0, ()), [], [], 0, 0, 0, 0, 0, 0, 0, 0, 0, 0, [], false, 0, [], [], ())).1, y428.2.1, y428.2.2.1, ())) none)
 ((m32 4 y427.2.1 y427.2.2.1).bind fun y429 =>
 some (y429.1, y429.2.1, y429.2.2.1, ())))
 ((m32 4 a1 a2).bind fun y430 =>
 some (y430.1, y430.2.1, y430.2.2.1, ()))
noncomputable def cfg54 : Cfg := ⟨ttab, gtab, [], [h32]⟩
def ish54 : Sh := ⟨2, [(1, tS8)], [(0, .ptr 0 0 0)], [.box 98 [.d (.list (.int .i64)), .d (.int .i64)]]⟩
def osh54 : Sh := ⟨1, [(0, (.int .i64))], [], [.box 98 [.d (.list (.int .i64)), .d (.int .i64)]]⟩
theorem eqn54 (x : DS8 × (List Int) × Int × Unit) : xfunH cfg54 x54 26 [.t 4] [] ish54 osh54 x = m54 x.1 x.2.1 x.2.2.1 := by kernel_rfl
noncomputable def h54 : HI := ⟨54, ish54, osh54, fun (x : DS8 × (List Int) × Int × Unit) => m54 x.1 x.2.1 x.2.2.1⟩
theorem okh54 : HOk Try.prog (gx gtab) h54 := hok mixed (cfg_h okh32 (cfg_nil _ _) : CfgOk _ cfg54) F54 eqn54
/- 63 treaty/treatyref25.Index -/
def r63_0 : List Ins := [qI 4 (.mov (kI 0))]
def r63_1 : List Ins := [qI 7 (.mov 0), qI 8 (.len 7), qI 9 (.mov (kI 0))]
def r63_2 : List Ins := [qI 10 (.bin .lss 9 8)]
def r63_3 : List Ins := [qI 11 (.mov 9), qI 12 (.iaddr 21 7 9), qI 13 (.load 21 true 12), qI 6 (.alloc 107 (.agg #[.int .i64 0, .int .i64 0, .int .i64 0, .int .i64 0, .slice none 0 0, .slice none 0 0, .int .i64 0, .int .i64 0, .int .i64 0, .int .i64 0, .int .i64 0, .int .i64 0, .int .i64 0, .int .i64 0, .int .i64 0, .int .i64 0, .slice none 0 0, .bool false, .int .i64 0, .slice none 0 0, .slice none 0 0])), qI 5 (.mov 11), qN (.store 21 6 13)]
def r63_4 : List Ins := [qI 14 (.faddr 0 6), qI 15 (.load 1 false 14), qI 16 (.mov 1), qI 17 (.bin .eql 15 16)]
def r63_5 : List Ins := [qI 18 (.mov 5), qI 4 (.mov 18)]
def r63_6 : List Ins := [qI 19 (.bin .add 9 (kI 1)), qI 9 (.mov 19)]
def r63_7 : List Ins := [qI 4 (.mov (.k (.int .i64 (-1))))]
def x63 : XC := (.seq (.ops false r63_0) (.seq (.seq (.ops false r63_1) (.block 0 (.loop [] ⟨20, [(1, (.int .i64)), (7, (.list tS3)), (8, (.int .i64)), (9, (.int .i64))], [], []⟩ (.seq (.ops false r63_2) (.seq (.cond (.t 10) .skip (.exit 0)) (.seq (.block 1 (.seq (.ops false r63_3) (.seq (.ops false r63_4) (.cond (.t 17) (.seq (.ops false r63_5) .ret) .skip)))) (.ops false r63_6))))))) (.seq (.ops false r63_7) .ret)))
theorem F63 : Fn Try.prog 63 20 x63.er [.t 4] := ⟨Try.f63, hcl, Try.func63, by kernel_rfl, by kernel_rfl, by kernel_rfl, by kernel_rfl⟩
noncomputable def m63 (a0 : List DS3) (a1 : Int) : Option (Int × Unit) :=
 loopO (S := Int × (List DS3) × Int × Int × Unit) (R := Int × Unit) (fun s433 =>
 cond (iLt s433.2.2.2.1 s433.2.2.1)
 (cond (bnd s433.2.2.2.1 (lenI s433.2.1))
 (cond (iEq ((atI s433.2.1 s433.2.2.2.1 (0, 0, (0, 0, ()), [], [], 0, 0, 0, 0, 0, 0, 0, 0, 0, 0, [], false, 0, [], [], ())).1) s433.1)
 (some (.inr (s433.2.2.2.1, ())))
 (some (.inl (s433.1, s433.2.1, s433.2.2.1, iAdd .i64 s433.2.2.2.1 1, ())))) none)
 (some (.inr ((-1), ()))))
 (a1, a0, lenI a0, 0, ())
noncomputable def cfg63 : Cfg := ⟨ttab, gtab, [], []⟩
theorem eqn63 (x : (List DS3) × Int × Unit) : xfun cfg63 x63 20 [.t 4] [(.list tS3), (.int .i64)] [(.int .i64)] x = m63 x.1 x.2.1 := by kernel_rfl
noncomputable def i63 : PI := ⟨63, [(.list tS3), (.int .i64)], [(.int .i64)], fun (x : (List DS3) × Int × Unit) => m63 x.1 x.2.1⟩
theorem oki63 : POk Try.prog (gx gtab) i63 := pok mixed (cfg_nil _ _ : CfgOk _ cfg63) F63 eqn63
/- 55 treaty/treatymade2.party -/
def r55_0 : List Ins := [qI 4 (.box 70 4 1), qI 6 (.mov (kI 0))]
def r55_1 : List Ins := [qI 8 (.faddr 1 4), qI 9 (.load 1 false 8), qI 10 (.mov 2), qI 11 (.call (.fn 63) [9, 10]), qI 7 (.mov 11)]
def r55_2 : List Ins := [qI 12 (.mov 7), qI 13 (.bin .geq 12 (kI 0)), qI 14 (.mov 13), qT 15 14 (.faddr 1 4), qT 16 14 (.load 1 false 15), qT 17 14 (.mov 7), qT 18 14 (.iaddr 21 16 17), qT 19 14 (.faddr 20 18), qT 20 14 (.load 1 false 19), qT 21 14 (.len 20), qT 22 14 (.bin .gtr 21 (kI 0)), qI 23 (.pick 14 22 (.k (.bool false))), qI 24 (.mov 23), qT 25 24 (.mov 0), qT 26 24 (.call (.fn 32) [25, (kI 8)]), qT 27 24 (.bin .gtr 26 (kI 0)), qI 28 (.pick 24 27 (.k (.bool false)))]
def r55_3 : List (Nat × Ins) := [(0, qI 29 (.faddr 1 4)),
(1, qI 30 (.load 1 false 29)),
(0, qI 31 (.mov 7)),
(0, qI 32 (.iaddr 21 30 31)),
(0, qI 33 (.faddr 20 32)),
(1, qI 34 (.load 1 false 33)),
(0, qI 35 (.mov 0)),
(0, qI 36 (.faddr 1 4)),
(0, qI 37 (.load 1 false 36)),
(0, qI 38 (.mov 7)),
(0, qI 39 (.iaddr 21 37 38)),
(0, qI 40 (.faddr 20 39)),
(0, qI 41 (.load 1 false 40)),
(0, qI 42 (.len 41)),
(2, qI 43 (.call (.fn 32) [35, 42])),
(0, qI 44 (.iaddr 2 34 43)),
(0, qI 45 (.faddr 0 44)),
(0, qI 46 (.load 1 false 45)),
(0, qI 6 (.mov 46))]
def r55_4 : List Ins := [qI 47 (.mov 0), qI 48 (.call (.fn 32) [47, (kI 6)]), qI 6 (.mov 48)]
def x55 : XC := (.seq (.ops false r55_0) (.seq (.ops false r55_1) (.seq (.seq (.ops false r55_2) (.cond (.t 28) (.seq (.rops [0] r55_3) .ret) .skip)) (.seq (.ops false r55_4) .ret))))
theorem F55 : Fn Try.prog 55 49 x55.er [.t 6] := ⟨Try.f55, hcl, Try.func55, by kernel_rfl, by kernel_rfl, by kernel_rfl, by kernel_rfl⟩
noncomputable def m55 (a0 : DS8) (a1 : Int) (a2 : List Int) (a3 : Int) : Option (Int × (List Int) × Int × Unit) :=
 (m63 a0.2.1 a1).bind fun y439 =>
 cond (or (bnd y439.1 (lenI a0.2.1)) (not (bEq (iLe 0 y439.1) true)))
 (cond (cond (iLe 0 y439.1) (iLt 0 (lenI ((atI a0.2.1 y439.1 (0, 0, (0, 0, ()), [], [], 0, 0, 0, 0, 0, 0, 0, 0, 0, 0, [], false, 0, [], [], ())).2.2.2.2.2.2.2.2.2.2.2.2.2.2.2.2.2.2.2.1))) false)
 ((m32 8 a2 a3).bind fun y440 =>
 cond (iLt 0 y440.1)
 (cond (bnd y439.1 (lenI a0.2.1))
 (cond (bnd y439.1 (lenI a0.2.1))
 ((m32 (lenI ((atI a0.2.1 y439.1 (0, 0, (0, 0, ()), [], [], 0, 0, 0, 0, 0, 0, 0, 0, 0, 0, [], false, 0, [], [], ())).2.2.2.2.2.2.2.2.2.2.2.2.2.2.2.2.2.2.2.1)) y440.2.1 y440.2.2.1).bind fun y441 =>
 cond (bnd y441.1 (lenI ((atI a0.2.1 y439.1 (0, 0, (0, 0, ()), [], [], 0, 0, 0, 0, 0, 0, 0, 0, 0, 0, [], false, 0, [], [], ())).2.2.2.2.2.2.2.2.2.2.2.2.2.2.2.2.2.2.2.1)))
 (some ((atI ((atI a0.2.1 y439.1 (0, 0, (0, 0, ()), [], [], 0, 0, 0, 0, 0, 0, 0, 0, 0, 0, [], false, 0, [], [], ())).2.2.2.2.2.2.2.2.2.2.2.2.2.2.2.2.2.2.2.1) y441.1 (0, 0, ())).1, y441.2.1, y441.2.2.1, ())) none) none) none)
 ((m32 6 y440.2.1 y440.2.2.1).bind fun y442 =>
 some (y442.1, y442.2.1, y442.2.2.1, ())))
 ((m32 6 a2 a3).bind fun y443 =>
 some (y443.1, y443.2.1, y443.2.2.1, ()))) none
noncomputable def cfg55 : Cfg := ⟨ttab, gtab, [i63], [h32]⟩
def ish55 : Sh := ⟨3, [(1, tS8), (2, (.int .i64))], [(0, .ptr 0 0 0)], [.box 98 [.d (.list (.int .i64)), .d (.int .i64)]]⟩
def osh55 : Sh := ⟨1, [(0, (.int .i64))], [], [.box 98 [.d (.list (.int .i64)), .d (.int .i64)]]⟩
theorem eqn55 (x : DS8 × Int × (List Int) × Int × Unit) : xfunH cfg55 x55 49 [.t 6] [] ish55 osh55 x = m55 x.1 x.2.1 x.2.2.1 x.2.2.2.1 := by kernel_rfl
noncomputable def h55 : HI := ⟨55, ish55, osh55, fun (x : DS8 × Int × (List Int) × Int × Unit) => m55 x.1 x.2.1 x.2.2.1 x.2.2.2.1⟩
theorem okh55 : HOk Try.prog (gx gtab) h55 := hok mixed (cfg_p oki63 (cfg_h okh32 (cfg_nil _ _)) : CfgOk _ cfg55) F55 eqn55
/- 57 treaty/treatymade2.Changed -/
def r57_0 : List Ins := [qI 4 (.mov kN)]
def r57_1 : List Ins := [qI 9 (.bslice 76 10 []), qI 10 (.mov 1), qI 11 (.app 76 10 80 9 10), qI 5 (.mov 11)]
def r57_2 : List Ins := [qI 12 (.mov 0), qI 13 (.call (.fn 32) [12, (kI 4)]), qI 6 (.mov 13)]
def r57_3 : List Ins := [qI 14 (.mov 6), qI 15 (.bin .gtr 14 (kI 0))]
def r57_4 : List Ins := [qI 18 (.mov 5), qI 19 (.len 18), qI 20 (.bin .eql 19 (kI 0)), qI 21 (.mov 20), qF 22 21 (.mov 0), qF 23 21 (.call (.fn 32) [22, (kI 5)]), qF 24 21 (.bin .eql 23 (kI 0)), qI 25 (.pick 21 (.k (.bool true)) 24)]
def r57_5 : List Ins := [qI 26 (.mov 5), qI 27 (.len 26), qI 28 (.bin .lss 27 (kI 12))]
def r57_6 : List Ins := [qI 7 (.mov (kI 1))]
def r57_7 : List Ins := [qI 29 (.mov 5), qI 30 (.len 29), qI 31 (.bin .gtr 30 (kI 0))]
def r57_8 : List Ins := [qI 32 (.mov 5), qI 33 (.mov 5), qI 34 (.len 33), qI 35 (.bin .sub 34 (kI 1)), qI 36 (.iaddr 10 32 35), qI 37 (.faddr 0 36), qI 38 (.load 1 false 37), qI 39 (.bin .add 38 (kI 1)), qI 7 (.mov 39)]
def r57_9 : List Ins := [qI 40 (.mov 5), qI 41 (.mov 7), qI 42 (.mov 0), qI 43 (.call (.fn 32) [42, (kI 5)]), qI 44 (.mov 0), qI 45 (.call (.fn 32) [44, (kI 90)]), qI 46 (.mov 0), qI 47 (.call (.fn 32) [46, (kI 3)]), qI 48 (.mov 0), qI 49 (.call (.fn 32) [48, (kI 3)]), qI 50 (.mov 0), qI 51 (.call (.fn 56) [50]), qI 52 (.mov 0), qI 53 (.call (.fn 56) [52]), qI 54 (.build [.int .i64 0, .int .i64 0, .int .i64 0, .int .i64 0, .int .i64 0, .int .i64 0, .int .i64 0, .int .i64 0, .int .i64 0, .int .i64 0] [(0, 1, 41), (2, 1, 43), (3, 1, 45), (4, 1, 47), (5, 1, 49), (7, 1, 51), (8, 1, 53)]), qI 55 (.bslice 76 10 [54]), qI 56 (.app 76 10 80 40 55), qI 5 (.mov 56)]
def r57_10 : List Ins := [qI 57 (.mov 0), qI 58 (.mov 5), qI 59 (.len 58), qI 60 (.call (.fn 32) [57, 59]), qI 8 (.mov 60)]
def r57_11 : List Ins := [qI 61 (.mov 0), qI 62 (.call (.fn 32) [61, (kI 4)])]
def r57_12 : List Ins := [qI 76 (.bin .eql 62 (kI 0)), qI 75 (.mov 76)]
def r57_13 : List Ins := [qI 77 (.mov 5), qI 78 (.mov 8), qI 79 (.mov 8), qI 80 (.slice3 10 77 78 79), qI 81 (.mov 5), qI 82 (.mov 8), qI 83 (.bin .add 82 (kI 1)), qI 84 (.slice 10 81 (some 83) none), qI 85 (.app 76 10 80 80 84), qI 5 (.mov 85)]
def r57_14 : List Ins := [qI 87 (.bin .eql 62 (kI 1)), qI 86 (.mov 87)]
def r57_15 : List Ins := [qI 88 (.mov 5), qI 89 (.mov 8), qI 90 (.mov 0), qI 91 (.mov 5), qI 92 (.mov 8), qI 93 (.iaddr 10 91 92), qI 94 (.faddr 8 93), qI 95 (.load 1 false 94), qI 96 (.bin .add 95 (kI 1)), qI 97 (.call (.fn 32) [90, 96]), qI 98 (.iaddr 10 88 89), qI 99 (.faddr 9 98), qN (.store 1 99 97)]
def r57_16 : List (Nat × Ins) := [(0, qI 63 (.mov 5)),
(0, qI 64 (.mov 8)),
(0, qI 65 (.mov 5)),
(0, qI 66 (.mov 8)),
(0, qI 67 (.iaddr 10 65 66)),
(0, qI 68 (.faddr 9 67)),
(1, qI 69 (.load 1 false 68)),
(0, qI 70 (.mov 0)),
(2, qI 71 (.call (.fn 56) [70])),
(0, qI 72 (.bin .add 69 71)),
(0, qI 73 (.iaddr 10 63 64)),
(0, qI 74 (.faddr 8 73)),
(0, qN (.store 1 74 72))]
def r57_17 : List Ins := [qI 16 (.mov 6), qI 17 (.bin .sub 16 (kI 1)), qI 6 (.mov 17)]
def r57_18 : List Ins := [qI 100 (.mov 5), qI 4 (.mov 100)]
def x57 : XC := (.seq (.ops false r57_0) (.seq (.ops false r57_1) (.seq (.seq (.ops false r57_2) (.block 0 (.loop [.tr 5] ⟨101, [(6, (.int .i64))], [(0, .ptr 0 0 0), (5, .row 1)], [.box 98 [.d (.list (.int .i64)), .d (.int .i64)], .row 76 tS0 false]⟩ (.seq (.seq (.ops false r57_3) (.cond (.t 15) .skip (.exit 0))) (.seq (.block 1 (.seq (.seq (.ops false r57_4) (.cond (.t 25) (.seq (.seq (.ops false r57_5) (.cond (.t 28) (.seq (.ops false r57_6) (.seqj [] ⟨101, [(6, (.int .i64)), (7, (.int .i64))], [(0, .ptr 0 0 0), (5, .row 1)], [.box 98 [.d (.list (.int .i64)), .d (.int .i64)], .row 76 tS0 false]⟩ (.seq (.ops false r57_7) (.cond (.t 31) (.ops false r57_8) .skip)) (.ops false r57_9))) .skip)) (.exit 1)) .skip)) (.seq (.ops false r57_10) (.seq (.ops false r57_11) (.block 2 (.seq (.ops false r57_12) (.cond (.t 75) (.ops true r57_13) (.seq (.ops false r57_14) (.cond (.t 86) (.ops false r57_15) (.rops [0] r57_16)))))))))) (.ops false r57_17)))))) (.seq (.ops false r57_18) .ret))))
theorem F57 : Fn Try.prog 57 101 x57.er [.t 4] := ⟨Try.f57, hcl, Try.func57, by kernel_rfl, by kernel_rfl, by kernel_rfl, by kernel_rfl⟩
noncomputable def m57 (a0 : List DS0) (a1 : List Int) (a2 : Int) : Option ((List DS0) × (List Int) × Int × Unit) :=
 cond (fits (List.length ([] : List DS0) + List.length a0) 80)
 ((m32 4 a1 a2).bind fun y472 =>
 loopO (S := Int × (List Int) × Int × (List DS0) × Unit) (R := (List DS0) × (List Int) × Int × Unit) (fun s473 =>
 cond (iLt 0 s473.1)
 (cond (iEq (lenI s473.2.2.2.1) 0)
 (cond (iLt (lenI s473.2.2.2.1) 12)
 (joinO (S := Int × Int × (List Int) × Int × (List DS0) × Unit) (R := (Int × (List Int) × Int × (List DS0) × Unit) ⊕ ((List DS0) × (List Int) × Int × Unit))
 (cond (iLt 0 (lenI s473.2.2.2.1))
 (cond (bnd (iSub .i64 (lenI s473.2.2.2.1) 1) (lenI s473.2.2.2.1))
 (cond (inB (Int.toNat (iSub .i64 (lenI s473.2.2.2.1) 1)) s473.2.2.2.1)
 (some (.inl (s473.1, iAdd .i64 ((List.getD s473.2.2.2.1 (Int.toNat (iSub .i64 (lenI s473.2.2.2.1) 1)) (0, 0, 0, 0, 0, 0, 0, 0, 0, 0, ())).1) 1, s473.2.1, s473.2.2.1, s473.2.2.2.1, ()))) none) none)
 (some (.inl (s473.1, 1, s473.2.1, s473.2.2.1, s473.2.2.2.1, ()))))
 (fun j474 =>
 (m32 5 j474.2.2.1 j474.2.2.2.1).bind fun y475 =>
 (m32 90 y475.2.1 y475.2.2.1).bind fun y476 =>
 (m32 3 y476.2.1 y476.2.2.1).bind fun y477 =>
 (m32 3 y477.2.1 y477.2.2.1).bind fun y478 =>
 (m56 y478.2.1 y478.2.2.1).bind fun y479 =>
 (m56 y479.2.1 y479.2.2.1).bind fun y480 =>
 cond (fits (List.length j474.2.2.2.2.1 + List.length ([(j474.2.1, 0, y475.1, y476.1, y477.1, y478.1, 0, y479.1, y480.1, 0, ())] : List DS0)) 80)
 (some (.inl (iSub .i64 j474.1 1, y480.2.1, y480.2.2.1, j474.2.2.2.2.1 ++ ([(j474.2.1, 0, y475.1, y476.1, y477.1, y478.1, 0, y479.1, y480.1, 0, ())] : List DS0), ()))) none))
 (some (.inl (iSub .i64 s473.1 1, s473.2.1, s473.2.2.1, s473.2.2.2.1, ()))))
 ((m32 5 s473.2.1 s473.2.2.1).bind fun y481 =>
 cond (iEq y481.1 0)
 (cond (iLt (lenI s473.2.2.2.1) 12)
 (joinO (S := Int × Int × (List Int) × Int × (List DS0) × Unit) (R := (Int × (List Int) × Int × (List DS0) × Unit) ⊕ ((List DS0) × (List Int) × Int × Unit))
 (cond (iLt 0 (lenI s473.2.2.2.1))
 (cond (bnd (iSub .i64 (lenI s473.2.2.2.1) 1) (lenI s473.2.2.2.1))
 (cond (inB (Int.toNat (iSub .i64 (lenI s473.2.2.2.1) 1)) s473.2.2.2.1)
 (some (.inl (s473.1, iAdd .i64 ((List.getD s473.2.2.2.1 (Int.toNat (iSub .i64 (lenI s473.2.2.2.1) 1)) (0, 0, 0, 0, 0, 0, 0, 0, 0, 0, ())).1) 1, y481.2.1, y481.2.2.1, s473.2.2.2.1, ()))) none) none)
 (some (.inl (s473.1, 1, y481.2.1, y481.2.2.1, s473.2.2.2.1, ()))))
 (fun j482 =>
 (m32 5 j482.2.2.1 j482.2.2.2.1).bind fun y483 =>
 (m32 90 y483.2.1 y483.2.2.1).bind fun y484 =>
 (m32 3 y484.2.1 y484.2.2.1).bind fun y485 =>
 (m32 3 y485.2.1 y485.2.2.1).bind fun y486 =>
 (m56 y486.2.1 y486.2.2.1).bind fun y487 =>
 (m56 y487.2.1 y487.2.2.1).bind fun y488 =>
 cond (fits (List.length j482.2.2.2.2.1 + List.length ([(j482.2.1, 0, y483.1, y484.1, y485.1, y486.1, 0, y487.1, y488.1, 0, ())] : List DS0)) 80)
 (some (.inl (iSub .i64 j482.1 1, y488.2.1, y488.2.2.1, j482.2.2.2.2.1 ++ ([(j482.2.1, 0, y483.1, y484.1, y485.1, y486.1, 0, y487.1, y488.1, 0, ())] : List DS0), ()))) none))
 (some (.inl (iSub .i64 s473.1 1, y481.2.1, y481.2.2.1, s473.2.2.2.1, ()))))
 ((m32 (lenI s473.2.2.2.1) y481.2.1 y481.2.2.1).bind fun y489 =>
 (m32 4 y489.2.1 y489.2.2.1).bind fun y490 =>
 cond (iEq y490.1 0)
 (cond (and (cutOk 0 y489.1 (List.length s473.2.2.2.1)) (iEq y489.1 y489.1))
 (cond (cutOk (iAdd .i64 y489.1 1) ((List.length s473.2.2.2.1 : Nat) : Int) (List.length s473.2.2.2.1))
 (cond (someE (List.take (Int.toNat (((List.length s473.2.2.2.1 : Nat) : Int) - (iAdd .i64 y489.1 1))) (List.drop (Int.toNat (iAdd .i64 y489.1 1)) s473.2.2.2.1)))
 (cond (fits ((Int.toNat y489.1) + List.length (List.take (Int.toNat (((List.length s473.2.2.2.1 : Nat) : Int) - (iAdd .i64 y489.1 1))) (List.drop (Int.toNat (iAdd .i64 y489.1 1)) s473.2.2.2.1))) 80)
 (some (.inl (iSub .i64 s473.1 1, y490.2.1, y490.2.2.1, (List.take (Int.toNat y489.1) s473.2.2.2.1) ++ (List.take (Int.toNat (((List.length s473.2.2.2.1 : Nat) : Int) - (iAdd .i64 y489.1 1))) (List.drop (Int.toNat (iAdd .i64 y489.1 1)) s473.2.2.2.1)), ()))) none)
 (some (.inl (iSub .i64 s473.1 1, y490.2.1, y490.2.2.1, List.take (Int.toNat y489.1) s473.2.2.2.1, ())))) none) none)
 (cond (iEq y490.1 1)
 (cond (bnd y489.1 (lenI s473.2.2.2.1))
 (cond (inB (Int.toNat y489.1) s473.2.2.2.1)
 ((m32 (iAdd .i64 ((List.getD s473.2.2.2.1 (Int.toNat y489.1) (0, 0, 0, 0, 0, 0, 0, 0, 0, 0, ())).2.2.2.2.2.2.2.2.1) 1) y490.2.1 y490.2.2.1).bind fun y491 =>
 cond (bnd y489.1 (lenI s473.2.2.2.1))
 (cond (inB (Int.toNat y489.1) s473.2.2.2.1)
 (some (.inl (iSub .i64 s473.1 1, y491.2.1, y491.2.2.1, List.set s473.2.2.2.1 (Int.toNat y489.1) ((List.getD s473.2.2.2.1 (Int.toNat y489.1) (0, 0, 0, 0, 0, 0, 0, 0, 0, 0, ())).1, (List.getD s473.2.2.2.1 (Int.toNat y489.1) (0, 0, 0, 0, 0, 0, 0, 0, 0, 0, ())).2.1, (List.getD s473.2.2.2.1 (Int.toNat y489.1) (0, 0, 0, 0, 0, 0, 0, 0, 0, 0, ())).2.2.1, (List.getD s473.2.2.2.1 (Int.toNat y489.1) (0, 0, 0, 0, 0, 0, 0, 0, 0, 0, ())).2.2.2.1, (List.getD s473.2.2.2.1 (Int.toNat y489.1) (0, 0, 0, 0, 0, 0, 0, 0, 0, 0, ())).2.2.2.2.1, (List.getD s473.2.2.2.1 (Int.toNat y489.1) (0, 0, 0, 0, 0, 0, 0, 0, 0, 0, ())).2.2.2.2.2.1, (List.getD s473.2.2.2.1 (Int.toNat y489.1) (0, 0, 0, 0, 0, 0, 0, 0, 0, 0, ())).2.2.2.2.2.2.1, (List.getD s473.2.2.2.1 (Int.toNat y489.1) (0, 0, 0, 0, 0, 0, 0, 0, 0, 0, ())).2.2.2.2.2.2.2.1, (List.getD s473.2.2.2.1 (Int.toNat y489.1) (0, 0, 0, 0, 0, 0, 0, 0, 0, 0, ())).2.2.2.2.2.2.2.2.1, y491.1, ()), ()))) none) none) none) none)
 (cond (bnd y489.1 (lenI s473.2.2.2.1))
 (cond (inB (Int.toNat y489.1) s473.2.2.2.1)
 ((m56 y490.2.1 y490.2.2.1).bind fun y492 =>
 cond (bnd y489.1 (lenI s473.2.2.2.1))
 (cond (inB (Int.toNat y489.1) s473.2.2.2.1)
 (some (.inl (iSub .i64 s473.1 1, y492.2.1, y492.2.2.1, List.set s473.2.2.2.1 (Int.toNat y489.1) ((List.getD s473.2.2.2.1 (Int.toNat y489.1) (0, 0, 0, 0, 0, 0, 0, 0, 0, 0, ())).1, (List.getD s473.2.2.2.1 (Int.toNat y489.1) (0, 0, 0, 0, 0, 0, 0, 0, 0, 0, ())).2.1, (List.getD s473.2.2.2.1 (Int.toNat y489.1) (0, 0, 0, 0, 0, 0, 0, 0, 0, 0, ())).2.2.1, (List.getD s473.2.2.2.1 (Int.toNat y489.1) (0, 0, 0, 0, 0, 0, 0, 0, 0, 0, ())).2.2.2.1, (List.getD s473.2.2.2.1 (Int.toNat y489.1) (0, 0, 0, 0, 0, 0, 0, 0, 0, 0, ())).2.2.2.2.1, (List.getD s473.2.2.2.1 (Int.toNat y489.1) (0, 0, 0, 0, 0, 0, 0, 0, 0, 0, ())).2.2.2.2.2.1, (List.getD s473.2.2.2.1 (Int.toNat y489.1) (0, 0, 0, 0, 0, 0, 0, 0, 0, 0, ())).2.2.2.2.2.2.1, (List.getD s473.2.2.2.1 (Int.toNat y489.1) (0, 0, 0, 0, 0, 0, 0, 0, 0, 0, ())).2.2.2.2.2.2.2.1, iAdd .i64 ((List.getD s473.2.2.2.1 (Int.toNat y489.1) (0, 0, 0, 0, 0, 0, 0, 0, 0, 0, ())).2.2.2.2.2.2.2.2.2.1) y492.1, (List.getD s473.2.2.2.1 (Int.toNat y489.1) (0, 0, 0, 0, 0, 0, 0, 0, 0, 0, ())).2.2.2.2.2.2.2.2.2.1, ()), ()))) none) none) none) none)))))
 (some (.inr (s473.2.2.2.1, s473.2.1, s473.2.2.1, ()))))
 (y472.1, y472.2.1, y472.2.2.1, ([] : List DS0) ++ a0, ())) none
noncomputable def cfg57 : Cfg := ⟨ttab, gtab, [], [h32, h56]⟩
def ish57 : Sh := ⟨2, [(1, (.list tS0))], [(0, .ptr 0 0 0)], [.box 98 [.d (.list (.int .i64)), .d (.int .i64)]]⟩
def osh57 : Sh := ⟨1, [(0, (.list tS0))], [], [.box 98 [.d (.list (.int .i64)), .d (.int .i64)]]⟩
theorem eqn57 (x : (List DS0) × (List Int) × Int × Unit) : xfunH cfg57 x57 101 [.t 4] [.fz 4 (.list tS0)] ish57 osh57 x = m57 x.1 x.2.1 x.2.2.1 := by kernel_rfl
noncomputable def h57 : HI := ⟨57, ish57, osh57, fun (x : (List DS0) × (List Int) × Int × Unit) => m57 x.1 x.2.1 x.2.2.1⟩
theorem okh57 : HOk Try.prog (gx gtab) h57 := hok mixed (cfg_h okh32 (cfg_h okh56 (cfg_nil _ _)) : CfgOk _ cfg57) F57 eqn57
/- 36 treaty/treatymade2.Command -/
def r36_0 : List Ins := [qI 4 (.box 70 4 1), qI 6 (.alloc 38 (.agg #[.int .i64 0, .slice none 0 0, .int .i64 0, .int .i64 0, .int .i64 0, .int .i64 0]))]
def r36_1 : List Ins := [qI 10 (.mov 0), qI 11 (.call (.fn 32) [10, (kI 8)])]
def r36_2 : List Ins := [qI 13 (.bin .eql 11 (kI 0)), qI 12 (.mov 13)]
def r36_3 : List Ins := [qI 14 (.build [.int .i64 0, .slice none 0 0, .int .i64 0, .int .i64 0, .int .i64 0, .int .i64 0] [(0, 1, (kI 2))]), qN (.store 6 6 14)]
def r36_4 : List Ins := [qI 16 (.bin .eql 11 (kI 1)), qI 15 (.mov 16)]
def r36_5 : List Ins := [qI 17 (.mov 0), qI 18 (.load 4 true 4), qI 19 (.call (.fn 54) [17, 18]), qI 20 (.build [.int .i64 0, .slice none 0 0, .int .i64 0, .int .i64 0, .int .i64 0, .int .i64 0] [(0, 1, (kI 3)), (2, 1, 19)]), qI 7 (.alloc 38 (.agg #[.int .i64 0, .slice none 0 0, .int .i64 0, .int .i64 0, .int .i64 0, .int .i64 0])), qN (.store 6 7 20)]
def r36_6 : List Ins := [qI 21 (.mov 0), qI 22 (.load 4 true 4), qI 23 (.faddr 2 7), qI 24 (.load 1 false 23), qI 25 (.call (.fn 55) [21, 22, 24]), qI 26 (.faddr 4 7), qN (.store 1 26 25)]
def r36_7 : List Ins := [qI 27 (.load 6 true 7), qN (.store 6 6 27)]
def r36_8 : List Ins := [qI 29 (.bin .eql 11 (kI 2)), qI 28 (.mov 29)]
def r36_9 : List Ins := [qI 30 (.mov 0), qI 31 (.load 4 true 4), qI 32 (.call (.fn 54) [30, 31]), qI 33 (.mov 0), qI 34 (.call (.fn 56) [33]), qI 35 (.build [.int .i64 0, .slice none 0 0, .int .i64 0, .int .i64 0, .int .i64 0, .int .i64 0] [(0, 1, (kI 4)), (2, 1, 32), (5, 1, 34)]), qI 8 (.alloc 38 (.agg #[.int .i64 0, .slice none 0 0, .int .i64 0, .int .i64 0, .int .i64 0, .int .i64 0])), qN (.store 6 8 35)]
def r36_10 : List Ins := [qI 36 (.mov 0), qI 37 (.load 4 true 4), qI 38 (.faddr 2 8), qI 39 (.load 1 false 38), qI 40 (.call (.fn 55) [36, 37, 39]), qI 41 (.faddr 4 8), qN (.store 1 41 40)]
def r36_11 : List Ins := [qI 42 (.load 6 true 8), qN (.store 6 6 42)]
def r36_12 : List Ins := [qI 44 (.bin .eql 11 (kI 3)), qI 43 (.mov 44)]
def r36_13 : List Ins := [qI 45 (.mov 0), qI 46 (.load 4 true 4), qI 47 (.call (.fn 54) [45, 46]), qI 48 (.build [.int .i64 0, .slice none 0 0, .int .i64 0, .int .i64 0, .int .i64 0, .int .i64 0] [(0, 1, (kI 5)), (2, 1, 47)]), qI 9 (.alloc 38 (.agg #[.int .i64 0, .slice none 0 0, .int .i64 0, .int .i64 0, .int .i64 0, .int .i64 0])), qN (.store 6 9 48)]
def r36_14 : List Ins := [qI 49 (.mov 0), qI 50 (.load 4 true 4), qI 51 (.call (.fn 54) [49, 50]), qI 52 (.faddr 3 9), qN (.store 1 52 51)]
def r36_15 : List Ins := [qI 53 (.load 6 true 9), qN (.store 6 6 53)]
def r36_16 : List Ins := [qI 55 (.bin .eql 11 (kI 4)), qI 54 (.mov 55)]
def r36_17 : List Ins := [qI 56 (.mov 0), qI 57 (.call (.fn 38) [56, (kI 5)]), qI 58 (.build [.int .i64 0, .slice none 0 0, .int .i64 0, .int .i64 0, .int .i64 0, .int .i64 0] [(0, 1, (kI 1)), (1, 1, 57)]), qN (.store 6 6 58)]
def r36_18 : List Ins := [qI 59 (.mov 0), qI 60 (.mov 2), qI 61 (.call (.fn 57) [59, 60]), qI 62 (.build [.int .i64 0, .slice none 0 0, .int .i64 0, .int .i64 0, .int .i64 0, .int .i64 0] [(0, 1, (kI 1)), (1, 1, 61)]), qN (.store 6 6 62)]
def x36 : XC := (.seq (.ops false r36_0) (.seq (.seq (.ops false r36_1) (.block 0 (.seq (.ops false r36_2) (.cond (.t 12) (.seq (.ops false r36_3) .ret) (.seq (.ops false r36_4) (.cond (.t 15) (.seq (.ops false r36_5) (.seq (.ops false r36_6) (.seq (.ops false r36_7) .ret))) (.seq (.ops false r36_8) (.cond (.t 28) (.seq (.ops false r36_9) (.seq (.ops false r36_10) (.seq (.ops false r36_11) .ret))) (.seq (.ops false r36_12) (.cond (.t 43) (.seq (.ops false r36_13) (.seq (.ops false r36_14) (.seq (.ops false r36_15) .ret))) (.seq (.ops false r36_16) (.cond (.t 54) (.seq (.ops false r36_17) .ret) .skip)))))))))))) (.seq (.ops false r36_18) .ret)))
theorem F36 : Fn Try.prog 36 63 x36.er [.c 6 6 true] := ⟨Try.f36, hcl, Try.func36, by kernel_rfl, by kernel_rfl, by kernel_rfl, by kernel_rfl⟩
noncomputable def m36 (a0 : DS8) (a1 : List DS0) (a2 : List Int) (a3 : Int) : Option (Int × (List DS0) × Int × Int × Int × Int × (List Int) × Int × Unit) :=
 (m32 8 a2 a3).bind fun y494 =>
 cond (iEq y494.1 0)
 (some (2, ([] : List DS0), 0, 0, 0, 0, y494.2.1, y494.2.2.1, ()))
 (cond (iEq y494.1 1)
 ((m54 (a0.1, a0.2.1, a0.2.2.1, a0.2.2.2.1, ()) y494.2.1 y494.2.2.1).bind fun y495 =>
 (m55 (a0.1, a0.2.1, a0.2.2.1, a0.2.2.2.1, ()) y495.1 y495.2.1 y495.2.2.1).bind fun y496 =>
 some (3, ([] : List DS0), y495.1, 0, y496.1, 0, y496.2.1, y496.2.2.1, ()))
 (cond (iEq y494.1 2)
 ((m54 (a0.1, a0.2.1, a0.2.2.1, a0.2.2.2.1, ()) y494.2.1 y494.2.2.1).bind fun y497 =>
 (m56 y497.2.1 y497.2.2.1).bind fun y498 =>
 (m55 (a0.1, a0.2.1, a0.2.2.1, a0.2.2.2.1, ()) y497.1 y498.2.1 y498.2.2.1).bind fun y499 =>
 some (4, ([] : List DS0), y497.1, 0, y499.1, y498.1, y499.2.1, y499.2.2.1, ()))
 (cond (iEq y494.1 3)
 ((m54 (a0.1, a0.2.1, a0.2.2.1, a0.2.2.2.1, ()) y494.2.1 y494.2.2.1).bind fun y500 =>
 (m54 (a0.1, a0.2.1, a0.2.2.1, a0.2.2.2.1, ()) y500.2.1 y500.2.2.1).bind fun y501 =>
 some (5, ([] : List DS0), y500.1, y501.1, 0, 0, y501.2.1, y501.2.2.1, ()))
 (cond (iEq y494.1 4)
 ((m38 5 y494.2.1 y494.2.2.1).bind fun y502 =>
 some (1, y502.1, 0, 0, 0, 0, y502.2.1, y502.2.2.1, ()))
 ((m57 a1 y494.2.1 y494.2.2.1).bind fun y503 =>
 some (1, y503.1, 0, 0, 0, 0, y503.2.1, y503.2.2.1, ()))))))
noncomputable def cfg36 : Cfg := ⟨ttab, gtab, [], [h32, h38, h54, h55, h56, h57]⟩
def ish36 : Sh := ⟨3, [(1, tS8), (2, (.list tS0))], [(0, .ptr 0 0 0)], [.box 98 [.d (.list (.int .i64)), .d (.int .i64)]]⟩
def osh36 : Sh := ⟨1, [], [(0, .agg [.d (.int .i64), .d (.list tS0), .d (.int .i64), .d (.int .i64), .d (.int .i64), .d (.int .i64)])], [.box 98 [.d (.list (.int .i64)), .d (.int .i64)]]⟩
theorem eqn36 (x : DS8 × (List DS0) × (List Int) × Int × Unit) : xfunH cfg36 x36 63 [.c 6 6 true] [] ish36 osh36 x = m36 x.1 x.2.1 x.2.2.1 x.2.2.2.1 := by kernel_rfl
noncomputable def h36 : HI := ⟨36, ish36, osh36, fun (x : DS8 × (List DS0) × (List Int) × Int × Unit) => m36 x.1 x.2.1 x.2.2.1 x.2.2.2.1⟩
theorem okh36 : HOk Try.prog (gx gtab) h36 := hok mixed (cfg_h okh32 (cfg_h okh38 (cfg_h okh54 (cfg_h okh55 (cfg_h okh56 (cfg_h okh57 (cfg_nil _ _)))))) : CfgOk _ cfg36) F36 eqn36
/- 18 treaty/treatylaw40.command -/
def r18_0 : List Ins := [qI 2 (.alloc 38 (.agg #[.int .i64 0, .slice none 0 0, .int .i64 0, .int .i64 0, .int .i64 0, .int .i64 0]))]
def r18_1 : List Ins := [qI 3 (.mov 0), qI 4 (.mov 0), qI 5 (.call (.fn 37) [4, (kI 3)]), qI 6 (.build [.int .i64 0, .slice none 0 0, .slice none 0 0, .slice none 0 0] [(1, 1, 5)]), qI 7 (.mov 0), qI 8 (.call (.fn 38) [7, (kI 4)]), qI 9 (.call (.fn 36) [3, 6, 8]), qN (.store 6 2 9)]
def x18 : XC := (.seq (.ops false r18_0) (.seq (.ops false r18_1) .ret))
theorem F18 : Fn Try.prog 18 10 x18.er [.c 2 6 true] := ⟨Try.f18, hcl, Try.func18, by kernel_rfl, by kernel_rfl, by kernel_rfl, by kernel_rfl⟩
noncomputable def m18 (a0 : List Int) (a1 : Int) : Option (Int × (List DS0) × Int × Int × Int × Int × (List Int) × Int × Unit) :=
 (m37 3 a0 a1).bind fun y505 =>
 (m38 4 y505.2.1 y505.2.2.1).bind fun y506 =>
 (m36 (0, y505.1, ([] : List DS2), ([] : List DS4), ()) y506.1 y506.2.1 y506.2.2.1).bind fun y507 =>
 some (y507.1, y507.2.1, y507.2.2.1, y507.2.2.2.1, y507.2.2.2.2.1, y507.2.2.2.2.2.1, y507.2.2.2.2.2.2.1, y507.2.2.2.2.2.2.2.1, ())
noncomputable def cfg18 : Cfg := ⟨ttab, gtab, [], [h36, h37, h38]⟩
def ish18 : Sh := ⟨1, [], [(0, .ptr 0 0 0)], [.box 98 [.d (.list (.int .i64)), .d (.int .i64)]]⟩
def osh18 : Sh := ⟨1, [], [(0, .agg [.d (.int .i64), .d (.list tS0), .d (.int .i64), .d (.int .i64), .d (.int .i64), .d (.int .i64)])], [.box 98 [.d (.list (.int .i64)), .d (.int .i64)]]⟩
theorem eqn18 (x : (List Int) × Int × Unit) : xfunH cfg18 x18 10 [.c 2 6 true] [] ish18 osh18 x = m18 x.1 x.2.1 := by kernel_rfl
noncomputable def h18 : HI := ⟨18, ish18, osh18, fun (x : (List Int) × Int × Unit) => m18 x.1 x.2.1⟩
theorem okh18 : HOk Try.prog (gx gtab) h18 := hok mixed (cfg_h okh36 (cfg_h okh37 (cfg_h okh38 (cfg_nil _ _))) : CfgOk _ cfg18) F18 eqn18
/- 61 treaty/treatyref40.fields -/
def r61_0 : List Ins := [qI 1 (.box 76 10 0), qI 2 (.mov kN)]
def r61_1 : List Ins := [qI 3 (.faddr 0 1), qI 4 (.load 1 false 3), qI 5 (.faddr 1 1), qI 6 (.load 1 false 5), qI 7 (.faddr 2 1), qI 8 (.load 1 false 7), qI 9 (.faddr 3 1), qI 10 (.load 1 false 9), qI 11 (.faddr 4 1), qI 12 (.load 1 false 11), qI 13 (.faddr 5 1), qI 14 (.load 1 false 13), qI 15 (.faddr 6 1), qI 16 (.load 1 false 15), qI 17 (.faddr 7 1), qI 18 (.load 1 false 17), qI 19 (.faddr 8 1), qI 20 (.load 1 false 19), qI 21 (.faddr 9 1), qI 22 (.load 1 false 21), qI 23 (.bslice 3 1 [4, 6, 8, 10, 12, 14, 16, 18, 20, 22]), qI 2 (.mov 23)]
def x61 : XC := (.seq (.ops false r61_0) (.seq (.ops false r61_1) .ret))
theorem F61 : Fn Try.prog 61 24 x61.er [.t 2] := ⟨Try.f61, hcl, Try.func61, by kernel_rfl, by kernel_rfl, by kernel_rfl, by kernel_rfl⟩
noncomputable def m61 (a0 : DS0) : Option ((List Int) × Unit) :=
 some (([a0.1, a0.2.1, a0.2.2.1, a0.2.2.2.1, a0.2.2.2.2.1, a0.2.2.2.2.2.1, a0.2.2.2.2.2.2.1, a0.2.2.2.2.2.2.2.1, a0.2.2.2.2.2.2.2.2.1, a0.2.2.2.2.2.2.2.2.2.1] : List Int), ())
noncomputable def cfg61 : Cfg := ⟨ttab, gtab, [], []⟩
theorem eqn61 (x : DS0 × Unit) : xfun cfg61 x61 24 [.t 2] [tS0] [(.list (.int .i64))] x = m61 x.1 := by kernel_rfl
noncomputable def i61 : PI := ⟨61, [tS0], [(.list (.int .i64))], fun (x : DS0 × Unit) => m61 x.1⟩
theorem oki61 : POk Try.prog (gx gtab) i61 := pok mixed (cfg_nil _ _ : CfgOk _ cfg61) F61 eqn61
/- 42 treaty/treatyref40.numbers -/
def r42_0 : List Ins := [qI 1 (.box 38 6 0), qI 2 (.mov kN), qI 3 (.mov (.k (.bool false))), qI 4 (.mov (.k (.bool false)))]
def r42_1 : List Ins := [qI 5 (.mov kN)]
def r42_2 : List Ins := [qI 10 (.load 6 true 1), qI 6 (.alloc 38 (.agg #[.int .i64 0, .slice none 0 0, .int .i64 0, .int .i64 0, .int .i64 0, .int .i64 0])), qN (.store 6 6 10)]
def r42_3 : List Ins := [qI 11 (.faddr 0 6), qN (.store 1 11 (kI 0)), qI 12 (.faddr 1 6), qN (.store 1 12 kN)]
def r42_4 : List Ins := [qI 13 (.faddr 0 1), qI 14 (.load 1 false 13)]
def r42_5 : List Ins := [qI 16 (.bin .eql 14 (kI 1)), qI 15 (.mov 16)]
def r42_6 : List Ins := [qI 17 (.faddr 1 1), qI 18 (.load 1 false 17), qI 19 (.len 18), qI 20 (.bslice 3 1 [19]), qI 5 (.mov 20)]
def r42_7 : List Ins := [qI 21 (.faddr 1 1), qI 22 (.load 1 false 21), qI 23 (.len 22), qI 24 (.mov (kI 0))]
def r42_8 : List Ins := [qI 25 (.bin .lss 24 23)]
def r42_9 : List Ins := [qI 26 (.iaddr 10 22 24), qI 27 (.load 10 true 26), qI 8 (.alloc 76 (.agg #[.int .i64 0, .int .i64 0, .int .i64 0, .int .i64 0, .int .i64 0, .int .i64 0, .int .i64 0, .int .i64 0, .int .i64 0, .int .i64 0])), qN (.store 10 8 27)]
def r42_10 : List Ins := [qI 28 (.mov 5), qI 29 (.load 10 true 8), qI 30 (.call (.fn 61) [29]), qI 31 (.app 3 1 8 28 30), qI 5 (.mov 31)]
def r42_11 : List Ins := [qI 32 (.bin .add 24 (kI 1)), qI 24 (.mov 32)]
def r42_12 : List Ins := [qI 34 (.bin .eql 14 (kI 2)), qI 33 (.mov 34)]
def r42_13 : List Ins := [qI 36 (.bin .eql 14 (kI 3)), qI 35 (.mov 36)]
def r42_14 : List Ins := [qI 37 (.faddr 2 1), qI 38 (.load 1 false 37), qI 39 (.faddr 4 1), qI 40 (.load 1 false 39), qI 41 (.bslice 3 1 [38, 40]), qI 5 (.mov 41)]
def r42_15 : List Ins := [qI 42 (.faddr 2 6), qN (.store 1 42 (kI 0)), qI 43 (.faddr 4 6), qN (.store 1 43 (kI 0))]
def r42_16 : List Ins := [qI 45 (.bin .eql 14 (kI 4)), qI 44 (.mov 45)]
def r42_17 : List Ins := [qI 46 (.faddr 2 1), qI 47 (.load 1 false 46), qI 48 (.faddr 4 1), qI 49 (.load 1 false 48), qI 50 (.faddr 5 1), qI 51 (.load 1 false 50), qI 52 (.bslice 3 1 [47, 49, 51]), qI 5 (.mov 52)]
def r42_18 : List Ins := [qI 53 (.faddr 2 6), qN (.store 1 53 (kI 0)), qI 54 (.faddr 4 6), qN (.store 1 54 (kI 0)), qI 55 (.faddr 5 6), qN (.store 1 55 (kI 0))]
def r42_19 : List Ins := [qI 57 (.bin .eql 14 (kI 5)), qI 56 (.mov 57)]
def r42_20 : List Ins := [qI 58 (.faddr 2 1), qI 59 (.load 1 false 58), qI 60 (.faddr 3 1), qI 61 (.load 1 false 60), qI 62 (.bslice 3 1 [59, 61]), qI 5 (.mov 62)]
def r42_21 : List Ins := [qI 63 (.faddr 2 6), qN (.store 1 63 (kI 0)), qI 64 (.faddr 3 6), qN (.store 1 64 (kI 0))]
def r42_22 : List Ins := [qI 2 (.mov kN), qI 3 (.mov (.k (.bool false))), qI 4 (.mov (.k (.bool false)))]
def r42_23 : List Ins := [qI 65 (.faddr 2 6), qI 66 (.load 1 false 65), qI 67 (.bin .eql 66 (kI 0)), qI 68 (.mov 67), qT 69 68 (.faddr 3 6), qT 70 68 (.load 1 false 69), qT 71 68 (.bin .eql 70 (kI 0)), qI 72 (.pick 68 71 (.k (.bool false))), qI 73 (.mov 72), qT 74 73 (.faddr 4 6), qT 75 73 (.load 1 false 74), qT 76 73 (.bin .eql 75 (kI 0)), qI 77 (.pick 73 76 (.k (.bool false))), qI 78 (.mov 77), qT 79 78 (.faddr 5 6), qT 80 78 (.load 1 false 79), qT 81 78 (.bin .eql 80 (kI 0)), qI 82 (.pick 78 81 (.k (.bool false))), qI 83 (.mov 82), qT 84 83 (.faddr 0 1), qT 85 83 (.load 1 false 84), qT 86 83 (.bin .eql 85 (kI 1)), qT 87 83 (.mov 86), qF 88 87 (.faddr 1 1), qF 89 87 (.load 1 false 88), qF 90 87 (.len 89), qF 91 87 (.bin .eql 90 (kI 0)), qT 92 83 (.pick 87 (.k (.bool true)) 91), qI 93 (.pick 83 92 (.k (.bool false))), qI 9 (.mov 93)]
def r42_24 : List Ins := [qI 94 (.faddr 0 1), qI 95 (.load 1 false 94), qI 96 (.bslice 3 1 [95]), qI 97 (.mov 5), qI 98 (.app 3 1 8 96 97), qI 99 (.mov 9), qI 2 (.mov 98), qI 3 (.mov 99), qI 4 (.mov (.k (.bool true)))]
def x42 : XC := (.seq (.ops false r42_0) (.seq (.ops false r42_1) (.seq (.ops false r42_2) (.seq (.ops false r42_3) (.seq (.seq (.ops false r42_4) (.block 0 (.seq (.ops false r42_5) (.cond (.t 15) (.seq (.ops false r42_6) (.seq (.ops false r42_7) (.block 1 (.loop [] ⟨100, [(22, (.list tS0)), (23, (.int .i64)), (24, (.int .i64))], [(1, .ptr 0 0 0), (5, .row 1), (6, .ptr 2 0 0)], [.box 38 [.d (.int .i64), .d (.list tS0), .d (.int .i64), .d (.int .i64), .d (.int .i64), .d (.int .i64)], .row 3 (.int .i64) false, .box 38 [.d (.int .i64), .nil, .d (.int .i64), .d (.int .i64), .d (.int .i64), .d (.int .i64)]]⟩ (.seq (.ops false r42_8) (.seq (.cond (.t 25) .skip (.exit 1)) (.seq (.block 2 (.seq (.ops false r42_9) (.ops false r42_10))) (.ops false r42_11)))))))) (.seq (.ops false r42_12) (.cond (.t 33) .skip (.seq (.ops false r42_13) (.cond (.t 35) (.seq (.ops false r42_14) (.ops false r42_15)) (.seq (.ops false r42_16) (.cond (.t 44) (.seq (.ops false r42_17) (.ops false r42_18)) (.seq (.ops false r42_19) (.cond (.t 56) (.seq (.ops false r42_20) (.ops false r42_21)) (.seq (.ops false r42_22) .ret))))))))))))) (.seq (.ops false r42_23) (.seq (.ops false r42_24) .ret)))))))
theorem F42 : Fn Try.prog 42 100 x42.er [.t 2, .t 3, .t 4] := ⟨Try.f42, hcl, Try.func42, by kernel_rfl, by kernel_rfl, by kernel_rfl, by kernel_rfl⟩
noncomputable def m42 (a0 : DS1) : Option ((List Int) × Bool × Bool × Unit) :=
 cond (iEq a0.1 1)
 (loopO (S := (List DS0) × Int × Int × Int × (List DS0) × Int × Int × Int × Int × (List Int) × Int × Int × Int × Int × Int × Unit) (R := (List Int) × Bool × Bool × Unit) (fun s513 =>
 cond (iLt s513.2.2.1 s513.2.1)
 (cond (bnd s513.2.2.1 (lenI s513.1))
 ((m61 ((atI s513.1 s513.2.2.1 (0, 0, 0, 0, 0, 0, 0, 0, 0, 0, ())).1, (atI s513.1 s513.2.2.1 (0, 0, 0, 0, 0, 0, 0, 0, 0, 0, ())).2.1, (atI s513.1 s513.2.2.1 (0, 0, 0, 0, 0, 0, 0, 0, 0, 0, ())).2.2.1, (atI s513.1 s513.2.2.1 (0, 0, 0, 0, 0, 0, 0, 0, 0, 0, ())).2.2.2.1, (atI s513.1 s513.2.2.1 (0, 0, 0, 0, 0, 0, 0, 0, 0, 0, ())).2.2.2.2.1, (atI s513.1 s513.2.2.1 (0, 0, 0, 0, 0, 0, 0, 0, 0, 0, ())).2.2.2.2.2.1, (atI s513.1 s513.2.2.1 (0, 0, 0, 0, 0, 0, 0, 0, 0, 0, ())).2.2.2.2.2.2.1, (atI s513.1 s513.2.2.1 (0, 0, 0, 0, 0, 0, 0, 0, 0, 0, ())).2.2.2.2.2.2.2.1, (atI s513.1 s513.2.2.1 (0, 0, 0, 0, 0, 0, 0, 0, 0, 0, ())).2.2.2.2.2.2.2.2.1, (atI s513.1 s513.2.2.1 (0, 0, 0, 0, 0, 0, 0, 0, 0, 0, ())).2.2.2.2.2.2.2.2.2.1, ())).bind fun y514 =>
 cond (fits (List.length s513.2.2.2.2.2.2.2.2.2.1 + List.length y514.1) 8)
 (some (.inl (s513.1, s513.2.1, iAdd .i64 s513.2.2.1 1, s513.2.2.2.1, s513.2.2.2.2.1, s513.2.2.2.2.2.1, s513.2.2.2.2.2.2.1, s513.2.2.2.2.2.2.2.1, s513.2.2.2.2.2.2.2.2.1, s513.2.2.2.2.2.2.2.2.2.1 ++ y514.1, s513.2.2.2.2.2.2.2.2.2.2.1, s513.2.2.2.2.2.2.2.2.2.2.2.1, s513.2.2.2.2.2.2.2.2.2.2.2.2.1, s513.2.2.2.2.2.2.2.2.2.2.2.2.2.1, s513.2.2.2.2.2.2.2.2.2.2.2.2.2.2.1, ()))) none) none)
 (Option.map Sum.inr (cond (cond (cond (cond (iEq s513.2.2.2.2.2.2.2.2.2.2.2.1 0) (iEq s513.2.2.2.2.2.2.2.2.2.2.2.2.1 0) false) (iEq s513.2.2.2.2.2.2.2.2.2.2.2.2.2.1 0) false) (iEq s513.2.2.2.2.2.2.2.2.2.2.2.2.2.2.1 0) false)
 (cond (fits (List.length ([s513.2.2.2.1] : List Int) + List.length s513.2.2.2.2.2.2.2.2.2.1) 8)
 (some (([s513.2.2.2.1] : List Int) ++ s513.2.2.2.2.2.2.2.2.2.1, cond (iEq s513.2.2.2.1 1) true (iEq (lenI s513.2.2.2.2.1) 0), true, ())) none)
 (cond (fits (List.length ([s513.2.2.2.1] : List Int) + List.length s513.2.2.2.2.2.2.2.2.2.1) 8)
 (some (([s513.2.2.2.1] : List Int) ++ s513.2.2.2.2.2.2.2.2.2.1, false, true, ())) none))))
 (a0.2.1, lenI a0.2.1, 0, a0.1, a0.2.1, a0.2.2.1, a0.2.2.2.1, a0.2.2.2.2.1, a0.2.2.2.2.2.1, ([lenI a0.2.1] : List Int), 0, a0.2.2.1, a0.2.2.2.1, a0.2.2.2.2.1, a0.2.2.2.2.2.1, ()))
 (cond (iEq a0.1 2)
 (cond (cond (cond (cond (iEq a0.2.2.1 0) (iEq a0.2.2.2.1 0) false) (iEq a0.2.2.2.2.1 0) false) (iEq a0.2.2.2.2.2.1 0) false)
 (cond (fits (List.length ([a0.1] : List Int) + List.length ([] : List Int)) 8)
 (some (([a0.1] : List Int) ++ ([] : List Int), cond (iEq a0.1 1) true (iEq (lenI a0.2.1) 0), true, ())) none)
 (cond (fits (List.length ([a0.1] : List Int) + List.length ([] : List Int)) 8)
 (some (([a0.1] : List Int) ++ ([] : List Int), false, true, ())) none))
 (cond (iEq a0.1 3)
 (cond (cond (cond (iEq a0.2.2.2.1 0) true false) (iEq a0.2.2.2.2.2.1 0) false)
 (cond (fits (List.length ([a0.1] : List Int) + List.length ([a0.2.2.1, a0.2.2.2.2.1] : List Int)) 8)
 (some (([a0.1] : List Int) ++ ([a0.2.2.1, a0.2.2.2.2.1] : List Int), cond (iEq a0.1 1) true (iEq (lenI a0.2.1) 0), true, ())) none)
 (cond (fits (List.length ([a0.1] : List Int) + List.length ([a0.2.2.1, a0.2.2.2.2.1] : List Int)) 8)
 (some (([a0.1] : List Int) ++ ([a0.2.2.1, a0.2.2.2.2.1] : List Int), false, true, ())) none))
 (cond (iEq a0.1 4)
 (cond (cond (cond (iEq a0.2.2.2.1 0) true false) true false)
 (cond (fits (List.length ([a0.1] : List Int) + List.length ([a0.2.2.1, a0.2.2.2.2.1, a0.2.2.2.2.2.1] : List Int)) 8)
 (some (([a0.1] : List Int) ++ ([a0.2.2.1, a0.2.2.2.2.1, a0.2.2.2.2.2.1] : List Int), cond (iEq a0.1 1) true (iEq (lenI a0.2.1) 0), true, ())) none)
 (cond (fits (List.length ([a0.1] : List Int) + List.length ([a0.2.2.1, a0.2.2.2.2.1, a0.2.2.2.2.2.1] : List Int)) 8)
 (some (([a0.1] : List Int) ++ ([a0.2.2.1, a0.2.2.2.2.1, a0.2.2.2.2.2.1] : List Int), false, true, ())) none))
 (cond (iEq a0.1 5)
 (cond (cond (iEq a0.2.2.2.2.1 0) (iEq a0.2.2.2.2.2.1 0) false)
 (cond (fits (List.length ([a0.1] : List Int) + List.length ([a0.2.2.1, a0.2.2.2.1] : List Int)) 8)
 (some (([a0.1] : List Int) ++ ([a0.2.2.1, a0.2.2.2.1] : List Int), cond (iEq a0.1 1) true (iEq (lenI a0.2.1) 0), true, ())) none)
 (cond (fits (List.length ([a0.1] : List Int) + List.length ([a0.2.2.1, a0.2.2.2.1] : List Int)) 8)
 (some (([a0.1] : List Int) ++ ([a0.2.2.1, a0.2.2.2.1] : List Int), false, true, ())) none))
 (some (([] : List Int), false, false, ()))))))
noncomputable def cfg42 : Cfg := ⟨ttab, gtab, [i61], []⟩
theorem eqn42 (x : DS1 × Unit) : xfun cfg42 x42 100 [.t 2, .t 3, .t 4] [tS1] [(.list (.int .i64)), .bool, .bool] x = m42 x.1 := by kernel_rfl
noncomputable def i42 : PI := ⟨42, [tS1], [(.list (.int .i64)), .bool, .bool], fun (x : DS1 × Unit) => m42 x.1⟩
theorem oki42 : POk Try.prog (gx gtab) i42 := pok mixed (cfg_p oki61 (cfg_nil _ _) : CfgOk _ cfg42) F42 eqn42
/- 43 treaty/treatyref40.encode -/
def r43_0 : List Ins := [qI 2 (.mov kN), qI 3 (.mov (kI 0))]
def r43_1 : List Ins := [qI 4 (.mov kN)]
def r43_2 : List Ins := [qI 9 (.mov 0), qI 10 (.len 9), qI 11 (.mov (kI 0))]
def r43_3 : List Ins := [qI 12 (.bin .lss 11 10)]
def r43_4 : List Ins := [qI 13 (.iaddr 1 9 11), qI 14 (.load 1 false 13), qI 6 (.mov 14)]
def r43_5 : List Ins := [qI 16 (.mov 6), qI 17 (.call (.fn 14) [kN, 16]), qI 15 (.mov 17), qI 18 (.ext 0 15), qI 19 (.ext 1 15), qI 7 (.mov 18), qI 8 (.mov 19)]
def r43_6 : List Ins := [qI 20 (.mov 8), qI 21 (.bin .neq 20 (kI 0))]
def r43_7 : List Ins := [qI 22 (.mov 8), qI 2 (.mov kN), qI 3 (.mov 22)]
def r43_8 : List Ins := [qI 23 (.mov 4), qI 24 (.mov 7), qI 25 (.app 5 1 1 23 24), qI 4 (.mov 25)]
def r43_9 : List Ins := [qI 26 (.bin .add 11 (kI 1)), qI 11 (.mov 26)]
def r43_10 : List Ins := [qI 27 (.mov 4), qI 2 (.mov 27), qI 3 (.mov (kI 0))]
def x43 : XC := (.seq (.ops false r43_0) (.seq (.ops false r43_1) (.seq (.seq (.ops false r43_2) (.block 0 (.loop [.gh 4 5 (.int .u8)] ⟨28, [(9, (.list (.int .i64))), (10, (.int .i64)), (11, (.int .i64))], [(4, .row 0)], [.row 5 (.int .u8) false]⟩ (.seq (.ops false r43_3) (.seq (.cond (.t 12) .skip (.exit 0)) (.seq (.block 1 (.seq (.ops false r43_4) (.seq (.ops false r43_5) (.seq (.seq (.ops false r43_6) (.cond (.t 21) (.seq (.ops false r43_7) .ret) .skip)) (.ops false r43_8))))) (.ops false r43_9))))))) (.seq (.ops false r43_10) .ret))))
theorem F43 : Fn Try.prog 43 28 x43.er [.t 2, .t 3] := ⟨Try.f43, hcl, Try.func43, by kernel_rfl, by kernel_rfl, by kernel_rfl, by kernel_rfl⟩
noncomputable def m43 (a0 : List Int) : Option ((List Int) × Int × Unit) :=
 loopO (S := (List Int) × Int × Int × (List Int) × Unit) (R := (List Int) × Int × Unit) (fun s518 =>
 cond (iLt s518.2.2.1 s518.2.1)
 (cond (bnd s518.2.2.1 (lenI s518.1))
 ((m14 ([] : List Int) (atI s518.1 s518.2.2.1 0)).bind fun y519 =>
 cond (iNe y519.2.1 0)
 (some (.inr (([] : List Int), y519.2.1, ())))
 (cond (fits (List.length s518.2.2.2.1 + List.length y519.1) 1)
 (some (.inl (s518.1, s518.2.1, iAdd .i64 s518.2.2.1 1, s518.2.2.2.1 ++ y519.1, ()))) none)) none)
 (some (.inr (s518.2.2.2.1, 0, ()))))
 (a0, lenI a0, 0, ([] : List Int), ())
noncomputable def cfg43 : Cfg := ⟨ttab, gtab, [i14], []⟩
theorem eqn43 (x : (List Int) × Unit) : xfun cfg43 x43 28 [.t 2, .t 3] [(.list (.int .i64))] [(.list (.int .u8)), (.int .i64)] x = m43 x.1 := by kernel_rfl
noncomputable def i43 : PI := ⟨43, [(.list (.int .i64))], [(.list (.int .u8)), (.int .i64)], fun (x : (List Int) × Unit) => m43 x.1⟩
theorem oki43 : POk Try.prog (gx gtab) i43 := pok mixed (cfg_p oki14 (cfg_nil _ _) : CfgOk _ cfg43) F43 eqn43
/- 20 treaty/treatyref40.EncodeCommand -/
def r20_0 : List Ins := [qI 1 (.box 38 6 0), qI 2 (.mov kN), qI 3 (.mov (kI 0))]
def r20_1 : List Ins := [qI 8 (.load 6 true 1), qI 9 (.call (.fn 42) [8]), qI 7 (.mov 9), qI 10 (.ext 0 7), qI 11 (.ext 1 7), qI 12 (.ext 2 7), qI 4 (.mov 10), qI 5 (.mov 11), qI 6 (.mov 12)]
def r20_2 : List Ins := [qI 13 (.mov 6), qI 14 (.un .not 13)]
def r20_3 : List Ins := [qI 2 (.mov kN), qI 3 (.mov (kI 11))]
def r20_4 : List Ins := [qI 15 (.mov 5), qI 16 (.un .not 15)]
def r20_5 : List Ins := [qI 2 (.mov kN), qI 3 (.mov (kI 20))]
def r20_6 : List Ins := [qI 17 (.faddr 1 1), qI 18 (.load 1 false 17), qI 19 (.len 18), qI 20 (.bin .gtr 19 (kI 64))]
def r20_7 : List Ins := [qI 2 (.mov kN), qI 3 (.mov (kI 4))]
def r20_8 : List Ins := [qI 21 (.mov 4), qI 22 (.call (.fn 43) [21]), qI 23 (.ext 0 22), qI 24 (.ext 1 22), qI 2 (.mov 23), qI 3 (.mov 24)]
def x20 : XC := (.seq (.ops false r20_0) (.seq (.ops false r20_1) (.seq (.seq (.ops false r20_2) (.cond (.t 14) (.seq (.ops false r20_3) .ret) .skip)) (.seq (.seq (.ops false r20_4) (.cond (.t 16) (.seq (.ops false r20_5) .ret) .skip)) (.seq (.seq (.ops false r20_6) (.cond (.t 20) (.seq (.ops false r20_7) .ret) .skip)) (.seq (.ops false r20_8) .ret))))))
theorem F20 : Fn Try.prog 20 25 x20.er [.t 2, .t 3] := ⟨Try.f20, hcl, Try.func20, by kernel_rfl, by kernel_rfl, by kernel_rfl, by kernel_rfl⟩
noncomputable def m20 (a0 : DS1) : Option ((List Int) × Int × Unit) :=
 (m42 (a0.1, a0.2.1, a0.2.2.1, a0.2.2.2.1, a0.2.2.2.2.1, a0.2.2.2.2.2.1, ())).bind fun y515 =>
 cond (not y515.2.2.1)
 (some (([] : List Int), 11, ()))
 (cond (not y515.2.1)
 (some (([] : List Int), 20, ()))
 (cond (iLt 64 (lenI a0.2.1))
 (some (([] : List Int), 4, ()))
 ((m43 y515.1).bind fun y520 =>
 some (y520.1, y520.2.1, ()))))
noncomputable def cfg20 : Cfg := ⟨ttab, gtab, [i42, i43], []⟩
theorem eqn20 (x : DS1 × Unit) : xfun cfg20 x20 25 [.t 2, .t 3] [tS1] [(.list (.int .u8)), (.int .i64)] x = m20 x.1 := by kernel_rfl
noncomputable def i20 : PI := ⟨20, [tS1], [(.list (.int .u8)), (.int .i64)], fun (x : DS1 × Unit) => m20 x.1⟩
theorem oki20 : POk Try.prog (gx gtab) i20 := pok mixed (cfg_p oki42 (cfg_p oki43 (cfg_nil _ _)) : CfgOk _ cfg20) F20 eqn20
end Abs
end Go.Proofs.Ytbghnjkieghloaa
