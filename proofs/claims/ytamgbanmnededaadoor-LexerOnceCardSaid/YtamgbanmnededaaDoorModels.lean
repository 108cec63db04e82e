/- The functions' models on the typed machine, printed by a program of mine; that they are the code's is checked by the kernel. -/
import Derived.Test.YtamgbanmnededaaDoorBD2
import Derived.Test.YtamgbanmnededaaDoorPIR
import Derived.Test.YtamgbanmnededaaDoorXI
import Derived.Test.YtamgbanmnededaaDoorProg
import Derived.KernelRfl
namespace Go.Proofs.YtamgbanmnededaaDoor
namespace Abs
set_option maxRecDepth 100000
set_option linter.unusedVariables false
theorem mixed : Tryd.prog.follows .mixedOrders = true := by kernel_rfl
abbrev tS0 : Ty := .tup [(.int .i64), .str, (.int .i64), (.int .i64)]
abbrev DS0 : Type := Int × ByteArray × Int × Int × Unit
abbrev tS1 : Ty := .tup [(.int .i64), (.int .i64), (.int .i64), (.int .i64), (.int .i64), (.int .i64), (.int .i64), (.int .i64), (.int .i64), (.int .i64), (.int .i64), (.int .i64)]
abbrev DS1 : Type := Int × Int × Int × Int × Int × Int × Int × Int × Int × Int × Int × Int × Unit
abbrev tS2 : Ty := .tup [(.int .i64), (.int .i64), (.int .i64)]
abbrev DS2 : Type := Int × Int × Int × Unit
abbrev tS3 : Ty := .tup [(.int .u64), (.int .u64), (.int .u64), (.int .u64), (.int .u64), (.int .u64), (.int .u64), (.int .u64), (.int .u64), (.int .u64), (.int .u64), (.int .u64), (.int .u64), (.int .u64), (.int .u64), (.int .u64), (.int .u64), (.int .u64), (.int .u64), (.int .u64)]
abbrev DS3 : Type := Int × Int × Int × Int × Int × Int × Int × Int × Int × Int × Int × Int × Int × Int × Int × Int × Int × Int × Int × Int × Unit
instance (n : Nat) : OfNat Opd n := ⟨.t n⟩
@[reducible] def qI (d : Nat) (i : I) : Ins := ⟨some d, none, i⟩
@[reducible] def qT (d g : Nat) (i : I) : Ins := ⟨some d, some (g, true), i⟩
@[reducible] def qF (d g : Nat) (i : I) : Ins := ⟨some d, some (g, false), i⟩
@[reducible] def qN (i : I) : Ins := ⟨none, none, i⟩
@[reducible] def kN : Opd := .k (.slice none 0 0)
@[reducible] def kI (n : Int) : Opd := .k (.int .i64 n)
def ttab : Nat → Option Ty := fun n => if Nat.beq n 5 = true then some (.int .u8) else if Nat.beq n 9 = true then some .str else if Nat.beq n 41 = true then some tS0 else none
def gtab : GXT := fun n => if Nat.beq n 0 = true then some ⟨tS1, (show DS1 from (31, 28, 31, 30, 31, 30, 31, 31, 30, 31, 30, 31, ()))⟩ else if Nat.beq n 1 = true then some ⟨tS3, (show DS3 from (1, 10, 100, 1000, 10000, 100000, 1000000, 10000000, 100000000, 1000000000, 10000000000, 100000000000, 1000000000000, 10000000000000, 100000000000000, 1000000000000000, 10000000000000000, 100000000000000000, 1000000000000000000, 10000000000000000000, ()))⟩ else none
def hcl : List Nat := [10, 11, 22, 25, 26, 27, 35, 36, 37, 38, 53, 77, 86, 98, 99, 100, 101, 102, 105]
theorem okiItoa : POk Tryd.prog (gx gtab) iItoa := okhItoa (by rfl)
theorem okiRep : POk Tryd.prog (gx gtab) iRep := okhRep
noncomputable def mB53_0 (a0 : List Int) : Option ((List Int) × Unit) := some (a0, ())
noncomputable def hB53_0 : HI := iCopy 58 []
theorem okhB53_0 : HOk Tryd.prog (gx gtab) hB53_0 := okhCopy 58 [] (by kernel_rfl)
noncomputable def mB38_0 (a0 : List Int) : Option (ByteArray × (List Int) × Unit) := some (bsI a0, a0, ())
noncomputable def hB38_0 : HI := iStr 58 []
theorem okhB38_0 : HOk Tryd.prog (gx gtab) hB38_0 := okhStr 58 []
/- 30 treaty/lexer.inLine -/
def r30_0 : List Ins := [qI 2 (.mov (.k (.bool false)))]
def r30_1 : List Ins := [qI 3 (.mov 0), qI 4 (.bin .neq 3 (.k (.int .u8 10))), qI 2 (.mov 4)]
def x30 : XC := (.seq (.ops false r30_0) (.seq (.ops false r30_1) .ret))
theorem F30 : Fn Tryd.prog 30 5 x30.er [.t 2] := ⟨Tryd.f30, hcl, Tryd.func30, by kernel_rfl, by kernel_rfl, by kernel_rfl, by kernel_rfl⟩
noncomputable def m30 (a0 : Int) : Option (Bool × Unit) :=
 some (iNe a0 10, ())
noncomputable def cfg30 : Cfg := ⟨ttab, gtab, [], []⟩
theorem eqn30 (x : Int × Unit) : xfun cfg30 x30 5 [.t 2] [(.int .u8)] [.bool] x = m30 x.1 := by kernel_rfl
noncomputable def i30 : PI := ⟨30, [(.int .u8)], [.bool], fun (x : Int × Unit) => m30 x.1⟩
theorem oki30 : POk Tryd.prog (gx gtab) i30 := pok mixed (cfg_nil _ _ : CfgOk _ (cfg30)) F30 (eqn30)
/- 29 treaty/lexer.span -/
def r29_0 : List Ins := [qI 6 (.mov (kI 0))]
def r29_1 : List Ins := [qI 7 (.mov 1), qI 8 (.mov 0), qI 9 (.slen 8), qI 10 (.bin .lss 7 9), qI 11 (.mov 10), qT 12 11 (.mov 2), qT 13 11 (.mov 0), qT 14 11 (.mov 1), qT 15 11 (.idx 13 14), qT 16 11 (.call 12 [15]), qI 17 (.pick 11 16 (.k (.bool false)))]
def r29_2 : List Ins := [qI 18 (.mov 1), qI 19 (.bin .add 18 (kI 1)), qI 1 (.mov 19)]
def r29_3 : List Ins := [qI 20 (.mov 1), qI 6 (.mov 20)]
def x29 : XC := (.seq (.ops false r29_0) (.seq (.block 0 (.loop [] ⟨21, [(0, .str), (1, (.int .i64)), (2, (.fnc 30))], [], []⟩ (.seq (.seq (.ops false r29_1) (.cond (.t 17) .skip (.exit 0))) (.block 1 (.ops false r29_2))))) (.seq (.ops false r29_3) .ret)))
theorem F29 : Fn Tryd.prog 29 21 x29.er [.t 6] := ⟨Tryd.f29, hcl, Tryd.func29, by kernel_rfl, by kernel_rfl, by kernel_rfl, by kernel_rfl⟩
noncomputable def m29 (a0 : ByteArray) (a1 : Int) (a2 : Unit) : Option (Int × Unit) :=
 loopO (S := ByteArray × Int × Unit × Unit) (R := Int × Unit) (fun s4 =>
 cond (or (bnd s4.2.1 (sLen s4.1)) (not (bEq (iLt s4.2.1 (sLen s4.1)) true)))
 (cond (iLt s4.2.1 (sLen s4.1))
 ((m30 (sAt s4.1 s4.2.1)).bind fun y5 =>
 cond y5.1
 (some (.inl (s4.1, iAdd .i64 s4.2.1 1, s4.2.2.1, ())))
 (some (.inr (s4.2.1, ()))))
 (some (.inr (s4.2.1, ())))) none)
 (a0, a1, (), ())
noncomputable def cfg29 : Cfg := ⟨ttab, gtab, [i30], []⟩
theorem eqn29 (x : ByteArray × Int × Unit × Unit) : xfun cfg29 x29 21 [.t 6] [.str, (.int .i64), (.fnc 30)] [(.int .i64)] x = m29 x.1 x.2.1 x.2.2.1 := by kernel_rfl
noncomputable def i29 : PI := ⟨29, [.str, (.int .i64), (.fnc 30)], [(.int .i64)], fun (x : ByteArray × Int × Unit × Unit) => m29 x.1 x.2.1 x.2.2.1⟩
theorem oki29 : POk Tryd.prog (gx gtab) i29 := pok mixed (cfg_p oki30 (cfg_nil _ _) : CfgOk _ (cfg29)) F29 (eqn29)
/- 32 treaty/lexer.letter -/
def r32_0 : List Ins := [qI 2 (.mov (.k (.bool false)))]
def r32_1 : List Ins := [qI 3 (.mov 0), qI 4 (.bin .leq (.k (.int .u8 97)) 3), qI 5 (.mov 4), qT 6 5 (.mov 0), qT 7 5 (.bin .leq 6 (.k (.int .u8 122))), qI 8 (.pick 5 7 (.k (.bool false))), qI 2 (.mov 8)]
def x32 : XC := (.seq (.ops false r32_0) (.seq (.ops false r32_1) .ret))
theorem F32 : Fn Tryd.prog 32 9 x32.er [.t 2] := ⟨Tryd.f32, hcl, Tryd.func32, by kernel_rfl, by kernel_rfl, by kernel_rfl, by kernel_rfl⟩
noncomputable def m32 (a0 : Int) : Option (Bool × Unit) :=
 some (cond (iLe 97 a0) (iLe a0 122) false, ())
noncomputable def cfg32 : Cfg := ⟨ttab, gtab, [], []⟩
theorem eqn32 (x : Int × Unit) : xfun cfg32 x32 9 [.t 2] [(.int .u8)] [.bool] x = m32 x.1 := by kernel_rfl
noncomputable def i32 : PI := ⟨32, [(.int .u8)], [.bool], fun (x : Int × Unit) => m32 x.1⟩
theorem oki32 : POk Tryd.prog (gx gtab) i32 := pok mixed (cfg_nil _ _ : CfgOk _ (cfg32)) F32 (eqn32)
/- 46 treaty/lexer.digit -/
def r46_0 : List Ins := [qI 2 (.mov (.k (.bool false)))]
def r46_1 : List Ins := [qI 3 (.mov 0), qI 4 (.bin .leq (.k (.int .u8 48)) 3), qI 5 (.mov 4), qT 6 5 (.mov 0), qT 7 5 (.bin .leq 6 (.k (.int .u8 57))), qI 8 (.pick 5 7 (.k (.bool false))), qI 2 (.mov 8)]
def x46 : XC := (.seq (.ops false r46_0) (.seq (.ops false r46_1) .ret))
theorem F46 : Fn Tryd.prog 46 9 x46.er [.t 2] := ⟨Tryd.f46, hcl, Tryd.func46, by kernel_rfl, by kernel_rfl, by kernel_rfl, by kernel_rfl⟩
noncomputable def m46 (a0 : Int) : Option (Bool × Unit) :=
 some (cond (iLe 48 a0) (iLe a0 57) false, ())
noncomputable def cfg46 : Cfg := ⟨ttab, gtab, [], []⟩
theorem eqn46 (x : Int × Unit) : xfun cfg46 x46 9 [.t 2] [(.int .u8)] [.bool] x = m46 x.1 := by kernel_rfl
noncomputable def i46 : PI := ⟨46, [(.int .u8)], [.bool], fun (x : Int × Unit) => m46 x.1⟩
theorem oki46 : POk Tryd.prog (gx gtab) i46 := pok mixed (cfg_nil _ _ : CfgOk _ (cfg46)) F46 (eqn46)
/- 39 treaty/lexer.inWord -/
def r39_0 : List Ins := [qI 2 (.mov (.k (.bool false)))]
def r39_1 : List Ins := [qI 3 (.mov 0), qI 4 (.call (.fn 32) [3]), qI 5 (.mov 4), qF 6 5 (.mov 0), qF 7 5 (.call (.fn 46) [6]), qI 8 (.pick 5 (.k (.bool true)) 7), qI 9 (.mov 8), qF 10 9 (.mov 0), qF 11 9 (.bin .eql 10 (.k (.int .u8 45))), qI 12 (.pick 9 (.k (.bool true)) 11), qI 2 (.mov 12)]
def x39 : XC := (.seq (.ops false r39_0) (.seq (.ops false r39_1) .ret))
theorem F39 : Fn Tryd.prog 39 13 x39.er [.t 2] := ⟨Tryd.f39, hcl, Tryd.func39, by kernel_rfl, by kernel_rfl, by kernel_rfl, by kernel_rfl⟩
noncomputable def m39 (a0 : Int) : Option (Bool × Unit) :=
 (m32 a0).bind fun y9 =>
 cond y9.1
 (some (true, ()))
 ((m46 a0).bind fun y10 =>
 some (cond y10.1 true (iEq a0 45), ()))
noncomputable def cfg39 : Cfg := ⟨ttab, gtab, [i32, i46], []⟩
theorem eqn39 (x : Int × Unit) : xfun cfg39 x39 13 [.t 2] [(.int .u8)] [.bool] x = m39 x.1 := by kernel_rfl
noncomputable def i39 : PI := ⟨39, [(.int .u8)], [.bool], fun (x : Int × Unit) => m39 x.1⟩
theorem oki39 : POk Tryd.prog (gx gtab) i39 := pok mixed (cfg_p oki32 (cfg_p oki46 (cfg_nil _ _)) : CfgOk _ (cfg39)) F39 (eqn39)
/- 29 treaty/lexer.span -/
def x29_1 : XC := (.seq (.ops false r29_0) (.seq (.block 0 (.loop [] ⟨21, [(0, .str), (1, (.int .i64)), (2, (.fnc 39))], [], []⟩ (.seq (.seq (.ops false r29_1) (.cond (.t 17) .skip (.exit 0))) (.block 1 (.ops false r29_2))))) (.seq (.ops false r29_3) .ret)))
theorem F29_1 : Fn Tryd.prog 29 21 x29_1.er [.t 6] := ⟨Tryd.f29, hcl, Tryd.func29, by kernel_rfl, by kernel_rfl, by kernel_rfl, by kernel_rfl⟩
noncomputable def m29_1 (a0 : ByteArray) (a1 : Int) (a2 : Unit) : Option (Int × Unit) :=
 loopO (S := ByteArray × Int × Unit × Unit) (R := Int × Unit) (fun s12 =>
 cond (or (bnd s12.2.1 (sLen s12.1)) (not (bEq (iLt s12.2.1 (sLen s12.1)) true)))
 (cond (iLt s12.2.1 (sLen s12.1))
 ((m39 (sAt s12.1 s12.2.1)).bind fun y13 =>
 cond y13.1
 (some (.inl (s12.1, iAdd .i64 s12.2.1 1, s12.2.2.1, ())))
 (some (.inr (s12.2.1, ()))))
 (some (.inr (s12.2.1, ())))) none)
 (a0, a1, (), ())
noncomputable def cfg29_1 : Cfg := ⟨ttab, gtab, [i39], []⟩
theorem eqn29_1 (x : ByteArray × Int × Unit × Unit) : xfun cfg29_1 x29_1 21 [.t 6] [.str, (.int .i64), (.fnc 39)] [(.int .i64)] x = m29_1 x.1 x.2.1 x.2.2.1 := by kernel_rfl
noncomputable def i29_1 : PI := ⟨29, [.str, (.int .i64), (.fnc 39)], [(.int .i64)], fun (x : ByteArray × Int × Unit × Unit) => m29_1 x.1 x.2.1 x.2.2.1⟩
theorem oki29_1 : POk Tryd.prog (gx gtab) i29_1 := pok mixed (cfg_p oki39 (cfg_nil _ _) : CfgOk _ (cfg29_1)) F29_1 (eqn29_1)
/- 23 treaty/lexer.word -/
def r23_0 : List Ins := [qI 2 (.mov (.k (.bool false)))]
def r23_1 : List Ins := [qI 3 (.mov 0), qI 4 (.slen 3), qI 5 (.bin .eql 4 (kI 0)), qI 6 (.mov 5), qF 7 6 (.mov 0), qF 8 6 (.slen 7), qF 9 6 (.bin .gtr 8 (kI 16)), qI 10 (.pick 6 (.k (.bool true)) 9), qI 11 (.mov 10), qF 12 11 (.mov 0), qF 13 11 (.idx 12 (kI 0)), qF 14 11 (.call (.fn 32) [13]), qF 15 11 (.un .not 14), qI 16 (.pick 11 (.k (.bool true)) 15), qI 17 (.mov 16), qF 18 17 (.mov 0), qF 19 17 (.mov 0), qF 20 17 (.slen 19), qF 21 17 (.bin .sub 20 (kI 1)), qF 22 17 (.idx 18 21), qF 23 17 (.bin .eql 22 (.k (.int .u8 45))), qI 24 (.pick 17 (.k (.bool true)) 23)]
def r23_2 : List Ins := [qI 2 (.mov (.k (.bool false)))]
def r23_3 : List Ins := [qI 25 (.mov 0), qI 26 (.call (.fn 29) [25, (kI 0), (.fn 39)]), qI 27 (.mov 0), qI 28 (.slen 27), qI 29 (.bin .eql 26 28), qI 2 (.mov 29)]
def x23 : XC := (.seq (.ops false r23_0) (.seq (.seq (.ops false r23_1) (.cond (.t 24) (.seq (.ops false r23_2) .ret) .skip)) (.seq (.ops false r23_3) .ret)))
theorem F23 : Fn Tryd.prog 23 30 x23.er [.t 2] := ⟨Tryd.f23, hcl, Tryd.func23, by kernel_rfl, by kernel_rfl, by kernel_rfl, by kernel_rfl⟩
noncomputable def m23 (a0 : ByteArray) : Option (Bool × Unit) :=
 cond (or (bnd 0 (sLen a0)) (not (bEq (cond (iEq (sLen a0) 0) true (iLt 16 (sLen a0))) false)))
 (cond (cond (iEq (sLen a0) 0) true (iLt 16 (sLen a0)))
 (cond (or (bnd (iSub .i64 (sLen a0) 1) (sLen a0)) (not (bEq true false)))
 (some (false, ())) none)
 ((m32 (sAt a0 0)).bind fun y15 =>
 cond (or (bnd (iSub .i64 (sLen a0) 1) (sLen a0)) (not (bEq (not y15.1) false)))
 (cond (cond (not y15.1) true (iEq (sAt a0 (iSub .i64 (sLen a0) 1)) 45))
 (some (false, ()))
 ((m29_1 a0 0 ()).bind fun y16 =>
 some (iEq y16.1 (sLen a0), ()))) none)) none
noncomputable def cfg23 : Cfg := ⟨ttab, gtab, [i29_1, i32], []⟩
theorem eqn23 (x : ByteArray × Unit) : xfun cfg23 x23 30 [.t 2] [.str] [.bool] x = m23 x.1 := by kernel_rfl
noncomputable def i23 : PI := ⟨23, [.str], [.bool], fun (x : ByteArray × Unit) => m23 x.1⟩
theorem oki23 : POk Tryd.prog (gx gtab) i23 := pok mixed (cfg_p oki29_1 (cfg_p oki32 (cfg_nil _ _)) : CfgOk _ (cfg23)) F23 (eqn23)
/- 29 treaty/lexer.span -/
def x29_2 : XC := (.seq (.ops false r29_0) (.seq (.block 0 (.loop [] ⟨21, [(0, .str), (1, (.int .i64)), (2, (.fnc 46))], [], []⟩ (.seq (.seq (.ops false r29_1) (.cond (.t 17) .skip (.exit 0))) (.block 1 (.ops false r29_2))))) (.seq (.ops false r29_3) .ret)))
theorem F29_2 : Fn Tryd.prog 29 21 x29_2.er [.t 6] := ⟨Tryd.f29, hcl, Tryd.func29, by kernel_rfl, by kernel_rfl, by kernel_rfl, by kernel_rfl⟩
noncomputable def m29_2 (a0 : ByteArray) (a1 : Int) (a2 : Unit) : Option (Int × Unit) :=
 loopO (S := ByteArray × Int × Unit × Unit) (R := Int × Unit) (fun s21 =>
 cond (or (bnd s21.2.1 (sLen s21.1)) (not (bEq (iLt s21.2.1 (sLen s21.1)) true)))
 (cond (iLt s21.2.1 (sLen s21.1))
 ((m46 (sAt s21.1 s21.2.1)).bind fun y22 =>
 cond y22.1
 (some (.inl (s21.1, iAdd .i64 s21.2.1 1, s21.2.2.1, ())))
 (some (.inr (s21.2.1, ()))))
 (some (.inr (s21.2.1, ())))) none)
 (a0, a1, (), ())
noncomputable def cfg29_2 : Cfg := ⟨ttab, gtab, [i46], []⟩
theorem eqn29_2 (x : ByteArray × Int × Unit × Unit) : xfun cfg29_2 x29_2 21 [.t 6] [.str, (.int .i64), (.fnc 46)] [(.int .i64)] x = m29_2 x.1 x.2.1 x.2.2.1 := by kernel_rfl
noncomputable def i29_2 : PI := ⟨29, [.str, (.int .i64), (.fnc 46)], [(.int .i64)], fun (x : ByteArray × Int × Unit × Unit) => m29_2 x.1 x.2.1 x.2.2.1⟩
theorem oki29_2 : POk Tryd.prog (gx gtab) i29_2 := pok mixed (cfg_p oki46 (cfg_nil _ _) : CfgOk _ (cfg29_2)) F29_2 (eqn29_2)
/- 47 treaty/lexer.number -/
def r47_0 : List Ins := [qI 2 (.mov (kI 0)), qI 3 (.mov (kI 0))]
def r47_1 : List Ins := [qI 8 (.mov 0), qI 9 (.idx 8 (kI 0)), qI 10 (.bin .eql 9 (.k (.int .u8 45))), qI 4 (.mov 10)]
def r47_2 : List Ins := [qI 11 (.mov 0), qI 5 (.mov 11)]
def r47_3 : List Ins := [qI 12 (.mov 4)]
def r47_4 : List Ins := [qI 13 (.mov 0), qI 14 (.sslice 13 (some (kI 1)) none), qI 5 (.mov 14)]
def r47_5 : List Ins := [qI 15 (.mov 5), qI 16 (.bin .eql 15 (.k (.string (bs [])))), qI 17 (.mov 16), qF 18 17 (.mov 5), qF 19 17 (.idx 18 (kI 0)), qF 20 17 (.bin .eql 19 (.k (.int .u8 48))), qF 21 17 (.mov 20), qT 22 21 (.mov 4), qT 23 21 (.mov 22), qF 24 23 (.mov 5), qF 25 23 (.slen 24), qF 26 23 (.bin .gtr 25 (kI 1)), qT 27 21 (.pick 23 (.k (.bool true)) 26), qF 28 17 (.pick 21 27 (.k (.bool false))), qI 29 (.pick 17 (.k (.bool true)) 28)]
def r47_6 : List Ins := [qI 2 (.mov (kI 0)), qI 3 (.mov (kI 5))]
def r47_7 : List Ins := [qI 6 (.mov (kI 0))]
def r47_8 : List Ins := [qI 30 (.mov 5), qI 31 (.slen 30), qI 32 (.mov (kI 0))]
def r47_9 : List Ins := [qI 33 (.bin .lss 32 31)]
def r47_10 : List Ins := [qI 34 (.mov 32), qI 7 (.mov 34)]
def r47_11 : List Ins := [qI 35 (.mov 6), qI 36 (.bin .mul 35 (kI 10)), qI 37 (.mov 5), qI 38 (.mov 7), qI 39 (.idx 37 38), qI 40 (.bin .sub 39 (.k (.int .u8 48))), qI 41 (.conv .i64 40), qI 42 (.bin .add 36 41), qI 6 (.mov 42)]
def r47_12 : List Ins := [qI 43 (.mov 6), qI 44 (.bin .gtr 43 (kI 17592186044416))]
def r47_13 : List Ins := [qI 2 (.mov (kI 0)), qI 3 (.mov (kI 1))]
def r47_14 : List Ins := [qI 45 (.bin .add 32 (kI 1)), qI 32 (.mov 45)]
def r47_15 : List Ins := [qI 46 (.mov 4)]
def r47_16 : List Ins := [qI 47 (.mov 6), qI 48 (.un .neg 47), qI 6 (.mov 48)]
def r47_17 : List Ins := [qI 49 (.mov 6), qI 2 (.mov 49), qI 3 (.mov (kI 0))]
def x47 : XC := (.seq (.ops false r47_0) (.seq (.ops false r47_1) (.seq (.ops false r47_2) (.seq (.seq (.ops false r47_3) (.cond (.t 12) (.ops false r47_4) .skip)) (.seq (.seq (.ops false r47_5) (.cond (.t 29) (.seq (.ops false r47_6) .ret) .skip)) (.seq (.ops false r47_7) (.seq (.seq (.ops false r47_8) (.block 0 (.loop [] ⟨50, [(4, .bool), (5, .str), (6, (.int .i64)), (31, (.int .i64)), (32, (.int .i64))], [], []⟩ (.seq (.ops false r47_9) (.seq (.cond (.t 33) .skip (.exit 0)) (.seq (.block 1 (.seq (.ops false r47_10) (.seq (.ops false r47_11) (.seq (.ops false r47_12) (.cond (.t 44) (.seq (.ops false r47_13) .ret) .skip))))) (.ops false r47_14))))))) (.seq (.seq (.ops false r47_15) (.cond (.t 46) (.ops false r47_16) .skip)) (.seq (.ops false r47_17) .ret)))))))))
theorem F47 : Fn Tryd.prog 47 50 x47.er [.t 2, .t 3] := ⟨Tryd.f47, hcl, Tryd.func47, by kernel_rfl, by kernel_rfl, by kernel_rfl, by kernel_rfl⟩
noncomputable def m47 (a0 : ByteArray) : Option (Int × Int × Unit) :=
 cond (bnd 0 (sLen a0))
 (cond (iEq (sAt a0 0) 45)
 (cond (cutOk 1 ((ByteArray.size a0 : Nat) : Int) (ByteArray.size a0))
 (cond (or (bnd 0 (sLen (cutS 1 ((ByteArray.size a0 : Nat) : Int) a0))) (not (bEq (sEq (cutS 1 ((ByteArray.size a0 : Nat) : Int) a0) (bs [])) false)))
 (cond (sEq (cutS 1 ((ByteArray.size a0 : Nat) : Int) a0) (bs []))
 (some (0, 5, ()))
 (cond (iEq (sAt (cutS 1 ((ByteArray.size a0 : Nat) : Int) a0) 0) 48)
 (cond (cond (iEq (sAt a0 0) 45) true (iLt 1 (sLen (cutS 1 ((ByteArray.size a0 : Nat) : Int) a0))))
 (some (0, 5, ()))
 (loopO (S := Bool × ByteArray × Int × Int × Int × Unit) (R := Int × Int × Unit) (fun s28 =>
 cond (iLt s28.2.2.2.2.1 s28.2.2.2.1)
 (cond (bnd s28.2.2.2.2.1 (sLen s28.2.1))
 (cond (iLt 17592186044416 (iAdd .i64 (iMul .i64 s28.2.2.1 10) (IntKind.wrap .i64 (iSub .u8 (sAt s28.2.1 s28.2.2.2.2.1) 48))))
 (some (.inr (0, 1, ())))
 (some (.inl (s28.1, s28.2.1, iAdd .i64 (iMul .i64 s28.2.2.1 10) (IntKind.wrap .i64 (iSub .u8 (sAt s28.2.1 s28.2.2.2.2.1) 48)), s28.2.2.2.1, iAdd .i64 s28.2.2.2.2.1 1, ())))) none)
 (Option.map Sum.inr (cond s28.1
 (some (iNeg .i64 s28.2.2.1, 0, ()))
 (some (s28.2.2.1, 0, ())))))
 (iEq (sAt a0 0) 45, cutS 1 ((ByteArray.size a0 : Nat) : Int) a0, 0, sLen (cutS 1 ((ByteArray.size a0 : Nat) : Int) a0), 0, ())))
 (loopO (S := Bool × ByteArray × Int × Int × Int × Unit) (R := Int × Int × Unit) (fun s29 =>
 cond (iLt s29.2.2.2.2.1 s29.2.2.2.1)
 (cond (bnd s29.2.2.2.2.1 (sLen s29.2.1))
 (cond (iLt 17592186044416 (iAdd .i64 (iMul .i64 s29.2.2.1 10) (IntKind.wrap .i64 (iSub .u8 (sAt s29.2.1 s29.2.2.2.2.1) 48))))
 (some (.inr (0, 1, ())))
 (some (.inl (s29.1, s29.2.1, iAdd .i64 (iMul .i64 s29.2.2.1 10) (IntKind.wrap .i64 (iSub .u8 (sAt s29.2.1 s29.2.2.2.2.1) 48)), s29.2.2.2.1, iAdd .i64 s29.2.2.2.2.1 1, ())))) none)
 (Option.map Sum.inr (cond s29.1
 (some (iNeg .i64 s29.2.2.1, 0, ()))
 (some (s29.2.2.1, 0, ())))))
 (iEq (sAt a0 0) 45, cutS 1 ((ByteArray.size a0 : Nat) : Int) a0, 0, sLen (cutS 1 ((ByteArray.size a0 : Nat) : Int) a0), 0, ())))) none) none)
 (cond (or (bnd 0 (sLen a0)) (not (bEq (sEq a0 (bs [])) false)))
 (cond (sEq a0 (bs []))
 (some (0, 5, ()))
 (cond (iEq (sAt a0 0) 48)
 (cond (cond (iEq (sAt a0 0) 45) true (iLt 1 (sLen a0)))
 (some (0, 5, ()))
 (loopO (S := Bool × ByteArray × Int × Int × Int × Unit) (R := Int × Int × Unit) (fun s30 =>
 cond (iLt s30.2.2.2.2.1 s30.2.2.2.1)
 (cond (bnd s30.2.2.2.2.1 (sLen s30.2.1))
 (cond (iLt 17592186044416 (iAdd .i64 (iMul .i64 s30.2.2.1 10) (IntKind.wrap .i64 (iSub .u8 (sAt s30.2.1 s30.2.2.2.2.1) 48))))
 (some (.inr (0, 1, ())))
 (some (.inl (s30.1, s30.2.1, iAdd .i64 (iMul .i64 s30.2.2.1 10) (IntKind.wrap .i64 (iSub .u8 (sAt s30.2.1 s30.2.2.2.2.1) 48)), s30.2.2.2.1, iAdd .i64 s30.2.2.2.2.1 1, ())))) none)
 (Option.map Sum.inr (cond s30.1
 (some (iNeg .i64 s30.2.2.1, 0, ()))
 (some (s30.2.2.1, 0, ())))))
 (iEq (sAt a0 0) 45, a0, 0, sLen a0, 0, ())))
 (loopO (S := Bool × ByteArray × Int × Int × Int × Unit) (R := Int × Int × Unit) (fun s31 =>
 cond (iLt s31.2.2.2.2.1 s31.2.2.2.1)
 (cond (bnd s31.2.2.2.2.1 (sLen s31.2.1))
 (cond (iLt 17592186044416 (iAdd .i64 (iMul .i64 s31.2.2.1 10) (IntKind.wrap .i64 (iSub .u8 (sAt s31.2.1 s31.2.2.2.2.1) 48))))
 (some (.inr (0, 1, ())))
 (some (.inl (s31.1, s31.2.1, iAdd .i64 (iMul .i64 s31.2.2.1 10) (IntKind.wrap .i64 (iSub .u8 (sAt s31.2.1 s31.2.2.2.2.1) 48)), s31.2.2.2.1, iAdd .i64 s31.2.2.2.2.1 1, ())))) none)
 (Option.map Sum.inr (cond s31.1
 (some (iNeg .i64 s31.2.2.1, 0, ()))
 (some (s31.2.2.1, 0, ())))))
 (iEq (sAt a0 0) 45, a0, 0, sLen a0, 0, ())))) none)) none
noncomputable def cfg47 : Cfg := ⟨ttab, gtab, [], []⟩
theorem eqn47 (x : ByteArray × Unit) : xfun cfg47 x47 50 [.t 2, .t 3] [.str] [(.int .i64), (.int .i64)] x = m47 x.1 := by kernel_rfl
noncomputable def i47 : PI := ⟨47, [.str], [(.int .i64), (.int .i64)], fun (x : ByteArray × Unit) => m47 x.1⟩
theorem oki47 : POk Tryd.prog (gx gtab) i47 := pok mixed (cfg_nil _ _ : CfgOk _ (cfg47)) F47 (eqn47)
/- 48 treaty/lexer.inHour -/
def r48_0 : List Ins := [qI 2 (.mov (.k (.bool false)))]
def r48_1 : List Ins := [qI 3 (.mov 0), qI 4 (.call (.fn 46) [3]), qI 5 (.mov 4), qF 6 5 (.mov 0), qF 7 5 (.bin .eql 6 (.k (.int .u8 45))), qI 8 (.pick 5 (.k (.bool true)) 7), qI 9 (.mov 8), qF 10 9 (.mov 0), qF 11 9 (.bin .eql 10 (.k (.int .u8 84))), qI 12 (.pick 9 (.k (.bool true)) 11), qI 2 (.mov 12)]
def x48 : XC := (.seq (.ops false r48_0) (.seq (.ops false r48_1) .ret))
theorem F48 : Fn Tryd.prog 48 13 x48.er [.t 2] := ⟨Tryd.f48, hcl, Tryd.func48, by kernel_rfl, by kernel_rfl, by kernel_rfl, by kernel_rfl⟩
noncomputable def m48 (a0 : Int) : Option (Bool × Unit) :=
 (m46 a0).bind fun y34 =>
 some (cond (cond y34.1 true (iEq a0 45)) true (iEq a0 84), ())
noncomputable def cfg48 : Cfg := ⟨ttab, gtab, [i46], []⟩
theorem eqn48 (x : Int × Unit) : xfun cfg48 x48 13 [.t 2] [(.int .u8)] [.bool] x = m48 x.1 := by kernel_rfl
noncomputable def i48 : PI := ⟨48, [(.int .u8)], [.bool], fun (x : Int × Unit) => m48 x.1⟩
theorem oki48 : POk Tryd.prog (gx gtab) i48 := pok mixed (cfg_p oki46 (cfg_nil _ _) : CfgOk _ (cfg48)) F48 (eqn48)
/- 29 treaty/lexer.span -/
def x29_3 : XC := (.seq (.ops false r29_0) (.seq (.block 0 (.loop [] ⟨21, [(0, .str), (1, (.int .i64)), (2, (.fnc 48))], [], []⟩ (.seq (.seq (.ops false r29_1) (.cond (.t 17) .skip (.exit 0))) (.block 1 (.ops false r29_2))))) (.seq (.ops false r29_3) .ret)))
theorem F29_3 : Fn Tryd.prog 29 21 x29_3.er [.t 6] := ⟨Tryd.f29, hcl, Tryd.func29, by kernel_rfl, by kernel_rfl, by kernel_rfl, by kernel_rfl⟩
noncomputable def m29_3 (a0 : ByteArray) (a1 : Int) (a2 : Unit) : Option (Int × Unit) :=
 loopO (S := ByteArray × Int × Unit × Unit) (R := Int × Unit) (fun s36 =>
 cond (or (bnd s36.2.1 (sLen s36.1)) (not (bEq (iLt s36.2.1 (sLen s36.1)) true)))
 (cond (iLt s36.2.1 (sLen s36.1))
 ((m48 (sAt s36.1 s36.2.1)).bind fun y37 =>
 cond y37.1
 (some (.inl (s36.1, iAdd .i64 s36.2.1 1, s36.2.2.1, ())))
 (some (.inr (s36.2.1, ()))))
 (some (.inr (s36.2.1, ())))) none)
 (a0, a1, (), ())
noncomputable def cfg29_3 : Cfg := ⟨ttab, gtab, [i48], []⟩
theorem eqn29_3 (x : ByteArray × Int × Unit × Unit) : xfun cfg29_3 x29_3 21 [.t 6] [.str, (.int .i64), (.fnc 48)] [(.int .i64)] x = m29_3 x.1 x.2.1 x.2.2.1 := by kernel_rfl
noncomputable def i29_3 : PI := ⟨29, [.str, (.int .i64), (.fnc 48)], [(.int .i64)], fun (x : ByteArray × Int × Unit × Unit) => m29_3 x.1 x.2.1 x.2.2.1⟩
theorem oki29_3 : POk Tryd.prog (gx gtab) i29_3 := pok mixed (cfg_p oki48 (cfg_nil _ _) : CfgOk _ (cfg29_3)) F29_3 (eqn29_3)
/- 56 treaty/calendar.fits -/
def r56_0 : List Ins := [qI 4 (.mov (.k (.bool false)))]
def r56_1 : List Ins := [qI 5 (.mov 1)]
def r56_2 : List Ins := [qI 7 (.bin .eql 5 (kI 4)), qI 6 (.mov 7)]
def r56_3 : List Ins := [qI 8 (.bin .eql 5 (kI 7)), qI 6 (.mov 8)]
def r56_4 : List Ins := [qI 9 (.mov 0), qI 10 (.bin .eql 9 (.k (.int .u8 45))), qI 4 (.mov 10)]
def r56_5 : List Ins := [qI 12 (.bin .eql 5 (kI 10)), qI 11 (.mov 12)]
def r56_6 : List Ins := [qI 13 (.mov 0), qI 14 (.bin .eql 13 (.k (.int .u8 84))), qI 4 (.mov 14)]
def r56_7 : List Ins := [qI 15 (.mov 0), qI 16 (.bin .leq (.k (.int .u8 48)) 15), qI 17 (.mov 16), qT 18 17 (.mov 0), qT 19 17 (.bin .leq 18 (.k (.int .u8 57))), qI 20 (.pick 17 19 (.k (.bool false))), qI 4 (.mov 20)]
def x56 : XC := (.seq (.ops false r56_0) (.seq (.seq (.ops false r56_1) (.block 0 (.seq (.seq (.ops false r56_2) (.cond (.t 6) .skip (.ops false r56_3))) (.cond (.t 6) (.seq (.ops false r56_4) .ret) (.seq (.ops false r56_5) (.cond (.t 11) (.seq (.ops false r56_6) .ret) .skip)))))) (.seq (.ops false r56_7) .ret)))
theorem F56 : Fn Tryd.prog 56 21 x56.er [.t 4] := ⟨Tryd.f56, hcl, Tryd.func56, by kernel_rfl, by kernel_rfl, by kernel_rfl, by kernel_rfl⟩
noncomputable def m56 (a0 : Int) (a1 : Int) : Option (Bool × Unit) :=
 cond (iEq a1 4)
 (some (iEq a0 45, ()))
 (cond (iEq a1 7)
 (some (iEq a0 45, ()))
 (cond (iEq a1 10)
 (some (iEq a0 84, ()))
 (some (cond (iLe 48 a0) (iLe a0 57) false, ()))))
noncomputable def cfg56 : Cfg := ⟨ttab, gtab, [], []⟩
theorem eqn56 (x : Int × Int × Unit) : xfun cfg56 x56 21 [.t 4] [(.int .u8), (.int .i64)] [.bool] x = m56 x.1 x.2.1 := by kernel_rfl
noncomputable def i56 : PI := ⟨56, [(.int .u8), (.int .i64)], [.bool], fun (x : Int × Int × Unit) => m56 x.1 x.2.1⟩
theorem oki56 : POk Tryd.prog (gx gtab) i56 := pok mixed (cfg_nil _ _ : CfgOk _ (cfg56)) F56 (eqn56)
/- 57 treaty/calendar.number -/
def r57_0 : List Ins := [qI 2 (.mov (kI 0))]
def r57_1 : List Ins := [qI 3 (.mov (kI 0))]
def r57_2 : List Ins := [qI 5 (.mov 0), qI 6 (.slen 5), qI 7 (.mov (kI 0))]
def r57_3 : List Ins := [qI 8 (.bin .lss 7 6)]
def r57_4 : List Ins := [qI 9 (.mov 7), qI 4 (.mov 9)]
def r57_5 : List Ins := [qI 10 (.mov 3), qI 11 (.bin .mul 10 (kI 10)), qI 12 (.mov 0), qI 13 (.mov 4), qI 14 (.idx 12 13), qI 15 (.bin .sub 14 (.k (.int .u8 48))), qI 16 (.conv .i64 15), qI 17 (.bin .add 11 16), qI 3 (.mov 17)]
def r57_6 : List Ins := [qI 18 (.bin .add 7 (kI 1)), qI 7 (.mov 18)]
def r57_7 : List Ins := [qI 19 (.mov 3), qI 2 (.mov 19)]
def x57 : XC := (.seq (.ops false r57_0) (.seq (.ops false r57_1) (.seq (.seq (.ops false r57_2) (.block 0 (.loop [] ⟨20, [(0, .str), (3, (.int .i64)), (6, (.int .i64)), (7, (.int .i64))], [], []⟩ (.seq (.ops false r57_3) (.seq (.cond (.t 8) .skip (.exit 0)) (.seq (.block 1 (.seq (.ops false r57_4) (.ops false r57_5))) (.ops false r57_6))))))) (.seq (.ops false r57_7) .ret))))
theorem F57 : Fn Tryd.prog 57 20 x57.er [.t 2] := ⟨Tryd.f57, hcl, Tryd.func57, by kernel_rfl, by kernel_rfl, by kernel_rfl, by kernel_rfl⟩
noncomputable def m57 (a0 : ByteArray) : Option (Int × Unit) :=
 loopO (S := ByteArray × Int × Int × Int × Unit) (R := Int × Unit) (fun s42 =>
 cond (iLt s42.2.2.2.1 s42.2.2.1)
 (cond (bnd s42.2.2.2.1 (sLen s42.1))
 (some (.inl (s42.1, iAdd .i64 (iMul .i64 s42.2.1 10) (IntKind.wrap .i64 (iSub .u8 (sAt s42.1 s42.2.2.2.1) 48)), s42.2.2.1, iAdd .i64 s42.2.2.2.1 1, ()))) none)
 (some (.inr (s42.2.1, ()))))
 (a0, 0, sLen a0, 0, ())
noncomputable def cfg57 : Cfg := ⟨ttab, gtab, [], []⟩
theorem eqn57 (x : ByteArray × Unit) : xfun cfg57 x57 20 [.t 2] [.str] [(.int .i64)] x = m57 x.1 := by kernel_rfl
noncomputable def i57 : PI := ⟨57, [.str], [(.int .i64)], fun (x : ByteArray × Unit) => m57 x.1⟩
theorem oki57 : POk Tryd.prog (gx gtab) i57 := pok mixed (cfg_nil _ _ : CfgOk _ (cfg57)) F57 (eqn57)
/- 65 treaty/calendar.length -/
def r65_0 : List Ins := [qI 4 (.mov (kI 0))]
def r65_1 : List Ins := [qI 5 (.mov 1), qI 6 (.bin .eql 5 (kI 2)), qI 7 (.mov 6), qT 8 7 (.mov 0), qT 9 7 (.bin .rem 8 (kI 4)), qT 10 7 (.bin .eql 9 (kI 0)), qI 11 (.pick 7 10 (.k (.bool false)))]
def r65_2 : List Ins := [qI 4 (.mov (kI 29))]
def r65_3 : List Ins := [qI 12 (.mov 1), qI 13 (.bin .sub 12 (kI 1)), qI 14 (.aaddr 1 1 12 (.g 0) 13), qI 15 (.load 1 false 14), qI 4 (.mov 15)]
def x65 : XC := (.seq (.ops false r65_0) (.seq (.seq (.ops false r65_1) (.cond (.t 11) (.seq (.ops false r65_2) .ret) .skip)) (.seq (.ops false r65_3) .ret)))
theorem F65 : Fn Tryd.prog 65 16 x65.er [.t 4] := ⟨Tryd.f65, hcl, Tryd.func65, by kernel_rfl, by kernel_rfl, by kernel_rfl, by kernel_rfl⟩
noncomputable def m65 (a0 : Int) (a1 : Int) : Option (Int × Unit) :=
 cond (or (iNe 4 0) (not (bEq (iEq a1 2) true)))
 (cond (cond (iEq a1 2) (iEq (iRem a0 4) 0) false)
 (some (29, ()))
 (cond (bnd (iSub .i64 a1 1) ((12 : Nat) : Int))
 (some (atI ([31, 28, 31, 30, 31, 30, 31, 31, 30, 31, 30, 31] : List Int) (iSub .i64 a1 1) 0, ())) none)) none
noncomputable def cfg65 : Cfg := ⟨ttab, gtab, [], []⟩
theorem eqn65 (x : Int × Int × Unit) : xfun cfg65 x65 16 [.t 4] [(.int .i64), (.int .i64)] [(.int .i64)] x = m65 x.1 x.2.1 := by kernel_rfl
noncomputable def i65 : PI := ⟨65, [(.int .i64), (.int .i64)], [(.int .i64)], fun (x : Int × Int × Unit) => m65 x.1 x.2.1⟩
theorem oki65 : POk Tryd.prog (gx gtab) i65 := pok mixed (cfg_nil _ _ : CfgOk _ (cfg65)) F65 (eqn65)
/- 66 treaty/calendar.yearLength -/
def r66_0 : List Ins := [qI 2 (.mov (kI 0))]
def r66_1 : List Ins := [qI 3 (.mov 0), qI 4 (.bin .rem 3 (kI 4)), qI 5 (.bin .eql 4 (kI 0))]
def r66_2 : List Ins := [qI 2 (.mov (kI 366))]
def r66_3 : List Ins := [qI 2 (.mov (kI 365))]
def x66 : XC := (.seq (.ops false r66_0) (.seq (.seq (.ops false r66_1) (.cond (.t 5) (.seq (.ops false r66_2) .ret) .skip)) (.seq (.ops false r66_3) .ret)))
theorem F66 : Fn Tryd.prog 66 6 x66.er [.t 2] := ⟨Tryd.f66, hcl, Tryd.func66, by kernel_rfl, by kernel_rfl, by kernel_rfl, by kernel_rfl⟩
noncomputable def m66 (a0 : Int) : Option (Int × Unit) :=
 cond (iNe 4 0)
 (cond (iEq (iRem a0 4) 0)
 (some (366, ()))
 (some (365, ()))) none
noncomputable def cfg66 : Cfg := ⟨ttab, gtab, [], []⟩
theorem eqn66 (x : Int × Unit) : xfun cfg66 x66 6 [.t 2] [(.int .i64)] [(.int .i64)] x = m66 x.1 := by kernel_rfl
noncomputable def i66 : PI := ⟨66, [(.int .i64)], [(.int .i64)], fun (x : Int × Unit) => m66 x.1⟩
theorem oki66 : POk Tryd.prog (gx gtab) i66 := pok mixed (cfg_nil _ _ : CfgOk _ (cfg66)) F66 (eqn66)
/- 58 treaty/calendar.Hour -/
def r58_0 : List Ins := [qI 2 (.box 74 3 0), qI 4 (.mov (kI 0)), qI 5 (.mov (kI 0))]
def r58_1 : List Ins := [qI 9 (.faddr 0 2), qI 10 (.load 1 false 9), qI 11 (.bin .lss 10 (kI 2000)), qI 12 (.mov 11), qF 13 12 (.faddr 0 2), qF 14 12 (.load 1 false 13), qF 15 12 (.bin .gtr 14 (kI 2099)), qI 16 (.pick 12 (.k (.bool true)) 15), qI 17 (.mov 16), qF 18 17 (.faddr 1 2), qF 19 17 (.load 1 false 18), qF 20 17 (.bin .lss 19 (kI 1)), qI 21 (.pick 17 (.k (.bool true)) 20), qI 22 (.mov 21), qF 23 22 (.faddr 1 2), qF 24 22 (.load 1 false 23), qF 25 22 (.bin .gtr 24 (kI 12)), qI 26 (.pick 22 (.k (.bool true)) 25), qI 27 (.mov 26), qF 28 27 (.faddr 2 2), qF 29 27 (.load 1 false 28), qF 30 27 (.bin .lss 29 (kI 1)), qI 31 (.pick 27 (.k (.bool true)) 30), qI 32 (.mov 31), qF 33 32 (.faddr 2 2), qF 34 32 (.load 1 false 33), qF 35 32 (.faddr 0 2), qF 36 32 (.load 1 false 35), qF 37 32 (.faddr 1 2), qF 38 32 (.load 1 false 37), qF 39 32 (.call (.fn 65) [36, 38]), qF 40 32 (.bin .gtr 34 39), qI 41 (.pick 32 (.k (.bool true)) 40)]
def r58_2 : List Ins := [qI 4 (.mov (kI 0)), qI 5 (.mov (kI 1))]
def r58_3 : List Ins := [qI 42 (.mov 1), qI 43 (.bin .lss 42 (kI 0)), qI 44 (.mov 43), qF 45 44 (.mov 1), qF 46 44 (.bin .geq 45 (kI 24)), qI 47 (.pick 44 (.k (.bool true)) 46)]
def r58_4 : List Ins := [qI 4 (.mov (kI 0)), qI 5 (.mov (kI 1))]
def r58_5 : List Ins := [qI 48 (.faddr 2 2), qI 49 (.load 1 false 48), qI 50 (.bin .sub 49 (kI 1)), qI 6 (.mov 50)]
def r58_6 : List Ins := [qI 7 (.mov (kI 2000))]
def r58_7 : List Ins := [qI 51 (.mov 7), qI 52 (.faddr 0 2), qI 53 (.load 1 false 52), qI 54 (.bin .lss 51 53)]
def r58_8 : List Ins := [qI 57 (.mov 6), qI 58 (.mov 7), qI 59 (.call (.fn 66) [58]), qI 60 (.bin .add 57 59), qI 6 (.mov 60)]
def r58_9 : List Ins := [qI 55 (.mov 7), qI 56 (.bin .add 55 (kI 1)), qI 7 (.mov 56)]
def r58_10 : List Ins := [qI 8 (.mov (kI 1))]
def r58_11 : List Ins := [qI 61 (.mov 8), qI 62 (.faddr 1 2), qI 63 (.load 1 false 62), qI 64 (.bin .lss 61 63)]
def r58_12 : List Ins := [qI 67 (.mov 6), qI 68 (.faddr 0 2), qI 69 (.load 1 false 68), qI 70 (.mov 8), qI 71 (.call (.fn 65) [69, 70]), qI 72 (.bin .add 67 71), qI 6 (.mov 72)]
def r58_13 : List Ins := [qI 65 (.mov 8), qI 66 (.bin .add 65 (kI 1)), qI 8 (.mov 66)]
def r58_14 : List Ins := [qI 73 (.mov 6), qI 74 (.bin .mul 73 (kI 24)), qI 75 (.mov 1), qI 76 (.bin .add 74 75), qI 4 (.mov 76), qI 5 (.mov (kI 0))]
def x58 : XC := (.seq (.ops false r58_0) (.seq (.seq (.ops true r58_1) (.cond (.t 41) (.seq (.ops false r58_2) .ret) .skip)) (.seq (.seq (.ops false r58_3) (.cond (.t 47) (.seq (.ops false r58_4) .ret) .skip)) (.seq (.ops false r58_5) (.seq (.seq (.ops false r58_6) (.block 0 (.loop [] ⟨77, [(1, (.int .i64)), (6, (.int .i64)), (7, (.int .i64))], [(2, .ptr 0 0 0)], [.box 74 [.d (.int .i64), .d (.int .i64), .d (.int .i64)]]⟩ (.seq (.seq (.ops false r58_7) (.cond (.t 54) .skip (.exit 0))) (.seq (.block 1 (.ops false r58_8)) (.ops false r58_9)))))) (.seq (.seq (.ops false r58_10) (.block 2 (.loop [] ⟨77, [(1, (.int .i64)), (6, (.int .i64)), (8, (.int .i64))], [(2, .ptr 0 0 0)], [.box 74 [.d (.int .i64), .d (.int .i64), .d (.int .i64)]]⟩ (.seq (.seq (.ops false r58_11) (.cond (.t 64) .skip (.exit 2))) (.seq (.block 3 (.ops false r58_12)) (.ops false r58_13)))))) (.seq (.ops false r58_14) .ret)))))))
theorem F58 : Fn Tryd.prog 58 77 x58.er [.t 4, .t 5] := ⟨Tryd.f58, hcl, Tryd.func58, by kernel_rfl, by kernel_rfl, by kernel_rfl, by kernel_rfl⟩
noncomputable def m58 (a0 : DS2) (a1 : Int) : Option (Int × Int × Unit) :=
 cond (cond (cond (cond (cond (iLt a0.1 2000) true (iLt 2099 a0.1)) true (iLt a0.2.1 1)) true (iLt 12 a0.2.1)) true (iLt a0.2.2.1 1))
 (some (0, 1, ()))
 ((m65 a0.1 a0.2.1).bind fun y52 =>
 cond (iLt y52.1 a0.2.2.1)
 (some (0, 1, ()))
 (cond (cond (iLt a1 0) true (iLe 24 a1))
 (some (0, 1, ()))
 (loopO (S := Int × Int × Int × Int × Int × Int × Unit) (R := Int × Int × Unit) (fun s53 =>
 cond (iLt s53.2.2.1 s53.2.2.2.1)
 ((m66 s53.2.2.1).bind fun y54 =>
 some (.inl (s53.1, iAdd .i64 s53.2.1 y54.1, iAdd .i64 s53.2.2.1 1, s53.2.2.2.1, s53.2.2.2.2.1, s53.2.2.2.2.2.1, ())))
 (Option.map Sum.inr (loopO (S := Int × Int × Int × Int × Int × Int × Unit) (R := Int × Int × Unit) (fun s55 =>
 cond (iLt s55.2.2.1 s55.2.2.2.2.1)
 ((m65 s55.2.2.2.1 s55.2.2.1).bind fun y56 =>
 some (.inl (s55.1, iAdd .i64 s55.2.1 y56.1, iAdd .i64 s55.2.2.1 1, s55.2.2.2.1, s55.2.2.2.2.1, s55.2.2.2.2.2.1, ())))
 (some (.inr (iAdd .i64 (iMul .i64 s55.2.1 24) s55.1, 0, ()))))
 (s53.1, s53.2.1, 1, s53.2.2.2.1, s53.2.2.2.2.1, s53.2.2.2.2.2.1, ()))))
 (a1, iSub .i64 a0.2.2.1 1, 2000, a0.1, a0.2.1, a0.2.2.1, ()))))
noncomputable def cfg58 : Cfg := ⟨ttab, gtab, [i65, i66], []⟩
theorem eqn58 (x : DS2 × Int × Unit) : xfun cfg58 x58 77 [.t 4, .t 5] [tS2, (.int .i64)] [(.int .i64), (.int .i64)] x = m58 x.1 x.2.1 := by kernel_rfl
noncomputable def i58 : PI := ⟨58, [tS2, (.int .i64)], [(.int .i64), (.int .i64)], fun (x : DS2 × Int × Unit) => m58 x.1 x.2.1⟩
theorem oki58 : POk Tryd.prog (gx gtab) i58 := pok mixed (cfg_p oki65 (cfg_p oki66 (cfg_nil _ _)) : CfgOk _ (cfg58)) F58 (eqn58)
/- 49 treaty/calendar.Parse -/
def r49_0 : List Ins := [qI 2 (.mov (kI 0)), qI 3 (.mov (kI 0))]
def r49_1 : List Ins := [qI 6 (.mov 0), qI 7 (.slen 6), qI 8 (.bin .neq 7 (kI 10)), qI 9 (.mov 8), qT 10 9 (.mov 0), qT 11 9 (.slen 10), qT 12 9 (.bin .neq 11 (kI 13)), qI 13 (.pick 9 12 (.k (.bool false)))]
def r49_2 : List Ins := [qI 2 (.mov (kI 0)), qI 3 (.mov (kI 5))]
def r49_3 : List Ins := [qI 14 (.mov 0), qI 15 (.slen 14), qI 16 (.mov (kI 0))]
def r49_4 : List Ins := [qI 17 (.bin .lss 16 15)]
def r49_5 : List Ins := [qI 18 (.mov 16), qI 4 (.mov 18)]
def r49_6 : List Ins := [qI 19 (.mov 0), qI 20 (.mov 4), qI 21 (.idx 19 20), qI 22 (.mov 4), qI 23 (.call (.fn 56) [21, 22]), qI 24 (.un .not 23)]
def r49_7 : List Ins := [qI 2 (.mov (kI 0)), qI 3 (.mov (kI 5))]
def r49_8 : List Ins := [qI 25 (.bin .add 16 (kI 1)), qI 16 (.mov 25)]
def r49_9 : List Ins := [qI 5 (.mov (kI 0))]
def r49_10 : List Ins := [qI 26 (.mov 0), qI 27 (.slen 26), qI 28 (.bin .eql 27 (kI 13))]
def r49_11 : List Ins := [qI 29 (.mov 0), qI 30 (.sslice 29 (some (kI 11)) none), qI 31 (.call (.fn 57) [30]), qI 5 (.mov 31)]
def r49_12 : List Ins := [qI 32 (.mov 0), qI 33 (.sslice 32 none (some (kI 4))), qI 34 (.call (.fn 57) [33]), qI 35 (.mov 0), qI 36 (.sslice 35 (some (kI 5)) (some (kI 7))), qI 37 (.call (.fn 57) [36]), qI 38 (.mov 0), qI 39 (.sslice 38 (some (kI 8)) (some (kI 10))), qI 40 (.call (.fn 57) [39]), qI 41 (.build [.int .i64 0, .int .i64 0, .int .i64 0] [(0, 1, 34), (1, 1, 37), (2, 1, 40)]), qI 42 (.mov 5), qI 43 (.call (.fn 58) [41, 42]), qI 44 (.ext 0 43), qI 45 (.ext 1 43), qI 2 (.mov 44), qI 3 (.mov 45)]
def x49 : XC := (.seq (.ops false r49_0) (.seq (.seq (.ops false r49_1) (.cond (.t 13) (.seq (.ops false r49_2) .ret) .skip)) (.seq (.seq (.ops false r49_3) (.block 0 (.loop [] ⟨46, [(0, .str), (15, (.int .i64)), (16, (.int .i64))], [], []⟩ (.seq (.ops false r49_4) (.seq (.cond (.t 17) .skip (.exit 0)) (.seq (.block 1 (.seq (.ops false r49_5) (.seq (.ops false r49_6) (.cond (.t 24) (.seq (.ops false r49_7) .ret) .skip)))) (.ops false r49_8))))))) (.seq (.ops false r49_9) (.seq (.seq (.ops false r49_10) (.cond (.t 28) (.ops false r49_11) .skip)) (.seq (.ops true r49_12) .ret))))))
theorem F49 : Fn Tryd.prog 49 46 x49.er [.t 2, .t 3] := ⟨Tryd.f49, hcl, Tryd.func49, by kernel_rfl, by kernel_rfl, by kernel_rfl, by kernel_rfl⟩
noncomputable def m49 (a0 : ByteArray) : Option (Int × Int × Unit) :=
 cond (cond (iNe (sLen a0) 10) (iNe (sLen a0) 13) false)
 (some (0, 5, ()))
 (loopO (S := ByteArray × Int × Int × Unit) (R := Int × Int × Unit) (fun s62 =>
 cond (iLt s62.2.2.1 s62.2.1)
 (cond (bnd s62.2.2.1 (sLen s62.1))
 ((m56 (sAt s62.1 s62.2.2.1) s62.2.2.1).bind fun y63 =>
 cond (not y63.1)
 (some (.inr (0, 5, ())))
 (some (.inl (s62.1, s62.2.1, iAdd .i64 s62.2.2.1 1, ())))) none)
 (Option.map Sum.inr (cond (iEq (sLen s62.1) 13)
 (cond (cutOk 11 ((ByteArray.size s62.1 : Nat) : Int) (ByteArray.size s62.1))
 ((m57 (cutS 11 ((ByteArray.size s62.1 : Nat) : Int) s62.1)).bind fun y64 =>
 cond (cutOk 0 4 (ByteArray.size s62.1))
 ((m57 (cutS 0 4 s62.1)).bind fun y65 =>
 cond (cutOk 5 7 (ByteArray.size s62.1))
 ((m57 (cutS 5 7 s62.1)).bind fun y66 =>
 cond (cutOk 8 10 (ByteArray.size s62.1))
 ((m57 (cutS 8 10 s62.1)).bind fun y67 =>
 (m58 (y65.1, y66.1, y67.1, ()) y64.1).bind fun y68 =>
 some (y68.1, y68.2.1, ())) none) none) none) none)
 (cond (cutOk 0 4 (ByteArray.size s62.1))
 ((m57 (cutS 0 4 s62.1)).bind fun y69 =>
 cond (cutOk 5 7 (ByteArray.size s62.1))
 ((m57 (cutS 5 7 s62.1)).bind fun y70 =>
 cond (cutOk 8 10 (ByteArray.size s62.1))
 ((m57 (cutS 8 10 s62.1)).bind fun y71 =>
 (m58 (y69.1, y70.1, y71.1, ()) 0).bind fun y72 =>
 some (y72.1, y72.2.1, ())) none) none) none))))
 (a0, sLen a0, 0, ()))
noncomputable def cfg49 : Cfg := ⟨ttab, gtab, [i56, i57, i58], []⟩
theorem eqn49 (x : ByteArray × Unit) : xfun cfg49 x49 46 [.t 2, .t 3] [.str] [(.int .i64), (.int .i64)] x = m49 x.1 := by kernel_rfl
noncomputable def i49 : PI := ⟨49, [.str], [(.int .i64), (.int .i64)], fun (x : ByteArray × Unit) => m49 x.1⟩
theorem oki49 : POk Tryd.prog (gx gtab) i49 := pok mixed (cfg_p oki56 (cfg_p oki57 (cfg_p oki58 (cfg_nil _ _))) : CfgOk _ (cfg49)) F49 (eqn49)
/- 50 treaty/lexer.mark -/
def r50_0 : List Ins := [qI 2 (.mov (.k (.bool false)))]
def r50_1 : List Ins := [qI 3 (.mov 0)]
def r50_2 : List Ins := [qI 5 (.bin .eql 3 (.k (.int .u8 59))), qI 4 (.mov 5)]
def r50_3 : List Ins := [qI 6 (.bin .eql 3 (.k (.int .u8 58))), qI 4 (.mov 6)]
def r50_4 : List Ins := [qI 7 (.bin .eql 3 (.k (.int .u8 44))), qI 4 (.mov 7)]
def r50_5 : List Ins := [qI 8 (.bin .eql 3 (.k (.int .u8 40))), qI 4 (.mov 8)]
def r50_6 : List Ins := [qI 9 (.bin .eql 3 (.k (.int .u8 41))), qI 4 (.mov 9)]
def r50_7 : List Ins := [qI 2 (.mov (.k (.bool true)))]
def r50_8 : List Ins := [qI 2 (.mov (.k (.bool false)))]
def x50 : XC := (.seq (.ops false r50_0) (.seq (.seq (.ops false r50_1) (.block 0 (.seq (.seq (.ops false r50_2) (.cond (.t 4) .skip (.seq (.ops false r50_3) (.cond (.t 4) .skip (.seq (.ops false r50_4) (.cond (.t 4) .skip (.seq (.ops false r50_5) (.cond (.t 4) .skip (.ops false r50_6))))))))) (.cond (.t 4) (.seq (.ops false r50_7) .ret) .skip)))) (.seq (.ops false r50_8) .ret)))
theorem F50 : Fn Tryd.prog 50 10 x50.er [.t 2] := ⟨Tryd.f50, hcl, Tryd.func50, by kernel_rfl, by kernel_rfl, by kernel_rfl, by kernel_rfl⟩
noncomputable def m50 (a0 : Int) : Option (Bool × Unit) :=
 cond (iEq a0 59)
 (some (true, ()))
 (cond (iEq a0 58)
 (some (true, ()))
 (cond (iEq a0 44)
 (some (true, ()))
 (cond (iEq a0 40)
 (some (true, ()))
 (cond (iEq a0 41)
 (some (true, ()))
 (some (false, ()))))))
noncomputable def cfg50 : Cfg := ⟨ttab, gtab, [], []⟩
theorem eqn50 (x : Int × Unit) : xfun cfg50 x50 10 [.t 2] [(.int .u8)] [.bool] x = m50 x.1 := by kernel_rfl
noncomputable def i50 : PI := ⟨50, [(.int .u8)], [.bool], fun (x : Int × Unit) => m50 x.1⟩
theorem oki50 : POk Tryd.prog (gx gtab) i50 := pok mixed (cfg_nil _ _ : CfgOk _ (cfg50)) F50 (eqn50)
/- 31 treaty/lexer.token -/
def r31_0 : List Ins := [qI 4 (.alloc 41 (.agg #[.int .i64 0, .string (bs []), .int .i64 0, .int .i64 0])), qI 5 (.mov (kI 0)), qI 6 (.mov (kI 0))]
def r31_1 : List Ins := [qI 15 (.mov 0), qI 16 (.mov 1), qI 17 (.idx 15 16), qI 7 (.mov 17)]
def r31_2 : List Ins := [qI 19 (.mov 7), qI 20 (.call (.fn 32) [19]), qI 18 (.mov 20)]
def r31_3 : List Ins := [qI 21 (.mov 0), qI 22 (.mov 1), qI 23 (.call (.fn 29) [21, 22, (.fn 39)]), qI 8 (.mov 23)]
def r31_4 : List Ins := [qI 24 (.mov 0), qI 25 (.mov 1), qI 26 (.mov 8), qI 27 (.sslice 24 (some 25) (some 26)), qI 28 (.call (.fn 23) [27]), qI 29 (.un .not 28)]
def r31_5 : List Ins := [qI 30 (.build [.int .i64 0, .string (bs []), .int .i64 0, .int .i64 0] []), qN (.store 4 4 30), qI 5 (.mov (kI 0)), qI 6 (.mov (kI 6))]
def r31_6 : List Ins := [qI 31 (.mov 0), qI 32 (.mov 1), qI 33 (.mov 8), qI 34 (.sslice 31 (some 32) (some 33)), qI 35 (.mov 1), qI 36 (.build [.int .i64 0, .string (bs []), .int .i64 0, .int .i64 0] [(0, 1, (kI 1)), (1, 1, 34), (3, 1, 35)]), qI 37 (.mov 8), qN (.store 4 4 36), qI 5 (.mov 37), qI 6 (.mov (kI 0))]
def r31_7 : List Ins := [qI 39 (.mov 7), qI 40 (.call (.fn 46) [39]), qI 41 (.mov 40), qF 42 41 (.mov 7), qF 43 41 (.bin .eql 42 (.k (.int .u8 45))), qI 44 (.pick 41 (.k (.bool true)) 43), qI 38 (.mov 44)]
def r31_8 : List Ins := [qI 45 (.mov 0), qI 46 (.mov 1), qI 47 (.bin .add 46 (kI 1)), qI 48 (.call (.fn 29) [45, 47, (.fn 46)]), qI 9 (.mov 48)]
def r31_9 : List Ins := [qI 50 (.mov 0), qI 51 (.mov 1), qI 52 (.mov 9), qI 53 (.sslice 50 (some 51) (some 52)), qI 54 (.call (.fn 47) [53]), qI 49 (.mov 54), qI 55 (.ext 0 49), qI 56 (.ext 1 49), qI 10 (.mov 55), qI 11 (.mov 56)]
def r31_10 : List Ins := [qI 57 (.mov 11), qI 58 (.bin .neq 57 (kI 0))]
def r31_11 : List Ins := [qI 59 (.build [.int .i64 0, .string (bs []), .int .i64 0, .int .i64 0] []), qI 60 (.mov 11), qN (.store 4 4 59), qI 5 (.mov (kI 0)), qI 6 (.mov 60)]
def r31_12 : List Ins := [qI 61 (.mov 10), qI 62 (.mov 1), qI 63 (.build [.int .i64 0, .string (bs []), .int .i64 0, .int .i64 0] [(0, 1, (kI 2)), (2, 1, 61), (3, 1, 62)]), qI 64 (.mov 9), qN (.store 4 4 63), qI 5 (.mov 64), qI 6 (.mov (kI 0))]
def r31_13 : List Ins := [qI 66 (.mov 7), qI 67 (.bin .eql 66 (.k (.int .u8 64))), qI 65 (.mov 67)]
def r31_14 : List Ins := [qI 68 (.mov 0), qI 69 (.mov 1), qI 70 (.bin .add 69 (kI 1)), qI 71 (.call (.fn 29) [68, 70, (.fn 48)]), qI 12 (.mov 71)]
def r31_15 : List Ins := [qI 73 (.mov 0), qI 74 (.mov 1), qI 75 (.bin .add 74 (kI 1)), qI 76 (.mov 12), qI 77 (.sslice 73 (some 75) (some 76)), qI 78 (.call (.fn 49) [77]), qI 72 (.mov 78), qI 79 (.ext 0 72), qI 80 (.ext 1 72), qI 13 (.mov 79), qI 14 (.mov 80)]
def r31_16 : List Ins := [qI 81 (.mov 14), qI 82 (.bin .neq 81 (kI 0))]
def r31_17 : List Ins := [qI 83 (.build [.int .i64 0, .string (bs []), .int .i64 0, .int .i64 0] []), qI 84 (.mov 14), qN (.store 4 4 83), qI 5 (.mov (kI 0)), qI 6 (.mov 84)]
def r31_18 : List Ins := [qI 85 (.mov 13), qI 86 (.mov 1), qI 87 (.build [.int .i64 0, .string (bs []), .int .i64 0, .int .i64 0] [(0, 1, (kI 3)), (2, 1, 85), (3, 1, 86)]), qI 88 (.mov 12), qN (.store 4 4 87), qI 5 (.mov 88), qI 6 (.mov (kI 0))]
def r31_19 : List Ins := [qI 90 (.mov 7), qI 91 (.call (.fn 50) [90]), qI 89 (.mov 91)]
def r31_20 : List Ins := [qI 92 (.mov 0), qI 93 (.mov 1), qI 94 (.mov 1), qI 95 (.bin .add 94 (kI 1)), qI 96 (.sslice 92 (some 93) (some 95)), qI 97 (.mov 1), qI 98 (.build [.int .i64 0, .string (bs []), .int .i64 0, .int .i64 0] [(0, 1, (kI 4)), (1, 1, 96), (3, 1, 97)]), qI 99 (.mov 1), qI 100 (.bin .add 99 (kI 1)), qN (.store 4 4 98), qI 5 (.mov 100), qI 6 (.mov (kI 0))]
def r31_21 : List Ins := [qI 101 (.build [.int .i64 0, .string (bs []), .int .i64 0, .int .i64 0] []), qN (.store 4 4 101), qI 5 (.mov (kI 0)), qI 6 (.mov (kI 5))]
def x31 : XC := (.seq (.ops false r31_0) (.seq (.ops false r31_1) (.seq (.block 0 (.seq (.ops false r31_2) (.cond (.t 18) (.seq (.ops false r31_3) (.seq (.seq (.ops false r31_4) (.cond (.t 29) (.seq (.ops false r31_5) .ret) .skip)) (.seq (.ops false r31_6) .ret))) (.seq (.ops false r31_7) (.cond (.t 38) (.seq (.ops false r31_8) (.seq (.ops false r31_9) (.seq (.seq (.ops false r31_10) (.cond (.t 58) (.seq (.ops false r31_11) .ret) .skip)) (.seq (.ops false r31_12) .ret)))) (.seq (.ops false r31_13) (.cond (.t 65) (.seq (.ops false r31_14) (.seq (.ops false r31_15) (.seq (.seq (.ops false r31_16) (.cond (.t 82) (.seq (.ops false r31_17) .ret) .skip)) (.seq (.ops false r31_18) .ret)))) (.seq (.ops false r31_19) (.cond (.t 89) (.seq (.ops false r31_20) .ret) .skip))))))))) (.seq (.ops false r31_21) .ret))))
theorem F31 : Fn Tryd.prog 31 102 x31.er [.c 4 4 true, .t 5, .t 6] := ⟨Tryd.f31, hcl, Tryd.func31, by kernel_rfl, by kernel_rfl, by kernel_rfl, by kernel_rfl⟩
noncomputable def m31 (a0 : ByteArray) (a1 : Int) : Option (DS0 × Int × Int × Unit) :=
 cond (bnd a1 (sLen a0))
 ((m32 (sAt a0 a1)).bind fun y7 =>
 cond y7.1
 ((m29_1 a0 a1 ()).bind fun y14 =>
 cond (cutOk a1 y14.1 (ByteArray.size a0))
 ((m23 (cutS a1 y14.1 a0)).bind fun y17 =>
 cond (not y17.1)
 (some ((0, (bs []), 0, 0, ()), 0, 6, ()))
 (cond (cutOk a1 y14.1 (ByteArray.size a0))
 (some ((1, cutS a1 y14.1 a0, 0, a1, ()), y14.1, 0, ())) none)) none)
 ((m46 (sAt a0 a1)).bind fun y18 =>
 cond (cond y18.1 true (iEq (sAt a0 a1) 45))
 ((m29_2 a0 (iAdd .i64 a1 1) ()).bind fun y23 =>
 cond (cutOk a1 y23.1 (ByteArray.size a0))
 ((m47 (cutS a1 y23.1 a0)).bind fun y32 =>
 cond (iNe y32.2.1 0)
 (some ((0, (bs []), 0, 0, ()), 0, y32.2.1, ()))
 (some ((2, (bs []), y32.1, a1, ()), y23.1, 0, ()))) none)
 (cond (iEq (sAt a0 a1) 64)
 ((m29_3 a0 (iAdd .i64 a1 1) ()).bind fun y38 =>
 cond (cutOk (iAdd .i64 a1 1) y38.1 (ByteArray.size a0))
 ((m49 (cutS (iAdd .i64 a1 1) y38.1 a0)).bind fun y73 =>
 cond (iNe y73.2.1 0)
 (some ((0, (bs []), 0, 0, ()), 0, y73.2.1, ()))
 (some ((3, (bs []), y73.1, a1, ()), y38.1, 0, ()))) none)
 ((m50 (sAt a0 a1)).bind fun y74 =>
 cond y74.1
 (cond (cutOk a1 (iAdd .i64 a1 1) (ByteArray.size a0))
 (some ((4, cutS a1 (iAdd .i64 a1 1) a0, 0, a1, ()), iAdd .i64 a1 1, 0, ())) none)
 (some ((0, (bs []), 0, 0, ()), 0, 5, ())))))) none
noncomputable def cfg31 : Cfg := ⟨ttab, gtab, [i23, i29_1, i29_2, i29_3, i32, i46, i47, i49, i50], []⟩
theorem eqn31 (x : ByteArray × Int × Unit) : xfun cfg31 x31 102 [.c 4 4 true, .t 5, .t 6] [.str, (.int .i64)] [tS0, (.int .i64), (.int .i64)] x = m31 x.1 x.2.1 := by kernel_rfl
noncomputable def i31 : PI := ⟨31, [.str, (.int .i64)], [tS0, (.int .i64), (.int .i64)], fun (x : ByteArray × Int × Unit) => m31 x.1 x.2.1⟩
theorem oki31 : POk Tryd.prog (gx gtab) i31 := pok mixed (cfg_p oki23 (cfg_p oki29_1 (cfg_p oki29_2 (cfg_p oki29_3 (cfg_p oki32 (cfg_p oki46 (cfg_p oki47 (cfg_p oki49 (cfg_p oki50 (cfg_nil _ _))))))))) : CfgOk _ (cfg31)) F31 (eqn31)
/- 18 treaty/lexer.Scan -/
def r18_0 : List Ins := [qI 2 (.mov kN), qI 3 (.mov (kI 0)), qI 4 (.mov (kI 0))]
def r18_1 : List Ins := [qI 10 (.mov 0), qI 11 (.slen 10), qI 12 (.bin .gtr 11 (kI 16384))]
def r18_2 : List Ins := [qI 2 (.mov kN), qI 3 (.mov (kI 0)), qI 4 (.mov (kI 4))]
def r18_3 : List Ins := [qI 5 (.mov kN)]
def r18_4 : List Ins := [qI 6 (.mov (kI 0))]
def r18_5 : List Ins := [qI 13 (.mov 6), qI 14 (.mov 0), qI 15 (.slen 14), qI 16 (.bin .lss 13 15)]
def r18_6 : List Ins := [qI 17 (.mov 0), qI 18 (.mov 6), qI 19 (.idx 17 18)]
def r18_7 : List Ins := [qI 21 (.bin .eql 19 (.k (.int .u8 32))), qI 20 (.mov 21)]
def r18_8 : List Ins := [qI 22 (.bin .eql 19 (.k (.int .u8 10))), qI 20 (.mov 22)]
def r18_9 : List Ins := [qI 23 (.mov 6), qI 24 (.bin .add 23 (kI 1)), qI 6 (.mov 24)]
def r18_10 : List Ins := [qI 26 (.bin .eql 19 (.k (.int .u8 35))), qI 25 (.mov 26)]
def r18_11 : List Ins := [qI 27 (.mov 0), qI 28 (.mov 6), qI 29 (.call (.fn 29) [27, 28, (.fn 30)]), qI 6 (.mov 29)]
def r18_12 : List Ins := [qI 31 (.mov 0), qI 32 (.mov 6), qI 33 (.call (.fn 31) [31, 32]), qI 30 (.mov 33), qI 34 (.ext 0 30), qI 35 (.ext 1 30), qI 36 (.ext 2 30), qI 7 (.alloc 41 (.agg #[.int .i64 0, .string (bs []), .int .i64 0, .int .i64 0])), qN (.store 4 7 34), qI 8 (.mov 35), qI 9 (.mov 36)]
def r18_13 : List Ins := [qI 37 (.mov 9), qI 38 (.bin .neq 37 (kI 0))]
def r18_14 : List Ins := [qI 39 (.mov 6), qI 40 (.mov 9), qI 2 (.mov kN), qI 3 (.mov 39), qI 4 (.mov 40)]
def r18_15 : List Ins := [qI 41 (.mov 5), qI 42 (.len 41), qI 43 (.bin .eql 42 (kI 4000))]
def r18_16 : List Ins := [qI 44 (.mov 6), qI 2 (.mov kN), qI 3 (.mov 44), qI 4 (.mov (kI 4))]
def r18_17 : List Ins := [qI 45 (.mov 5), qI 46 (.load 4 true 7), qI 47 (.bslice 41 4 [46]), qI 48 (.app 41 4 40 45 47), qI 5 (.mov 48)]
def r18_18 : List Ins := [qI 49 (.mov 8), qI 6 (.mov 49)]
def r18_19 : List Ins := [qI 50 (.faddr 0 7), qI 51 (.load 1 false 50), qI 52 (.bin .eql 51 (kI 2)), qI 53 (.mov 52), qT 54 53 (.mov 6), qT 55 53 (.mov 0), qT 56 53 (.slen 55), qT 57 53 (.bin .lss 54 56), qI 58 (.pick 53 57 (.k (.bool false))), qI 59 (.mov 58), qT 60 59 (.mov 0), qT 61 59 (.mov 6), qT 62 59 (.idx 60 61), qT 63 59 (.call (.fn 32) [62]), qT 64 59 (.mov 63), qF 65 64 (.mov 0), qF 66 64 (.mov 6), qF 67 64 (.idx 65 66), qF 68 64 (.bin .eql 67 (.k (.int .u8 45))), qT 69 59 (.pick 64 (.k (.bool true)) 68), qI 70 (.pick 59 69 (.k (.bool false)))]
def r18_20 : List Ins := [qI 71 (.mov 6), qI 2 (.mov kN), qI 3 (.mov 71), qI 4 (.mov (kI 5))]
def r18_21 : List Ins := [qI 72 (.mov 5), qI 2 (.mov 72), qI 3 (.mov (kI 0)), qI 4 (.mov (kI 0))]
def x18 : XC := (.seq (.ops false r18_0) (.seq (.seq (.ops false r18_1) (.cond (.t 12) (.seq (.ops false r18_2) .ret) .skip)) (.seq (.ops false r18_3) (.seq (.ops false r18_4) (.seq .skip (.seq (.block 0 (.loop [.gh 5 41 tS0] ⟨73, [(0, .str), (6, (.int .i64))], [(5, .row 0)], [.row 41 tS0 false]⟩ (.seq (.seq (.ops false r18_5) (.cond (.t 16) .skip (.exit 0))) (.block 1 (.seq (.seq (.ops false r18_6) (.block 2 (.seq (.seq (.ops false r18_7) (.cond (.t 20) .skip (.ops false r18_8))) (.cond (.t 20) (.seq (.ops false r18_9) (.exit 1)) (.seq (.ops false r18_10) (.cond (.t 25) (.seq (.ops false r18_11) (.exit 1)) .skip)))))) (.seq (.ops false r18_12) (.seq (.seq (.ops false r18_13) (.cond (.t 38) (.seq (.ops false r18_14) .ret) .skip)) (.seq (.seq (.ops false r18_15) (.cond (.t 43) (.seq (.ops false r18_16) .ret) .skip)) (.seq (.ops false r18_17) (.seq (.ops false r18_18) (.seq (.ops false r18_19) (.cond (.t 70) (.seq (.ops false r18_20) .ret) .skip)))))))))))) (.seq (.ops false r18_21) .ret)))))))
theorem F18 : Fn Tryd.prog 18 73 x18.er [.t 2, .t 3, .t 4] := ⟨Tryd.f18, hcl, Tryd.func18, by kernel_rfl, by kernel_rfl, by kernel_rfl, by kernel_rfl⟩
noncomputable def m18 (a0 : ByteArray) : Option ((List DS0) × Int × Int × Unit) :=
 cond (iLt 16384 (sLen a0))
 (some (([] : List DS0), 0, 4, ()))
 (loopO (S := ByteArray × Int × (List DS0) × Unit) (R := (List DS0) × Int × Int × Unit) (fun s77 =>
 cond (iLt s77.2.1 (sLen s77.1))
 (cond (bnd s77.2.1 (sLen s77.1))
 (cond (iEq (sAt s77.1 s77.2.1) 32)
 (some (.inl (s77.1, iAdd .i64 s77.2.1 1, s77.2.2.1, ())))
 (cond (iEq (sAt s77.1 s77.2.1) 10)
 (some (.inl (s77.1, iAdd .i64 s77.2.1 1, s77.2.2.1, ())))
 (cond (iEq (sAt s77.1 s77.2.1) 35)
 ((m29 s77.1 s77.2.1 ()).bind fun y78 =>
 some (.inl (s77.1, y78.1, s77.2.2.1, ())))
 ((m31 s77.1 s77.2.1).bind fun y79 =>
 cond (iNe y79.2.2.1 0)
 (some (.inr (([] : List DS0), s77.2.1, y79.2.2.1, ())))
 (cond (iEq (lenI s77.2.2.1) 4000)
 (some (.inr (([] : List DS0), s77.2.1, 4, ())))
 (cond (fits (List.length s77.2.2.1 + List.length ([(y79.1.1, y79.1.2.1, y79.1.2.2.1, y79.1.2.2.2.1, ())] : List DS0)) 40)
 (cond (or (bnd y79.2.1 (sLen s77.1)) (not (bEq (cond (iEq y79.1.1 2) (iLt y79.2.1 (sLen s77.1)) false) true)))
 (cond (cond (iEq y79.1.1 2) (iLt y79.2.1 (sLen s77.1)) false)
 ((m32 (sAt s77.1 y79.2.1)).bind fun y80 =>
 cond (or (bnd y79.2.1 (sLen s77.1)) (not (bEq y80.1 false)))
 (cond (cond y80.1 true (iEq (sAt s77.1 y79.2.1) 45))
 (some (.inr (([] : List DS0), y79.2.1, 5, ())))
 (some (.inl (s77.1, y79.2.1, s77.2.2.1 ++ ([(y79.1.1, y79.1.2.1, y79.1.2.2.1, y79.1.2.2.2.1, ())] : List DS0), ())))) none)
 (some (.inl (s77.1, y79.2.1, s77.2.2.1 ++ ([(y79.1.1, y79.1.2.1, y79.1.2.2.1, y79.1.2.2.2.1, ())] : List DS0), ())))) none) none)))))) none)
 (some (.inr (s77.2.2.1, 0, 0, ()))))
 (a0, 0, ([] : List DS0), ()))
noncomputable def cfg18 : Cfg := ⟨ttab, gtab, [i29, i31, i32], []⟩
theorem eqn18 (x : ByteArray × Unit) : xfun cfg18 x18 73 [.t 2, .t 3, .t 4] [.str] [(.list tS0), (.int .i64), (.int .i64)] x = m18 x.1 := by kernel_rfl
noncomputable def i18 : PI := ⟨18, [.str], [(.list tS0), (.int .i64), (.int .i64)], fun (x : ByteArray × Unit) => m18 x.1⟩
theorem oki18 : POk Tryd.prog (gx gtab) i18 := pok mixed (cfg_p oki29 (cfg_p oki31 (cfg_p oki32 (cfg_nil _ _))) : CfgOk _ (cfg18)) F18 (eqn18)
/- 14 treaty/lexer.Reserved -/
def r14_0 : List Ins := [qI 2 (.mov (.k (.bool false)))]
def r14_1 : List Ins := [qI 3 (.mov 0)]
def r14_2 : List Ins := [qI 5 (.bin .eql 3 (.k (.string (bs [97, 110, 100])))), qI 4 (.mov 5)]
def r14_3 : List Ins := [qI 6 (.bin .eql 3 (.k (.string (bs [97, 118, 101, 114, 97, 103, 101])))), qI 4 (.mov 6)]
def r14_4 : List Ins := [qI 7 (.bin .eql 3 (.k (.string (bs [99, 111, 105, 110, 115, 117, 114, 97, 110, 99, 101])))), qI 4 (.mov 7)]
def r14_5 : List Ins := [qI 8 (.bin .eql 3 (.k (.string (bs [99, 111, 110, 100, 105, 116, 105, 111, 110])))), qI 4 (.mov 8)]
def r14_6 : List Ins := [qI 9 (.bin .eql 3 (.k (.string (bs [99, 111, 118, 101, 114])))), qI 4 (.mov 9)]
def r14_7 : List Ins := [qI 10 (.bin .eql 3 (.k (.string (bs [100, 101, 100, 117, 99, 116, 105, 98, 108, 101])))), qI 4 (.mov 10)]
def r14_8 : List Ins := [qI 11 (.bin .eql 3 (.k (.string (bs [100, 101, 102, 105, 110, 101])))), qI 4 (.mov 11)]
def r14_9 : List Ins := [qI 12 (.bin .eql 3 (.k (.string (bs [101, 110, 100])))), qI 4 (.mov 12)]
def r14_10 : List Ins := [qI 13 (.bin .eql 3 (.k (.string (bs [101, 110, 100, 111, 114, 115, 101])))), qI 4 (.mov 13)]
def r14_11 : List Ins := [qI 14 (.bin .eql 3 (.k (.string (bs [101, 120, 99, 108, 117, 100, 101])))), qI 4 (.mov 14)]
def r14_12 : List Ins := [qI 15 (.bin .eql 3 (.k (.string (bs [102, 97, 108, 115, 101])))), qI 4 (.mov 15)]
def r14_13 : List Ins := [qI 16 (.bin .eql 3 (.k (.string (bs [102, 114, 97, 110, 99, 104, 105, 115, 101])))), qI 4 (.mov 16)]
def r14_14 : List Ins := [qI 17 (.bin .eql 3 (.k (.string (bs [102, 114, 111, 109])))), qI 4 (.mov 17)]
def r14_15 : List Ins := [qI 18 (.bin .eql 3 (.k (.string (bs [105, 110])))), qI 4 (.mov 18)]
def r14_16 : List Ins := [qI 19 (.bin .eql 3 (.k (.string (bs [108, 105, 109, 105, 116])))), qI 4 (.mov 19)]
def r14_17 : List Ins := [qI 20 (.bin .eql 3 (.k (.string (bs [110, 111, 116])))), qI 4 (.mov 20)]
def r14_18 : List Ins := [qI 21 (.bin .eql 3 (.k (.string (bs [111, 114])))), qI 4 (.mov 21)]
def r14_19 : List Ins := [qI 22 (.bin .eql 3 (.k (.string (bs [114, 101, 109, 111, 118, 101])))), qI 4 (.mov 22)]
def r14_20 : List Ins := [qI 23 (.bin .eql 3 (.k (.string (bs [115, 117, 98, 108, 105, 109, 105, 116])))), qI 4 (.mov 23)]
def r14_21 : List Ins := [qI 24 (.bin .eql 3 (.k (.string (bs [116, 111])))), qI 4 (.mov 24)]
def r14_22 : List Ins := [qI 25 (.bin .eql 3 (.k (.string (bs [116, 114, 117, 101])))), qI 4 (.mov 25)]
def r14_23 : List Ins := [qI 26 (.bin .eql 3 (.k (.string (bs [117, 110, 108, 101, 115, 115])))), qI 4 (.mov 26)]
def r14_24 : List Ins := [qI 27 (.bin .eql 3 (.k (.string (bs [119, 104, 101, 110])))), qI 4 (.mov 27)]
def r14_25 : List Ins := [qI 2 (.mov (.k (.bool true)))]
def r14_26 : List Ins := [qI 2 (.mov (.k (.bool false)))]
def x14 : XC := (.seq (.ops false r14_0) (.seq (.seq (.ops false r14_1) (.block 0 (.seq (.seq (.ops false r14_2) (.cond (.t 4) .skip (.seq (.ops false r14_3) (.cond (.t 4) .skip (.seq (.ops false r14_4) (.cond (.t 4) .skip (.seq (.ops false r14_5) (.cond (.t 4) .skip (.seq (.ops false r14_6) (.cond (.t 4) .skip (.seq (.ops false r14_7) (.cond (.t 4) .skip (.seq (.ops false r14_8) (.cond (.t 4) .skip (.seq (.ops false r14_9) (.cond (.t 4) .skip (.seq (.ops false r14_10) (.cond (.t 4) .skip (.seq (.ops false r14_11) (.cond (.t 4) .skip (.seq (.ops false r14_12) (.cond (.t 4) .skip (.seq (.ops false r14_13) (.cond (.t 4) .skip (.seq (.ops false r14_14) (.cond (.t 4) .skip (.seq (.ops false r14_15) (.cond (.t 4) .skip (.seq (.ops false r14_16) (.cond (.t 4) .skip (.seq (.ops false r14_17) (.cond (.t 4) .skip (.seq (.ops false r14_18) (.cond (.t 4) .skip (.seq (.ops false r14_19) (.cond (.t 4) .skip (.seq (.ops false r14_20) (.cond (.t 4) .skip (.seq (.ops false r14_21) (.cond (.t 4) .skip (.seq (.ops false r14_22) (.cond (.t 4) .skip (.seq (.ops false r14_23) (.cond (.t 4) .skip (.ops false r14_24))))))))))))))))))))))))))))))))))))))))))))) (.cond (.t 4) (.seq (.ops false r14_25) .ret) .skip)))) (.seq (.ops false r14_26) .ret)))
theorem F14 : Fn Tryd.prog 14 28 x14.er [.t 2] := ⟨Tryd.f14, hcl, Tryd.func14, by kernel_rfl, by kernel_rfl, by kernel_rfl, by kernel_rfl⟩
noncomputable def m14 (a0 : ByteArray) : Option (Bool × Unit) :=
 cond (sEq a0 (bs [97, 110, 100]))
 (some (true, ()))
 (cond (sEq a0 (bs [97, 118, 101, 114, 97, 103, 101]))
 (some (true, ()))
 (cond (sEq a0 (bs [99, 111, 105, 110, 115, 117, 114, 97, 110, 99, 101]))
 (some (true, ()))
 (cond (sEq a0 (bs [99, 111, 110, 100, 105, 116, 105, 111, 110]))
 (some (true, ()))
 (cond (sEq a0 (bs [99, 111, 118, 101, 114]))
 (some (true, ()))
 (cond (sEq a0 (bs [100, 101, 100, 117, 99, 116, 105, 98, 108, 101]))
 (some (true, ()))
 (cond (sEq a0 (bs [100, 101, 102, 105, 110, 101]))
 (some (true, ()))
 (cond (sEq a0 (bs [101, 110, 100]))
 (some (true, ()))
 (cond (sEq a0 (bs [101, 110, 100, 111, 114, 115, 101]))
 (some (true, ()))
 (cond (sEq a0 (bs [101, 120, 99, 108, 117, 100, 101]))
 (some (true, ()))
 (cond (sEq a0 (bs [102, 97, 108, 115, 101]))
 (some (true, ()))
 (cond (sEq a0 (bs [102, 114, 97, 110, 99, 104, 105, 115, 101]))
 (some (true, ()))
 (cond (sEq a0 (bs [102, 114, 111, 109]))
 (some (true, ()))
 (cond (sEq a0 (bs [105, 110]))
 (some (true, ()))
 (cond (sEq a0 (bs [108, 105, 109, 105, 116]))
 (some (true, ()))
 (cond (sEq a0 (bs [110, 111, 116]))
 (some (true, ()))
 (cond (sEq a0 (bs [111, 114]))
 (some (true, ()))
 (cond (sEq a0 (bs [114, 101, 109, 111, 118, 101]))
 (some (true, ()))
 (cond (sEq a0 (bs [115, 117, 98, 108, 105, 109, 105, 116]))
 (some (true, ()))
 (cond (sEq a0 (bs [116, 111]))
 (some (true, ()))
 (cond (sEq a0 (bs [116, 114, 117, 101]))
 (some (true, ()))
 (cond (sEq a0 (bs [117, 110, 108, 101, 115, 115]))
 (some (true, ()))
 (cond (sEq a0 (bs [119, 104, 101, 110]))
 (some (true, ()))
 (some (false, ()))))))))))))))))))))))))
noncomputable def cfg14 : Cfg := ⟨ttab, gtab, [], []⟩
theorem eqn14 (x : ByteArray × Unit) : xfun cfg14 x14 28 [.t 2] [.str] [.bool] x = m14 x.1 := by kernel_rfl
noncomputable def i14 : PI := ⟨14, [.str], [.bool], fun (x : ByteArray × Unit) => m14 x.1⟩
theorem oki14 : POk Tryd.prog (gx gtab) i14 := pok mixed (cfg_nil _ _ : CfgOk _ (cfg14)) F14 (eqn14)
/- 12 treaty/lexer.Name -/
def r12_0 : List Ins := [qI 2 (.mov (.k (.bool false)))]
def r12_1 : List Ins := [qI 3 (.mov 0), qI 4 (.call (.fn 23) [3]), qI 5 (.mov 4), qT 6 5 (.mov 0), qT 7 5 (.call (.fn 14) [6]), qT 8 5 (.un .not 7), qI 9 (.pick 5 8 (.k (.bool false))), qI 2 (.mov 9)]
def x12 : XC := (.seq (.ops false r12_0) (.seq (.ops false r12_1) .ret))
theorem F12 : Fn Tryd.prog 12 10 x12.er [.t 2] := ⟨Tryd.f12, hcl, Tryd.func12, by kernel_rfl, by kernel_rfl, by kernel_rfl, by kernel_rfl⟩
noncomputable def m12 (a0 : ByteArray) : Option (Bool × Unit) :=
 (m23 a0).bind fun y82 =>
 cond y82.1
 ((m14 a0).bind fun y83 =>
 some (not y83.1, ()))
 (some (false, ()))
noncomputable def cfg12 : Cfg := ⟨ttab, gtab, [i14, i23], []⟩
theorem eqn12 (x : ByteArray × Unit) : xfun cfg12 x12 10 [.t 2] [.str] [.bool] x = m12 x.1 := by kernel_rfl
noncomputable def i12 : PI := ⟨12, [.str], [.bool], fun (x : ByteArray × Unit) => m12 x.1⟩
theorem oki12 : POk Tryd.prog (gx gtab) i12 := pok mixed (cfg_p oki14 (cfg_p oki23 (cfg_nil _ _)) : CfgOk _ (cfg12)) F12 (eqn12)
/- 9 treaty/treatylaw05.awake -/
def r9_0 : List Ins := [qI 0 (.mov (.k (.bool false)))]
def r9_1 : List Ins := [qI 5 (.call (.fn 18) [(.k (.string (bs [97, 58, 49])))]), qI 4 (.mov 5), qI 6 (.ext 0 4), qI 7 (.ext 1 4), qI 8 (.ext 2 4), qI 1 (.mov 6), qI 2 (.mov 7), qI 3 (.mov 8)]
def r9_2 : List Ins := [qI 9 (.mov 1), qI 10 (.len 9), qI 11 (.bin .eql 10 (kI 3)), qI 12 (.mov 11), qT 13 12 (.mov 2), qT 14 12 (.bin .eql 13 (kI 0)), qI 15 (.pick 12 14 (.k (.bool false))), qI 16 (.mov 15), qT 17 16 (.mov 3), qT 18 16 (.bin .eql 17 (kI 0)), qI 19 (.pick 16 18 (.k (.bool false))), qI 20 (.mov 19), qT 21 20 (.mov 1), qT 22 20 (.iaddr 4 21 (kI 2)), qT 23 20 (.load 4 true 22), qT 24 20 (.build [.int .i64 0, .string (bs []), .int .i64 0, .int .i64 0] [(0, 1, (kI 2)), (2, 1, (kI 1)), (3, 1, (kI 2))]), qT 25 20 (.aeq false [(0, 1), (1, 3), (2, 1), (3, 1)] 23 24), qI 26 (.pick 20 25 (.k (.bool false))), qI 27 (.mov 26), qT 28 27 (.call (.fn 12) [(.k (.string (bs [97, 45, 49])))]), qI 29 (.pick 27 28 (.k (.bool false))), qI 30 (.mov 29), qT 31 30 (.call (.fn 12) [(.k (.string (bs [110, 111, 116])))]), qT 32 30 (.un .not 31), qI 33 (.pick 30 32 (.k (.bool false))), qI 0 (.mov 33)]
def x9 : XC := (.seq (.ops false r9_0) (.seq (.ops false r9_1) (.seq (.ops false r9_2) .ret)))
theorem F9 : Fn Tryd.prog 9 34 x9.er [.t 0] := ⟨Tryd.f9, hcl, Tryd.func9, by kernel_rfl, by kernel_rfl, by kernel_rfl, by kernel_rfl⟩
noncomputable def m9 : Option (Bool × Unit) :=
 (m18 (bs [97, 58, 49])).bind fun y81 =>
 cond (or (bnd 2 (lenI y81.1)) (not (bEq (cond (cond (iEq (lenI y81.1) 3) (iEq y81.2.1 0) false) (iEq y81.2.2.1 0) false) true)))
 (cond (cond (cond (cond (iEq (lenI y81.1) 3) (iEq y81.2.1 0) false) (iEq y81.2.2.1 0) false) (and (iEq ((atI y81.1 2 (0, ByteArray.empty, 0, 0, ())).1) 2) (and (sEq ((atI y81.1 2 (0, ByteArray.empty, 0, 0, ())).2.1) (bs [])) (and (iEq ((atI y81.1 2 (0, ByteArray.empty, 0, 0, ())).2.2.1) 1) (and (iEq ((atI y81.1 2 (0, ByteArray.empty, 0, 0, ())).2.2.2.1) 2) true)))) false)
 ((m12 (bs [97, 45, 49])).bind fun y84 =>
 cond y84.1
 ((m12 (bs [110, 111, 116])).bind fun y85 =>
 some (not y85.1, ()))
 (some (false, ())))
 (some (false, ()))) none
noncomputable def cfg9 : Cfg := ⟨ttab, gtab, [i12, i18], []⟩
theorem eqn9 (x : Unit) : xfun cfg9 x9 34 [.t 0] [] [.bool] x = m9 := by kernel_rfl
noncomputable def i9 : PI := ⟨9, [], [.bool], fun (x : Unit) => m9⟩
theorem oki9 : POk Tryd.prog (gx gtab) i9 := pok mixed (cfg_p oki12 (cfg_p oki18 (cfg_nil _ _)) : CfgOk _ (cfg9)) F9 (eqn9)
/- 11 treaty/treatymade.New -/
def r11_0 : List Ins := [qI 2 (.mov (.k (.pointer none)))]
def r11_1 : List Ins := [qI 3 (.mov 0), qI 4 (.build [.slice none 0 0, .int .i64 0] [(0, 1, 3)]), qI 5 (.box 49 2 4), qI 2 (.mov 5)]
def x11 : XC := (.seq (.ops false r11_0) (.seq (.ops false r11_1) .ret))
theorem F11 : Fn Tryd.prog 11 6 x11.er [.t 2] := ⟨Tryd.f11, hcl, Tryd.func11, by kernel_rfl, by kernel_rfl, by kernel_rfl, by kernel_rfl⟩
noncomputable def m11 (a0 : List Int) : Option ((List Int) × Int × Unit) :=
 some (a0, 0, ())
noncomputable def cfg11 : Cfg := ⟨ttab, gtab, [], []⟩
def ish11 : Sh := ⟨1, [(0, (.list (.int .i64)))], [], []⟩
def osh11 : Sh := ⟨1, [], [(0, .ptr 0 0 0)], [.box 49 [.d (.list (.int .i64)), .d (.int .i64)]]⟩
theorem eqn11 (x : (List Int) × Unit) : xfunH cfg11 x11 6 [.t 2] [] ish11 osh11 x = m11 x.1 := by kernel_rfl
noncomputable def h11 : HI := ⟨11, ish11, osh11, fun (x : (List Int) × Unit) => m11 x.1⟩
theorem okh11 : HOk Tryd.prog (gx gtab) h11 := hok mixed (cfg_nil _ _ : CfgOk _ (cfg11)) F11 (eqn11)
/- 22 (*treaty/treatymade.Deck).Next -/
def r22_0 : List Ins := [qI 4 (.mov (kI 0))]
def r22_1 : List Ins := [qI 5 (.mov 0), qI 6 (.nck 5), qI 7 (.faddr 1 6), qI 8 (.load 1 false 7), qI 9 (.mov 0), qI 10 (.nck 9), qI 11 (.faddr 0 10), qI 12 (.load 1 false 11), qI 13 (.len 12), qI 14 (.bin .geq 8 13)]
def r22_2 : List Ins := [qI 4 (.mov (kI 0))]
def r22_3 : List Ins := [qI 15 (.mov 0), qI 16 (.nck 15), qI 17 (.faddr 1 16), qI 18 (.load 1 false 17), qI 19 (.bin .add 18 (kI 1)), qI 20 (.nck 15), qI 21 (.faddr 1 20), qN (.store 1 21 19)]
def r22_4 : List Ins := [qI 22 (.mov 0), qI 23 (.nck 22), qI 24 (.faddr 0 23), qI 25 (.load 1 false 24), qI 26 (.mov 0), qI 27 (.nck 26), qI 28 (.faddr 1 27), qI 29 (.load 1 false 28), qI 30 (.bin .sub 29 (kI 1)), qI 31 (.iaddr 1 25 30), qI 32 (.load 1 false 31), qI 33 (.mov 1), qI 34 (.bin .rem 32 33), qI 35 (.mov 1), qI 36 (.bin .add 34 35), qI 37 (.mov 1), qI 38 (.bin .rem 36 37), qI 4 (.mov 38)]
def x22 : XC := (.seq (.ops false r22_0) (.seq (.seq (.ops true r22_1) (.cond (.t 14) (.seq (.ops false r22_2) .ret) .skip)) (.seq (.ops false r22_3) (.seq (.ops true r22_4) .ret))))
theorem F22 : Fn Tryd.prog 22 39 x22.er [.t 4] := ⟨Tryd.f22, hcl, Tryd.func22, by kernel_rfl, by kernel_rfl, by kernel_rfl, by kernel_rfl⟩
noncomputable def m22 (a0 : Int) (a1 : List Int) (a2 : Int) : Option (Int × (List Int) × Int × Unit) :=
 cond (iLe (lenI a1) a2)
 (some (0, a1, a2, ()))
 (cond (bnd (iSub .i64 (iAdd .i64 a2 1) 1) (lenI a1))
 (cond (iNe a0 0)
 (cond (iNe a0 0)
 (some (iRem (iAdd .i64 (iRem (atI a1 (iSub .i64 (iAdd .i64 a2 1) 1) 0) a0) a0) a0, a1, iAdd .i64 a2 1, ())) none) none) none)
noncomputable def cfg22 : Cfg := ⟨ttab, gtab, [], []⟩
def ish22 : Sh := ⟨2, [(1, (.int .i64))], [(0, .ptr 0 0 0)], [.box 49 [.d (.list (.int .i64)), .d (.int .i64)]]⟩
def osh22 : Sh := ⟨1, [(0, (.int .i64))], [], [.box 49 [.d (.list (.int .i64)), .d (.int .i64)]]⟩
theorem eqn22 (x : Int × (List Int) × Int × Unit) : xfunH cfg22 x22 39 [.t 4] [] ish22 osh22 x = m22 x.1 x.2.1 x.2.2.1 := by kernel_rfl
noncomputable def h22 : HI := ⟨22, ish22, osh22, fun (x : Int × (List Int) × Int × Unit) => m22 x.1 x.2.1 x.2.2.1⟩
theorem okh22 : HOk Tryd.prog (gx gtab) h22 := hok mixed (cfg_nil _ _ : CfgOk _ (cfg22)) F22 (eqn22)
/- 10 treaty/treatylaw05.word -/
def r10_0 : List Ins := [qI 2 (.mov (.k (.string (bs []))))]
def r10_1 : List Ins := [qI 3 (.bslice 9 1 [(.k (.string (bs [97]))), (.k (.string (bs [98, 45, 50]))), (.k (.string (bs [102, 105, 114, 101]))), (.k (.string (bs [110, 111, 116]))), (.k (.string (bs [97, 110, 100]))), (.k (.string (bs [117, 110, 108, 101, 115, 115]))), (.k (.string (bs [120]))), (.k (.string (bs [101, 110, 100]))), (.k (.string (bs [97, 98, 99, 100, 101, 102, 103, 104, 105, 106, 107, 108, 109, 110, 111, 112]))), (.k (.string (bs [102, 114, 111, 109])))]), qI 4 (.mov 0), qI 5 (.call (.fn 22) [4, (kI 10)]), qI 6 (.iaddr 1 3 5), qI 7 (.load 1 false 6), qI 2 (.mov 7)]
def x10 : XC := (.seq (.ops false r10_0) (.seq (.ops false r10_1) .ret))
theorem F10 : Fn Tryd.prog 10 8 x10.er [.t 2] := ⟨Tryd.f10, hcl, Tryd.func10, by kernel_rfl, by kernel_rfl, by kernel_rfl, by kernel_rfl⟩
noncomputable def m10 (a0 : List Int) (a1 : Int) : Option (ByteArray × (List Int) × Int × Unit) :=
 (m22 10 a0 a1).bind fun y89 =>
 cond (bnd y89.1 (lenI ([(bs [97]), (bs [98, 45, 50]), (bs [102, 105, 114, 101]), (bs [110, 111, 116]), (bs [97, 110, 100]), (bs [117, 110, 108, 101, 115, 115]), (bs [120]), (bs [101, 110, 100]), (bs [97, 98, 99, 100, 101, 102, 103, 104, 105, 106, 107, 108, 109, 110, 111, 112]), (bs [102, 114, 111, 109])] : List ByteArray)))
 (cond (inB (Int.toNat y89.1) ([(bs [97]), (bs [98, 45, 50]), (bs [102, 105, 114, 101]), (bs [110, 111, 116]), (bs [97, 110, 100]), (bs [117, 110, 108, 101, 115, 115]), (bs [120]), (bs [101, 110, 100]), (bs [97, 98, 99, 100, 101, 102, 103, 104, 105, 106, 107, 108, 109, 110, 111, 112]), (bs [102, 114, 111, 109])] : List ByteArray))
 (some (List.getD ([(bs [97]), (bs [98, 45, 50]), (bs [102, 105, 114, 101]), (bs [110, 111, 116]), (bs [97, 110, 100]), (bs [117, 110, 108, 101, 115, 115]), (bs [120]), (bs [101, 110, 100]), (bs [97, 98, 99, 100, 101, 102, 103, 104, 105, 106, 107, 108, 109, 110, 111, 112]), (bs [102, 114, 111, 109])] : List ByteArray) (Int.toNat y89.1) ByteArray.empty, y89.2.1, y89.2.2.1, ())) none) none
noncomputable def cfg10 : Cfg := ⟨ttab, gtab, [], [h22]⟩
def ish10 : Sh := ⟨1, [], [(0, .ptr 0 0 0)], [.box 49 [.d (.list (.int .i64)), .d (.int .i64)]]⟩
def osh10 : Sh := ⟨1, [(0, .str)], [], [.box 49 [.d (.list (.int .i64)), .d (.int .i64)]]⟩
theorem eqn10 (x : (List Int) × Int × Unit) : xfunH cfg10 x10 8 [.t 2] [] ish10 osh10 x = m10 x.1 x.2.1 := by kernel_rfl
noncomputable def h10 : HI := ⟨10, ish10, osh10, fun (x : (List Int) × Int × Unit) => m10 x.1 x.2.1⟩
theorem okh10 : HOk Tryd.prog (gx gtab) h10 := hok mixed (cfg_h okh22 (cfg_nil _ _) : CfgOk _ (cfg10)) F10 (eqn10)
/- 40 treaty/treatyref05.letter -/
def r40_0 : List Ins := [qI 2 (.mov (.k (.bool false)))]
def r40_1 : List Ins := [qI 3 (.mov 0), qI 4 (.bin .geq 3 (.k (.int .u8 97))), qI 5 (.mov 4), qT 6 5 (.mov 0), qT 7 5 (.bin .leq 6 (.k (.int .u8 122))), qI 8 (.pick 5 7 (.k (.bool false))), qI 2 (.mov 8)]
def x40 : XC := (.seq (.ops false r40_0) (.seq (.ops false r40_1) .ret))
theorem F40 : Fn Tryd.prog 40 9 x40.er [.t 2] := ⟨Tryd.f40, hcl, Tryd.func40, by kernel_rfl, by kernel_rfl, by kernel_rfl, by kernel_rfl⟩
noncomputable def m40 (a0 : Int) : Option (Bool × Unit) :=
 some (cond (iLe 97 a0) (iLe a0 122) false, ())
noncomputable def cfg40 : Cfg := ⟨ttab, gtab, [], []⟩
theorem eqn40 (x : Int × Unit) : xfun cfg40 x40 9 [.t 2] [(.int .u8)] [.bool] x = m40 x.1 := by kernel_rfl
noncomputable def i40 : PI := ⟨40, [(.int .u8)], [.bool], fun (x : Int × Unit) => m40 x.1⟩
theorem oki40 : POk Tryd.prog (gx gtab) i40 := pok mixed (cfg_nil _ _ : CfgOk _ (cfg40)) F40 (eqn40)
/- 41 treaty/treatyref05.digit -/
def r41_0 : List Ins := [qI 2 (.mov (.k (.bool false)))]
def r41_1 : List Ins := [qI 3 (.mov 0), qI 4 (.bin .geq 3 (.k (.int .u8 48))), qI 5 (.mov 4), qT 6 5 (.mov 0), qT 7 5 (.bin .leq 6 (.k (.int .u8 57))), qI 8 (.pick 5 7 (.k (.bool false))), qI 2 (.mov 8)]
def x41 : XC := (.seq (.ops false r41_0) (.seq (.ops false r41_1) .ret))
theorem F41 : Fn Tryd.prog 41 9 x41.er [.t 2] := ⟨Tryd.f41, hcl, Tryd.func41, by kernel_rfl, by kernel_rfl, by kernel_rfl, by kernel_rfl⟩
noncomputable def m41 (a0 : Int) : Option (Bool × Unit) :=
 some (cond (iLe 48 a0) (iLe a0 57) false, ())
noncomputable def cfg41 : Cfg := ⟨ttab, gtab, [], []⟩
theorem eqn41 (x : Int × Unit) : xfun cfg41 x41 9 [.t 2] [(.int .u8)] [.bool] x = m41 x.1 := by kernel_rfl
noncomputable def i41 : PI := ⟨41, [(.int .u8)], [.bool], fun (x : Int × Unit) => m41 x.1⟩
theorem oki41 : POk Tryd.prog (gx gtab) i41 := pok mixed (cfg_nil _ _ : CfgOk _ (cfg41)) F41 (eqn41)
/- 24 treaty/treatyref05.Word -/
def r24_0 : List Ins := [qI 2 (.mov (.k (.bool false)))]
def r24_1 : List Ins := [qI 4 (.mov 0), qI 5 (.slen 4), qI 6 (.bin .lss 5 (kI 1)), qI 7 (.mov 6), qF 8 7 (.mov 0), qF 9 7 (.slen 8), qF 10 7 (.bin .gtr 9 (kI 16)), qI 11 (.pick 7 (.k (.bool true)) 10), qI 12 (.mov 11), qF 13 12 (.mov 0), qF 14 12 (.idx 13 (kI 0)), qF 15 12 (.call (.fn 40) [14]), qF 16 12 (.un .not 15), qI 17 (.pick 12 (.k (.bool true)) 16), qI 18 (.mov 17), qF 19 18 (.mov 0), qF 20 18 (.mov 0), qF 21 18 (.slen 20), qF 22 18 (.bin .sub 21 (kI 1)), qF 23 18 (.idx 19 22), qF 24 18 (.bin .eql 23 (.k (.int .u8 45))), qI 25 (.pick 18 (.k (.bool true)) 24)]
def r24_2 : List Ins := [qI 2 (.mov (.k (.bool false)))]
def r24_3 : List Ins := [qI 3 (.mov (kI 0))]
def r24_4 : List Ins := [qI 26 (.mov 3), qI 27 (.mov 0), qI 28 (.slen 27), qI 29 (.bin .lss 26 28)]
def r24_5 : List Ins := [qI 32 (.mov 0), qI 33 (.mov 3), qI 34 (.idx 32 33), qI 35 (.call (.fn 40) [34]), qI 36 (.un .not 35), qI 37 (.mov 36), qT 38 37 (.mov 0), qT 39 37 (.mov 3), qT 40 37 (.idx 38 39), qT 41 37 (.call (.fn 41) [40]), qT 42 37 (.un .not 41), qI 43 (.pick 37 42 (.k (.bool false))), qI 44 (.mov 43), qT 45 44 (.mov 0), qT 46 44 (.mov 3), qT 47 44 (.idx 45 46), qT 48 44 (.bin .neq 47 (.k (.int .u8 45))), qI 49 (.pick 44 48 (.k (.bool false)))]
def r24_6 : List Ins := [qI 2 (.mov (.k (.bool false)))]
def r24_7 : List Ins := [qI 30 (.mov 3), qI 31 (.bin .add 30 (kI 1)), qI 3 (.mov 31)]
def r24_8 : List Ins := [qI 2 (.mov (.k (.bool true)))]
def x24 : XC := (.seq (.ops false r24_0) (.seq (.seq (.ops false r24_1) (.cond (.t 25) (.seq (.ops false r24_2) .ret) .skip)) (.seq (.seq (.ops false r24_3) (.block 0 (.loop [] ⟨50, [(0, .str), (3, (.int .i64))], [], []⟩ (.seq (.seq (.ops false r24_4) (.cond (.t 29) .skip (.exit 0))) (.seq (.block 1 (.seq (.ops false r24_5) (.cond (.t 49) (.seq (.ops false r24_6) .ret) .skip))) (.ops false r24_7)))))) (.seq (.ops false r24_8) .ret))))
theorem F24 : Fn Tryd.prog 24 50 x24.er [.t 2] := ⟨Tryd.f24, hcl, Tryd.func24, by kernel_rfl, by kernel_rfl, by kernel_rfl, by kernel_rfl⟩
noncomputable def m24 (a0 : ByteArray) : Option (Bool × Unit) :=
 cond (or (bnd 0 (sLen a0)) (not (bEq (cond (iLt (sLen a0) 1) true (iLt 16 (sLen a0))) false)))
 (cond (cond (iLt (sLen a0) 1) true (iLt 16 (sLen a0)))
 (cond (or (bnd (iSub .i64 (sLen a0) 1) (sLen a0)) (not (bEq true false)))
 (some (false, ())) none)
 ((m40 (sAt a0 0)).bind fun y96 =>
 cond (or (bnd (iSub .i64 (sLen a0) 1) (sLen a0)) (not (bEq (not y96.1) false)))
 (cond (cond (not y96.1) true (iEq (sAt a0 (iSub .i64 (sLen a0) 1)) 45))
 (some (false, ()))
 (loopO (S := ByteArray × Int × Unit) (R := Bool × Unit) (fun s97 =>
 cond (iLt s97.2.1 (sLen s97.1))
 (cond (bnd s97.2.1 (sLen s97.1))
 ((m40 (sAt s97.1 s97.2.1)).bind fun y98 =>
 cond (or (bnd s97.2.1 (sLen s97.1)) (not (bEq (not y98.1) true)))
 (cond (not y98.1)
 ((m41 (sAt s97.1 s97.2.1)).bind fun y99 =>
 cond (or (bnd s97.2.1 (sLen s97.1)) (not (bEq (not y99.1) true)))
 (cond (cond (not y99.1) (iNe (sAt s97.1 s97.2.1) 45) false)
 (some (.inr (false, ())))
 (some (.inl (s97.1, iAdd .i64 s97.2.1 1, ())))) none)
 (cond (or (bnd s97.2.1 (sLen s97.1)) (not (bEq false true)))
 (some (.inl (s97.1, iAdd .i64 s97.2.1 1, ()))) none)) none) none)
 (some (.inr (true, ()))))
 (a0, 0, ()))) none)) none
noncomputable def cfg24 : Cfg := ⟨ttab, gtab, [i40, i41], []⟩
theorem eqn24 (x : ByteArray × Unit) : xfun cfg24 x24 50 [.t 2] [.str] [.bool] x = m24 x.1 := by kernel_rfl
noncomputable def i24 : PI := ⟨24, [.str], [.bool], fun (x : ByteArray × Unit) => m24 x.1⟩
theorem oki24 : POk Tryd.prog (gx gtab) i24 := pok mixed (cfg_p oki40 (cfg_p oki41 (cfg_nil _ _)) : CfgOk _ (cfg24)) F24 (eqn24)
/- 15 treaty/treatyref05.Reserved -/
def r15_0 : List Ins := [qI 2 (.mov (.k (.bool false)))]
def r15_1 : List Ins := [qI 3 (.mov 0)]
def r15_2 : List Ins := [qI 5 (.bin .eql 3 (.k (.string (bs [97, 110, 100])))), qI 4 (.mov 5)]
def r15_3 : List Ins := [qI 6 (.bin .eql 3 (.k (.string (bs [97, 118, 101, 114, 97, 103, 101])))), qI 4 (.mov 6)]
def r15_4 : List Ins := [qI 7 (.bin .eql 3 (.k (.string (bs [99, 111, 105, 110, 115, 117, 114, 97, 110, 99, 101])))), qI 4 (.mov 7)]
def r15_5 : List Ins := [qI 8 (.bin .eql 3 (.k (.string (bs [99, 111, 110, 100, 105, 116, 105, 111, 110])))), qI 4 (.mov 8)]
def r15_6 : List Ins := [qI 9 (.bin .eql 3 (.k (.string (bs [99, 111, 118, 101, 114])))), qI 4 (.mov 9)]
def r15_7 : List Ins := [qI 10 (.bin .eql 3 (.k (.string (bs [100, 101, 100, 117, 99, 116, 105, 98, 108, 101])))), qI 4 (.mov 10)]
def r15_8 : List Ins := [qI 11 (.bin .eql 3 (.k (.string (bs [100, 101, 102, 105, 110, 101])))), qI 4 (.mov 11)]
def r15_9 : List Ins := [qI 12 (.bin .eql 3 (.k (.string (bs [101, 110, 100])))), qI 4 (.mov 12)]
def r15_10 : List Ins := [qI 13 (.bin .eql 3 (.k (.string (bs [101, 110, 100, 111, 114, 115, 101])))), qI 4 (.mov 13)]
def r15_11 : List Ins := [qI 14 (.bin .eql 3 (.k (.string (bs [101, 120, 99, 108, 117, 100, 101])))), qI 4 (.mov 14)]
def r15_12 : List Ins := [qI 15 (.bin .eql 3 (.k (.string (bs [102, 97, 108, 115, 101])))), qI 4 (.mov 15)]
def r15_13 : List Ins := [qI 16 (.bin .eql 3 (.k (.string (bs [102, 114, 97, 110, 99, 104, 105, 115, 101])))), qI 4 (.mov 16)]
def r15_14 : List Ins := [qI 17 (.bin .eql 3 (.k (.string (bs [102, 114, 111, 109])))), qI 4 (.mov 17)]
def r15_15 : List Ins := [qI 18 (.bin .eql 3 (.k (.string (bs [105, 110])))), qI 4 (.mov 18)]
def r15_16 : List Ins := [qI 19 (.bin .eql 3 (.k (.string (bs [108, 105, 109, 105, 116])))), qI 4 (.mov 19)]
def r15_17 : List Ins := [qI 20 (.bin .eql 3 (.k (.string (bs [110, 111, 116])))), qI 4 (.mov 20)]
def r15_18 : List Ins := [qI 21 (.bin .eql 3 (.k (.string (bs [111, 114])))), qI 4 (.mov 21)]
def r15_19 : List Ins := [qI 22 (.bin .eql 3 (.k (.string (bs [114, 101, 109, 111, 118, 101])))), qI 4 (.mov 22)]
def r15_20 : List Ins := [qI 23 (.bin .eql 3 (.k (.string (bs [115, 117, 98, 108, 105, 109, 105, 116])))), qI 4 (.mov 23)]
def r15_21 : List Ins := [qI 24 (.bin .eql 3 (.k (.string (bs [116, 111])))), qI 4 (.mov 24)]
def r15_22 : List Ins := [qI 25 (.bin .eql 3 (.k (.string (bs [116, 114, 117, 101])))), qI 4 (.mov 25)]
def r15_23 : List Ins := [qI 26 (.bin .eql 3 (.k (.string (bs [117, 110, 108, 101, 115, 115])))), qI 4 (.mov 26)]
def r15_24 : List Ins := [qI 27 (.bin .eql 3 (.k (.string (bs [119, 104, 101, 110])))), qI 4 (.mov 27)]
def r15_25 : List Ins := [qI 2 (.mov (.k (.bool true)))]
def r15_26 : List Ins := [qI 2 (.mov (.k (.bool false)))]
def x15 : XC := (.seq (.ops false r15_0) (.seq (.seq (.ops false r15_1) (.block 0 (.seq (.seq (.ops false r15_2) (.cond (.t 4) .skip (.seq (.ops false r15_3) (.cond (.t 4) .skip (.seq (.ops false r15_4) (.cond (.t 4) .skip (.seq (.ops false r15_5) (.cond (.t 4) .skip (.seq (.ops false r15_6) (.cond (.t 4) .skip (.seq (.ops false r15_7) (.cond (.t 4) .skip (.seq (.ops false r15_8) (.cond (.t 4) .skip (.seq (.ops false r15_9) (.cond (.t 4) .skip (.seq (.ops false r15_10) (.cond (.t 4) .skip (.seq (.ops false r15_11) (.cond (.t 4) .skip (.seq (.ops false r15_12) (.cond (.t 4) .skip (.seq (.ops false r15_13) (.cond (.t 4) .skip (.seq (.ops false r15_14) (.cond (.t 4) .skip (.seq (.ops false r15_15) (.cond (.t 4) .skip (.seq (.ops false r15_16) (.cond (.t 4) .skip (.seq (.ops false r15_17) (.cond (.t 4) .skip (.seq (.ops false r15_18) (.cond (.t 4) .skip (.seq (.ops false r15_19) (.cond (.t 4) .skip (.seq (.ops false r15_20) (.cond (.t 4) .skip (.seq (.ops false r15_21) (.cond (.t 4) .skip (.seq (.ops false r15_22) (.cond (.t 4) .skip (.seq (.ops false r15_23) (.cond (.t 4) .skip (.ops false r15_24))))))))))))))))))))))))))))))))))))))))))))) (.cond (.t 4) (.seq (.ops false r15_25) .ret) .skip)))) (.seq (.ops false r15_26) .ret)))
theorem F15 : Fn Tryd.prog 15 28 x15.er [.t 2] := ⟨Tryd.f15, hcl, Tryd.func15, by kernel_rfl, by kernel_rfl, by kernel_rfl, by kernel_rfl⟩
noncomputable def m15 (a0 : ByteArray) : Option (Bool × Unit) :=
 cond (sEq a0 (bs [97, 110, 100]))
 (some (true, ()))
 (cond (sEq a0 (bs [97, 118, 101, 114, 97, 103, 101]))
 (some (true, ()))
 (cond (sEq a0 (bs [99, 111, 105, 110, 115, 117, 114, 97, 110, 99, 101]))
 (some (true, ()))
 (cond (sEq a0 (bs [99, 111, 110, 100, 105, 116, 105, 111, 110]))
 (some (true, ()))
 (cond (sEq a0 (bs [99, 111, 118, 101, 114]))
 (some (true, ()))
 (cond (sEq a0 (bs [100, 101, 100, 117, 99, 116, 105, 98, 108, 101]))
 (some (true, ()))
 (cond (sEq a0 (bs [100, 101, 102, 105, 110, 101]))
 (some (true, ()))
 (cond (sEq a0 (bs [101, 110, 100]))
 (some (true, ()))
 (cond (sEq a0 (bs [101, 110, 100, 111, 114, 115, 101]))
 (some (true, ()))
 (cond (sEq a0 (bs [101, 120, 99, 108, 117, 100, 101]))
 (some (true, ()))
 (cond (sEq a0 (bs [102, 97, 108, 115, 101]))
 (some (true, ()))
 (cond (sEq a0 (bs [102, 114, 97, 110, 99, 104, 105, 115, 101]))
 (some (true, ()))
 (cond (sEq a0 (bs [102, 114, 111, 109]))
 (some (true, ()))
 (cond (sEq a0 (bs [105, 110]))
 (some (true, ()))
 (cond (sEq a0 (bs [108, 105, 109, 105, 116]))
 (some (true, ()))
 (cond (sEq a0 (bs [110, 111, 116]))
 (some (true, ()))
 (cond (sEq a0 (bs [111, 114]))
 (some (true, ()))
 (cond (sEq a0 (bs [114, 101, 109, 111, 118, 101]))
 (some (true, ()))
 (cond (sEq a0 (bs [115, 117, 98, 108, 105, 109, 105, 116]))
 (some (true, ()))
 (cond (sEq a0 (bs [116, 111]))
 (some (true, ()))
 (cond (sEq a0 (bs [116, 114, 117, 101]))
 (some (true, ()))
 (cond (sEq a0 (bs [117, 110, 108, 101, 115, 115]))
 (some (true, ()))
 (cond (sEq a0 (bs [119, 104, 101, 110]))
 (some (true, ()))
 (some (false, ()))))))))))))))))))))))))
noncomputable def cfg15 : Cfg := ⟨ttab, gtab, [], []⟩
theorem eqn15 (x : ByteArray × Unit) : xfun cfg15 x15 28 [.t 2] [.str] [.bool] x = m15 x.1 := by kernel_rfl
noncomputable def i15 : PI := ⟨15, [.str], [.bool], fun (x : ByteArray × Unit) => m15 x.1⟩
theorem oki15 : POk Tryd.prog (gx gtab) i15 := pok mixed (cfg_nil _ _ : CfgOk _ (cfg15)) F15 (eqn15)
/- 13 treaty/treatyref05.Name -/
def r13_0 : List Ins := [qI 2 (.mov (.k (.bool false)))]
def r13_1 : List Ins := [qI 3 (.mov 0), qI 4 (.call (.fn 24) [3]), qI 5 (.mov 4), qT 6 5 (.mov 0), qT 7 5 (.call (.fn 15) [6]), qT 8 5 (.un .not 7), qI 9 (.pick 5 8 (.k (.bool false))), qI 2 (.mov 9)]
def x13 : XC := (.seq (.ops false r13_0) (.seq (.ops false r13_1) .ret))
theorem F13 : Fn Tryd.prog 13 10 x13.er [.t 2] := ⟨Tryd.f13, hcl, Tryd.func13, by kernel_rfl, by kernel_rfl, by kernel_rfl, by kernel_rfl⟩
noncomputable def m13 (a0 : ByteArray) : Option (Bool × Unit) :=
 (m24 a0).bind fun y100 =>
 cond y100.1
 ((m15 a0).bind fun y101 =>
 some (not y101.1, ()))
 (some (false, ()))
noncomputable def cfg13 : Cfg := ⟨ttab, gtab, [i15, i24], []⟩
theorem eqn13 (x : ByteArray × Unit) : xfun cfg13 x13 10 [.t 2] [.str] [.bool] x = m13 x.1 := by kernel_rfl
noncomputable def i13 : PI := ⟨13, [.str], [.bool], fun (x : ByteArray × Unit) => m13 x.1⟩
theorem oki13 : POk Tryd.prog (gx gtab) i13 := pok mixed (cfg_p oki15 (cfg_p oki24 (cfg_nil _ _)) : CfgOk _ (cfg13)) F13 (eqn13)
/- 3 treaty/treatylaw05.LexerNames -/
def r3_0 : List Ins := [qI 6 (.mov (.k (.bool false)))]
def r3_1 : List Ins := [qI 9 (.mov 0), qI 10 (.slen 9), qI 11 (.bin .gtr 10 (kI 200))]
def r3_2 : List Ins := [qI 12 (.call (.fn 9) []), qI 6 (.mov 12)]
def r3_3 : List Ins := [qI 13 (.mov 1), qI 14 (.call (.fn 11) [13]), qI 15 (.call (.fn 10) [14]), qI 7 (.mov 15)]
def r3_4 : List Ins := [qI 16 (.mov 7), qI 17 (.mov 2), qI 18 (.bslice 5 1 [17]), qI 19 (.b2s 18), qI 20 (.bin .add 16 19), qI 8 (.mov 20)]
def r3_5 : List Ins := [qI 21 (.mov 0), qI 22 (.call (.fn 12) [21]), qI 23 (.mov 0), qI 24 (.call (.fn 13) [23]), qI 25 (.beq false 22 24), qI 26 (.mov 25), qT 27 26 (.mov 0), qT 28 26 (.call (.fn 14) [27]), qT 29 26 (.mov 0), qT 30 26 (.call (.fn 15) [29]), qT 31 26 (.beq false 28 30), qI 32 (.pick 26 31 (.k (.bool false))), qI 33 (.mov 32), qT 34 33 (.mov 7), qT 35 33 (.call (.fn 12) [34]), qT 36 33 (.mov 7), qT 37 33 (.call (.fn 13) [36]), qT 38 33 (.beq false 35 37), qI 39 (.pick 33 38 (.k (.bool false))), qI 40 (.mov 39), qT 41 40 (.mov 7), qT 42 40 (.call (.fn 14) [41]), qT 43 40 (.mov 7), qT 44 40 (.call (.fn 15) [43]), qT 45 40 (.beq false 42 44), qI 46 (.pick 40 45 (.k (.bool false))), qI 47 (.mov 46), qT 48 47 (.mov 8), qT 49 47 (.call (.fn 12) [48]), qT 50 47 (.mov 8), qT 51 47 (.call (.fn 13) [50]), qT 52 47 (.beq false 49 51), qI 53 (.pick 47 52 (.k (.bool false))), qI 54 (.mov 53), qT 55 54 (.call (.fn 9) []), qI 56 (.pick 54 55 (.k (.bool false))), qI 6 (.mov 56)]
def x3 : XC := (.seq (.ops false r3_0) (.seq (.seq (.ops false r3_1) (.cond (.t 11) (.seq (.ops false r3_2) .ret) .skip)) (.seq (.ops false r3_3) (.seq (.ops false r3_4) (.seq (.ops false r3_5) .ret)))))
theorem F3 : Fn Tryd.prog 3 57 x3.er [.t 6] := ⟨Tryd.f3, hcl, Tryd.func3, by kernel_rfl, by kernel_rfl, by kernel_rfl, by kernel_rfl⟩
noncomputable def m3 (a0 : ByteArray) (a1 : List Int) (a2 : Int) : Option (Bool × Unit) :=
 cond (iLt 200 (sLen a0))
 ((m9).bind fun y86 =>
 some (y86.1, ()))
 ((m11 a1).bind fun y87 =>
 (m10 y87.1 y87.2.1).bind fun y90 =>
 cond (sFits y90.1 (bsI ([a2] : List Int)))
 ((m12 a0).bind fun y91 =>
 (m13 a0).bind fun y102 =>
 cond (bEq y91.1 y102.1)
 ((m14 a0).bind fun y103 =>
 (m15 a0).bind fun y104 =>
 cond (bEq y103.1 y104.1)
 ((m12 y90.1).bind fun y105 =>
 (m13 y90.1).bind fun y106 =>
 cond (bEq y105.1 y106.1)
 ((m14 y90.1).bind fun y107 =>
 (m15 y90.1).bind fun y108 =>
 cond (bEq y107.1 y108.1)
 ((m12 (sCat y90.1 (bsI ([a2] : List Int)))).bind fun y109 =>
 (m13 (sCat y90.1 (bsI ([a2] : List Int)))).bind fun y110 =>
 cond (bEq y109.1 y110.1)
 ((m9).bind fun y111 =>
 some (y111.1, ()))
 (some (false, ())))
 (some (false, ())))
 (some (false, ())))
 (some (false, ())))
 (some (false, ()))) none)
noncomputable def cfg3 : Cfg := ⟨ttab, gtab, [i12, i13, i14, i15, i9], [h10, h11]⟩
theorem eqn3 (x : ByteArray × (List Int) × Int × Unit) : xfun cfg3 x3 57 [.t 6] [.str, (.list (.int .i64)), (.int .u8)] [.bool] x = m3 x.1 x.2.1 x.2.2.1 := by kernel_rfl
noncomputable def i3 : PI := ⟨3, [.str, (.list (.int .i64)), (.int .u8)], [.bool], fun (x : ByteArray × (List Int) × Int × Unit) => m3 x.1 x.2.1 x.2.2.1⟩
theorem oki3 : POk Tryd.prog (gx gtab) i3 := pok mixed (cfg_p oki12 (cfg_p oki13 (cfg_p oki14 (cfg_p oki15 (cfg_p oki9 (cfg_h okh10 (cfg_h okh11 (cfg_nil _ _))))))) : CfgOk _ (cfg3)) F3 (eqn3)
/- 25 (*treaty/treatymade.Deck).Left -/
def r25_0 : List Ins := [qI 2 (.mov (.k (.bool false)))]
def r25_1 : List Ins := [qI 3 (.mov 0), qI 4 (.nck 3), qI 5 (.faddr 1 4), qI 6 (.load 1 false 5), qI 7 (.mov 0), qI 8 (.nck 7), qI 9 (.faddr 0 8), qI 10 (.load 1 false 9), qI 11 (.len 10), qI 12 (.bin .lss 6 11), qI 2 (.mov 12)]
def x25 : XC := (.seq (.ops false r25_0) (.seq (.ops true r25_1) .ret))
theorem F25 : Fn Tryd.prog 25 13 x25.er [.t 2] := ⟨Tryd.f25, hcl, Tryd.func25, by kernel_rfl, by kernel_rfl, by kernel_rfl, by kernel_rfl⟩
noncomputable def m25 (a0 : List Int) (a1 : Int) : Option (Bool × (List Int) × Int × Unit) :=
 some (iLt a1 (lenI a0), a0, a1, ())
noncomputable def cfg25 : Cfg := ⟨ttab, gtab, [], []⟩
def ish25 : Sh := ⟨1, [], [(0, .ptr 0 0 0)], [.box 49 [.d (.list (.int .i64)), .d (.int .i64)]]⟩
def osh25 : Sh := ⟨1, [(0, .bool)], [], [.box 49 [.d (.list (.int .i64)), .d (.int .i64)]]⟩
theorem eqn25 (x : (List Int) × Int × Unit) : xfunH cfg25 x25 13 [.t 2] [] ish25 osh25 x = m25 x.1 x.2.1 := by kernel_rfl
noncomputable def h25 : HI := ⟨25, ish25, osh25, fun (x : (List Int) × Int × Unit) => m25 x.1 x.2.1⟩
theorem okh25 : HOk Tryd.prog (gx gtab) h25 := hok mixed (cfg_nil _ _ : CfgOk _ (cfg25)) F25 (eqn25)
/- 26 (*treaty/treatymade.Deck).Upto -/
def r26_0 : List Ins := [qI 4 (.mov (kI 0))]
def r26_1 : List Ins := [qI 5 (.mov 0), qI 6 (.call (.fn 22) [5, (kI 6)])]
def r26_2 : List Ins := [qI 8 (.bin .eql 6 (kI 0)), qI 7 (.mov 8)]
def r26_3 : List Ins := [qI 9 (.mov 0), qI 10 (.call (.fn 22) [9, (kI 4)]), qI 11 (.mov 1), qI 12 (.min2 10 11), qI 4 (.mov 12)]
def r26_4 : List Ins := [qI 14 (.bin .eql 6 (kI 1)), qI 13 (.mov 14)]
def r26_5 : List Ins := [qI 15 (.mov 0), qI 16 (.call (.fn 22) [15, (kI 100)]), qI 17 (.mov 1), qI 18 (.min2 16 17), qI 4 (.mov 18)]
def r26_6 : List Ins := [qI 20 (.bin .eql 6 (kI 2)), qI 19 (.mov 20)]
def r26_7 : List Ins := [qI 21 (.mov 0), qI 22 (.call (.fn 22) [21, (kI 1048576)]), qI 23 (.mov 1), qI 24 (.min2 22 23), qI 4 (.mov 24)]
def r26_8 : List Ins := [qI 26 (.bin .eql 6 (kI 3)), qI 25 (.mov 26)]
def r26_9 : List Ins := [qI 27 (.mov 1), qI 28 (.mov 0), qI 29 (.mov 1), qI 30 (.bin .add 29 (kI 1)), qI 31 (.min2 (kI 3) 30), qI 32 (.call (.fn 22) [28, 31]), qI 33 (.bin .sub 27 32), qI 4 (.mov 33)]
def r26_10 : List Ins := [qI 34 (.mov 0), qI 35 (.mov 1), qI 36 (.bin .add 35 (kI 1)), qI 37 (.call (.fn 22) [34, 36]), qI 4 (.mov 37)]
def x26 : XC := (.seq (.ops false r26_0) (.seq (.seq (.ops false r26_1) (.block 0 (.seq (.ops false r26_2) (.cond (.t 7) (.seq (.ops false r26_3) .ret) (.seq (.ops false r26_4) (.cond (.t 13) (.seq (.ops false r26_5) .ret) (.seq (.ops false r26_6) (.cond (.t 19) (.seq (.ops false r26_7) .ret) (.seq (.ops false r26_8) (.cond (.t 25) (.seq (.ops false r26_9) .ret) .skip)))))))))) (.seq (.ops false r26_10) .ret)))
theorem F26 : Fn Tryd.prog 26 38 x26.er [.t 4] := ⟨Tryd.f26, hcl, Tryd.func26, by kernel_rfl, by kernel_rfl, by kernel_rfl, by kernel_rfl⟩
noncomputable def m26 (a0 : Int) (a1 : List Int) (a2 : Int) : Option (Int × (List Int) × Int × Unit) :=
 (m22 6 a1 a2).bind fun y124 =>
 cond (iEq y124.1 0)
 ((m22 4 y124.2.1 y124.2.2.1).bind fun y125 =>
 some (iMin y125.1 a0, y125.2.1, y125.2.2.1, ()))
 (cond (iEq y124.1 1)
 ((m22 100 y124.2.1 y124.2.2.1).bind fun y126 =>
 some (iMin y126.1 a0, y126.2.1, y126.2.2.1, ()))
 (cond (iEq y124.1 2)
 ((m22 1048576 y124.2.1 y124.2.2.1).bind fun y127 =>
 some (iMin y127.1 a0, y127.2.1, y127.2.2.1, ()))
 (cond (iEq y124.1 3)
 ((m22 (iMin 3 (iAdd .i64 a0 1)) y124.2.1 y124.2.2.1).bind fun y128 =>
 some (iSub .i64 a0 y128.1, y128.2.1, y128.2.2.1, ()))
 ((m22 (iAdd .i64 a0 1) y124.2.1 y124.2.2.1).bind fun y129 =>
 some (y129.1, y129.2.1, y129.2.2.1, ())))))
noncomputable def cfg26 : Cfg := ⟨ttab, gtab, [], [h22]⟩
def ish26 : Sh := ⟨2, [(1, (.int .i64))], [(0, .ptr 0 0 0)], [.box 49 [.d (.list (.int .i64)), .d (.int .i64)]]⟩
def osh26 : Sh := ⟨1, [(0, (.int .i64))], [], [.box 49 [.d (.list (.int .i64)), .d (.int .i64)]]⟩
theorem eqn26 (x : Int × (List Int) × Int × Unit) : xfunH cfg26 x26 38 [.t 4] [] ish26 osh26 x = m26 x.1 x.2.1 x.2.2.1 := by kernel_rfl
noncomputable def h26 : HI := ⟨26, ish26, osh26, fun (x : Int × (List Int) × Int × Unit) => m26 x.1 x.2.1 x.2.2.1⟩
theorem okh26 : HOk Tryd.prog (gx gtab) h26 := hok mixed (cfg_h okh22 (cfg_nil _ _) : CfgOk _ (cfg26)) F26 (eqn26)
/- 27 (*treaty/treatymade.Deck).Hour -/
def r27_0 : List Ins := [qI 2 (.mov (kI 0))]
def r27_1 : List Ins := [qI 3 (.mov 0), qI 4 (.call (.fn 22) [3, (kI 4)])]
def r27_2 : List Ins := [qI 6 (.bin .eql 4 (kI 0)), qI 5 (.mov 6)]
def r27_3 : List Ins := [qI 7 (.mov 0), qI 8 (.call (.fn 22) [7, (kI 60)]), qI 2 (.mov 8)]
def r27_4 : List Ins := [qI 10 (.bin .eql 4 (kI 1)), qI 9 (.mov 10)]
def r27_5 : List Ins := [qI 11 (.mov 0), qI 12 (.call (.fn 22) [11, (kI 20000)]), qI 2 (.mov 12)]
def r27_6 : List Ins := [qI 14 (.bin .eql 4 (kI 2)), qI 13 (.mov 14)]
def r27_7 : List Ins := [qI 15 (.mov 0), qI 16 (.call (.fn 22) [15, (kI 50)]), qI 17 (.bin .sub (kI 876599) 16), qI 2 (.mov 17)]
def r27_8 : List Ins := [qI 18 (.mov 0), qI 19 (.call (.fn 22) [18, (kI 876600)]), qI 2 (.mov 19)]
def x27 : XC := (.seq (.ops false r27_0) (.seq (.seq (.ops false r27_1) (.block 0 (.seq (.ops false r27_2) (.cond (.t 5) (.seq (.ops false r27_3) .ret) (.seq (.ops false r27_4) (.cond (.t 9) (.seq (.ops false r27_5) .ret) (.seq (.ops false r27_6) (.cond (.t 13) (.seq (.ops false r27_7) .ret) .skip)))))))) (.seq (.ops false r27_8) .ret)))
theorem F27 : Fn Tryd.prog 27 20 x27.er [.t 2] := ⟨Tryd.f27, hcl, Tryd.func27, by kernel_rfl, by kernel_rfl, by kernel_rfl, by kernel_rfl⟩
noncomputable def m27 (a0 : List Int) (a1 : Int) : Option (Int × (List Int) × Int × Unit) :=
 (m22 4 a0 a1).bind fun y137 =>
 cond (iEq y137.1 0)
 ((m22 60 y137.2.1 y137.2.2.1).bind fun y138 =>
 some (y138.1, y138.2.1, y138.2.2.1, ()))
 (cond (iEq y137.1 1)
 ((m22 20000 y137.2.1 y137.2.2.1).bind fun y139 =>
 some (y139.1, y139.2.1, y139.2.2.1, ()))
 (cond (iEq y137.1 2)
 ((m22 50 y137.2.1 y137.2.2.1).bind fun y140 =>
 some (iSub .i64 876599 y140.1, y140.2.1, y140.2.2.1, ()))
 ((m22 876600 y137.2.1 y137.2.2.1).bind fun y141 =>
 some (y141.1, y141.2.1, y141.2.2.1, ()))))
noncomputable def cfg27 : Cfg := ⟨ttab, gtab, [], [h22]⟩
def ish27 : Sh := ⟨1, [], [(0, .ptr 0 0 0)], [.box 49 [.d (.list (.int .i64)), .d (.int .i64)]]⟩
def osh27 : Sh := ⟨1, [(0, (.int .i64))], [], [.box 49 [.d (.list (.int .i64)), .d (.int .i64)]]⟩
theorem eqn27 (x : (List Int) × Int × Unit) : xfunH cfg27 x27 20 [.t 2] [] ish27 osh27 x = m27 x.1 x.2.1 := by kernel_rfl
noncomputable def h27 : HI := ⟨27, ish27, osh27, fun (x : (List Int) × Int × Unit) => m27 x.1 x.2.1⟩
theorem okh27 : HOk Tryd.prog (gx gtab) h27 := hok mixed (cfg_h okh22 (cfg_nil _ _) : CfgOk _ (cfg27)) F27 (eqn27)
/- 16 treaty/treatylaw05.tokens -/
def r16_0 : List Ins := [qI 2 (.mov kN)]
def r16_1 : List Ins := [qI 5 (.mov 0), qI 6 (.call (.fn 11) [5]), qI 3 (.mov 6)]
def r16_2 : List Ins := [qI 4 (.mov kN)]
def r16_3 : List Ins := [qI 7 (.mov 3), qI 8 (.call (.fn 25) [7]), qI 9 (.mov 8), qT 10 9 (.mov 4), qT 11 9 (.len 10), qT 12 9 (.bin .lss 11 (kI 30)), qI 13 (.pick 9 12 (.k (.bool false)))]
def r16_4 : List Ins := [qI 14 (.mov 3), qI 15 (.call (.fn 22) [14, (kI 5)])]
def r16_5 : List Ins := [qI 17 (.bin .eql 15 (kI 0)), qI 16 (.mov 17)]
def r16_6 : List Ins := [qI 18 (.bin .eql 15 (kI 1)), qI 16 (.mov 18)]
def r16_7 : List Ins := [qI 19 (.mov 4), qI 20 (.mov 3), qI 21 (.call (.fn 10) [20]), qI 22 (.build [.int .i64 0, .string (bs []), .int .i64 0, .int .i64 0] [(0, 1, (kI 1)), (1, 1, 21)]), qI 23 (.bslice 41 4 [22]), qI 24 (.app 41 4 40 19 23), qI 4 (.mov 24)]
def r16_8 : List Ins := [qI 26 (.bin .eql 15 (kI 2)), qI 25 (.mov 26)]
def r16_9 : List Ins := [qI 27 (.mov 4), qI 28 (.mov 3), qI 29 (.call (.fn 26) [28, (kI 17592186044416)]), qI 30 (.mov 3), qI 31 (.call (.fn 26) [30, (kI 50)]), qI 32 (.bin .sub 29 31), qI 33 (.build [.int .i64 0, .string (bs []), .int .i64 0, .int .i64 0] [(0, 1, (kI 2)), (2, 1, 32)]), qI 34 (.bslice 41 4 [33]), qI 35 (.app 41 4 40 27 34), qI 4 (.mov 35)]
def r16_10 : List Ins := [qI 37 (.bin .eql 15 (kI 3)), qI 36 (.mov 37)]
def r16_11 : List Ins := [qI 38 (.mov 4), qI 39 (.mov 3), qI 40 (.call (.fn 27) [39]), qI 41 (.build [.int .i64 0, .string (bs []), .int .i64 0, .int .i64 0] [(0, 1, (kI 3)), (2, 1, 40)]), qI 42 (.bslice 41 4 [41]), qI 43 (.app 41 4 40 38 42), qI 4 (.mov 43)]
def r16_12 : List Ins := [qI 45 (.bin .eql 15 (kI 4)), qI 44 (.mov 45)]
def r16_13 : List Ins := [qI 46 (.mov 4), qI 47 (.bslice 9 1 [(.k (.string (bs [59]))), (.k (.string (bs [58]))), (.k (.string (bs [44]))), (.k (.string (bs [40]))), (.k (.string (bs [41])))]), qI 48 (.mov 3), qI 49 (.call (.fn 22) [48, (kI 5)]), qI 50 (.iaddr 1 47 49), qI 51 (.load 1 false 50), qI 52 (.build [.int .i64 0, .string (bs []), .int .i64 0, .int .i64 0] [(0, 1, (kI 4)), (1, 1, 51)]), qI 53 (.bslice 41 4 [52]), qI 54 (.app 41 4 40 46 53), qI 4 (.mov 54)]
def r16_14 : List Ins := [qI 55 (.mov 4), qI 2 (.mov 55)]
def x16 : XC := (.seq (.ops false r16_0) (.seq (.ops false r16_1) (.seq (.ops false r16_2) (.seq (.block 0 (.loop [.gh 4 41 tS0] ⟨56, [], [(3, .ptr 0 0 0), (4, .row 1)], [.box 49 [.d (.list (.int .i64)), .d (.int .i64)], .row 41 tS0 false]⟩ (.seq (.seq (.ops false r16_3) (.cond (.t 13) .skip (.exit 0))) (.block 1 (.seq (.ops false r16_4) (.block 2 (.seq (.seq (.ops false r16_5) (.cond (.t 16) .skip (.ops false r16_6))) (.cond (.t 16) (.ops false r16_7) (.seq (.ops false r16_8) (.cond (.t 25) (.ops false r16_9) (.seq (.ops false r16_10) (.cond (.t 36) (.ops false r16_11) (.seq (.ops false r16_12) (.cond (.t 44) (.ops false r16_13) .skip)))))))))))))) (.seq (.ops false r16_14) .ret)))))
theorem F16 : Fn Tryd.prog 16 56 x16.er [.t 2] := ⟨Tryd.f16, hcl, Tryd.func16, by kernel_rfl, by kernel_rfl, by kernel_rfl, by kernel_rfl⟩
noncomputable def m16 (a0 : List Int) : Option ((List DS0) × Unit) :=
 (m11 a0).bind fun y144 =>
 loopO (S := (List Int) × Int × (List DS0) × Unit) (R := (List DS0) × Unit) (fun s145 =>
 (m25 s145.1 s145.2.1).bind fun y146 =>
 cond (cond y146.1 (iLt (lenI s145.2.2.1) 30) false)
 ((m22 5 y146.2.1 y146.2.2.1).bind fun y147 =>
 cond (iEq y147.1 0)
 ((m10 y147.2.1 y147.2.2.1).bind fun y148 =>
 cond (fits (List.length s145.2.2.1 + List.length ([(1, y148.1, 0, 0, ())] : List DS0)) 40)
 (some (.inl (y148.2.1, y148.2.2.1, s145.2.2.1 ++ ([(1, y148.1, 0, 0, ())] : List DS0), ()))) none)
 (cond (iEq y147.1 1)
 ((m10 y147.2.1 y147.2.2.1).bind fun y149 =>
 cond (fits (List.length s145.2.2.1 + List.length ([(1, y149.1, 0, 0, ())] : List DS0)) 40)
 (some (.inl (y149.2.1, y149.2.2.1, s145.2.2.1 ++ ([(1, y149.1, 0, 0, ())] : List DS0), ()))) none)
 (cond (iEq y147.1 2)
 ((m26 17592186044416 y147.2.1 y147.2.2.1).bind fun y150 =>
 (m26 50 y150.2.1 y150.2.2.1).bind fun y151 =>
 cond (fits (List.length s145.2.2.1 + List.length ([(2, (bs []), iSub .i64 y150.1 y151.1, 0, ())] : List DS0)) 40)
 (some (.inl (y151.2.1, y151.2.2.1, s145.2.2.1 ++ ([(2, (bs []), iSub .i64 y150.1 y151.1, 0, ())] : List DS0), ()))) none)
 (cond (iEq y147.1 3)
 ((m27 y147.2.1 y147.2.2.1).bind fun y152 =>
 cond (fits (List.length s145.2.2.1 + List.length ([(3, (bs []), y152.1, 0, ())] : List DS0)) 40)
 (some (.inl (y152.2.1, y152.2.2.1, s145.2.2.1 ++ ([(3, (bs []), y152.1, 0, ())] : List DS0), ()))) none)
 (cond (iEq y147.1 4)
 ((m22 5 y147.2.1 y147.2.2.1).bind fun y153 =>
 cond (bnd y153.1 (lenI ([(bs [59]), (bs [58]), (bs [44]), (bs [40]), (bs [41])] : List ByteArray)))
 (cond (inB (Int.toNat y153.1) ([(bs [59]), (bs [58]), (bs [44]), (bs [40]), (bs [41])] : List ByteArray))
 (cond (fits (List.length s145.2.2.1 + List.length ([(4, List.getD ([(bs [59]), (bs [58]), (bs [44]), (bs [40]), (bs [41])] : List ByteArray) (Int.toNat y153.1) ByteArray.empty, 0, 0, ())] : List DS0)) 40)
 (some (.inl (y153.2.1, y153.2.2.1, s145.2.2.1 ++ ([(4, List.getD ([(bs [59]), (bs [58]), (bs [44]), (bs [40]), (bs [41])] : List ByteArray) (Int.toNat y153.1) ByteArray.empty, 0, 0, ())] : List DS0), ()))) none) none) none)
 (some (.inl (y147.2.1, y147.2.2.1, s145.2.2.1, ()))))))))
 (some (.inr (s145.2.2.1, ()))))
 (y144.1, y144.2.1, ([] : List DS0), ())
noncomputable def cfg16 : Cfg := ⟨ttab, gtab, [], [h10, h11, h22, h25, h26, h27]⟩
theorem eqn16 (x : (List Int) × Unit) : xfun cfg16 x16 56 [.t 2] [(.list (.int .i64))] [(.list tS0)] x = m16 x.1 := by kernel_rfl
noncomputable def i16 : PI := ⟨16, [(.list (.int .i64))], [(.list tS0)], fun (x : (List Int) × Unit) => m16 x.1⟩
theorem oki16 : POk Tryd.prog (gx gtab) i16 := pok mixed (cfg_h okh10 (cfg_h okh11 (cfg_h okh22 (cfg_h okh25 (cfg_h okh26 (cfg_h okh27 (cfg_nil _ _)))))) : CfgOk _ (cfg16)) F16 (eqn16)
/- 42 treaty/treatyref01.Valid -/
def r42_0 : List Ins := [qI 2 (.mov (.k (.bool false)))]
def r42_1 : List Ins := [qI 3 (.mov 0), qI 4 (.bin .geq 3 (.k (.int .i64 (-17592186044416)))), qI 5 (.mov 4), qT 6 5 (.mov 0), qT 7 5 (.bin .leq 6 (kI 17592186044416)), qI 8 (.pick 5 7 (.k (.bool false))), qI 2 (.mov 8)]
def x42 : XC := (.seq (.ops false r42_0) (.seq (.ops false r42_1) .ret))
theorem F42 : Fn Tryd.prog 42 9 x42.er [.t 2] := ⟨Tryd.f42, hcl, Tryd.func42, by kernel_rfl, by kernel_rfl, by kernel_rfl, by kernel_rfl⟩
noncomputable def m42 (a0 : Int) : Option (Bool × Unit) :=
 some (cond (iLe (-17592186044416) a0) (iLe a0 17592186044416) false, ())
noncomputable def cfg42 : Cfg := ⟨ttab, gtab, [], []⟩
theorem eqn42 (x : Int × Unit) : xfun cfg42 x42 9 [.t 2] [(.int .i64)] [.bool] x = m42 x.1 := by kernel_rfl
noncomputable def i42 : PI := ⟨42, [(.int .i64)], [.bool], fun (x : Int × Unit) => m42 x.1⟩
theorem oki42 : POk Tryd.prog (gx gtab) i42 := pok mixed (cfg_nil _ _ : CfgOk _ (cfg42)) F42 (eqn42)
/- 54 treaty/treatyref01.digits -/
def r54_0 : List Ins := [qI 4 (.mov (.k (.string (bs []))))]
def r54_1 : List Ins := [qI 5 (.mov (.k (.string (bs []))))]
def r54_2 : List Ins := [qI 6 (.mov 0), qI 7 (.bin .gtr 6 (kI 0)), qI 8 (.mov 7), qF 9 8 (.mov 5), qF 10 8 (.slen 9), qF 11 8 (.mov 1), qF 12 8 (.bin .lss 10 11), qI 13 (.pick 8 (.k (.bool true)) 12)]
def r54_3 : List Ins := [qI 14 (.mov 0), qI 15 (.bin .rem 14 (kI 10)), qI 16 (.bin .add (kI 48) 15), qI 17 (.conv .u8 16), qI 18 (.bslice 5 1 [17]), qI 19 (.b2s 18), qI 20 (.mov 5), qI 21 (.bin .add 19 20), qI 5 (.mov 21)]
def r54_4 : List Ins := [qI 22 (.mov 0), qI 23 (.bin .quo 22 (kI 10)), qI 0 (.mov 23)]
def r54_5 : List Ins := [qI 24 (.mov 5), qI 4 (.mov 24)]
def x54 : XC := (.seq (.ops false r54_0) (.seq (.ops false r54_1) (.seq (.block 0 (.loop [] ⟨25, [(0, (.int .i64)), (1, (.int .i64)), (5, .str)], [], []⟩ (.seq (.seq (.ops false r54_2) (.cond (.t 13) .skip (.exit 0))) (.block 1 (.seq (.ops false r54_3) (.ops false r54_4)))))) (.seq (.ops false r54_5) .ret))))
theorem F54 : Fn Tryd.prog 54 25 x54.er [.t 4] := ⟨Tryd.f54, hcl, Tryd.func54, by kernel_rfl, by kernel_rfl, by kernel_rfl, by kernel_rfl⟩
noncomputable def m54 (a0 : Int) (a1 : Int) : Option (ByteArray × Unit) :=
 loopO (S := Int × Int × ByteArray × Unit) (R := ByteArray × Unit) (fun s160 =>
 cond (cond (iLt 0 s160.1) true (iLt (sLen s160.2.2.1) s160.2.1))
 (cond (iNe 10 0)
 (cond (sFits (bsI ([IntKind.wrap .u8 (iAdd .i64 48 (iRem s160.1 10))] : List Int)) s160.2.2.1)
 (cond (iNe 10 0)
 (some (.inl (iQuo .i64 s160.1 10, s160.2.1, sCat (bsI ([IntKind.wrap .u8 (iAdd .i64 48 (iRem s160.1 10))] : List Int)) s160.2.2.1, ()))) none) none) none)
 (some (.inr (s160.2.2.1, ()))))
 (a0, a1, (bs []), ())
noncomputable def cfg54 : Cfg := ⟨ttab, gtab, [], []⟩
theorem eqn54 (x : Int × Int × Unit) : xfun cfg54 x54 25 [.t 4] [(.int .i64), (.int .i64)] [.str] x = m54 x.1 x.2.1 := by kernel_rfl
noncomputable def i54 : PI := ⟨54, [(.int .i64), (.int .i64)], [.str], fun (x : Int × Int × Unit) => m54 x.1 x.2.1⟩
theorem oki54 : POk Tryd.prog (gx gtab) i54 := pok mixed (cfg_nil _ _ : CfgOk _ (cfg54)) F54 (eqn54)
/- 43 treaty/treatyref01.Decimal -/
def r43_0 : List Ins := [qI 2 (.mov (.k (.string (bs []))))]
def r43_1 : List Ins := [qI 3 (.mov 0), qI 4 (.bin .lss 3 (kI 0))]
def r43_2 : List Ins := [qI 5 (.mov 0), qI 6 (.un .neg 5), qI 7 (.call (.fn 54) [6, (kI 1)]), qI 8 (.bin .add (.k (.string (bs [45]))) 7), qI 2 (.mov 8)]
def r43_3 : List Ins := [qI 9 (.mov 0), qI 10 (.call (.fn 54) [9, (kI 1)]), qI 2 (.mov 10)]
def x43 : XC := (.seq (.ops false r43_0) (.seq (.seq (.ops false r43_1) (.cond (.t 4) (.seq (.ops false r43_2) .ret) .skip)) (.seq (.ops false r43_3) .ret)))
theorem F43 : Fn Tryd.prog 43 11 x43.er [.t 2] := ⟨Tryd.f43, hcl, Tryd.func43, by kernel_rfl, by kernel_rfl, by kernel_rfl, by kernel_rfl⟩
noncomputable def m43 (a0 : Int) : Option (ByteArray × Unit) :=
 cond (iLt a0 0)
 ((m54 (iNeg .i64 a0) 1).bind fun y161 =>
 cond (sFits (bs [45]) y161.1)
 (some (sCat (bs [45]) y161.1, ())) none)
 ((m54 a0 1).bind fun y162 =>
 some (y162.1, ()))
noncomputable def cfg43 : Cfg := ⟨ttab, gtab, [i54], []⟩
theorem eqn43 (x : Int × Unit) : xfun cfg43 x43 11 [.t 2] [(.int .i64)] [.str] x = m43 x.1 := by kernel_rfl
noncomputable def i43 : PI := ⟨43, [(.int .i64)], [.str], fun (x : Int × Unit) => m43 x.1⟩
theorem oki43 : POk Tryd.prog (gx gtab) i43 := pok mixed (cfg_p oki54 (cfg_nil _ _) : CfgOk _ (cfg43)) F43 (eqn43)
/- 63 treaty/treatyref01.InHours -/
def r63_0 : List Ins := [qI 2 (.mov (.k (.bool false)))]
def r63_1 : List Ins := [qI 3 (.mov 0), qI 4 (.bin .geq 3 (kI 0)), qI 5 (.mov 4), qT 6 5 (.mov 0), qT 7 5 (.bin .leq 6 (kI 876599)), qI 8 (.pick 5 7 (.k (.bool false))), qI 2 (.mov 8)]
def x63 : XC := (.seq (.ops false r63_0) (.seq (.ops false r63_1) .ret))
theorem F63 : Fn Tryd.prog 63 9 x63.er [.t 2] := ⟨Tryd.f63, hcl, Tryd.func63, by kernel_rfl, by kernel_rfl, by kernel_rfl, by kernel_rfl⟩
noncomputable def m63 (a0 : Int) : Option (Bool × Unit) :=
 some (cond (iLe 0 a0) (iLe a0 876599) false, ())
noncomputable def cfg63 : Cfg := ⟨ttab, gtab, [], []⟩
theorem eqn63 (x : Int × Unit) : xfun cfg63 x63 9 [.t 2] [(.int .i64)] [.bool] x = m63 x.1 := by kernel_rfl
noncomputable def i63 : PI := ⟨63, [(.int .i64)], [.bool], fun (x : Int × Unit) => m63 x.1⟩
theorem oki63 : POk Tryd.prog (gx gtab) i63 := pok mixed (cfg_nil _ _ : CfgOk _ (cfg63)) F63 (eqn63)
/- 70 treaty/treatyref01.leap -/
def r70_0 : List Ins := [qI 2 (.mov (.k (.bool false)))]
def r70_1 : List Ins := [qI 3 (.mov 0), qI 4 (.bin .rem 3 (kI 4)), qI 5 (.bin .eql 4 (kI 0)), qI 6 (.mov 5), qT 7 6 (.mov 0), qT 8 6 (.bin .rem 7 (kI 100)), qT 9 6 (.bin .neq 8 (kI 0)), qT 10 6 (.mov 9), qF 11 10 (.mov 0), qF 12 10 (.bin .rem 11 (kI 400)), qF 13 10 (.bin .eql 12 (kI 0)), qT 14 6 (.pick 10 (.k (.bool true)) 13), qI 15 (.pick 6 14 (.k (.bool false))), qI 2 (.mov 15)]
def x70 : XC := (.seq (.ops false r70_0) (.seq (.ops false r70_1) .ret))
theorem F70 : Fn Tryd.prog 70 16 x70.er [.t 2] := ⟨Tryd.f70, hcl, Tryd.func70, by kernel_rfl, by kernel_rfl, by kernel_rfl, by kernel_rfl⟩
noncomputable def m70 (a0 : Int) : Option (Bool × Unit) :=
 cond (iNe 4 0)
 (cond (or (iNe 100 0) (not (bEq (iEq (iRem a0 4) 0) true)))
 (cond (iEq (iRem a0 4) 0)
 (cond (or (iNe 400 0) (not (bEq (iNe (iRem a0 100) 0) false)))
 (some (cond (iNe (iRem a0 100) 0) true (iEq (iRem a0 400) 0), ())) none)
 (some (false, ()))) none) none
noncomputable def cfg70 : Cfg := ⟨ttab, gtab, [], []⟩
theorem eqn70 (x : Int × Unit) : xfun cfg70 x70 16 [.t 2] [(.int .i64)] [.bool] x = m70 x.1 := by kernel_rfl
noncomputable def i70 : PI := ⟨70, [(.int .i64)], [.bool], fun (x : Int × Unit) => m70 x.1⟩
theorem oki70 : POk Tryd.prog (gx gtab) i70 := pok mixed (cfg_nil _ _ : CfgOk _ (cfg70)) F70 (eqn70)
/- 64 treaty/treatyref01.days -/
def r64_0 : List Ins := [qI 4 (.mov (kI 0))]
def r64_1 : List Ins := [qI 5 (.mov 1)]
def r64_2 : List Ins := [qI 7 (.bin .eql 5 (kI 2)), qI 6 (.mov 7)]
def r64_3 : List Ins := [qI 8 (.mov 0), qI 9 (.call (.fn 70) [8])]
def r64_4 : List Ins := [qI 4 (.mov (kI 29))]
def r64_5 : List Ins := [qI 4 (.mov (kI 28))]
def r64_6 : List Ins := [qI 11 (.bin .eql 5 (kI 4)), qI 10 (.mov 11)]
def r64_7 : List Ins := [qI 12 (.bin .eql 5 (kI 6)), qI 10 (.mov 12)]
def r64_8 : List Ins := [qI 13 (.bin .eql 5 (kI 9)), qI 10 (.mov 13)]
def r64_9 : List Ins := [qI 14 (.bin .eql 5 (kI 11)), qI 10 (.mov 14)]
def r64_10 : List Ins := [qI 4 (.mov (kI 30))]
def r64_11 : List Ins := [qI 4 (.mov (kI 31))]
def x64 : XC := (.seq (.ops false r64_0) (.seq (.seq (.ops false r64_1) (.block 0 (.seq (.ops false r64_2) (.cond (.t 6) (.seq (.seq (.ops false r64_3) (.cond (.t 9) (.seq (.ops false r64_4) .ret) .skip)) (.seq (.ops false r64_5) .ret)) (.seq (.seq (.ops false r64_6) (.cond (.t 10) .skip (.seq (.ops false r64_7) (.cond (.t 10) .skip (.seq (.ops false r64_8) (.cond (.t 10) .skip (.ops false r64_9))))))) (.cond (.t 10) (.seq (.ops false r64_10) .ret) .skip)))))) (.seq (.ops false r64_11) .ret)))
theorem F64 : Fn Tryd.prog 64 15 x64.er [.t 4] := ⟨Tryd.f64, hcl, Tryd.func64, by kernel_rfl, by kernel_rfl, by kernel_rfl, by kernel_rfl⟩
noncomputable def m64 (a0 : Int) (a1 : Int) : Option (Int × Unit) :=
 cond (iEq a1 2)
 ((m70 a0).bind fun y166 =>
 cond y166.1
 (some (29, ()))
 (some (28, ())))
 (cond (iEq a1 4)
 (some (30, ()))
 (cond (iEq a1 6)
 (some (30, ()))
 (cond (iEq a1 9)
 (some (30, ()))
 (cond (iEq a1 11)
 (some (30, ()))
 (some (31, ()))))))
noncomputable def cfg64 : Cfg := ⟨ttab, gtab, [i70], []⟩
theorem eqn64 (x : Int × Int × Unit) : xfun cfg64 x64 15 [.t 4] [(.int .i64), (.int .i64)] [(.int .i64)] x = m64 x.1 x.2.1 := by kernel_rfl
noncomputable def i64 : PI := ⟨64, [(.int .i64), (.int .i64)], [(.int .i64)], fun (x : Int × Int × Unit) => m64 x.1 x.2.1⟩
theorem oki64 : POk Tryd.prog (gx gtab) i64 := pok mixed (cfg_p oki70 (cfg_nil _ _) : CfgOk _ (cfg64)) F64 (eqn64)
/- 55 treaty/treatyref01.Civil -/
def r55_0 : List Ins := [qI 2 (.alloc 74 (.agg #[.int .i64 0, .int .i64 0, .int .i64 0])), qI 3 (.mov (kI 0)), qI 4 (.mov (kI 0))]
def r55_1 : List Ins := [qI 8 (.mov 0), qI 9 (.call (.fn 63) [8]), qI 10 (.un .not 9)]
def r55_2 : List Ins := [qI 11 (.build [.int .i64 0, .int .i64 0, .int .i64 0] []), qN (.store 3 2 11), qI 3 (.mov (kI 0)), qI 4 (.mov (kI 1))]
def r55_3 : List Ins := [qI 12 (.mov 0), qI 13 (.bin .quo 12 (kI 24)), qI 5 (.mov 13)]
def r55_4 : List Ins := [qI 6 (.mov (kI 2000)), qI 7 (.mov (kI 1))]
def r55_5 : List Ins := [qI 14 (.mov 5), qI 15 (.mov 6), qI 16 (.mov 7), qI 17 (.call (.fn 64) [15, 16]), qI 18 (.bin .geq 14 17)]
def r55_6 : List Ins := [qI 19 (.mov 5), qI 20 (.mov 6), qI 21 (.mov 7), qI 22 (.call (.fn 64) [20, 21]), qI 23 (.bin .sub 19 22), qI 5 (.mov 23)]
def r55_7 : List Ins := [qI 24 (.mov 7), qI 25 (.bin .add 24 (kI 1)), qI 7 (.mov 25)]
def r55_8 : List Ins := [qI 26 (.mov 7), qI 27 (.bin .gtr 26 (kI 12))]
def r55_9 : List Ins := [qI 28 (.mov 6), qI 29 (.bin .add 28 (kI 1)), qI 6 (.mov 29), qI 7 (.mov (kI 1))]
def r55_10 : List Ins := [qI 30 (.mov 6), qI 31 (.mov 7), qI 32 (.mov 5), qI 33 (.bin .add 32 (kI 1)), qI 34 (.build [.int .i64 0, .int .i64 0, .int .i64 0] [(0, 1, 30), (1, 1, 31), (2, 1, 33)]), qI 35 (.mov 0), qI 36 (.bin .rem 35 (kI 24)), qN (.store 3 2 34), qI 3 (.mov 36), qI 4 (.mov (kI 0))]
def x55 : XC := (.seq (.ops false r55_0) (.seq (.seq (.ops false r55_1) (.cond (.t 10) (.seq (.ops false r55_2) .ret) .skip)) (.seq (.ops false r55_3) (.seq (.ops false r55_4) (.seq (.block 0 (.loop [] ⟨37, [(0, (.int .i64)), (5, (.int .i64)), (6, (.int .i64)), (7, (.int .i64))], [(2, .ptr 0 0 0)], [.box 74 [.d (.int .i64), .d (.int .i64), .d (.int .i64)]]⟩ (.seq (.seq (.ops false r55_5) (.cond (.t 18) .skip (.exit 0))) (.block 1 (.seq (.ops false r55_6) (.seq (.ops false r55_7) (.seq (.ops false r55_8) (.cond (.t 27) (.ops false r55_9) .skip)))))))) (.seq (.ops false r55_10) .ret))))))
theorem F55 : Fn Tryd.prog 55 37 x55.er [.c 2 3 true, .t 3, .t 4] := ⟨Tryd.f55, hcl, Tryd.func55, by kernel_rfl, by kernel_rfl, by kernel_rfl, by kernel_rfl⟩
noncomputable def m55 (a0 : Int) : Option (DS2 × Int × Int × Unit) :=
 (m63 a0).bind fun y169 =>
 cond (not y169.1)
 (some ((0, 0, 0, ()), 0, 1, ()))
 (cond (iNe 24 0)
 (loopO (S := Int × Int × Int × Int × Int × Int × Int × Unit) (R := DS2 × Int × Int × Unit) (fun s170 =>
 (m64 s170.2.2.1 s170.2.2.2.1).bind fun y171 =>
 cond (iLe y171.1 s170.2.1)
 ((m64 s170.2.2.1 s170.2.2.2.1).bind fun y172 =>
 cond (iLt 12 (iAdd .i64 s170.2.2.2.1 1))
 (some (.inl (s170.1, iSub .i64 s170.2.1 y172.1, iAdd .i64 s170.2.2.1 1, 1, s170.2.2.2.2.1, s170.2.2.2.2.2.1, s170.2.2.2.2.2.2.1, ())))
 (some (.inl (s170.1, iSub .i64 s170.2.1 y172.1, s170.2.2.1, iAdd .i64 s170.2.2.2.1 1, s170.2.2.2.2.1, s170.2.2.2.2.2.1, s170.2.2.2.2.2.2.1, ()))))
 (Option.map Sum.inr (cond (iNe 24 0)
 (some ((s170.2.2.1, s170.2.2.2.1, iAdd .i64 s170.2.1 1, ()), iRem s170.1 24, 0, ())) none)))
 (a0, iQuo .i64 a0 24, 2000, 1, 0, 0, 0, ())) none)
noncomputable def cfg55 : Cfg := ⟨ttab, gtab, [i63, i64], []⟩
theorem eqn55 (x : Int × Unit) : xfun cfg55 x55 37 [.c 2 3 true, .t 3, .t 4] [(.int .i64)] [tS2, (.int .i64), (.int .i64)] x = m55 x.1 := by kernel_rfl
noncomputable def i55 : PI := ⟨55, [(.int .i64)], [tS2, (.int .i64), (.int .i64)], fun (x : Int × Unit) => m55 x.1⟩
theorem oki55 : POk Tryd.prog (gx gtab) i55 := pok mixed (cfg_p oki63 (cfg_p oki64 (cfg_nil _ _)) : CfgOk _ (cfg55)) F55 (eqn55)
/- 44 treaty/treatyref01.FormatHour -/
def r44_0 : List Ins := [qI 2 (.mov (.k (.string (bs [])))), qI 3 (.mov (kI 0))]
def r44_1 : List Ins := [qI 9 (.mov 0), qI 10 (.call (.fn 55) [9]), qI 8 (.mov 10), qI 11 (.ext 0 8), qI 12 (.ext 1 8), qI 13 (.ext 2 8), qI 4 (.alloc 74 (.agg #[.int .i64 0, .int .i64 0, .int .i64 0])), qN (.store 3 4 11), qI 5 (.mov 12), qI 6 (.mov 13)]
def r44_2 : List Ins := [qI 14 (.mov 6), qI 15 (.bin .neq 14 (kI 0))]
def r44_3 : List Ins := [qI 16 (.mov 6), qI 2 (.mov (.k (.string (bs [])))), qI 3 (.mov 16)]
def r44_4 : List Ins := [qI 17 (.faddr 0 4), qI 18 (.load 1 false 17), qI 19 (.call (.fn 54) [18, (kI 4)]), qI 20 (.bin .add 19 (.k (.string (bs [45])))), qI 21 (.faddr 1 4), qI 22 (.load 1 false 21), qI 23 (.call (.fn 54) [22, (kI 2)]), qI 24 (.bin .add 20 23), qI 25 (.bin .add 24 (.k (.string (bs [45])))), qI 26 (.faddr 2 4), qI 27 (.load 1 false 26), qI 28 (.call (.fn 54) [27, (kI 2)]), qI 29 (.bin .add 25 28), qI 7 (.mov 29)]
def r44_5 : List Ins := [qI 30 (.mov 5), qI 31 (.bin .gtr 30 (kI 0))]
def r44_6 : List Ins := [qI 32 (.mov 7), qI 33 (.bin .add 32 (.k (.string (bs [84])))), qI 34 (.mov 5), qI 35 (.call (.fn 54) [34, (kI 2)]), qI 36 (.bin .add 33 35), qI 7 (.mov 36)]
def r44_7 : List Ins := [qI 37 (.mov 7), qI 2 (.mov 37), qI 3 (.mov (kI 0))]
def x44 : XC := (.seq (.ops false r44_0) (.seq (.ops false r44_1) (.seq (.seq (.ops false r44_2) (.cond (.t 15) (.seq (.ops false r44_3) .ret) .skip)) (.seq (.ops true r44_4) (.seq (.seq (.ops false r44_5) (.cond (.t 31) (.ops false r44_6) .skip)) (.seq (.ops false r44_7) .ret))))))
theorem F44 : Fn Tryd.prog 44 38 x44.er [.t 2, .t 3] := ⟨Tryd.f44, hcl, Tryd.func44, by kernel_rfl, by kernel_rfl, by kernel_rfl, by kernel_rfl⟩
noncomputable def m44 (a0 : Int) : Option (ByteArray × Int × Unit) :=
 (m55 a0).bind fun y173 =>
 cond (iNe y173.2.2.1 0)
 (some ((bs []), y173.2.2.1, ()))
 ((m54 y173.1.1 4).bind fun y174 =>
 cond (sFits y174.1 (bs [45]))
 ((m54 y173.1.2.1 2).bind fun y175 =>
 cond (sFits (sCat y174.1 (bs [45])) y175.1)
 (cond (sFits (sCat (sCat y174.1 (bs [45])) y175.1) (bs [45]))
 ((m54 y173.1.2.2.1 2).bind fun y176 =>
 cond (sFits (sCat (sCat (sCat y174.1 (bs [45])) y175.1) (bs [45])) y176.1)
 (cond (iLt 0 y173.2.1)
 (cond (sFits (sCat (sCat (sCat (sCat y174.1 (bs [45])) y175.1) (bs [45])) y176.1) (bs [84]))
 ((m54 y173.2.1 2).bind fun y177 =>
 cond (sFits (sCat (sCat (sCat (sCat (sCat y174.1 (bs [45])) y175.1) (bs [45])) y176.1) (bs [84])) y177.1)
 (some (sCat (sCat (sCat (sCat (sCat (sCat y174.1 (bs [45])) y175.1) (bs [45])) y176.1) (bs [84])) y177.1, 0, ())) none) none)
 (some (sCat (sCat (sCat (sCat y174.1 (bs [45])) y175.1) (bs [45])) y176.1, 0, ()))) none) none) none) none)
noncomputable def cfg44 : Cfg := ⟨ttab, gtab, [i54, i55], []⟩
theorem eqn44 (x : Int × Unit) : xfun cfg44 x44 38 [.t 2, .t 3] [(.int .i64)] [.str, (.int .i64)] x = m44 x.1 := by kernel_rfl
noncomputable def i44 : PI := ⟨44, [(.int .i64)], [.str, (.int .i64)], fun (x : Int × Unit) => m44 x.1⟩
theorem oki44 : POk Tryd.prog (gx gtab) i44 := pok mixed (cfg_p oki54 (cfg_p oki55 (cfg_nil _ _)) : CfgOk _ (cfg44)) F44 (eqn44)
/- 45 treaty/treatyref05.mark -/
def r45_0 : List Ins := [qI 2 (.mov (.k (.bool false)))]
def r45_1 : List Ins := [qI 3 (.mov 0), qI 4 (.bin .eql 3 (.k (.string (bs [59])))), qI 5 (.mov 4), qF 6 5 (.mov 0), qF 7 5 (.bin .eql 6 (.k (.string (bs [58])))), qI 8 (.pick 5 (.k (.bool true)) 7), qI 9 (.mov 8), qF 10 9 (.mov 0), qF 11 9 (.bin .eql 10 (.k (.string (bs [44])))), qI 12 (.pick 9 (.k (.bool true)) 11), qI 13 (.mov 12), qF 14 13 (.mov 0), qF 15 13 (.bin .eql 14 (.k (.string (bs [40])))), qI 16 (.pick 13 (.k (.bool true)) 15), qI 17 (.mov 16), qF 18 17 (.mov 0), qF 19 17 (.bin .eql 18 (.k (.string (bs [41])))), qI 20 (.pick 17 (.k (.bool true)) 19), qI 2 (.mov 20)]
def x45 : XC := (.seq (.ops false r45_0) (.seq (.ops false r45_1) .ret))
theorem F45 : Fn Tryd.prog 45 21 x45.er [.t 2] := ⟨Tryd.f45, hcl, Tryd.func45, by kernel_rfl, by kernel_rfl, by kernel_rfl, by kernel_rfl⟩
noncomputable def m45 (a0 : ByteArray) : Option (Bool × Unit) :=
 some (cond (cond (cond (cond (sEq a0 (bs [59])) true (sEq a0 (bs [58]))) true (sEq a0 (bs [44]))) true (sEq a0 (bs [40]))) true (sEq a0 (bs [41])), ())
noncomputable def cfg45 : Cfg := ⟨ttab, gtab, [], []⟩
theorem eqn45 (x : ByteArray × Unit) : xfun cfg45 x45 21 [.t 2] [.str] [.bool] x = m45 x.1 := by kernel_rfl
noncomputable def i45 : PI := ⟨45, [.str], [.bool], fun (x : ByteArray × Unit) => m45 x.1⟩
theorem oki45 : POk Tryd.prog (gx gtab) i45 := pok mixed (cfg_nil _ _ : CfgOk _ (cfg45)) F45 (eqn45)
/- 28 treaty/treatyref05.written -/
def r28_0 : List Ins := [qI 1 (.box 41 4 0), qI 2 (.mov (.k (.string (bs [])))), qI 3 (.mov (kI 0))]
def r28_1 : List Ins := [qI 7 (.faddr 0 1), qI 8 (.load 1 false 7), qI 9 (.bin .lss 8 (kI 1)), qI 10 (.mov 9), qF 11 10 (.faddr 0 1), qF 12 10 (.load 1 false 11), qF 13 10 (.bin .gtr 12 (kI 4)), qI 14 (.pick 10 (.k (.bool true)) 13)]
def r28_2 : List Ins := [qI 2 (.mov (.k (.string (bs [])))), qI 3 (.mov (kI 11))]
def r28_3 : List Ins := [qI 15 (.faddr 0 1), qI 16 (.load 1 false 15), qI 17 (.bin .eql 16 (kI 1)), qI 18 (.mov 17), qF 19 18 (.faddr 0 1), qF 20 18 (.load 1 false 19), qF 21 18 (.bin .eql 20 (kI 4)), qI 22 (.pick 18 (.k (.bool true)) 21), qI 4 (.mov 22)]
def r28_4 : List Ins := [qI 23 (.mov 4), qI 24 (.mov 23), qT 25 24 (.faddr 2 1), qT 26 24 (.load 1 false 25), qT 27 24 (.bin .neq 26 (kI 0)), qI 28 (.pick 24 27 (.k (.bool false))), qI 29 (.mov 28), qF 30 29 (.mov 4), qF 31 29 (.un .not 30), qF 32 29 (.mov 31), qT 33 32 (.faddr 1 1), qT 34 32 (.load 1 false 33), qT 35 32 (.bin .neq 34 (.k (.string (bs [])))), qF 36 29 (.pick 32 35 (.k (.bool false))), qI 37 (.pick 29 (.k (.bool true)) 36)]
def r28_5 : List Ins := [qI 2 (.mov (.k (.string (bs [])))), qI 3 (.mov (kI 20))]
def r28_6 : List Ins := [qI 38 (.faddr 0 1), qI 39 (.load 1 false 38)]
def r28_7 : List Ins := [qI 41 (.bin .eql 39 (kI 1)), qI 40 (.mov 41)]
def r28_8 : List Ins := [qI 42 (.faddr 1 1), qI 43 (.load 1 false 42), qI 44 (.call (.fn 24) [43]), qI 45 (.un .not 44)]
def r28_9 : List Ins := [qI 2 (.mov (.k (.string (bs [])))), qI 3 (.mov (kI 6))]
def r28_10 : List Ins := [qI 47 (.bin .eql 39 (kI 2)), qI 46 (.mov 47)]
def r28_11 : List Ins := [qI 48 (.faddr 2 1), qI 49 (.load 1 false 48), qI 50 (.call (.fn 42) [49]), qI 51 (.un .not 50)]
def r28_12 : List Ins := [qI 2 (.mov (.k (.string (bs [])))), qI 3 (.mov (kI 1))]
def r28_13 : List Ins := [qI 52 (.faddr 2 1), qI 53 (.load 1 false 52), qI 54 (.call (.fn 43) [53]), qI 2 (.mov 54), qI 3 (.mov (kI 0))]
def r28_14 : List Ins := [qI 56 (.bin .eql 39 (kI 3)), qI 55 (.mov 56)]
def r28_15 : List Ins := [qI 58 (.faddr 2 1), qI 59 (.load 1 false 58), qI 60 (.call (.fn 44) [59]), qI 57 (.mov 60), qI 61 (.ext 0 57), qI 62 (.ext 1 57), qI 5 (.mov 61), qI 6 (.mov 62)]
def r28_16 : List Ins := [qI 63 (.mov 5), qI 64 (.bin .add (.k (.string (bs [64]))) 63), qI 65 (.mov 6), qI 2 (.mov 64), qI 3 (.mov 65)]
def r28_17 : List Ins := [qI 67 (.bin .eql 39 (kI 4)), qI 66 (.mov 67)]
def r28_18 : List Ins := [qI 68 (.faddr 1 1), qI 69 (.load 1 false 68), qI 70 (.call (.fn 45) [69]), qI 71 (.un .not 70)]
def r28_19 : List Ins := [qI 2 (.mov (.k (.string (bs [])))), qI 3 (.mov (kI 5))]
def r28_20 : List Ins := [qI 72 (.faddr 1 1), qI 73 (.load 1 false 72), qI 2 (.mov 73), qI 3 (.mov (kI 0))]
def x28 : XC := (.seq (.ops false r28_0) (.seq (.seq (.ops false r28_1) (.cond (.t 14) (.seq (.ops false r28_2) .ret) .skip)) (.seq (.ops false r28_3) (.seq (.seq (.ops false r28_4) (.cond (.t 37) (.seq (.ops false r28_5) .ret) .skip)) (.seq (.seq (.ops false r28_6) (.block 0 (.seq (.ops false r28_7) (.cond (.t 40) (.seq (.ops false r28_8) (.cond (.t 45) (.seq (.ops false r28_9) .ret) .skip)) (.seq (.ops false r28_10) (.cond (.t 46) (.seq (.seq (.ops false r28_11) (.cond (.t 51) (.seq (.ops false r28_12) .ret) .skip)) (.seq (.ops false r28_13) .ret)) (.seq (.ops false r28_14) (.cond (.t 55) (.seq (.ops false r28_15) (.seq (.ops false r28_16) .ret)) (.seq (.ops false r28_17) (.cond (.t 66) (.seq (.ops false r28_18) (.cond (.t 71) (.seq (.ops false r28_19) .ret) .skip)) .skip)))))))))) (.seq (.ops false r28_20) .ret))))))
theorem F28 : Fn Tryd.prog 28 74 x28.er [.t 2, .t 3] := ⟨Tryd.f28, hcl, Tryd.func28, by kernel_rfl, by kernel_rfl, by kernel_rfl, by kernel_rfl⟩
noncomputable def m28 (a0 : DS0) : Option (ByteArray × Int × Unit) :=
 cond (cond (iLt a0.1 1) true (iLt 4 a0.1))
 (some ((bs []), 11, ()))
 (cond (cond (cond (iEq a0.1 1) true (iEq a0.1 4)) (iNe a0.2.2.1 0) false)
 (some ((bs []), 20, ()))
 (cond (cond (not (cond (iEq a0.1 1) true (iEq a0.1 4))) (not (sEq a0.2.1 (bs []))) false)
 (some ((bs []), 20, ()))
 (cond (iEq a0.1 1)
 ((m24 a0.2.1).bind fun y157 =>
 cond (not y157.1)
 (some ((bs []), 6, ()))
 (some (a0.2.1, 0, ())))
 (cond (iEq a0.1 2)
 ((m42 a0.2.2.1).bind fun y158 =>
 cond (not y158.1)
 (some ((bs []), 1, ()))
 ((m43 a0.2.2.1).bind fun y163 =>
 some (y163.1, 0, ())))
 (cond (iEq a0.1 3)
 ((m44 a0.2.2.1).bind fun y178 =>
 cond (sFits (bs [64]) y178.1)
 (some (sCat (bs [64]) y178.1, y178.2.1, ())) none)
 (cond (iEq a0.1 4)
 ((m45 a0.2.1).bind fun y179 =>
 cond (not y179.1)
 (some ((bs []), 5, ()))
 (some (a0.2.1, 0, ())))
 (some (a0.2.1, 0, ()))))))))
noncomputable def cfg28 : Cfg := ⟨ttab, gtab, [i24, i42, i43, i44, i45], []⟩
theorem eqn28 (x : DS0 × Unit) : xfun cfg28 x28 74 [.t 2, .t 3] [tS0] [.str, (.int .i64)] x = m28 x.1 := by kernel_rfl
noncomputable def i28 : PI := ⟨28, [tS0], [.str, (.int .i64)], fun (x : DS0 × Unit) => m28 x.1⟩
theorem oki28 : POk Tryd.prog (gx gtab) i28 := pok mixed (cfg_p oki24 (cfg_p oki42 (cfg_p oki43 (cfg_p oki44 (cfg_p oki45 (cfg_nil _ _))))) : CfgOk _ (cfg28)) F28 (eqn28)
/- 17 treaty/treatyref05.Join -/
def r17_0 : List Ins := [qI 2 (.mov (.k (.string (bs [])))), qI 3 (.mov (kI 0))]
def r17_1 : List Ins := [qI 9 (.mov 0), qI 10 (.len 9), qI 11 (.bin .gtr 10 (kI 4000))]
def r17_2 : List Ins := [qI 2 (.mov (.k (.string (bs [])))), qI 3 (.mov (kI 4))]
def r17_3 : List Ins := [qI 4 (.mov (.k (.string (bs [])))), qI 5 (.mov (.k (.bool true)))]
def r17_4 : List Ins := [qI 6 (.mov (kI 0))]
def r17_5 : List Ins := [qI 12 (.mov 6), qI 13 (.mov 0), qI 14 (.len 13), qI 15 (.bin .lss 12 14)]
def r17_6 : List Ins := [qI 19 (.mov 0), qI 20 (.mov 6), qI 21 (.iaddr 4 19 20), qI 22 (.load 4 true 21), qI 23 (.call (.fn 28) [22]), qI 18 (.mov 23), qI 24 (.ext 0 18), qI 25 (.ext 1 18), qI 7 (.mov 24), qI 8 (.mov 25)]
def r17_7 : List Ins := [qI 26 (.mov 8), qI 27 (.bin .neq 26 (kI 0))]
def r17_8 : List Ins := [qI 28 (.mov 8), qI 2 (.mov (.k (.string (bs [])))), qI 3 (.mov 28)]
def r17_9 : List Ins := [qI 29 (.mov 5), qI 30 (.un .not 29), qI 31 (.mov 30), qT 32 31 (.mov 7), qT 33 31 (.bin .neq 32 (.k (.string (bs [59])))), qI 34 (.pick 31 33 (.k (.bool false))), qI 35 (.mov 34), qT 36 35 (.mov 7), qT 37 35 (.bin .neq 36 (.k (.string (bs [58])))), qI 38 (.pick 35 37 (.k (.bool false))), qI 39 (.mov 38), qT 40 39 (.mov 7), qT 41 39 (.bin .neq 40 (.k (.string (bs [44])))), qI 42 (.pick 39 41 (.k (.bool false))), qI 43 (.mov 42), qT 44 43 (.mov 7), qT 45 43 (.bin .neq 44 (.k (.string (bs [41])))), qI 46 (.pick 43 45 (.k (.bool false)))]
def r17_10 : List Ins := [qI 47 (.mov 4), qI 48 (.bin .add 47 (.k (.string (bs [32])))), qI 4 (.mov 48)]
def r17_11 : List Ins := [qI 49 (.mov 4), qI 50 (.mov 7), qI 51 (.bin .add 49 50), qI 52 (.mov 7), qI 53 (.bin .eql 52 (.k (.string (bs [40])))), qI 4 (.mov 51), qI 5 (.mov 53)]
def r17_12 : List Ins := [qI 16 (.mov 6), qI 17 (.bin .add 16 (kI 1)), qI 6 (.mov 17)]
def r17_13 : List Ins := [qI 54 (.mov 4), qI 55 (.slen 54), qI 56 (.bin .gtr 55 (kI 16384))]
def r17_14 : List Ins := [qI 2 (.mov (.k (.string (bs [])))), qI 3 (.mov (kI 4))]
def r17_15 : List Ins := [qI 57 (.mov 4), qI 2 (.mov 57), qI 3 (.mov (kI 0))]
def x17 : XC := (.seq (.ops false r17_0) (.seq (.seq (.ops false r17_1) (.cond (.t 11) (.seq (.ops false r17_2) .ret) .skip)) (.seq (.ops false r17_3) (.seq (.seq (.ops false r17_4) (.block 0 (.loop [] ⟨58, [(0, (.list tS0)), (4, .str), (5, .bool), (6, (.int .i64))], [], []⟩ (.seq (.seq (.ops false r17_5) (.cond (.t 15) .skip (.exit 0))) (.seq (.block 1 (.seq (.ops false r17_6) (.seq (.seq (.ops false r17_7) (.cond (.t 27) (.seq (.ops false r17_8) .ret) .skip)) (.seq (.seq (.ops false r17_9) (.cond (.t 46) (.ops false r17_10) .skip)) (.ops false r17_11))))) (.ops false r17_12)))))) (.seq (.seq (.ops false r17_13) (.cond (.t 56) (.seq (.ops false r17_14) .ret) .skip)) (.seq (.ops false r17_15) .ret))))))
theorem F17 : Fn Tryd.prog 17 58 x17.er [.t 2, .t 3] := ⟨Tryd.f17, hcl, Tryd.func17, by kernel_rfl, by kernel_rfl, by kernel_rfl, by kernel_rfl⟩
noncomputable def m17 (a0 : List DS0) : Option (ByteArray × Int × Unit) :=
 cond (iLt 4000 (lenI a0))
 (some ((bs []), 4, ()))
 (loopO (S := (List DS0) × ByteArray × Bool × Int × Unit) (R := ByteArray × Int × Unit) (fun s181 =>
 cond (iLt s181.2.2.2.1 (lenI s181.1))
 (cond (bnd s181.2.2.2.1 (lenI s181.1))
 ((m28 (atI s181.1 s181.2.2.2.1 (0, ByteArray.empty, 0, 0, ()))).bind fun y182 =>
 cond (iNe y182.2.1 0)
 (some (.inr ((bs []), y182.2.1, ())))
 (cond (cond (cond (cond (cond (not s181.2.2.1) (not (sEq y182.1 (bs [59]))) false) (not (sEq y182.1 (bs [58]))) false) (not (sEq y182.1 (bs [44]))) false) (not (sEq y182.1 (bs [41]))) false)
 (cond (sFits s181.2.1 (bs [32]))
 (cond (sFits (sCat s181.2.1 (bs [32])) y182.1)
 (some (.inl (s181.1, sCat (sCat s181.2.1 (bs [32])) y182.1, sEq y182.1 (bs [40]), iAdd .i64 s181.2.2.2.1 1, ()))) none) none)
 (cond (sFits s181.2.1 y182.1)
 (some (.inl (s181.1, sCat s181.2.1 y182.1, sEq y182.1 (bs [40]), iAdd .i64 s181.2.2.2.1 1, ()))) none))) none)
 (Option.map Sum.inr (cond (iLt 16384 (sLen s181.2.1))
 (some ((bs []), 4, ()))
 (some (s181.2.1, 0, ())))))
 (a0, (bs []), true, 0, ()))
noncomputable def cfg17 : Cfg := ⟨ttab, gtab, [i28], []⟩
theorem eqn17 (x : (List DS0) × Unit) : xfun cfg17 x17 58 [.t 2, .t 3] [(.list tS0)] [.str, (.int .i64)] x = m17 x.1 := by kernel_rfl
noncomputable def i17 : PI := ⟨17, [(.list tS0)], [.str, (.int .i64)], fun (x : (List DS0) × Unit) => m17 x.1⟩
theorem oki17 : POk Tryd.prog (gx gtab) i17 := pok mixed (cfg_p oki28 (cfg_nil _ _) : CfgOk _ (cfg17)) F17 (eqn17)
/- 19 treaty/treatyref05.SameTokens -/
def r19_0 : List Ins := [qI 6 (.mov (.k (.bool false)))]
def r19_1 : List Ins := [qI 8 (.mov 0), qI 9 (.len 8), qI 10 (.mov 1), qI 11 (.len 10), qI 12 (.bin .neq 9 11)]
def r19_2 : List Ins := [qI 6 (.mov (.k (.bool false)))]
def r19_3 : List Ins := [qI 7 (.mov (kI 0))]
def r19_4 : List Ins := [qI 13 (.mov 7), qI 14 (.mov 0), qI 15 (.len 14), qI 16 (.bin .lss 13 15)]
def r19_5 : List Ins := [qI 19 (.mov 0), qI 20 (.mov 7), qI 21 (.iaddr 4 19 20), qI 22 (.faddr 0 21), qI 23 (.load 1 false 22), qI 24 (.mov 1), qI 25 (.mov 7), qI 26 (.iaddr 4 24 25), qI 27 (.faddr 0 26), qI 28 (.load 1 false 27), qI 29 (.bin .neq 23 28), qI 30 (.mov 29), qF 31 30 (.mov 0), qF 32 30 (.mov 7), qF 33 30 (.iaddr 4 31 32), qF 34 30 (.faddr 1 33), qF 35 30 (.load 1 false 34), qF 36 30 (.mov 1), qF 37 30 (.mov 7), qF 38 30 (.iaddr 4 36 37), qF 39 30 (.faddr 1 38), qF 40 30 (.load 1 false 39), qF 41 30 (.bin .neq 35 40), qI 42 (.pick 30 (.k (.bool true)) 41), qI 43 (.mov 42), qF 44 43 (.mov 0), qF 45 43 (.mov 7), qF 46 43 (.iaddr 4 44 45), qF 47 43 (.faddr 2 46), qF 48 43 (.load 1 false 47), qF 49 43 (.mov 1), qF 50 43 (.mov 7), qF 51 43 (.iaddr 4 49 50), qF 52 43 (.faddr 2 51), qF 53 43 (.load 1 false 52), qF 54 43 (.bin .neq 48 53), qI 55 (.pick 43 (.k (.bool true)) 54), qI 56 (.mov 55), qF 57 56 (.mov 2), qF 58 56 (.mov 57), qT 59 58 (.mov 0), qT 60 58 (.mov 7), qT 61 58 (.iaddr 4 59 60), qT 62 58 (.faddr 3 61), qT 63 58 (.load 1 false 62), qT 64 58 (.mov 1), qT 65 58 (.mov 7), qT 66 58 (.iaddr 4 64 65), qT 67 58 (.faddr 3 66), qT 68 58 (.load 1 false 67), qT 69 58 (.bin .neq 63 68), qF 70 56 (.pick 58 69 (.k (.bool false))), qI 71 (.pick 56 (.k (.bool true)) 70)]
def r19_6 : List Ins := [qI 6 (.mov (.k (.bool false)))]
def r19_7 : List Ins := [qI 17 (.mov 7), qI 18 (.bin .add 17 (kI 1)), qI 7 (.mov 18)]
def r19_8 : List Ins := [qI 6 (.mov (.k (.bool true)))]
def x19 : XC := (.seq (.ops false r19_0) (.seq (.seq (.ops false r19_1) (.cond (.t 12) (.seq (.ops false r19_2) .ret) .skip)) (.seq (.seq (.ops false r19_3) (.block 0 (.loop [] ⟨72, [(0, (.list tS0)), (1, (.list tS0)), (2, .bool), (7, (.int .i64))], [], []⟩ (.seq (.seq (.ops false r19_4) (.cond (.t 16) .skip (.exit 0))) (.seq (.block 1 (.seq (.ops true r19_5) (.cond (.t 71) (.seq (.ops false r19_6) .ret) .skip))) (.ops false r19_7)))))) (.seq (.ops false r19_8) .ret))))
theorem F19 : Fn Tryd.prog 19 72 x19.er [.t 6] := ⟨Tryd.f19, hcl, Tryd.func19, by kernel_rfl, by kernel_rfl, by kernel_rfl, by kernel_rfl⟩
noncomputable def m19 (a0 : List DS0) (a1 : List DS0) (a2 : Bool) : Option (Bool × Unit) :=
 cond (iNe (lenI a0) (lenI a1))
 (some (false, ()))
 (loopO (S := (List DS0) × (List DS0) × Bool × Int × Unit) (R := Bool × Unit) (fun s186 =>
 cond (iLt s186.2.2.2.1 (lenI s186.1))
 (cond (bnd s186.2.2.2.1 (lenI s186.1))
 (cond (bnd s186.2.2.2.1 (lenI s186.2.1))
 (cond (or (bnd s186.2.2.2.1 (lenI s186.1)) (not (bEq (iNe ((atI s186.1 s186.2.2.2.1 (0, ByteArray.empty, 0, 0, ())).1) ((atI s186.2.1 s186.2.2.2.1 (0, ByteArray.empty, 0, 0, ())).1)) false)))
 (cond (or (bnd s186.2.2.2.1 (lenI s186.2.1)) (not (bEq (iNe ((atI s186.1 s186.2.2.2.1 (0, ByteArray.empty, 0, 0, ())).1) ((atI s186.2.1 s186.2.2.2.1 (0, ByteArray.empty, 0, 0, ())).1)) false)))
 (cond (or (bnd s186.2.2.2.1 (lenI s186.1)) (not (bEq (cond (iNe ((atI s186.1 s186.2.2.2.1 (0, ByteArray.empty, 0, 0, ())).1) ((atI s186.2.1 s186.2.2.2.1 (0, ByteArray.empty, 0, 0, ())).1)) true (not (sEq ((atI s186.1 s186.2.2.2.1 (0, ByteArray.empty, 0, 0, ())).2.1) ((atI s186.2.1 s186.2.2.2.1 (0, ByteArray.empty, 0, 0, ())).2.1)))) false)))
 (cond (or (bnd s186.2.2.2.1 (lenI s186.2.1)) (not (bEq (cond (iNe ((atI s186.1 s186.2.2.2.1 (0, ByteArray.empty, 0, 0, ())).1) ((atI s186.2.1 s186.2.2.2.1 (0, ByteArray.empty, 0, 0, ())).1)) true (not (sEq ((atI s186.1 s186.2.2.2.1 (0, ByteArray.empty, 0, 0, ())).2.1) ((atI s186.2.1 s186.2.2.2.1 (0, ByteArray.empty, 0, 0, ())).2.1)))) false)))
 (cond (cond (cond (iNe ((atI s186.1 s186.2.2.2.1 (0, ByteArray.empty, 0, 0, ())).1) ((atI s186.2.1 s186.2.2.2.1 (0, ByteArray.empty, 0, 0, ())).1)) true (not (sEq ((atI s186.1 s186.2.2.2.1 (0, ByteArray.empty, 0, 0, ())).2.1) ((atI s186.2.1 s186.2.2.2.1 (0, ByteArray.empty, 0, 0, ())).2.1)))) true (iNe ((atI s186.1 s186.2.2.2.1 (0, ByteArray.empty, 0, 0, ())).2.2.1) ((atI s186.2.1 s186.2.2.2.1 (0, ByteArray.empty, 0, 0, ())).2.2.1)))
 (some (.inr (false, ())))
 (cond (or (bnd s186.2.2.2.1 (lenI s186.1)) (not (bEq s186.2.2.1 true)))
 (cond (or (bnd s186.2.2.2.1 (lenI s186.2.1)) (not (bEq s186.2.2.1 true)))
 (cond (cond s186.2.2.1 (iNe ((atI s186.1 s186.2.2.2.1 (0, ByteArray.empty, 0, 0, ())).2.2.2.1) ((atI s186.2.1 s186.2.2.2.1 (0, ByteArray.empty, 0, 0, ())).2.2.2.1)) false)
 (some (.inr (false, ())))
 (some (.inl (s186.1, s186.2.1, s186.2.2.1, iAdd .i64 s186.2.2.2.1 1, ())))) none) none)) none) none) none) none) none) none)
 (some (.inr (true, ()))))
 (a0, a1, a2, 0, ()))
noncomputable def cfg19 : Cfg := ⟨ttab, gtab, [], []⟩
theorem eqn19 (x : (List DS0) × (List DS0) × Bool × Unit) : xfun cfg19 x19 72 [.t 6] [(.list tS0), (.list tS0), .bool] [.bool] x = m19 x.1 x.2.1 x.2.2.1 := by kernel_rfl
noncomputable def i19 : PI := ⟨19, [(.list tS0), (.list tS0), .bool], [.bool], fun (x : (List DS0) × (List DS0) × Bool × Unit) => m19 x.1 x.2.1 x.2.2.1⟩
theorem oki19 : POk Tryd.prog (gx gtab) i19 := pok mixed (cfg_nil _ _ : CfgOk _ (cfg19)) F19 (eqn19)
/- 4 treaty/treatylaw05.LexerSpaces -/
def r4_0 : List Ins := [qI 4 (.mov (.k (.bool false)))]
def r4_1 : List Ins := [qI 14 (.mov 0), qI 15 (.call (.fn 16) [14]), qI 5 (.mov 15)]
def r4_2 : List Ins := [qI 6 (.mov (.k (.string (bs []))))]
def r4_3 : List Ins := [qI 7 (.mov (kI 0))]
def r4_4 : List Ins := [qI 16 (.mov 7), qI 17 (.mov 5), qI 18 (.len 17), qI 19 (.bin .lss 16 18)]
def r4_5 : List Ins := [qI 23 (.mov 5), qI 24 (.mov 7), qI 25 (.mov 7), qI 26 (.bin .add 25 (kI 1)), qI 27 (.slice 4 23 (some 24) (some 26)), qI 28 (.call (.fn 17) [27]), qI 22 (.mov 28), qI 29 (.ext 0 22), qI 30 (.ext 1 22), qI 8 (.mov 29), qI 9 (.mov 30)]
def r4_6 : List Ins := [qI 10 (.mov (.k (.int .u8 0)))]
def r4_7 : List Ins := [qI 31 (.mov 7), qI 32 (.mov 1), qI 33 (.len 32), qI 34 (.bin .lss 31 33)]
def r4_8 : List Ins := [qI 35 (.mov 1), qI 36 (.mov 7), qI 37 (.iaddr 1 35 36), qI 38 (.load 1 false 37), qI 10 (.mov 38)]
def r4_9 : List Ins := [qI 39 (.mov 6), qI 40 (.bslice 9 1 [(.k (.string (bs [32]))), (.k (.string (bs [10]))), (.k (.string (bs [32, 32, 32]))), (.k (.string (bs [32, 35, 32, 97, 32, 40, 32, 48, 48, 55, 10]))), (.k (.string (bs [10, 10, 32])))]), qI 41 (.mov 10), qI 42 (.conv .i64 41), qI 43 (.bin .rem 42 (kI 5)), qI 44 (.iaddr 1 40 43), qI 45 (.load 1 false 44), qI 46 (.bin .add 39 45), qI 47 (.mov 8), qI 48 (.bin .add 46 47), qI 6 (.mov 48)]
def r4_10 : List Ins := [qI 20 (.mov 7), qI 21 (.bin .add 20 (kI 1)), qI 7 (.mov 21)]
def r4_11 : List Ins := [qI 50 (.mov 6), qI 51 (.bin .add 50 (.k (.string (bs [32, 35, 32, 101, 110, 100])))), qI 52 (.call (.fn 18) [51]), qI 49 (.mov 52), qI 53 (.ext 0 49), qI 54 (.ext 1 49), qI 55 (.ext 2 49), qI 11 (.mov 53), qI 12 (.mov 54), qI 13 (.mov 55)]
def r4_12 : List Ins := [qI 56 (.mov 13), qI 57 (.bin .eql 56 (kI 0)), qI 58 (.mov 57), qT 59 58 (.mov 5), qT 60 58 (.mov 11), qT 61 58 (.call (.fn 19) [59, 60, (.k (.bool false))]), qI 62 (.pick 58 61 (.k (.bool false))), qI 63 (.mov 62), qT 64 63 (.call (.fn 9) []), qI 65 (.pick 63 64 (.k (.bool false))), qI 4 (.mov 65)]
def x4 : XC := (.seq (.ops false r4_0) (.seq (.ops false r4_1) (.seq (.ops false r4_2) (.seq (.seq (.ops false r4_3) (.block 0 (.loop [] ⟨66, [(1, (.list (.int .u8))), (5, (.list tS0)), (6, .str), (7, (.int .i64))], [], []⟩ (.seq (.seq (.ops false r4_4) (.cond (.t 19) .skip (.exit 0))) (.seq (.block 1 (.seq (.ops false r4_5) (.seq (.ops false r4_6) (.seq (.seq (.ops false r4_7) (.cond (.t 34) (.ops false r4_8) .skip)) (.ops false r4_9))))) (.ops false r4_10)))))) (.seq (.ops false r4_11) (.seq (.ops false r4_12) .ret))))))
theorem F4 : Fn Tryd.prog 4 66 x4.er [.t 4] := ⟨Tryd.f4, hcl, Tryd.func4, by kernel_rfl, by kernel_rfl, by kernel_rfl, by kernel_rfl⟩
noncomputable def m4 (a0 : List Int) (a1 : List Int) : Option (Bool × Unit) :=
 (m16 a0).bind fun y189 =>
 loopO (S := (List Int) × (List DS0) × ByteArray × Int × Unit) (R := Bool × Unit) (fun s190 =>
 cond (iLt s190.2.2.2.1 (lenI s190.2.1))
 (cond (cutOk s190.2.2.2.1 (iAdd .i64 s190.2.2.2.1 1) (List.length s190.2.1))
 ((m17 (cutL s190.2.2.2.1 (iAdd .i64 s190.2.2.2.1 1) s190.2.1)).bind fun y191 =>
 cond (iLt s190.2.2.2.1 (lenI s190.1))
 (cond (bnd s190.2.2.2.1 (lenI s190.1))
 (cond (iNe 5 0)
 (cond (bnd (iRem (IntKind.wrap .i64 (atI s190.1 s190.2.2.2.1 0)) 5) (lenI ([(bs [32]), (bs [10]), (bs [32, 32, 32]), (bs [32, 35, 32, 97, 32, 40, 32, 48, 48, 55, 10]), (bs [10, 10, 32])] : List ByteArray)))
 (cond (inB (Int.toNat (iRem (IntKind.wrap .i64 (atI s190.1 s190.2.2.2.1 0)) 5)) ([(bs [32]), (bs [10]), (bs [32, 32, 32]), (bs [32, 35, 32, 97, 32, 40, 32, 48, 48, 55, 10]), (bs [10, 10, 32])] : List ByteArray))
 (cond (sFits s190.2.2.1 (List.getD ([(bs [32]), (bs [10]), (bs [32, 32, 32]), (bs [32, 35, 32, 97, 32, 40, 32, 48, 48, 55, 10]), (bs [10, 10, 32])] : List ByteArray) (Int.toNat (iRem (IntKind.wrap .i64 (atI s190.1 s190.2.2.2.1 0)) 5)) ByteArray.empty))
 (cond (sFits (sCat s190.2.2.1 (List.getD ([(bs [32]), (bs [10]), (bs [32, 32, 32]), (bs [32, 35, 32, 97, 32, 40, 32, 48, 48, 55, 10]), (bs [10, 10, 32])] : List ByteArray) (Int.toNat (iRem (IntKind.wrap .i64 (atI s190.1 s190.2.2.2.1 0)) 5)) ByteArray.empty)) y191.1)
 (some (.inl (s190.1, s190.2.1, sCat (sCat s190.2.2.1 (List.getD ([(bs [32]), (bs [10]), (bs [32, 32, 32]), (bs [32, 35, 32, 97, 32, 40, 32, 48, 48, 55, 10]), (bs [10, 10, 32])] : List ByteArray) (Int.toNat (iRem (IntKind.wrap .i64 (atI s190.1 s190.2.2.2.1 0)) 5)) ByteArray.empty)) y191.1, iAdd .i64 s190.2.2.2.1 1, ()))) none) none) none) none) none) none)
 (cond (iNe 5 0)
 (cond (bnd (iRem (IntKind.wrap .i64 0) 5) (lenI ([(bs [32]), (bs [10]), (bs [32, 32, 32]), (bs [32, 35, 32, 97, 32, 40, 32, 48, 48, 55, 10]), (bs [10, 10, 32])] : List ByteArray)))
 (cond (inB (Int.toNat (iRem (IntKind.wrap .i64 0) 5)) ([(bs [32]), (bs [10]), (bs [32, 32, 32]), (bs [32, 35, 32, 97, 32, 40, 32, 48, 48, 55, 10]), (bs [10, 10, 32])] : List ByteArray))
 (cond (sFits s190.2.2.1 (List.getD ([(bs [32]), (bs [10]), (bs [32, 32, 32]), (bs [32, 35, 32, 97, 32, 40, 32, 48, 48, 55, 10]), (bs [10, 10, 32])] : List ByteArray) (Int.toNat (iRem (IntKind.wrap .i64 0) 5)) ByteArray.empty))
 (cond (sFits (sCat s190.2.2.1 (List.getD ([(bs [32]), (bs [10]), (bs [32, 32, 32]), (bs [32, 35, 32, 97, 32, 40, 32, 48, 48, 55, 10]), (bs [10, 10, 32])] : List ByteArray) (Int.toNat (iRem (IntKind.wrap .i64 0) 5)) ByteArray.empty)) y191.1)
 (some (.inl (s190.1, s190.2.1, sCat (sCat s190.2.2.1 (List.getD ([(bs [32]), (bs [10]), (bs [32, 32, 32]), (bs [32, 35, 32, 97, 32, 40, 32, 48, 48, 55, 10]), (bs [10, 10, 32])] : List ByteArray) (Int.toNat (iRem (IntKind.wrap .i64 0) 5)) ByteArray.empty)) y191.1, iAdd .i64 s190.2.2.2.1 1, ()))) none) none) none) none) none)) none)
 (Option.map Sum.inr (cond (sFits s190.2.2.1 (bs [32, 35, 32, 101, 110, 100]))
 ((m18 (sCat s190.2.2.1 (bs [32, 35, 32, 101, 110, 100]))).bind fun y192 =>
 cond (iEq y192.2.2.1 0)
 ((m19 s190.2.1 y192.1 false).bind fun y193 =>
 cond y193.1
 ((m9).bind fun y194 =>
 some (y194.1, ()))
 (some (false, ())))
 (some (false, ()))) none)))
 (a1, y189.1, (bs []), 0, ())
noncomputable def cfg4 : Cfg := ⟨ttab, gtab, [i16, i17, i18, i19, i9], []⟩
theorem eqn4 (x : (List Int) × (List Int) × Unit) : xfun cfg4 x4 66 [.t 4] [(.list (.int .i64)), (.list (.int .u8))] [.bool] x = m4 x.1 x.2.1 := by kernel_rfl
noncomputable def i4 : PI := ⟨4, [(.list (.int .i64)), (.list (.int .u8))], [.bool], fun (x : (List Int) × (List Int) × Unit) => m4 x.1 x.2.1⟩
theorem oki4 : POk Tryd.prog (gx gtab) i4 := pok mixed (cfg_p oki16 (cfg_p oki17 (cfg_p oki18 (cfg_p oki19 (cfg_p oki9 (cfg_nil _ _))))) : CfgOk _ (cfg4)) F4 (eqn4)
/- 5 treaty/treatylaw05.LexerLimits -/
def r5_0 : List Ins := [qI 4 (.mov (.k (.bool false)))]
def r5_1 : List Ins := [qI 21 (.mov 1), qI 22 (.conv .i64 21), qI 23 (.bin .rem 22 (kI 5)), qI 24 (.idx (.k (.string (bs [59, 58, 44, 40, 41]))) 23), qI 25 (.bslice 5 1 [24]), qI 5 (.mov 25)]
def r5_2 : List Ins := [qI 6 (.mov (.k (.string (bs []))))]
def r5_3 : List Ins := [qI 26 (.mov 6), qI 27 (.slen 26), qI 28 (.bin .lss 27 (kI 500))]
def r5_4 : List Ins := [qI 29 (.mov 6), qI 30 (.mov 5), qI 31 (.b2s 30), qI 32 (.bin .add 29 31), qI 6 (.mov 32)]
def r5_5 : List Ins := [qI 33 (.mov 0)]
def r5_6 : List Ins := [qI 34 (.mov 6), qI 35 (.mov 6), qI 36 (.bin .add 34 35), qI 37 (.mov 6), qI 38 (.bin .add 36 37), qI 39 (.mov 6), qI 40 (.bin .add 38 39), qI 6 (.mov 40)]
def r5_7 : List Ins := [qI 41 (.mov 6), qI 42 (.mov 6), qI 43 (.bin .add 41 42), qI 6 (.mov 43)]
def r5_8 : List Ins := [qI 45 (.mov 6), qI 46 (.call (.fn 18) [45]), qI 44 (.mov 46), qI 47 (.ext 0 44), qI 48 (.ext 1 44), qI 49 (.ext 2 44), qI 7 (.mov 47), qI 8 (.mov 48), qI 9 (.mov 49)]
def r5_9 : List Ins := [qI 51 (.mov 6), qI 52 (.bin .add 51 (.k (.string (bs [32])))), qI 53 (.mov 5), qI 54 (.b2s 53), qI 55 (.bin .add 52 54), qI 56 (.call (.fn 18) [55]), qI 50 (.mov 56), qI 57 (.ext 0 50), qI 58 (.ext 1 50), qI 59 (.ext 2 50), qI 10 (.mov 57), qI 11 (.mov 58), qI 12 (.mov 59)]
def r5_10 : List Ins := [qI 60 (.mov 9), qI 61 (.bin .eql 60 (kI 0)), qI 62 (.mov 61), qT 63 62 (.mov 7), qT 64 62 (.len 63), qT 65 62 (.bin .eql 64 (kI 4000)), qI 66 (.pick 62 65 (.k (.bool false))), qI 67 (.mov 66), qT 68 67 (.mov 12), qT 69 67 (.bin .eql 68 (kI 4)), qI 70 (.pick 67 69 (.k (.bool false))), qI 71 (.mov 70), qT 72 71 (.mov 11), qT 73 71 (.mov 6), qT 74 71 (.slen 73), qT 75 71 (.bin .add 74 (kI 1)), qT 76 71 (.bin .eql 72 75), qI 77 (.pick 71 76 (.k (.bool false))), qI 78 (.mov 77), qT 79 78 (.mov 10), qT 80 78 (.len 79), qT 81 78 (.bin .eql 80 (kI 0)), qI 82 (.pick 78 81 (.k (.bool false))), qI 83 (.mov 82), qT 84 83 (.call (.fn 9) []), qI 85 (.pick 83 84 (.k (.bool false))), qI 4 (.mov 85)]
def r5_11 : List Ins := [qI 86 (.mk 5 1 1 (.int .u8 0) (kI 16384)), qI 13 (.mov 86)]
def r5_12 : List Ins := [qI 14 (.mov (kI 0))]
def r5_13 : List Ins := [qI 87 (.mov 14), qI 88 (.mov 13), qI 89 (.len 88), qI 90 (.bin .lss 87 89)]
def r5_14 : List Ins := [qI 93 (.mov 13), qI 94 (.mov 14), qI 95 (.iaddr 1 93 94), qN (.store 1 95 (.k (.int .u8 32)))]
def r5_15 : List Ins := [qI 91 (.mov 14), qI 92 (.bin .add 91 (kI 1)), qI 14 (.mov 92)]
def r5_16 : List Ins := [qI 97 (.mov 13), qI 98 (.slice 1 97 (some (kI 1)) none), qI 99 (.b2s 98), qI 100 (.mov 5), qI 101 (.b2s 100), qI 102 (.bin .add 99 101), qI 103 (.call (.fn 18) [102]), qI 96 (.mov 103), qI 104 (.ext 0 96), qI 105 (.ext 1 96), qI 106 (.ext 2 96), qI 15 (.mov 104), qI 16 (.mov 105), qI 17 (.mov 106)]
def r5_17 : List Ins := [qI 108 (.mov 13), qI 109 (.b2s 108), qI 110 (.mov 5), qI 111 (.b2s 110), qI 112 (.bin .add 109 111), qI 113 (.call (.fn 18) [112]), qI 107 (.mov 113), qI 114 (.ext 0 107), qI 115 (.ext 1 107), qI 116 (.ext 2 107), qI 18 (.mov 114), qI 19 (.mov 115), qI 20 (.mov 116)]
def r5_18 : List Ins := [qI 117 (.mov 17), qI 118 (.bin .eql 117 (kI 0)), qI 119 (.mov 118), qT 120 119 (.mov 15), qT 121 119 (.len 120), qT 122 119 (.bin .eql 121 (kI 1)), qI 123 (.pick 119 122 (.k (.bool false))), qI 124 (.mov 123), qT 125 124 (.mov 15), qT 126 124 (.iaddr 4 125 (kI 0)), qT 127 124 (.faddr 3 126), qT 128 124 (.load 1 false 127), qT 129 124 (.bin .eql 128 (kI 16383)), qI 130 (.pick 124 129 (.k (.bool false))), qI 131 (.mov 130), qT 132 131 (.mov 20), qT 133 131 (.bin .eql 132 (kI 4)), qI 134 (.pick 131 133 (.k (.bool false))), qI 135 (.mov 134), qT 136 135 (.mov 19), qT 137 135 (.bin .eql 136 (kI 0)), qI 138 (.pick 135 137 (.k (.bool false))), qI 139 (.mov 138), qT 140 139 (.mov 18), qT 141 139 (.len 140), qT 142 139 (.bin .eql 141 (kI 0)), qI 143 (.pick 139 142 (.k (.bool false))), qI 144 (.mov 143), qT 145 144 (.call (.fn 9) []), qI 146 (.pick 144 145 (.k (.bool false))), qI 4 (.mov 146)]
def x5 : XC := (.seq (.ops false r5_0) (.seq (.ops false r5_1) (.seq (.ops false r5_2) (.seq (.block 0 (.loop [] ⟨147, [(0, .bool), (6, .str)], [(5, .row 0)], [.row 5 (.int .u8) false]⟩ (.seq (.seq (.ops false r5_3) (.cond (.t 28) .skip (.exit 0))) (.block 1 (.ops false r5_4))))) (.seq (.seq (.ops false r5_5) (.cond (.t 33) (.seq (.ops false r5_6) (.seq (.ops false r5_7) (.seq (.ops false r5_8) (.seq (.ops false r5_9) (.seq (.ops false r5_10) .ret))))) .skip)) (.seq (.ops false r5_11) (.seq (.seq (.ops false r5_12) (.block 2 (.loop [] ⟨147, [(14, (.int .i64))], [(5, .row 0), (13, .row 1)], [.row 5 (.int .u8) false, .row 5 (.int .u8) false]⟩ (.seq (.seq (.ops false r5_13) (.cond (.t 90) .skip (.exit 2))) (.seq (.block 3 (.ops false r5_14)) (.ops false r5_15)))))) (.seq (.ops true r5_16) (.seq (.ops false r5_17) (.seq (.ops false r5_18) .ret))))))))))
theorem F5 : Fn Tryd.prog 5 147 x5.er [.t 4] := ⟨Tryd.f5, hcl, Tryd.func5, by kernel_rfl, by kernel_rfl, by kernel_rfl, by kernel_rfl⟩
noncomputable def m5 (a0 : Bool) (a1 : Int) : Option (Bool × Unit) :=
 cond (iNe 5 0)
 (cond (bnd (iRem (IntKind.wrap .i64 a1) 5) (sLen (bs [59, 58, 44, 40, 41])))
 (loopO (S := Bool × ByteArray × (List Int) × Unit) (R := Bool × Unit) (fun s203 =>
 cond (iLt (sLen s203.2.1) 500)
 (cond (sFits s203.2.1 (bsI s203.2.2.1))
 (some (.inl (s203.1, sCat s203.2.1 (bsI s203.2.2.1), s203.2.2.1, ()))) none)
 (Option.map Sum.inr (cond s203.1
 (cond (sFits s203.2.1 s203.2.1)
 (cond (sFits (sCat s203.2.1 s203.2.1) s203.2.1)
 (cond (sFits (sCat (sCat s203.2.1 s203.2.1) s203.2.1) s203.2.1)
 (cond (sFits (sCat (sCat (sCat s203.2.1 s203.2.1) s203.2.1) s203.2.1) (sCat (sCat (sCat s203.2.1 s203.2.1) s203.2.1) s203.2.1))
 ((m18 (sCat (sCat (sCat (sCat s203.2.1 s203.2.1) s203.2.1) s203.2.1) (sCat (sCat (sCat s203.2.1 s203.2.1) s203.2.1) s203.2.1))).bind fun y204 =>
 cond (sFits (sCat (sCat (sCat (sCat s203.2.1 s203.2.1) s203.2.1) s203.2.1) (sCat (sCat (sCat s203.2.1 s203.2.1) s203.2.1) s203.2.1)) (bs [32]))
 (cond (sFits (sCat (sCat (sCat (sCat (sCat s203.2.1 s203.2.1) s203.2.1) s203.2.1) (sCat (sCat (sCat s203.2.1 s203.2.1) s203.2.1) s203.2.1)) (bs [32])) (bsI s203.2.2.1))
 ((m18 (sCat (sCat (sCat (sCat (sCat (sCat s203.2.1 s203.2.1) s203.2.1) s203.2.1) (sCat (sCat (sCat s203.2.1 s203.2.1) s203.2.1) s203.2.1)) (bs [32])) (bsI s203.2.2.1))).bind fun y205 =>
 cond (cond (cond (cond (cond (iEq y204.2.2.1 0) (iEq (lenI y204.1) 4000) false) (iEq y205.2.2.1 4) false) (iEq y205.2.1 (iAdd .i64 (sLen (sCat (sCat (sCat (sCat s203.2.1 s203.2.1) s203.2.1) s203.2.1) (sCat (sCat (sCat s203.2.1 s203.2.1) s203.2.1) s203.2.1))) 1)) false) (iEq (lenI y205.1) 0) false)
 ((m9).bind fun y206 =>
 some (y206.1, ()))
 (some (false, ()))) none) none) none) none) none) none)
 (cond (fitsI 16384 1)
 (loopO (S := Int × (List Int) × (List Int) × Unit) (R := Bool × Unit) (fun s207 =>
 cond (iLt s207.1 (lenI s207.2.2.1))
 (cond (bnd s207.1 (lenI s207.2.2.1))
 (cond (inB (Int.toNat s207.1) s207.2.2.1)
 (some (.inl (iAdd .i64 s207.1 1, s207.2.1, List.set s207.2.2.1 (Int.toNat s207.1) 32, ()))) none) none)
 (Option.map Sum.inr (cond (cutOk 1 ((List.length s207.2.2.1 : Nat) : Int) (List.length s207.2.2.1))
 (cond (sFits (bsI (List.take (Int.toNat (((List.length s207.2.2.1 : Nat) : Int) - 1)) (List.drop (Int.toNat 1) s207.2.2.1))) (bsI s207.2.1))
 ((m18 (sCat (bsI (List.take (Int.toNat (((List.length s207.2.2.1 : Nat) : Int) - 1)) (List.drop (Int.toNat 1) s207.2.2.1))) (bsI s207.2.1))).bind fun y208 =>
 cond (sFits (bsI s207.2.2.1) (bsI s207.2.1))
 ((m18 (sCat (bsI s207.2.2.1) (bsI s207.2.1))).bind fun y209 =>
 cond (or (bnd 0 (lenI y208.1)) (not (bEq (cond (iEq y208.2.2.1 0) (iEq (lenI y208.1) 1) false) true)))
 (cond (cond (cond (cond (cond (cond (iEq y208.2.2.1 0) (iEq (lenI y208.1) 1) false) (iEq ((atI y208.1 0 (0, ByteArray.empty, 0, 0, ())).2.2.2.1) 16383) false) (iEq y209.2.2.1 4) false) (iEq y209.2.1 0) false) (iEq (lenI y209.1) 0) false)
 ((m9).bind fun y210 =>
 some (y210.1, ()))
 (some (false, ()))) none) none) none) none)))
 (0, s203.2.2.1, List.replicate (Int.toNat 16384) 0, ())) none))))
 (a0, (bs []), ([sAt (bs [59, 58, 44, 40, 41]) (iRem (IntKind.wrap .i64 a1) 5)] : List Int), ())) none) none
noncomputable def cfg5 : Cfg := ⟨ttab, gtab, [i18, i9], []⟩
theorem eqn5 (x : Bool × Int × Unit) : xfun cfg5 x5 147 [.t 4] [.bool, (.int .u8)] [.bool] x = m5 x.1 x.2.1 := by kernel_rfl
noncomputable def i5 : PI := ⟨5, [.bool, (.int .u8)], [.bool], fun (x : Bool × Int × Unit) => m5 x.1 x.2.1⟩
theorem oki5 : POk Tryd.prog (gx gtab) i5 := pok mixed (cfg_p oki18 (cfg_p oki9 (cfg_nil _ _)) : CfgOk _ (cfg5)) F5 (eqn5)
/- 68 treaty/calendar.inCalendar -/
def r68_0 : List Ins := [qI 2 (.mov (.k (.bool false)))]
def r68_1 : List Ins := [qI 3 (.mov 0), qI 4 (.bin .leq (kI 0) 3), qI 5 (.mov 4), qT 6 5 (.mov 0), qT 7 5 (.bin .leq 6 (kI 876599)), qI 8 (.pick 5 7 (.k (.bool false))), qI 2 (.mov 8)]
def x68 : XC := (.seq (.ops false r68_0) (.seq (.ops false r68_1) .ret))
theorem F68 : Fn Tryd.prog 68 9 x68.er [.t 2] := ⟨Tryd.f68, hcl, Tryd.func68, by kernel_rfl, by kernel_rfl, by kernel_rfl, by kernel_rfl⟩
noncomputable def m68 (a0 : Int) : Option (Bool × Unit) :=
 some (cond (iLe 0 a0) (iLe a0 876599) false, ())
noncomputable def cfg68 : Cfg := ⟨ttab, gtab, [], []⟩
theorem eqn68 (x : Int × Unit) : xfun cfg68 x68 9 [.t 2] [(.int .i64)] [.bool] x = m68 x.1 := by kernel_rfl
noncomputable def i68 : PI := ⟨68, [(.int .i64)], [.bool], fun (x : Int × Unit) => m68 x.1⟩
theorem oki68 : POk Tryd.prog (gx gtab) i68 := pok mixed (cfg_nil _ _ : CfgOk _ (cfg68)) F68 (eqn68)
/- 60 treaty/calendar.Civil -/
def r60_0 : List Ins := [qI 2 (.alloc 74 (.agg #[.int .i64 0, .int .i64 0, .int .i64 0])), qI 3 (.mov (kI 0)), qI 4 (.mov (kI 0))]
def r60_1 : List Ins := [qI 10 (.mov 0), qI 11 (.call (.fn 68) [10]), qI 12 (.un .not 11)]
def r60_2 : List Ins := [qI 13 (.build [.int .i64 0, .int .i64 0, .int .i64 0] []), qN (.store 3 2 13), qI 3 (.mov (kI 0)), qI 4 (.mov (kI 1))]
def r60_3 : List Ins := [qI 14 (.mov 0), qI 15 (.bin .quo 14 (kI 24)), qI 5 (.mov 15), qI 6 (.mov (kI 2000)), qI 7 (.mov (kI 1))]
def r60_4 : List Ins := [qI 16 (.mov 6), qI 17 (.call (.fn 66) [16]), qI 8 (.mov 17)]
def r60_5 : List Ins := [qI 18 (.mov 5), qI 19 (.mov 8), qI 20 (.bin .geq 18 19)]
def r60_6 : List Ins := [qI 23 (.mov 5), qI 24 (.mov 8), qI 25 (.bin .sub 23 24), qI 5 (.mov 25)]
def r60_7 : List Ins := [qI 26 (.mov 6), qI 27 (.bin .add 26 (kI 1)), qI 6 (.mov 27)]
def r60_8 : List Ins := [qI 21 (.mov 6), qI 22 (.call (.fn 66) [21]), qI 8 (.mov 22)]
def r60_9 : List Ins := [qI 28 (.mov 6), qI 29 (.mov 7), qI 30 (.call (.fn 65) [28, 29]), qI 9 (.mov 30)]
def r60_10 : List Ins := [qI 31 (.mov 5), qI 32 (.mov 9), qI 33 (.bin .geq 31 32)]
def r60_11 : List Ins := [qI 37 (.mov 5), qI 38 (.mov 9), qI 39 (.bin .sub 37 38), qI 5 (.mov 39)]
def r60_12 : List Ins := [qI 40 (.mov 7), qI 41 (.bin .add 40 (kI 1)), qI 7 (.mov 41)]
def r60_13 : List Ins := [qI 34 (.mov 6), qI 35 (.mov 7), qI 36 (.call (.fn 65) [34, 35]), qI 9 (.mov 36)]
def r60_14 : List Ins := [qI 42 (.mov 6), qI 43 (.mov 7), qI 44 (.mov 5), qI 45 (.bin .add 44 (kI 1)), qI 46 (.build [.int .i64 0, .int .i64 0, .int .i64 0] [(0, 1, 42), (1, 1, 43), (2, 1, 45)]), qI 47 (.mov 0), qI 48 (.bin .rem 47 (kI 24)), qN (.store 3 2 46), qI 3 (.mov 48), qI 4 (.mov (kI 0))]
def x60 : XC := (.seq (.ops false r60_0) (.seq (.seq (.ops false r60_1) (.cond (.t 12) (.seq (.ops false r60_2) .ret) .skip)) (.seq (.ops false r60_3) (.seq (.seq (.ops false r60_4) (.block 0 (.loop [] ⟨49, [(0, (.int .i64)), (5, (.int .i64)), (6, (.int .i64)), (7, (.int .i64)), (8, (.int .i64))], [(2, .ptr 0 0 0)], [.box 74 [.d (.int .i64), .d (.int .i64), .d (.int .i64)]]⟩ (.seq (.seq (.ops false r60_5) (.cond (.t 20) .skip (.exit 0))) (.seq (.block 1 (.seq (.ops false r60_6) (.ops false r60_7))) (.ops false r60_8)))))) (.seq (.seq (.ops false r60_9) (.block 2 (.loop [] ⟨49, [(0, (.int .i64)), (5, (.int .i64)), (6, (.int .i64)), (7, (.int .i64)), (9, (.int .i64))], [(2, .ptr 0 0 0)], [.box 74 [.d (.int .i64), .d (.int .i64), .d (.int .i64)]]⟩ (.seq (.seq (.ops false r60_10) (.cond (.t 33) .skip (.exit 2))) (.seq (.block 3 (.seq (.ops false r60_11) (.ops false r60_12))) (.ops false r60_13)))))) (.seq (.ops false r60_14) .ret))))))
theorem F60 : Fn Tryd.prog 60 49 x60.er [.c 2 3 true, .t 3, .t 4] := ⟨Tryd.f60, hcl, Tryd.func60, by kernel_rfl, by kernel_rfl, by kernel_rfl, by kernel_rfl⟩
noncomputable def m60 (a0 : Int) : Option (DS2 × Int × Int × Unit) :=
 (m68 a0).bind fun y222 =>
 cond (not y222.1)
 (some ((0, 0, 0, ()), 0, 1, ()))
 (cond (iNe 24 0)
 ((m66 2000).bind fun y223 =>
 loopO (S := Int × Int × Int × Int × Int × Int × Int × Int × Unit) (R := DS2 × Int × Int × Unit) (fun s224 =>
 cond (iLe s224.2.2.2.2.1 s224.2.1)
 ((m66 (iAdd .i64 s224.2.2.1 1)).bind fun y225 =>
 some (.inl (s224.1, iSub .i64 s224.2.1 s224.2.2.2.2.1, iAdd .i64 s224.2.2.1 1, s224.2.2.2.1, y225.1, s224.2.2.2.2.2.1, s224.2.2.2.2.2.2.1, s224.2.2.2.2.2.2.2.1, ())))
 (Option.map Sum.inr ((m65 s224.2.2.1 s224.2.2.2.1).bind fun y226 =>
 loopO (S := Int × Int × Int × Int × Int × Int × Int × Int × Unit) (R := DS2 × Int × Int × Unit) (fun s227 =>
 cond (iLe s227.2.2.2.2.1 s227.2.1)
 ((m65 s227.2.2.1 (iAdd .i64 s227.2.2.2.1 1)).bind fun y228 =>
 some (.inl (s227.1, iSub .i64 s227.2.1 s227.2.2.2.2.1, s227.2.2.1, iAdd .i64 s227.2.2.2.1 1, y228.1, s227.2.2.2.2.2.1, s227.2.2.2.2.2.2.1, s227.2.2.2.2.2.2.2.1, ())))
 (Option.map Sum.inr (cond (iNe 24 0)
 (some ((s227.2.2.1, s227.2.2.2.1, iAdd .i64 s227.2.1 1, ()), iRem s227.1 24, 0, ())) none)))
 (s224.1, s224.2.1, s224.2.2.1, s224.2.2.2.1, y226.1, s224.2.2.2.2.2.1, s224.2.2.2.2.2.2.1, s224.2.2.2.2.2.2.2.1, ()))))
 (a0, iQuo .i64 a0 24, 2000, 1, y223.1, 0, 0, 0, ())) none)
noncomputable def cfg60 : Cfg := ⟨ttab, gtab, [i65, i66, i68], []⟩
theorem eqn60 (x : Int × Unit) : xfun cfg60 x60 49 [.c 2 3 true, .t 3, .t 4] [(.int .i64)] [tS2, (.int .i64), (.int .i64)] x = m60 x.1 := by kernel_rfl
noncomputable def i60 : PI := ⟨60, [(.int .i64)], [tS2, (.int .i64), (.int .i64)], fun (x : Int × Unit) => m60 x.1⟩
theorem oki60 : POk Tryd.prog (gx gtab) i60 := pok mixed (cfg_p oki65 (cfg_p oki66 (cfg_p oki68 (cfg_nil _ _))) : CfgOk _ (cfg60)) F60 (eqn60)
/- 61 treaty/calendar.padded -/
def r61_0 : List Ins := [qI 4 (.mov (.k (.string (bs []))))]
def r61_1 : List Ins := [qI 6 (.mov 0), qI 7 (.call (.fn 51) [6]), qI 5 (.mov 7)]
def r61_2 : List Ins := [qI 8 (.mov 1), qI 9 (.mov 5), qI 10 (.slen 9), qI 11 (.bin .sub 8 10), qI 12 (.max2 (kI 0) 11), qI 13 (.call (.fn 69) [(.k (.string (bs [48]))), 12]), qI 14 (.mov 5), qI 15 (.bin .add 13 14), qI 4 (.mov 15)]
def x61 : XC := (.seq (.ops false r61_0) (.seq (.ops false r61_1) (.seq (.ops false r61_2) .ret)))
theorem F61 : Fn Tryd.prog 61 16 x61.er [.t 4] := ⟨Tryd.f61, hcl, Tryd.func61, by kernel_rfl, by kernel_rfl, by kernel_rfl, by kernel_rfl⟩
noncomputable def m61 (a0 : Int) (a1 : Int) : Option (ByteArray × Unit) :=
 (mItoa a0).bind fun y230 =>
 (mRep (bs [48]) (iMax 0 (iSub .i64 a1 (sLen y230.1)))).bind fun y231 =>
 cond (sFits y231.1 y230.1)
 (some (sCat y231.1 y230.1, ())) none
noncomputable def cfg61 : Cfg := ⟨ttab, gtab, [iItoa, iRep], []⟩
theorem eqn61 (x : Int × Int × Unit) : xfun cfg61 x61 16 [.t 4] [(.int .i64), (.int .i64)] [.str] x = m61 x.1 x.2.1 := by kernel_rfl
noncomputable def i61 : PI := ⟨61, [(.int .i64), (.int .i64)], [.str], fun (x : Int × Int × Unit) => m61 x.1 x.2.1⟩
theorem oki61 : POk Tryd.prog (gx gtab) i61 := pok mixed (cfg_p okiItoa (cfg_p okiRep (cfg_nil _ _)) : CfgOk _ (cfg61)) F61 (eqn61)
/- 52 treaty/calendar.Format -/
def r52_0 : List Ins := [qI 2 (.mov (.k (.string (bs [])))), qI 3 (.mov (kI 0))]
def r52_1 : List Ins := [qI 9 (.mov 0), qI 10 (.call (.fn 60) [9]), qI 8 (.mov 10), qI 11 (.ext 0 8), qI 12 (.ext 1 8), qI 13 (.ext 2 8), qI 4 (.alloc 74 (.agg #[.int .i64 0, .int .i64 0, .int .i64 0])), qN (.store 3 4 11), qI 5 (.mov 12), qI 6 (.mov 13)]
def r52_2 : List Ins := [qI 14 (.mov 6), qI 15 (.bin .neq 14 (kI 0))]
def r52_3 : List Ins := [qI 16 (.mov 6), qI 2 (.mov (.k (.string (bs [])))), qI 3 (.mov 16)]
def r52_4 : List Ins := [qI 17 (.faddr 0 4), qI 18 (.load 1 false 17), qI 19 (.call (.fn 61) [18, (kI 4)]), qI 20 (.bin .add 19 (.k (.string (bs [45])))), qI 21 (.faddr 1 4), qI 22 (.load 1 false 21), qI 23 (.call (.fn 61) [22, (kI 2)]), qI 24 (.bin .add 20 23), qI 25 (.bin .add 24 (.k (.string (bs [45])))), qI 26 (.faddr 2 4), qI 27 (.load 1 false 26), qI 28 (.call (.fn 61) [27, (kI 2)]), qI 29 (.bin .add 25 28), qI 7 (.mov 29)]
def r52_5 : List Ins := [qI 30 (.mov 5), qI 31 (.bin .neq 30 (kI 0))]
def r52_6 : List Ins := [qI 32 (.mov 7), qI 33 (.mov 5), qI 34 (.call (.fn 61) [33, (kI 2)]), qI 35 (.bin .add (.k (.string (bs [84]))) 34), qI 36 (.bin .add 32 35), qI 7 (.mov 36)]
def r52_7 : List Ins := [qI 37 (.mov 7), qI 2 (.mov 37), qI 3 (.mov (kI 0))]
def x52 : XC := (.seq (.ops false r52_0) (.seq (.ops false r52_1) (.seq (.seq (.ops false r52_2) (.cond (.t 15) (.seq (.ops false r52_3) .ret) .skip)) (.seq (.ops true r52_4) (.seq (.seq (.ops false r52_5) (.cond (.t 31) (.ops false r52_6) .skip)) (.seq (.ops false r52_7) .ret))))))
theorem F52 : Fn Tryd.prog 52 38 x52.er [.t 2, .t 3] := ⟨Tryd.f52, hcl, Tryd.func52, by kernel_rfl, by kernel_rfl, by kernel_rfl, by kernel_rfl⟩
noncomputable def m52 (a0 : Int) : Option (ByteArray × Int × Unit) :=
 (m60 a0).bind fun y229 =>
 cond (iNe y229.2.2.1 0)
 (some ((bs []), y229.2.2.1, ()))
 ((m61 y229.1.1 4).bind fun y232 =>
 cond (sFits y232.1 (bs [45]))
 ((m61 y229.1.2.1 2).bind fun y233 =>
 cond (sFits (sCat y232.1 (bs [45])) y233.1)
 (cond (sFits (sCat (sCat y232.1 (bs [45])) y233.1) (bs [45]))
 ((m61 y229.1.2.2.1 2).bind fun y234 =>
 cond (sFits (sCat (sCat (sCat y232.1 (bs [45])) y233.1) (bs [45])) y234.1)
 (cond (iNe y229.2.1 0)
 ((m61 y229.2.1 2).bind fun y235 =>
 cond (sFits (bs [84]) y235.1)
 (cond (sFits (sCat (sCat (sCat (sCat y232.1 (bs [45])) y233.1) (bs [45])) y234.1) (sCat (bs [84]) y235.1))
 (some (sCat (sCat (sCat (sCat (sCat y232.1 (bs [45])) y233.1) (bs [45])) y234.1) (sCat (bs [84]) y235.1), 0, ())) none) none)
 (some (sCat (sCat (sCat (sCat y232.1 (bs [45])) y233.1) (bs [45])) y234.1, 0, ()))) none) none) none) none)
noncomputable def cfg52 : Cfg := ⟨ttab, gtab, [i60, i61], []⟩
theorem eqn52 (x : Int × Unit) : xfun cfg52 x52 38 [.t 2, .t 3] [(.int .i64)] [.str, (.int .i64)] x = m52 x.1 := by kernel_rfl
noncomputable def i52 : PI := ⟨52, [(.int .i64)], [.str, (.int .i64)], fun (x : Int × Unit) => m52 x.1⟩
theorem oki52 : POk Tryd.prog (gx gtab) i52 := pok mixed (cfg_p oki60 (cfg_p oki61 (cfg_nil _ _)) : CfgOk _ (cfg52)) F52 (eqn52)
/- 33 treaty/lexer.written -/
def r33_0 : List Ins := [qI 1 (.box 41 4 0), qI 2 (.mov (.k (.string (bs [])))), qI 3 (.mov (kI 0))]
def r33_1 : List Ins := [qI 6 (.faddr 0 1), qI 7 (.load 1 false 6)]
def r33_2 : List Ins := [qI 9 (.bin .eql 7 (kI 1)), qI 8 (.mov 9)]
def r33_3 : List Ins := [qI 10 (.bin .eql 7 (kI 4)), qI 8 (.mov 10)]
def r33_4 : List Ins := [qI 11 (.faddr 2 1), qI 12 (.load 1 false 11), qI 13 (.bin .neq 12 (kI 0))]
def r33_5 : List Ins := [qI 2 (.mov (.k (.string (bs [])))), qI 3 (.mov (kI 20))]
def r33_6 : List Ins := [qI 15 (.bin .eql 7 (kI 2)), qI 14 (.mov 15)]
def r33_7 : List Ins := [qI 16 (.bin .eql 7 (kI 3)), qI 14 (.mov 16)]
def r33_8 : List Ins := [qI 17 (.faddr 1 1), qI 18 (.load 1 false 17), qI 19 (.bin .neq 18 (.k (.string (bs []))))]
def r33_9 : List Ins := [qI 2 (.mov (.k (.string (bs [])))), qI 3 (.mov (kI 20))]
def r33_10 : List Ins := [qI 2 (.mov (.k (.string (bs [])))), qI 3 (.mov (kI 11))]
def r33_11 : List Ins := [qI 20 (.faddr 0 1), qI 21 (.load 1 false 20)]
def r33_12 : List Ins := [qI 23 (.bin .eql 21 (kI 1)), qI 22 (.mov 23)]
def r33_13 : List Ins := [qI 24 (.faddr 1 1), qI 25 (.load 1 false 24), qI 26 (.call (.fn 23) [25]), qI 27 (.un .not 26)]
def r33_14 : List Ins := [qI 2 (.mov (.k (.string (bs [])))), qI 3 (.mov (kI 6))]
def r33_15 : List Ins := [qI 28 (.faddr 1 1), qI 29 (.load 1 false 28), qI 2 (.mov 29), qI 3 (.mov (kI 0))]
def r33_16 : List Ins := [qI 31 (.bin .eql 21 (kI 2)), qI 30 (.mov 31)]
def r33_17 : List Ins := [qI 32 (.faddr 2 1), qI 33 (.load 1 false 32), qI 34 (.bin .lss 33 (.k (.int .i64 (-17592186044416)))), qI 35 (.mov 34), qF 36 35 (.faddr 2 1), qF 37 35 (.load 1 false 36), qF 38 35 (.bin .gtr 37 (kI 17592186044416)), qI 39 (.pick 35 (.k (.bool true)) 38)]
def r33_18 : List Ins := [qI 2 (.mov (.k (.string (bs [])))), qI 3 (.mov (kI 1))]
def r33_19 : List Ins := [qI 40 (.faddr 2 1), qI 41 (.load 1 false 40), qI 42 (.call (.fn 51) [41]), qI 2 (.mov 42), qI 3 (.mov (kI 0))]
def r33_20 : List Ins := [qI 44 (.bin .eql 21 (kI 3)), qI 43 (.mov 44)]
def r33_21 : List Ins := [qI 46 (.faddr 2 1), qI 47 (.load 1 false 46), qI 48 (.call (.fn 52) [47]), qI 45 (.mov 48), qI 49 (.ext 0 45), qI 50 (.ext 1 45), qI 4 (.mov 49), qI 5 (.mov 50)]
def r33_22 : List Ins := [qI 51 (.mov 5), qI 52 (.bin .neq 51 (kI 0))]
def r33_23 : List Ins := [qI 53 (.mov 5), qI 2 (.mov (.k (.string (bs [])))), qI 3 (.mov 53)]
def r33_24 : List Ins := [qI 54 (.mov 4), qI 55 (.bin .add (.k (.string (bs [64]))) 54), qI 2 (.mov 55), qI 3 (.mov (kI 0))]
def r33_25 : List Ins := [qI 56 (.faddr 1 1), qI 57 (.load 1 false 56), qI 58 (.slen 57), qI 59 (.bin .neq 58 (kI 1)), qI 60 (.mov 59), qF 61 60 (.faddr 1 1), qF 62 60 (.load 1 false 61), qF 63 60 (.idx 62 (kI 0)), qF 64 60 (.call (.fn 50) [63]), qF 65 60 (.un .not 64), qI 66 (.pick 60 (.k (.bool true)) 65)]
def r33_26 : List Ins := [qI 2 (.mov (.k (.string (bs [])))), qI 3 (.mov (kI 5))]
def r33_27 : List Ins := [qI 67 (.faddr 1 1), qI 68 (.load 1 false 67), qI 2 (.mov 68), qI 3 (.mov (kI 0))]
def x33 : XC := (.seq (.ops false r33_0) (.seq (.seq (.ops false r33_1) (.block 0 (.seq (.seq (.ops false r33_2) (.cond (.t 8) .skip (.ops false r33_3))) (.cond (.t 8) (.seq (.ops false r33_4) (.cond (.t 13) (.seq (.ops false r33_5) .ret) .skip)) (.seq (.seq (.ops false r33_6) (.cond (.t 14) .skip (.ops false r33_7))) (.cond (.t 14) (.seq (.ops false r33_8) (.cond (.t 19) (.seq (.ops false r33_9) .ret) .skip)) (.seq (.ops false r33_10) .ret))))))) (.seq (.seq (.ops false r33_11) (.block 1 (.seq (.ops false r33_12) (.cond (.t 22) (.seq (.seq (.ops false r33_13) (.cond (.t 27) (.seq (.ops false r33_14) .ret) .skip)) (.seq (.ops false r33_15) .ret)) (.seq (.ops false r33_16) (.cond (.t 30) (.seq (.seq (.ops false r33_17) (.cond (.t 39) (.seq (.ops false r33_18) .ret) .skip)) (.seq (.ops false r33_19) .ret)) (.seq (.ops false r33_20) (.cond (.t 43) (.seq (.ops false r33_21) (.seq (.seq (.ops false r33_22) (.cond (.t 52) (.seq (.ops false r33_23) .ret) .skip)) (.seq (.ops false r33_24) .ret))) .skip)))))))) (.seq (.seq (.ops false r33_25) (.cond (.t 66) (.seq (.ops false r33_26) .ret) .skip)) (.seq (.ops false r33_27) .ret)))))
theorem F33 : Fn Tryd.prog 33 69 x33.er [.t 2, .t 3] := ⟨Tryd.f33, hcl, Tryd.func33, by kernel_rfl, by kernel_rfl, by kernel_rfl, by kernel_rfl⟩
noncomputable def m33 (a0 : DS0) : Option (ByteArray × Int × Unit) :=
 cond (iEq a0.1 1)
 (cond (iNe a0.2.2.1 0)
 (some ((bs []), 20, ()))
 (cond (iEq a0.1 1)
 ((m23 a0.2.1).bind fun y213 =>
 cond (not y213.1)
 (some ((bs []), 6, ()))
 (some (a0.2.1, 0, ())))
 (cond (iEq a0.1 2)
 (cond (cond (iLt a0.2.2.1 (-17592186044416)) true (iLt 17592186044416 a0.2.2.1))
 (some ((bs []), 1, ()))
 ((mItoa a0.2.2.1).bind fun y214 =>
 some (y214.1, 0, ())))
 (cond (iEq a0.1 3)
 ((m52 a0.2.2.1).bind fun y236 =>
 cond (iNe y236.2.1 0)
 (some ((bs []), y236.2.1, ()))
 (cond (sFits (bs [64]) y236.1)
 (some (sCat (bs [64]) y236.1, 0, ())) none))
 (cond (or (bnd 0 (sLen a0.2.1)) (not (bEq (iNe (sLen a0.2.1) 1) false)))
 (cond (iNe (sLen a0.2.1) 1)
 (some ((bs []), 5, ()))
 ((m50 (sAt a0.2.1 0)).bind fun y237 =>
 cond (not y237.1)
 (some ((bs []), 5, ()))
 (some (a0.2.1, 0, ())))) none)))))
 (cond (iEq a0.1 4)
 (cond (iNe a0.2.2.1 0)
 (some ((bs []), 20, ()))
 (cond (iEq a0.1 1)
 ((m23 a0.2.1).bind fun y238 =>
 cond (not y238.1)
 (some ((bs []), 6, ()))
 (some (a0.2.1, 0, ())))
 (cond (iEq a0.1 2)
 (cond (cond (iLt a0.2.2.1 (-17592186044416)) true (iLt 17592186044416 a0.2.2.1))
 (some ((bs []), 1, ()))
 ((mItoa a0.2.2.1).bind fun y239 =>
 some (y239.1, 0, ())))
 (cond (iEq a0.1 3)
 ((m52 a0.2.2.1).bind fun y240 =>
 cond (iNe y240.2.1 0)
 (some ((bs []), y240.2.1, ()))
 (cond (sFits (bs [64]) y240.1)
 (some (sCat (bs [64]) y240.1, 0, ())) none))
 (cond (or (bnd 0 (sLen a0.2.1)) (not (bEq (iNe (sLen a0.2.1) 1) false)))
 (cond (iNe (sLen a0.2.1) 1)
 (some ((bs []), 5, ()))
 ((m50 (sAt a0.2.1 0)).bind fun y241 =>
 cond (not y241.1)
 (some ((bs []), 5, ()))
 (some (a0.2.1, 0, ())))) none)))))
 (cond (iEq a0.1 2)
 (cond (not (sEq a0.2.1 (bs [])))
 (some ((bs []), 20, ()))
 (cond (iEq a0.1 1)
 ((m23 a0.2.1).bind fun y242 =>
 cond (not y242.1)
 (some ((bs []), 6, ()))
 (some (a0.2.1, 0, ())))
 (cond (iEq a0.1 2)
 (cond (cond (iLt a0.2.2.1 (-17592186044416)) true (iLt 17592186044416 a0.2.2.1))
 (some ((bs []), 1, ()))
 ((mItoa a0.2.2.1).bind fun y243 =>
 some (y243.1, 0, ())))
 (cond (iEq a0.1 3)
 ((m52 a0.2.2.1).bind fun y244 =>
 cond (iNe y244.2.1 0)
 (some ((bs []), y244.2.1, ()))
 (cond (sFits (bs [64]) y244.1)
 (some (sCat (bs [64]) y244.1, 0, ())) none))
 (cond (or (bnd 0 (sLen a0.2.1)) (not (bEq (iNe (sLen a0.2.1) 1) false)))
 (cond (iNe (sLen a0.2.1) 1)
 (some ((bs []), 5, ()))
 ((m50 (sAt a0.2.1 0)).bind fun y245 =>
 cond (not y245.1)
 (some ((bs []), 5, ()))
 (some (a0.2.1, 0, ())))) none)))))
 (cond (iEq a0.1 3)
 (cond (not (sEq a0.2.1 (bs [])))
 (some ((bs []), 20, ()))
 (cond (iEq a0.1 1)
 ((m23 a0.2.1).bind fun y246 =>
 cond (not y246.1)
 (some ((bs []), 6, ()))
 (some (a0.2.1, 0, ())))
 (cond (iEq a0.1 2)
 (cond (cond (iLt a0.2.2.1 (-17592186044416)) true (iLt 17592186044416 a0.2.2.1))
 (some ((bs []), 1, ()))
 ((mItoa a0.2.2.1).bind fun y247 =>
 some (y247.1, 0, ())))
 (cond (iEq a0.1 3)
 ((m52 a0.2.2.1).bind fun y248 =>
 cond (iNe y248.2.1 0)
 (some ((bs []), y248.2.1, ()))
 (cond (sFits (bs [64]) y248.1)
 (some (sCat (bs [64]) y248.1, 0, ())) none))
 (cond (or (bnd 0 (sLen a0.2.1)) (not (bEq (iNe (sLen a0.2.1) 1) false)))
 (cond (iNe (sLen a0.2.1) 1)
 (some ((bs []), 5, ()))
 ((m50 (sAt a0.2.1 0)).bind fun y249 =>
 cond (not y249.1)
 (some ((bs []), 5, ()))
 (some (a0.2.1, 0, ())))) none)))))
 (some ((bs []), 11, ())))))
noncomputable def cfg33 : Cfg := ⟨ttab, gtab, [i23, i50, i52, iItoa], []⟩
theorem eqn33 (x : DS0 × Unit) : xfun cfg33 x33 69 [.t 2, .t 3] [tS0] [.str, (.int .i64)] x = m33 x.1 := by kernel_rfl
noncomputable def i33 : PI := ⟨33, [tS0], [.str, (.int .i64)], fun (x : DS0 × Unit) => m33 x.1⟩
theorem oki33 : POk Tryd.prog (gx gtab) i33 := pok mixed (cfg_p oki23 (cfg_p oki50 (cfg_p oki52 (cfg_p okiItoa (cfg_nil _ _)))) : CfgOk _ (cfg33)) F33 (eqn33)
/- 34 treaty/lexer.apart -/
def r34_0 : List Ins := [qI 2 (.box 41 4 0), qI 3 (.box 41 4 1), qI 4 (.mov (.k (.bool false)))]
def r34_1 : List Ins := [qI 5 (.faddr 0 2), qI 6 (.load 1 false 5), qI 7 (.bin .eql 6 (kI 4)), qI 8 (.mov 7), qT 9 8 (.faddr 1 2), qT 10 8 (.load 1 false 9), qT 11 8 (.bin .eql 10 (.k (.string (bs [40])))), qI 12 (.pick 8 11 (.k (.bool false)))]
def r34_2 : List Ins := [qI 4 (.mov (.k (.bool false)))]
def r34_3 : List Ins := [qI 13 (.faddr 0 3), qI 14 (.load 1 false 13), qI 15 (.bin .neq 14 (kI 4)), qI 16 (.mov 15), qF 17 16 (.faddr 1 3), qF 18 16 (.load 1 false 17), qF 19 16 (.bin .eql 18 (.k (.string (bs [40])))), qI 20 (.pick 16 (.k (.bool true)) 19), qI 4 (.mov 20)]
def x34 : XC := (.seq (.ops false r34_0) (.seq (.seq (.ops false r34_1) (.cond (.t 12) (.seq (.ops false r34_2) .ret) .skip)) (.seq (.ops false r34_3) .ret)))
theorem F34 : Fn Tryd.prog 34 21 x34.er [.t 4] := ⟨Tryd.f34, hcl, Tryd.func34, by kernel_rfl, by kernel_rfl, by kernel_rfl, by kernel_rfl⟩
noncomputable def m34 (a0 : DS0) (a1 : DS0) : Option (Bool × Unit) :=
 cond (cond (iEq a0.1 4) (sEq a0.2.1 (bs [40])) false)
 (some (false, ()))
 (some (cond (iNe a1.1 4) true (sEq a1.2.1 (bs [40])), ()))
noncomputable def cfg34 : Cfg := ⟨ttab, gtab, [], []⟩
theorem eqn34 (x : DS0 × DS0 × Unit) : xfun cfg34 x34 21 [.t 4] [tS0, tS0] [.bool] x = m34 x.1 x.2.1 := by kernel_rfl
noncomputable def i34 : PI := ⟨34, [tS0, tS0], [.bool], fun (x : DS0 × DS0 × Unit) => m34 x.1 x.2.1⟩
theorem oki34 : POk Tryd.prog (gx gtab) i34 := pok mixed (cfg_nil _ _ : CfgOk _ (cfg34)) F34 (eqn34)
/- 35 (*strings.Builder).WriteByte -/
def r35_0 : List Ins := [qI 4 (.mov (.k (.nilIface)))]
def r35_1 : List Ins := [qI 5 (.mov 0), qI 6 (.call (.fn 53) [5])]
def r35_2 : List Ins := [qI 7 (.mov 0), qI 8 (.mov 0), qI 9 (.nck 8), qI 10 (.faddr 1 9), qI 11 (.load 1 false 10), qI 12 (.mov 1), qI 13 (.bslice 5 1 [12]), qI 14 (.app 5 1 1 11 13), qI 15 (.nck 7), qI 16 (.faddr 1 15), qN (.store 1 16 14)]
def r35_3 : List Ins := [qI 4 (.mov (.k (.nilIface)))]
def x35 : XC := (.seq (.ops false r35_0) (.seq (.ops false r35_1) (.seq (.ops false r35_2) (.seq (.ops false r35_3) .ret))))
theorem F35 : Fn Tryd.prog 35 17 x35.er [.t 4] := ⟨Tryd.f35, hcl, Tryd.func35, by kernel_rfl, by kernel_rfl, by kernel_rfl, by kernel_rfl⟩
noncomputable def m35 (a0 : Int) (a1 : List Int) : Option ((List Int) × Unit) :=
 (mB53_0 a1).bind fun y253 =>
 cond (fits (List.length y253.1 + List.length ([a0] : List Int)) 1)
 (some (y253.1 ++ ([a0] : List Int), ())) none
noncomputable def cfg35 : Cfg := ⟨ttab, gtab, [], [hB53_0]⟩
def ish35 : Sh := ⟨2, [(1, (.int .u8))], [(0, .ptr 0 0 0)], [.box 58 [.me 0, .row 1], .row 5 (.int .u8) false]⟩
def osh35 : Sh := ⟨1, [], [], [.box 58 [.me 0, .row 1], .row 5 (.int .u8) false]⟩
theorem eqn35 (x : Int × (List Int) × Unit) : xfunH cfg35 x35 17 [.t 4] [] ish35 osh35 x = m35 x.1 x.2.1 := by kernel_rfl
noncomputable def h35 : HI := ⟨35, ish35, osh35, fun (x : Int × (List Int) × Unit) => m35 x.1 x.2.1⟩
theorem okh35 : HOk Tryd.prog (gx gtab) h35 := hok mixed (cfg_h okhB53_0 (cfg_nil _ _) : CfgOk _ (cfg35)) F35 (eqn35)
/- 36 (*strings.Builder).WriteString -/
def r36_0 : List Ins := [qI 4 (.mov (kI 0)), qI 5 (.mov (.k (.nilIface)))]
def r36_1 : List Ins := [qI 6 (.mov 0), qI 7 (.call (.fn 53) [6])]
def r36_2 : List Ins := [qI 8 (.mov 0), qI 9 (.mov 0), qI 10 (.nck 9), qI 11 (.faddr 1 10), qI 12 (.load 1 false 11), qI 13 (.mov 1), qI 14 (.apps 5 1 12 13), qI 15 (.nck 8), qI 16 (.faddr 1 15), qN (.store 1 16 14)]
def r36_3 : List Ins := [qI 17 (.mov 1), qI 18 (.slen 17), qI 4 (.mov 18), qI 5 (.mov (.k (.nilIface)))]
def x36 : XC := (.seq (.ops false r36_0) (.seq (.ops false r36_1) (.seq (.ops false r36_2) (.seq (.ops false r36_3) .ret))))
theorem F36 : Fn Tryd.prog 36 19 x36.er [.t 4, .t 5] := ⟨Tryd.f36, hcl, Tryd.func36, by kernel_rfl, by kernel_rfl, by kernel_rfl, by kernel_rfl⟩
noncomputable def m36 (a0 : ByteArray) (a1 : List Int) : Option (Int × (List Int) × Unit) :=
 (mB53_0 a1).bind fun y256 =>
 cond (fits (List.length y256.1 + List.length (bytesI a0)) 1)
 (some (sLen a0, y256.1 ++ (bytesI a0), ())) none
noncomputable def cfg36 : Cfg := ⟨ttab, gtab, [], [hB53_0]⟩
def ish36 : Sh := ⟨2, [(1, .str)], [(0, .ptr 0 0 0)], [.box 58 [.me 0, .row 1], .row 5 (.int .u8) false]⟩
def osh36 : Sh := ⟨2, [(0, (.int .i64))], [], [.box 58 [.me 0, .row 1], .row 5 (.int .u8) false]⟩
theorem eqn36 (x : ByteArray × (List Int) × Unit) : xfunH cfg36 x36 19 [.t 4, .t 5] [] ish36 osh36 x = m36 x.1 x.2.1 := by kernel_rfl
noncomputable def h36 : HI := ⟨36, ish36, osh36, fun (x : ByteArray × (List Int) × Unit) => m36 x.1 x.2.1⟩
theorem okh36 : HOk Tryd.prog (gx gtab) h36 := hok mixed (cfg_h okhB53_0 (cfg_nil _ _) : CfgOk _ (cfg36)) F36 (eqn36)
/- 37 (*strings.Builder).Len -/
def r37_0 : List Ins := [qI 2 (.mov (kI 0))]
def r37_1 : List Ins := [qI 3 (.mov 0), qI 4 (.nck 3), qI 5 (.faddr 1 4), qI 6 (.load 1 false 5), qI 7 (.len 6), qI 2 (.mov 7)]
def x37 : XC := (.seq (.ops false r37_0) (.seq (.ops false r37_1) .ret))
theorem F37 : Fn Tryd.prog 37 8 x37.er [.t 2] := ⟨Tryd.f37, hcl, Tryd.func37, by kernel_rfl, by kernel_rfl, by kernel_rfl, by kernel_rfl⟩
noncomputable def m37 (a0 : List Int) : Option (Int × (List Int) × Unit) :=
 some (lenI a0, a0, ())
noncomputable def cfg37 : Cfg := ⟨ttab, gtab, [], []⟩
def ish37 : Sh := ⟨1, [], [(0, .ptr 0 0 0)], [.box 58 [.me 0, .row 1], .row 5 (.int .u8) false]⟩
def osh37 : Sh := ⟨1, [(0, (.int .i64))], [], [.box 58 [.me 0, .row 1], .row 5 (.int .u8) false]⟩
theorem eqn37 (x : (List Int) × Unit) : xfunH cfg37 x37 8 [.t 2] [] ish37 osh37 x = m37 x.1 := by kernel_rfl
noncomputable def h37 : HI := ⟨37, ish37, osh37, fun (x : (List Int) × Unit) => m37 x.1⟩
theorem okh37 : HOk Tryd.prog (gx gtab) h37 := hok mixed (cfg_nil _ _ : CfgOk _ (cfg37)) F37 (eqn37)
/- 20 treaty/lexer.Join -/
def r20_0 : List Ins := [qI 2 (.mov (.k (.string (bs [])))), qI 3 (.mov (kI 0))]
def r20_1 : List Ins := [qI 9 (.mov 0), qI 10 (.len 9), qI 11 (.bin .gtr 10 (kI 4000))]
def r20_2 : List Ins := [qI 2 (.mov (.k (.string (bs [])))), qI 3 (.mov (kI 4))]
def r20_3 : List Ins := [qI 4 (.alloc 58 (.agg #[.pointer none, .slice none 0 0]))]
def r20_4 : List Ins := [qI 12 (.mov 0), qI 13 (.len 12), qI 14 (.mov (kI 0))]
def r20_5 : List Ins := [qI 15 (.bin .lss 14 13)]
def r20_6 : List Ins := [qI 16 (.mov 14), qI 17 (.iaddr 4 12 14), qI 18 (.load 4 true 17), qI 6 (.alloc 41 (.agg #[.int .i64 0, .string (bs []), .int .i64 0, .int .i64 0])), qI 5 (.mov 16), qN (.store 4 6 18)]
def r20_7 : List Ins := [qI 20 (.load 4 true 6), qI 21 (.call (.fn 33) [20]), qI 19 (.mov 21), qI 22 (.ext 0 19), qI 23 (.ext 1 19), qI 7 (.mov 22), qI 8 (.mov 23)]
def r20_8 : List Ins := [qI 24 (.mov 8), qI 25 (.bin .neq 24 (kI 0))]
def r20_9 : List Ins := [qI 26 (.mov 8), qI 2 (.mov (.k (.string (bs [])))), qI 3 (.mov 26)]
def r20_10 : List Ins := [qI 27 (.mov 5), qI 28 (.bin .gtr 27 (kI 0)), qI 29 (.mov 28), qT 30 29 (.mov 0), qT 31 29 (.mov 5), qT 32 29 (.bin .sub 31 (kI 1)), qT 33 29 (.iaddr 4 30 32), qT 34 29 (.load 4 true 33), qT 35 29 (.load 4 true 6), qT 36 29 (.call (.fn 34) [34, 35]), qI 37 (.pick 29 36 (.k (.bool false)))]
def r20_11 : List Ins := [qI 38 (.call (.fn 35) [4, (.k (.int .u8 32))])]
def r20_12 : List Ins := [qI 39 (.mov 7), qI 40 (.call (.fn 36) [4, 39])]
def r20_13 : List Ins := [qI 41 (.bin .add 14 (kI 1)), qI 14 (.mov 41)]
def r20_14 : List Ins := [qI 42 (.call (.fn 37) [4]), qI 43 (.bin .gtr 42 (kI 16384))]
def r20_15 : List Ins := [qI 2 (.mov (.k (.string (bs [])))), qI 3 (.mov (kI 4))]
def r20_16 : List Ins := [qI 44 (.call (.fn 38) [4]), qI 2 (.mov 44), qI 3 (.mov (kI 0))]
def x20 : XC := (.seq (.ops false r20_0) (.seq (.seq (.ops false r20_1) (.cond (.t 11) (.seq (.ops false r20_2) .ret) .skip)) (.seq (.ops false r20_3) (.seq (.seq (.ops false r20_4) (.block 0 (.loop [.ghc 4 1 5 (.int .u8)] ⟨45, [(0, (.list tS0)), (12, (.list tS0)), (13, (.int .i64)), (14, (.int .i64))], [(4, .ptr 0 0 0)], [.box 58 [.me 0, .row 1], .row 5 (.int .u8) false]⟩ (.seq (.ops false r20_5) (.seq (.cond (.t 15) .skip (.exit 0)) (.seq (.block 1 (.seq (.ops false r20_6) (.seq (.ops false r20_7) (.seq (.seq (.ops false r20_8) (.cond (.t 25) (.seq (.ops false r20_9) .ret) .skip)) (.seq (.seq (.ops true r20_10) (.cond (.t 37) (.ops false r20_11) .skip)) (.ops false r20_12)))))) (.ops false r20_13))))))) (.seq (.seq (.ops false r20_14) (.cond (.t 43) (.seq (.ops false r20_15) .ret) .skip)) (.seq (.ops false r20_16) .ret))))))
theorem F20 : Fn Tryd.prog 20 45 x20.er [.t 2, .t 3] := ⟨Tryd.f20, hcl, Tryd.func20, by kernel_rfl, by kernel_rfl, by kernel_rfl, by kernel_rfl⟩
noncomputable def m20 (a0 : List DS0) : Option (ByteArray × Int × Unit) :=
 cond (iLt 4000 (lenI a0))
 (some ((bs []), 4, ()))
 (loopO (S := (List DS0) × (List DS0) × Int × Int × (List Int) × Unit) (R := ByteArray × Int × Unit) (fun s262 =>
 cond (iLt s262.2.2.2.1 s262.2.2.1)
 (cond (bnd s262.2.2.2.1 (lenI s262.2.1))
 ((m33 ((atI s262.2.1 s262.2.2.2.1 (0, ByteArray.empty, 0, 0, ())).1, (atI s262.2.1 s262.2.2.2.1 (0, ByteArray.empty, 0, 0, ())).2.1, (atI s262.2.1 s262.2.2.2.1 (0, ByteArray.empty, 0, 0, ())).2.2.1, (atI s262.2.1 s262.2.2.2.1 (0, ByteArray.empty, 0, 0, ())).2.2.2.1, ())).bind fun y263 =>
 cond (iNe y263.2.1 0)
 (some (.inr ((bs []), y263.2.1, ())))
 (cond (or (bnd (iSub .i64 s262.2.2.2.1 1) (lenI s262.1)) (not (bEq (iLt 0 s262.2.2.2.1) true)))
 (cond (iLt 0 s262.2.2.2.1)
 ((m34 (atI s262.1 (iSub .i64 s262.2.2.2.1 1) (0, ByteArray.empty, 0, 0, ())) ((atI s262.2.1 s262.2.2.2.1 (0, ByteArray.empty, 0, 0, ())).1, (atI s262.2.1 s262.2.2.2.1 (0, ByteArray.empty, 0, 0, ())).2.1, (atI s262.2.1 s262.2.2.2.1 (0, ByteArray.empty, 0, 0, ())).2.2.1, (atI s262.2.1 s262.2.2.2.1 (0, ByteArray.empty, 0, 0, ())).2.2.2.1, ())).bind fun y264 =>
 cond y264.1
 ((m35 32 s262.2.2.2.2.1).bind fun y265 =>
 (m36 y263.1 y265.1).bind fun y266 =>
 some (.inl (s262.1, s262.2.1, s262.2.2.1, iAdd .i64 s262.2.2.2.1 1, y266.2.1, ())))
 ((m36 y263.1 s262.2.2.2.2.1).bind fun y267 =>
 some (.inl (s262.1, s262.2.1, s262.2.2.1, iAdd .i64 s262.2.2.2.1 1, y267.2.1, ()))))
 ((m36 y263.1 s262.2.2.2.2.1).bind fun y268 =>
 some (.inl (s262.1, s262.2.1, s262.2.2.1, iAdd .i64 s262.2.2.2.1 1, y268.2.1, ())))) none)) none)
 (Option.map Sum.inr ((m37 s262.2.2.2.2.1).bind fun y269 =>
 cond (iLt 16384 y269.1)
 (some ((bs []), 4, ()))
 ((mB38_0 y269.2.1).bind fun y270 =>
 some (y270.1, 0, ())))))
 (a0, a0, lenI a0, 0, ([] : List Int), ()))
noncomputable def cfg20 : Cfg := ⟨ttab, gtab, [i33, i34], [h35, h36, h37, hB38_0]⟩
theorem eqn20 (x : (List DS0) × Unit) : xfun cfg20 x20 45 [.t 2, .t 3] [(.list tS0)] [.str, (.int .i64)] x = m20 x.1 := by kernel_rfl
noncomputable def i20 : PI := ⟨20, [(.list tS0)], [.str, (.int .i64)], fun (x : (List DS0) × Unit) => m20 x.1⟩
theorem oki20 : POk Tryd.prog (gx gtab) i20 := pok mixed (cfg_p oki33 (cfg_p oki34 (cfg_h okh35 (cfg_h okh36 (cfg_h okh37 (cfg_h okhB38_0 (cfg_nil _ _)))))) : CfgOk _ (cfg20)) F20 (eqn20)
/- 16 treaty/treatylaw05.tokens -/
def x16_1 : XC := (.seq (.ops false r16_0) (.seq (.ops false r16_1) (.seq (.ops false r16_2) (.seq (.block 0 (.loop [.gh 4 41 tS0] ⟨56, [], [(3, .ptr 0 0 0), (4, .row 1)], [.box 49 [.d (.list (.int .i64)), .d (.int .i64)], .row 41 tS0 false]⟩ (.seq (.seq (.ops false r16_3) (.cond (.t 13) .skip (.exit 0))) (.block 1 (.seq (.ops false r16_4) (.block 2 (.seq (.seq (.ops false r16_5) (.cond (.t 16) .skip (.ops false r16_6))) (.cond (.t 16) (.ops false r16_7) (.seq (.ops false r16_8) (.cond (.t 25) (.ops false r16_9) (.seq (.ops false r16_10) (.cond (.t 36) (.ops false r16_11) (.seq (.ops false r16_12) (.cond (.t 44) (.ops false r16_13) .skip)))))))))))))) (.seq (.ops false r16_14) .ret)))))
theorem F16_1 : Fn Tryd.prog 16 56 x16_1.er [.t 2] := ⟨Tryd.f16, hcl, Tryd.func16, by kernel_rfl, by kernel_rfl, by kernel_rfl, by kernel_rfl⟩
noncomputable def m16_1 (a0 : List Int) : Option ((List DS0) × Unit) :=
 (m11 a0).bind fun y299 =>
 loopO (S := (List Int) × Int × (List DS0) × Unit) (R := (List DS0) × Unit) (fun s300 =>
 (m25 s300.1 s300.2.1).bind fun y301 =>
 cond (cond y301.1 (iLt (lenI s300.2.2.1) 30) false)
 ((m22 5 y301.2.1 y301.2.2.1).bind fun y302 =>
 cond (iEq y302.1 0)
 ((m10 y302.2.1 y302.2.2.1).bind fun y303 =>
 cond (fits (List.length s300.2.2.1 + List.length ([(1, y303.1, 0, 0, ())] : List DS0)) 40)
 (some (.inl (y303.2.1, y303.2.2.1, s300.2.2.1 ++ ([(1, y303.1, 0, 0, ())] : List DS0), ()))) none)
 (cond (iEq y302.1 1)
 ((m10 y302.2.1 y302.2.2.1).bind fun y304 =>
 cond (fits (List.length s300.2.2.1 + List.length ([(1, y304.1, 0, 0, ())] : List DS0)) 40)
 (some (.inl (y304.2.1, y304.2.2.1, s300.2.2.1 ++ ([(1, y304.1, 0, 0, ())] : List DS0), ()))) none)
 (cond (iEq y302.1 2)
 ((m26 17592186044416 y302.2.1 y302.2.2.1).bind fun y305 =>
 (m26 50 y305.2.1 y305.2.2.1).bind fun y306 =>
 cond (fits (List.length s300.2.2.1 + List.length ([(2, (bs []), iSub .i64 y305.1 y306.1, 0, ())] : List DS0)) 40)
 (some (.inl (y306.2.1, y306.2.2.1, s300.2.2.1 ++ ([(2, (bs []), iSub .i64 y305.1 y306.1, 0, ())] : List DS0), ()))) none)
 (cond (iEq y302.1 3)
 ((m27 y302.2.1 y302.2.2.1).bind fun y307 =>
 cond (fits (List.length s300.2.2.1 + List.length ([(3, (bs []), y307.1, 0, ())] : List DS0)) 40)
 (some (.inl (y307.2.1, y307.2.2.1, s300.2.2.1 ++ ([(3, (bs []), y307.1, 0, ())] : List DS0), ()))) none)
 (cond (iEq y302.1 4)
 ((m22 5 y302.2.1 y302.2.2.1).bind fun y308 =>
 cond (bnd y308.1 (lenI ([(bs [59]), (bs [58]), (bs [44]), (bs [40]), (bs [41])] : List ByteArray)))
 (cond (inB (Int.toNat y308.1) ([(bs [59]), (bs [58]), (bs [44]), (bs [40]), (bs [41])] : List ByteArray))
 (cond (fits (List.length s300.2.2.1 + List.length ([(4, List.getD ([(bs [59]), (bs [58]), (bs [44]), (bs [40]), (bs [41])] : List ByteArray) (Int.toNat y308.1) ByteArray.empty, 0, 0, ())] : List DS0)) 40)
 (some (.inl (y308.2.1, y308.2.2.1, s300.2.2.1 ++ ([(4, List.getD ([(bs [59]), (bs [58]), (bs [44]), (bs [40]), (bs [41])] : List ByteArray) (Int.toNat y308.1) ByteArray.empty, 0, 0, ())] : List DS0), ()))) none) none) none)
 (some (.inl (y302.2.1, y302.2.2.1, s300.2.2.1, ()))))))))
 (some (.inr (s300.2.2.1, ()))))
 (y299.1, y299.2.1, ([] : List DS0), ())
noncomputable def cfg16_1 : Cfg := ⟨ttab, gtab, [], [h10, h11, h22, h25, h26, h27]⟩
def ish16_1 : Sh := ⟨1, [(0, (.list (.int .i64)))], [], []⟩
def osh16_1 : Sh := ⟨1, [], [(0, .row 0)], [.row 41 tS0 false]⟩
theorem eqn16_1 (x : (List Int) × Unit) : xfunH cfg16_1 x16_1 56 [.t 2] [.gh 2 41 tS0] ish16_1 osh16_1 x = m16_1 x.1 := by kernel_rfl
noncomputable def h16_1 : HI := ⟨16, ish16_1, osh16_1, fun (x : (List Int) × Unit) => m16_1 x.1⟩
theorem okh16_1 : HOk Tryd.prog (gx gtab) h16_1 := hok mixed (cfg_h okh10 (cfg_h okh11 (cfg_h okh22 (cfg_h okh25 (cfg_h okh26 (cfg_h okh27 (cfg_nil _ _)))))) : CfgOk _ (cfg16_1)) F16_1 (eqn16_1)
/- 21 treaty/treatymade.Within -/
def r21_0 : List Ins := [qI 4 (.mov (kI 0))]
def r21_1 : List Ins := [qI 5 (.mov 0), qI 6 (.mov 1), qI 7 (.bin .rem 5 6), qI 8 (.mov 1), qI 9 (.bin .add 7 8), qI 10 (.mov 1), qI 11 (.bin .rem 9 10), qI 4 (.mov 11)]
def x21 : XC := (.seq (.ops false r21_0) (.seq (.ops false r21_1) .ret))
theorem F21 : Fn Tryd.prog 21 12 x21.er [.t 4] := ⟨Tryd.f21, hcl, Tryd.func21, by kernel_rfl, by kernel_rfl, by kernel_rfl, by kernel_rfl⟩
noncomputable def m21 (a0 : Int) (a1 : Int) : Option (Int × Unit) :=
 cond (iNe a1 0)
 (cond (iNe a1 0)
 (some (iRem (iAdd .i64 (iRem a0 a1) a1) a1, ())) none) none
noncomputable def cfg21 : Cfg := ⟨ttab, gtab, [], []⟩
theorem eqn21 (x : Int × Int × Unit) : xfun cfg21 x21 12 [.t 4] [(.int .i64), (.int .i64)] [(.int .i64)] x = m21 x.1 x.2.1 := by kernel_rfl
noncomputable def i21 : PI := ⟨21, [(.int .i64), (.int .i64)], [(.int .i64)], fun (x : Int × Int × Unit) => m21 x.1 x.2.1⟩
theorem oki21 : POk Tryd.prog (gx gtab) i21 := pok mixed (cfg_nil _ _ : CfgOk _ (cfg21)) F21 (eqn21)
/- 6 treaty/treatylaw05.LexerJoin -/
def r6_0 : List Ins := [qI 7 (.box 41 4 3), qI 8 (.mov (.k (.bool false)))]
def r6_1 : List Ins := [qI 18 (.mov 0), qI 19 (.len 18), qI 20 (.bin .gtr 19 (kI 100))]
def r6_2 : List Ins := [qI 21 (.call (.fn 9) []), qI 8 (.mov 21)]
def r6_3 : List Ins := [qI 23 (.mov 0), qI 24 (.call (.fn 20) [23]), qI 22 (.mov 24), qI 25 (.ext 0 22), qI 26 (.ext 1 22), qI 9 (.mov 25), qI 10 (.mov 26)]
def r6_4 : List Ins := [qI 28 (.mov 0), qI 29 (.call (.fn 17) [28]), qI 27 (.mov 29), qI 30 (.ext 0 27), qI 31 (.ext 1 27), qI 11 (.mov 30), qI 12 (.mov 31)]
def r6_5 : List Ins := [qI 32 (.mov 1), qI 33 (.call (.fn 16) [32]), qI 13 (.mov 33)]
def r6_6 : List Ins := [qI 35 (.mov 13), qI 36 (.call (.fn 20) [35]), qI 34 (.mov 36), qI 37 (.ext 0 34), qI 38 (.ext 1 34), qI 14 (.mov 37), qI 15 (.mov 38)]
def r6_7 : List Ins := [qI 40 (.mov 13), qI 41 (.call (.fn 17) [40]), qI 39 (.mov 41), qI 42 (.ext 0 39), qI 43 (.ext 1 39), qI 16 (.mov 42), qI 17 (.mov 43)]
def r6_8 : List Ins := [qI 44 (.mov 9), qI 45 (.mov 11), qI 46 (.bin .neq 44 45), qI 47 (.mov 46), qF 48 47 (.mov 10), qF 49 47 (.mov 12), qF 50 47 (.bin .neq 48 49), qI 51 (.pick 47 (.k (.bool true)) 50), qI 52 (.mov 51), qF 53 52 (.mov 14), qF 54 52 (.mov 16), qF 55 52 (.bin .neq 53 54), qI 56 (.pick 52 (.k (.bool true)) 55), qI 57 (.mov 56), qF 58 57 (.mov 15), qF 59 57 (.mov 17), qF 60 57 (.bin .neq 58 59), qI 61 (.pick 57 (.k (.bool true)) 60)]
def r6_9 : List Ins := [qI 8 (.mov (.k (.bool false)))]
def r6_10 : List Ins := [qI 62 (.mov 13), qI 63 (.build [.int .i64 0, .string (bs []), .int .i64 0, .int .i64 0] [(0, 1, (kI 4)), (1, 1, (.k (.string (bs [59]))))]), qI 64 (.bslice 41 4 [63]), qI 65 (.app 41 4 40 62 64), qI 13 (.mov 65)]
def r6_11 : List Ins := [qI 66 (.mov 13), qI 67 (.mov 2), qI 68 (.mov 13), qI 69 (.len 68), qI 70 (.call (.fn 21) [67, 69]), qI 71 (.load 4 true 7), qI 72 (.iaddr 4 66 70), qN (.store 4 72 71)]
def r6_12 : List Ins := [qI 74 (.mov 13), qI 75 (.call (.fn 20) [74]), qI 73 (.mov 75), qI 76 (.ext 0 73), qI 77 (.ext 1 73), qI 14 (.mov 76), qI 15 (.mov 77)]
def r6_13 : List Ins := [qI 79 (.mov 13), qI 80 (.call (.fn 17) [79]), qI 78 (.mov 80), qI 81 (.ext 0 78), qI 82 (.ext 1 78), qI 16 (.mov 81), qI 17 (.mov 82)]
def r6_14 : List Ins := [qI 83 (.mov 14), qI 84 (.mov 16), qI 85 (.bin .eql 83 84), qI 86 (.mov 85), qT 87 86 (.mov 15), qT 88 86 (.mov 17), qT 89 86 (.bin .eql 87 88), qI 90 (.pick 86 89 (.k (.bool false))), qI 91 (.mov 90), qT 92 91 (.call (.fn 9) []), qI 93 (.pick 91 92 (.k (.bool false))), qI 8 (.mov 93)]
def x6 : XC := (.seq (.ops false r6_0) (.seq (.seq (.ops false r6_1) (.cond (.t 20) (.seq (.ops false r6_2) .ret) .skip)) (.seq (.ops false r6_3) (.seq (.ops false r6_4) (.seq (.ops false r6_5) (.seq (.ops false r6_6) (.seq (.ops false r6_7) (.seq (.seq (.ops false r6_8) (.cond (.t 61) (.seq (.ops false r6_9) .ret) .skip)) (.seq (.ops false r6_10) (.seq (.ops true r6_11) (.seq (.ops false r6_12) (.seq (.ops false r6_13) (.seq (.ops false r6_14) .ret)))))))))))))
theorem F6 : Fn Tryd.prog 6 94 x6.er [.t 8] := ⟨Tryd.f6, hcl, Tryd.func6, by kernel_rfl, by kernel_rfl, by kernel_rfl, by kernel_rfl⟩
noncomputable def m6 (a0 : List DS0) (a1 : List Int) (a2 : Int) (a3 : DS0) : Option (Bool × Unit) :=
 cond (iLt 100 (lenI a0))
 ((m9).bind fun y276 =>
 some (y276.1, ()))
 ((m20 a0).bind fun y277 =>
 (m17 a0).bind fun y278 =>
 (m16_1 a1).bind fun y309 =>
 (m20 y309.1).bind fun y310 =>
 (m17 y309.1).bind fun y311 =>
 cond (cond (cond (cond (not (sEq y277.1 y278.1)) true (iNe y277.2.1 y278.2.1)) true (not (sEq y310.1 y311.1))) true (iNe y310.2.1 y311.2.1))
 (some (false, ()))
 (cond (fits (List.length y309.1 + List.length ([(4, (bs [59]), 0, 0, ())] : List DS0)) 40)
 ((m21 a2 (lenI (y309.1 ++ ([(4, (bs [59]), 0, 0, ())] : List DS0)))).bind fun y312 =>
 cond (bnd y312.1 (lenI (y309.1 ++ ([(4, (bs [59]), 0, 0, ())] : List DS0))))
 (cond (inB (Int.toNat y312.1) (y309.1 ++ ([(4, (bs [59]), 0, 0, ())] : List DS0)))
 ((m20 (List.set (y309.1 ++ ([(4, (bs [59]), 0, 0, ())] : List DS0)) (Int.toNat y312.1) (a3.1, a3.2.1, a3.2.2.1, a3.2.2.2.1, ()))).bind fun y313 =>
 (m17 (List.set (y309.1 ++ ([(4, (bs [59]), 0, 0, ())] : List DS0)) (Int.toNat y312.1) (a3.1, a3.2.1, a3.2.2.1, a3.2.2.2.1, ()))).bind fun y314 =>
 cond (cond (sEq y313.1 y314.1) (iEq y313.2.1 y314.2.1) false)
 ((m9).bind fun y315 =>
 some (y315.1, ()))
 (some (false, ()))) none) none) none))
noncomputable def cfg6 : Cfg := ⟨ttab, gtab, [i17, i20, i21, i9], [h16_1]⟩
theorem eqn6 (x : (List DS0) × (List Int) × Int × DS0 × Unit) : xfun cfg6 x6 94 [.t 8] [(.list tS0), (.list (.int .i64)), (.int .i64), tS0] [.bool] x = m6 x.1 x.2.1 x.2.2.1 x.2.2.2.1 := by kernel_rfl
noncomputable def i6 : PI := ⟨6, [(.list tS0), (.list (.int .i64)), (.int .i64), tS0], [.bool], fun (x : (List DS0) × (List Int) × Int × DS0 × Unit) => m6 x.1 x.2.1 x.2.2.1 x.2.2.2.1⟩
theorem oki6 : POk Tryd.prog (gx gtab) i6 := pok mixed (cfg_p oki17 (cfg_p oki20 (cfg_p oki21 (cfg_p oki9 (cfg_h okh16_1 (cfg_nil _ _))))) : CfgOk _ (cfg6)) F6 (eqn6)
/- 7 treaty/treatylaw05.LexerBack -/
def r7_0 : List Ins := [qI 2 (.mov (.k (.bool false)))]
def r7_1 : List Ins := [qI 9 (.mov 0), qI 10 (.call (.fn 16) [9]), qI 3 (.mov 10)]
def r7_2 : List Ins := [qI 12 (.mov 3), qI 13 (.call (.fn 20) [12]), qI 11 (.mov 13), qI 14 (.ext 0 11), qI 15 (.ext 1 11), qI 4 (.mov 14), qI 5 (.mov 15)]
def r7_3 : List Ins := [qI 17 (.mov 4), qI 18 (.call (.fn 18) [17]), qI 16 (.mov 18), qI 19 (.ext 0 16), qI 20 (.ext 1 16), qI 21 (.ext 2 16), qI 6 (.mov 19), qI 7 (.mov 20), qI 8 (.mov 21)]
def r7_4 : List Ins := [qI 22 (.mov 5), qI 23 (.bin .neq 22 (kI 0)), qI 24 (.mov 23), qF 25 24 (.mov 7), qF 26 24 (.bin .neq 25 (kI 0)), qI 27 (.pick 24 (.k (.bool true)) 26)]
def r7_5 : List Ins := [qI 2 (.mov (.k (.bool false)))]
def r7_6 : List Ins := [qI 28 (.mov 8), qI 29 (.bin .eql 28 (kI 0)), qI 30 (.mov 29), qT 31 30 (.mov 3), qT 32 30 (.mov 6), qT 33 30 (.call (.fn 19) [31, 32, (.k (.bool false))]), qI 34 (.pick 30 33 (.k (.bool false))), qI 35 (.mov 34), qT 36 35 (.call (.fn 9) []), qI 37 (.pick 35 36 (.k (.bool false))), qI 2 (.mov 37)]
def x7 : XC := (.seq (.ops false r7_0) (.seq (.ops false r7_1) (.seq (.ops false r7_2) (.seq (.ops false r7_3) (.seq (.seq (.ops false r7_4) (.cond (.t 27) (.seq (.ops false r7_5) .ret) .skip)) (.seq (.ops false r7_6) .ret))))))
theorem F7 : Fn Tryd.prog 7 38 x7.er [.t 2] := ⟨Tryd.f7, hcl, Tryd.func7, by kernel_rfl, by kernel_rfl, by kernel_rfl, by kernel_rfl⟩
noncomputable def m7 (a0 : List Int) : Option (Bool × Unit) :=
 (m16 a0).bind fun y316 =>
 (m20 y316.1).bind fun y317 =>
 (m18 y317.1).bind fun y318 =>
 cond (cond (iNe y317.2.1 0) true (iNe y318.2.1 0))
 (some (false, ()))
 (cond (iEq y318.2.2.1 0)
 ((m19 y316.1 y318.1 false).bind fun y319 =>
 cond y319.1
 ((m9).bind fun y320 =>
 some (y320.1, ()))
 (some (false, ())))
 (some (false, ())))
noncomputable def cfg7 : Cfg := ⟨ttab, gtab, [i16, i18, i19, i20, i9], []⟩
theorem eqn7 (x : (List Int) × Unit) : xfun cfg7 x7 38 [.t 2] [(.list (.int .i64))] [.bool] x = m7 x.1 := by kernel_rfl
noncomputable def i7 : PI := ⟨7, [(.list (.int .i64))], [.bool], fun (x : (List Int) × Unit) => m7 x.1⟩
theorem oki7 : POk Tryd.prog (gx gtab) i7 := pok mixed (cfg_p oki16 (cfg_p oki18 (cfg_p oki19 (cfg_p oki20 (cfg_p oki9 (cfg_nil _ _))))) : CfgOk _ (cfg7)) F7 (eqn7)
/- 8 treaty/treatylaw05.LexerOnce -/
def r8_0 : List Ins := [qI 6 (.mov (.k (.bool false)))]
def r8_1 : List Ins := [qI 19 (.mov 0), qI 20 (.slen 19), qI 21 (.bin .gtr 20 (kI 2000))]
def r8_2 : List Ins := [qI 22 (.call (.fn 9) []), qI 6 (.mov 22)]
def r8_3 : List Ins := [qI 23 (.mov 1), qI 24 (.len 23), qI 25 (.bin .gtr 24 (kI 0))]
def r8_4 : List Ins := [qI 27 (.mov 1), qI 28 (.call (.fn 16) [27]), qI 29 (.call (.fn 17) [28]), qI 26 (.mov 29), qI 30 (.ext 0 26), qI 31 (.ext 1 26), qI 0 (.mov 30)]
def r8_5 : List Ins := [qI 7 (.mov (kI 0))]
def r8_6 : List Ins := [qI 32 (.mov 7), qI 33 (.mov 2), qI 34 (.len 33), qI 35 (.bin .lss 32 34), qI 36 (.mov 35), qT 37 36 (.mov 7), qT 38 36 (.bin .lss 37 (kI 20)), qI 39 (.pick 36 38 (.k (.bool false)))]
def r8_7 : List Ins := [qI 42 (.mov 2), qI 43 (.mov 7), qI 44 (.iaddr 1 42 43), qI 45 (.load 1 false 44), qI 46 (.conv .i64 45), qI 47 (.bin .mul 46 (kI 7)), qI 48 (.mov 0), qI 49 (.slen 48), qI 50 (.bin .add 49 (kI 1)), qI 51 (.call (.fn 21) [47, 50]), qI 8 (.mov 51)]
def r8_8 : List Ins := [qI 52 (.mov 0), qI 53 (.mov 8), qI 54 (.sslice 52 none (some 53)), qI 55 (.bin .add 54 (.k (.string (bs [32])))), qI 56 (.mov 0), qI 57 (.mov 8), qI 58 (.sslice 56 (some 57) none), qI 59 (.bin .add 55 58), qI 0 (.mov 59)]
def r8_9 : List Ins := [qI 40 (.mov 7), qI 41 (.bin .add 40 (kI 1)), qI 7 (.mov 41)]
def r8_10 : List Ins := [qI 61 (.mov 0), qI 62 (.call (.fn 18) [61]), qI 60 (.mov 62), qI 63 (.ext 0 60), qI 64 (.ext 1 60), qI 65 (.ext 2 60), qI 9 (.mov 63), qI 10 (.mov 64), qI 11 (.mov 65)]
def r8_11 : List Ins := [qI 66 (.mov 11), qI 67 (.bin .neq 66 (kI 0))]
def r8_12 : List Ins := [qI 68 (.call (.fn 9) []), qI 6 (.mov 68)]
def r8_13 : List Ins := [qI 70 (.mov 9), qI 71 (.call (.fn 20) [70]), qI 69 (.mov 71), qI 72 (.ext 0 69), qI 73 (.ext 1 69), qI 12 (.mov 72), qI 13 (.mov 73)]
def r8_14 : List Ins := [qI 75 (.mov 12), qI 76 (.call (.fn 18) [75]), qI 74 (.mov 76), qI 77 (.ext 0 74), qI 78 (.ext 1 74), qI 79 (.ext 2 74), qI 14 (.mov 77), qI 15 (.mov 78), qI 16 (.mov 79)]
def r8_15 : List Ins := [qI 81 (.mov 14), qI 82 (.call (.fn 20) [81]), qI 80 (.mov 82), qI 83 (.ext 0 80), qI 84 (.ext 1 80), qI 17 (.mov 83), qI 18 (.mov 84)]
def r8_16 : List Ins := [qI 85 (.mov 13), qI 86 (.bin .eql 85 (kI 0)), qI 87 (.mov 86), qT 88 87 (.mov 16), qT 89 87 (.bin .eql 88 (kI 0)), qI 90 (.pick 87 89 (.k (.bool false))), qI 91 (.mov 90), qT 92 91 (.mov 18), qT 93 91 (.bin .eql 92 (kI 0)), qI 94 (.pick 91 93 (.k (.bool false))), qI 95 (.mov 94), qT 96 95 (.mov 12), qT 97 95 (.mov 17), qT 98 95 (.bin .eql 96 97), qI 99 (.pick 95 98 (.k (.bool false))), qI 100 (.mov 99), qT 101 100 (.mov 9), qT 102 100 (.len 101), qT 103 100 (.mov 14), qT 104 100 (.len 103), qT 105 100 (.bin .eql 102 104), qI 106 (.pick 100 105 (.k (.bool false))), qI 107 (.mov 106), qT 108 107 (.call (.fn 9) []), qI 109 (.pick 107 108 (.k (.bool false))), qI 6 (.mov 109)]
def x8 : XC := (.seq (.ops false r8_0) (.seq (.seq (.ops false r8_1) (.cond (.t 21) (.seq (.ops false r8_2) .ret) .skip)) (.seq (.seq (.ops false r8_3) (.cond (.t 25) (.seq (.ops false r8_4) (.seq (.ops false r8_5) (.block 0 (.loop [] ⟨110, [(0, .str), (2, (.list (.int .u8))), (7, (.int .i64))], [], []⟩ (.seq (.seq (.ops false r8_6) (.cond (.t 39) .skip (.exit 0))) (.seq (.block 1 (.seq (.ops false r8_7) (.ops true r8_8))) (.ops false r8_9))))))) .skip)) (.seq (.ops false r8_10) (.seq (.seq (.ops false r8_11) (.cond (.t 67) (.seq (.ops false r8_12) .ret) .skip)) (.seq (.ops false r8_13) (.seq (.ops false r8_14) (.seq (.ops false r8_15) (.seq (.ops false r8_16) .ret)))))))))
theorem F8 : Fn Tryd.prog 8 110 x8.er [.t 6] := ⟨Tryd.f8, hcl, Tryd.func8, by kernel_rfl, by kernel_rfl, by kernel_rfl, by kernel_rfl⟩
noncomputable def m8 (a0 : ByteArray) (a1 : List Int) (a2 : List Int) : Option (Bool × Unit) :=
 cond (iLt 2000 (sLen a0))
 ((m9).bind fun y338 =>
 some (y338.1, ()))
 (cond (iLt 0 (lenI a1))
 ((m16 a1).bind fun y339 =>
 (m17 y339.1).bind fun y340 =>
 loopO (S := ByteArray × (List Int) × Int × Unit) (R := Bool × Unit) (fun s341 =>
 cond (cond (iLt s341.2.2.1 (lenI s341.2.1)) (iLt s341.2.2.1 20) false)
 (cond (bnd s341.2.2.1 (lenI s341.2.1))
 ((m21 (iMul .i64 (IntKind.wrap .i64 (atI s341.2.1 s341.2.2.1 0)) 7) (iAdd .i64 (sLen s341.1) 1)).bind fun y342 =>
 cond (cutOk 0 y342.1 (ByteArray.size s341.1))
 (cond (sFits (cutS 0 y342.1 s341.1) (bs [32]))
 (cond (cutOk y342.1 ((ByteArray.size s341.1 : Nat) : Int) (ByteArray.size s341.1))
 (cond (sFits (sCat (cutS 0 y342.1 s341.1) (bs [32])) (cutS y342.1 ((ByteArray.size s341.1 : Nat) : Int) s341.1))
 (some (.inl (sCat (sCat (cutS 0 y342.1 s341.1) (bs [32])) (cutS y342.1 ((ByteArray.size s341.1 : Nat) : Int) s341.1), s341.2.1, iAdd .i64 s341.2.2.1 1, ()))) none) none) none) none) none)
 (Option.map Sum.inr ((m18 s341.1).bind fun y343 =>
 cond (iNe y343.2.2.1 0)
 ((m9).bind fun y344 =>
 some (y344.1, ()))
 ((m20 y343.1).bind fun y345 =>
 (m18 y345.1).bind fun y346 =>
 (m20 y346.1).bind fun y347 =>
 cond (cond (cond (cond (cond (iEq y345.2.1 0) (iEq y346.2.2.1 0) false) (iEq y347.2.1 0) false) (sEq y345.1 y347.1) false) (iEq (lenI y343.1) (lenI y346.1)) false)
 ((m9).bind fun y348 =>
 some (y348.1, ()))
 (some (false, ()))))))
 (y340.1, a2, 0, ()))
 ((m18 a0).bind fun y349 =>
 cond (iNe y349.2.2.1 0)
 ((m9).bind fun y350 =>
 some (y350.1, ()))
 ((m20 y349.1).bind fun y351 =>
 (m18 y351.1).bind fun y352 =>
 (m20 y352.1).bind fun y353 =>
 cond (cond (cond (cond (cond (iEq y351.2.1 0) (iEq y352.2.2.1 0) false) (iEq y353.2.1 0) false) (sEq y351.1 y353.1) false) (iEq (lenI y349.1) (lenI y352.1)) false)
 ((m9).bind fun y354 =>
 some (y354.1, ()))
 (some (false, ())))))
noncomputable def cfg8 : Cfg := ⟨ttab, gtab, [i16, i17, i18, i20, i21, i9], []⟩
theorem eqn8 (x : ByteArray × (List Int) × (List Int) × Unit) : xfun cfg8 x8 110 [.t 6] [.str, (.list (.int .i64)), (.list (.int .u8))] [.bool] x = m8 x.1 x.2.1 x.2.2.1 := by kernel_rfl
noncomputable def i8 : PI := ⟨8, [.str, (.list (.int .i64)), (.list (.int .u8))], [.bool], fun (x : ByteArray × (List Int) × (List Int) × Unit) => m8 x.1 x.2.1 x.2.2.1⟩
theorem oki8 : POk Tryd.prog (gx gtab) i8 := pok mixed (cfg_p oki16 (cfg_p oki17 (cfg_p oki18 (cfg_p oki20 (cfg_p oki21 (cfg_p oki9 (cfg_nil _ _)))))) : CfgOk _ (cfg8)) F8 (eqn8)
end Abs
end Go.Proofs.YtamgbanmnededaaDoor
