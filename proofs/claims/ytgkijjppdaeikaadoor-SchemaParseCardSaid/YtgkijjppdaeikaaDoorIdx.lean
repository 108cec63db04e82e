/- The functions' models on the typed machine, printed by a program of mine; that they are the code's is checked by the kernel. -/
import Derived.Test.YtgkijjppdaeikaaDoorXI
import Derived.Test.YtgkijjppdaeikaaDoorProg
import Derived.KernelRfl
namespace Go.Proofs.YtgkijjppdaeikaaDoor
namespace Abs
namespace Idx
set_option maxRecDepth 100000
set_option linter.unusedVariables false
theorem mixed : Tryd.prog.follows .mixedOrders = true := by kernel_rfl

instance (n : Nat) : OfNat Opd n := ⟨.t n⟩
@[reducible] def qI (d : Nat) (i : I) : Ins := ⟨some d, none, i⟩
@[reducible] def qT (d g : Nat) (i : I) : Ins := ⟨some d, some (g, true), i⟩
@[reducible] def qF (d g : Nat) (i : I) : Ins := ⟨some d, some (g, false), i⟩
@[reducible] def qN (i : I) : Ins := ⟨none, none, i⟩
@[reducible] def kN : Opd := .k (.slice none 0 0)
@[reducible] def kI (n : Int) : Opd := .k (.int .i64 n)
def ttab : Nat → Option Ty := fun n =>  none
def gtab : GXT := fun n =>  none
def hcl : List Nat := [11, 12, 13, 16, 49, 50, 51, 64, 65, 79, 80, 81, 82, 109, 110, 111, 112, 113, 116, 117, 119, 120]
/- 54 slices.Index[[]string,string] -/
def r54_0 : List Ins := [qI 4 (.mov (kI 0))]
def r54_1 : List Ins := [qI 6 (.mov 0), qI 7 (.len 6), qI 8 (.mov (kI 0))]
def r54_2 : List Ins := [qI 9 (.bin .lss 8 7)]
def r54_3 : List Ins := [qI 10 (.mov 8), qI 5 (.mov 10)]
def r54_4 : List Ins := [qI 11 (.mov 1), qI 12 (.mov 0), qI 13 (.mov 5), qI 14 (.iaddr 1 12 13), qI 15 (.load 1 false 14), qI 16 (.bin .eql 11 15)]
def r54_5 : List Ins := [qI 17 (.mov 5), qI 4 (.mov 17)]
def r54_6 : List Ins := [qI 18 (.bin .add 8 (kI 1)), qI 8 (.mov 18)]
def r54_7 : List Ins := [qI 4 (.mov (.k (.int .i64 (-1))))]
def x54 : XC := (.seq (.ops false r54_0) (.seq (.seq (.ops false r54_1) (.block 0 (.loop [] ⟨19, [(0, (.list .str)), (1, .str), (7, (.int .i64)), (8, (.int .i64))], [], []⟩ (.seq (.ops false r54_2) (.seq (.cond (.t 9) .skip (.exit 0)) (.seq (.block 1 (.seq (.ops false r54_3) (.seq (.ops false r54_4) (.cond (.t 16) (.seq (.ops false r54_5) .ret) .skip)))) (.ops false r54_6))))))) (.seq (.ops false r54_7) .ret)))
theorem F54 : Fn Tryd.prog 54 19 x54.er [.t 4] := ⟨Tryd.f54, hcl, Tryd.func54, by kernel_rfl, by kernel_rfl, by kernel_rfl, by kernel_rfl⟩
noncomputable def m54 (a0 : List ByteArray) (a1 : ByteArray) : Option (Int × Unit) :=
 loopO (S := (List ByteArray) × ByteArray × Int × Int × Unit) (R := Int × Unit) (fun s2 =>
 cond (iLt s2.2.2.2.1 s2.2.2.1)
 (cond (bnd s2.2.2.2.1 (lenI s2.1))
 (cond (sEq s2.2.1 (atI s2.1 s2.2.2.2.1 ByteArray.empty))
 (some (.inr (s2.2.2.2.1, ())))
 (some (.inl (s2.1, s2.2.1, s2.2.2.1, iAdd .i64 s2.2.2.2.1 1, ())))) none)
 (some (.inr ((-1), ()))))
 (a0, a1, lenI a0, 0, ())
noncomputable def cfg54 : Cfg := ⟨ttab, gtab, [], []⟩
theorem eqn54 (x : (List ByteArray) × ByteArray × Unit) : xfun cfg54 x54 19 [.t 4] [(.list .str), .str] [(.int .i64)] x = m54 x.1 x.2.1 := by kernel_rfl
noncomputable def i54 : PI := ⟨54, [(.list .str), .str], [(.int .i64)], fun (x : (List ByteArray) × ByteArray × Unit) => m54 x.1 x.2.1⟩
theorem oki54 : POk Tryd.prog (gx gtab) i54 := pok mixed (cfg_nil _ _ : CfgOk _ cfg54) F54 eqn54
end Idx
end Abs
end Go.Proofs.YtgkijjppdaeikaaDoor
