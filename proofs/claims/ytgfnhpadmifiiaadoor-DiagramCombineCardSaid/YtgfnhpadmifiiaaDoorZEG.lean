/- Merged and trimmed by a program: Models. -/
import Derived.Test.YtgfnhpadmifiiaaDoorZEF
import Derived.Test.YtgfnhpadmifiiaaDoorProg
import Derived.KernelRfl
set_option linter.unusedVariables false
set_option linter.unusedSimpArgs false
set_option linter.defProp false
namespace Go.Proofs.YtgfnhpadmifiiaaDoor
namespace Abs
noncomputable section
set_option maxRecDepth 100000
theorem mixed:Tryd.prog.follows .mixedOrders=true:=by kernel_rfl
abbrev tS0:Ty:=.tup [.str,(.int .i64),(.list .str),(.int .i64),(.int .i64)]
abbrev DS0:Type:=ByteArray×Int×(List ByteArray)×Int×Int×Unit
abbrev tS1:Ty:=.tup [(.int .i64),(.list (.int .i64)),(.list (.int .i64))]
abbrev DS1:Type:=Int×(List Int)×(List Int)×Unit
abbrev tS2:Ty:=.tup [(.list tS1),(.int .i64)]
abbrev DS2:Type:=(List DS1)×Int×Unit
abbrev tS3:Ty:=.tup [(.int .i64),(.int .i64)]
abbrev DS3:Type:=Int×Int×Unit
abbrev tS4:Ty:=.tup [.str,.bool]
abbrev DS4:Type:=ByteArray×Bool×Unit
abbrev tS5:Ty:=.tup [(.list tS0)]
abbrev DS5:Type:=(List DS0)×Unit
abbrev tS6:Ty:=.tup [tS3,(.int .i64)]
abbrev DS6:Type:=DS3×Int×Unit
abbrev tS7:Ty:=.tup [.str,(.int .i64)]
abbrev DS7:Type:=ByteArray×Int×Unit
abbrev tS8:Ty:=.tup [(.int .u64),(.int .u64),(.int .u64),(.int .u64),(.int .u64),(.int .u64),(.int .u64),(.int .u64),(.int .u64),(.int .u64),(.int .u64),(.int .u64),(.int .u64),(.int .u64),(.int .u64),(.int .u64),(.int .u64),(.int .u64),(.int .u64),(.int .u64)]
abbrev DS8:Type:=Int×Int×Int×Int×Int×Int×Int×Int×Int×Int×Int×Int×Int×Int×Int×Int×Int×Int×Int×Int×Unit
instance (n:Nat):OfNat Opd n:=⟨.t n⟩
def fG:Nat->Option Ty:=λn=>if Nat.beq n 3=true then some (.int .i64) else if Nat.beq n 9=true then some .str else if Nat.beq n 37=true then some (.list (.int .i64)) else if Nat.beq n 64=true then some tS0 else if Nat.beq n 70=true then some tS1 else if Nat.beq n 82=true then some tS3 else if Nat.beq n 86=true then some tS3 else if Nat.beq n 95=true then some tS4 else if Nat.beq n 102=true then some tS6 else if Nat.beq n 103=true then some tS7 else none
def bP:GXT:=λn=>if Nat.beq n 0=true then some ⟨tS8,(show DS8 from(1,10,100,1000,10000,100000,1000000,10000000,100000000,1000000000,10000000000,100000000000,1000000000000,10000000000000,100000000000000,1000000000000000,10000000000000000,100000000000000000,1000000000000000000,10000000000000000000,()))⟩ else none
def hcl:List Nat:=[18,19,24,29,45,51,55,58,66,67,68,70,80,81,86,97,127,128,129,130,131,134]
def xoF(f:Func)(a:AT):XC:=xo Tryd.prog hcl f a
theorem fnX{f n:Nat}{fn:Func}{a:AT}{rs:List RV}(h1:Tryd.prog.funcs[f]?=some fn)(h2:(fn.body.bind (cC Tryd.prog hcl)).isSome=true)(h3:wZ Tryd.prog fn.results.toList=some rs)(h4:fn.ntmps=n)(h5:callable Tryd.prog f=true):Fn Tryd.prog f n (xoF fn a).er rs:=⟨fn,hcl,h1,a5q h2,h3,h4,h5⟩
theorem Sz:POk Tryd.prog (gx bP) QD:=a3g (by rfl)
def x99:XC:=xoF Tryd.f99 .o
theorem F99:Fn Tryd.prog 99 9 x99.er [.t 2]:=by unfold x99;exact fnX Tryd.func99 (by kernel_rfl) (by kernel_rfl) (by kernel_rfl) (by kernel_rfl)
def m99(a0:Int):Option (Bool×Unit) :=
 some (cond (iLe 97 a0) (iLe a0 122) false,())
def Yx:Cfg:=⟨fG,bP,[],[]⟩
theorem a6L(x:Int×Unit):gK Yx x99 9 [.t 2] [(.int .u8)] [.bool] x=m99 x.1:=by kernel_rfl
def i99:PI:=⟨99,[(.int .u8)],[.bool],fun(x:Int×Unit)=>m99 x.1⟩
theorem XZ:POk Tryd.prog (gx bP) i99:=pok mixed (bZ _ _:dx _ (Yx)) F99 (a6L)
def UL:XC:=xoF Tryd.f106 .o
theorem b0b:Fn Tryd.prog 106 9 UL.er [.t 2]:=by unfold UL;exact fnX Tryd.func106 (by kernel_rfl) (by kernel_rfl) (by kernel_rfl) (by kernel_rfl)
def LC(a0:Int):Option (Bool×Unit) :=
 some (cond (iLe 48 a0) (iLe a0 57) false,())
def U2:Cfg:=⟨fG,bP,[],[]⟩
theorem a4B(x:Int×Unit):gK U2 UL 9 [.t 2] [(.int .u8)] [.bool] x=LC x.1:=by kernel_rfl
def a3R:PI:=⟨106,[(.int .u8)],[.bool],fun(x:Int×Unit)=>LC x.1⟩
theorem a3a:POk Tryd.prog (gx bP) a3R:=pok mixed (bZ _ _:dx _ (U2)) b0b (a4B)
def x101:XC:=xoF Tryd.f101 .o
theorem b0f:Fn Tryd.prog 101 13 x101.er [.t 2]:=by unfold x101;exact fnX Tryd.func101 (by kernel_rfl) (by kernel_rfl) (by kernel_rfl) (by kernel_rfl)
def LH(a0:Int):Option (Bool×Unit) :=
 (m99 a0).bind λy4 =>
 cond y4.1
 (some (true,()))
 ((LC a0).bind λy5 =>
 some (cond y5.1 true (iEq a0 45),()))
def U6:Cfg:=⟨fG,bP,[a3R,i99],[]⟩
theorem a4F(x:Int×Unit):gK U6 x101 13 [.t 2] [(.int .u8)] [.bool] x=LH x.1:=by kernel_rfl
def a3V:PI:=⟨101,[(.int .u8)],[.bool],fun(x:Int×Unit)=>LH x.1⟩
theorem a3e:POk Tryd.prog (gx bP) a3V:=pok mixed (dw a3a (dw XZ (bZ _ _)):dx _ (U6)) b0f (a4F)
def x100:XC:=xoF Tryd.f100 (.d 1 (.s (.b (.l [] ⟨21,[(0,.str),(1,(.int .i64)),(2,(.fnc 101))],[],[]⟩ .o)) .o))
theorem b0g:Fn Tryd.prog 100 21 x100.er [.t 6]:=by unfold x100;exact fnX Tryd.func100 (by kernel_rfl) (by kernel_rfl) (by kernel_rfl) (by kernel_rfl)
def LJ(a0:ByteArray)(a1:Int)(a2:Unit):Option (Int×Unit) :=
 eT (S:=ByteArray×Int×Unit×Unit) (R:=Int×Unit) (λs7 =>
 cond (or (bnd s7.2.1 (sLen s7.1)) (not (bEq (iLt s7.2.1 (sLen s7.1)) true)))
 (cond (iLt s7.2.1 (sLen s7.1))
 ((LH (sAt s7.1 s7.2.1)).bind λy8 =>
 cond y8.1
 (some (.inl (s7.1,bX .i64 s7.2.1 1,s7.2.2.1,())))
 (some (.inr (s7.2.1,()))))
 (some (.inr (s7.2.1,())))) none)
 (a0,a1,(),())
def U7:Cfg:=⟨fG,bP,[a3V],[]⟩
theorem a4G(x:ByteArray×Int×Unit×Unit):gK U7 x100 21 [.t 6] [.str,(.int .i64),(.fnc 101)] [(.int .i64)] x=LJ x.1 x.2.1 x.2.2.1:=by kernel_rfl
def a3W:PI:=⟨100,[.str,(.int .i64),(.fnc 101)],[(.int .i64)],fun(x:ByteArray×Int×Unit×Unit)=>LJ x.1 x.2.1 x.2.2.1⟩
theorem a3f:POk Tryd.prog (gx bP) a3W:=pok mixed (dw a3e (bZ _ _):dx _ (U7)) b0g (a4G)
def x88:XC:=xoF Tryd.f88 .o
theorem F88:Fn Tryd.prog 88 30 x88.er [.t 2]:=by unfold x88;exact fnX Tryd.func88 (by kernel_rfl) (by kernel_rfl) (by kernel_rfl) (by kernel_rfl)
def m88(a0:ByteArray):Option (Bool×Unit) :=
 cond (or (bnd 0 (sLen a0)) (not (bEq (cond (iEq (sLen a0) 0) true (iLt 16 (sLen a0))) false)))
 (cond (cond (iEq (sLen a0) 0) true (iLt 16 (sLen a0)))
 (cond (or (bnd (fV .i64 (sLen a0) 1) (sLen a0)) (not (bEq true false)))
 (some (false,())) none)
 ((m99 (sAt a0 0)).bind λy2 =>
 cond (or (bnd (fV .i64 (sLen a0) 1) (sLen a0)) (not (bEq (not y2.1) false)))
 (cond (cond (not y2.1) true (iEq (sAt a0 (fV .i64 (sLen a0) 1)) 45))
 (some (false,()))
 ((LJ a0 0 ()).bind λy9 =>
 some (iEq y9.1 (sLen a0),()))) none)) none
def YG:Cfg:=⟨fG,bP,[a3W,i99],[]⟩
theorem a6U(x:ByteArray×Unit):gK YG x88 30 [.t 2] [.str] [.bool] x=m88 x.1:=by kernel_rfl
def i88:PI:=⟨88,[.str],[.bool],fun(x:ByteArray×Unit)=>m88 x.1⟩
theorem a5M:POk Tryd.prog (gx bP) i88:=pok mixed (dw a3f (dw XZ (bZ _ _)):dx _ (YG)) F88 (a6U)
def x89:XC:=xoF Tryd.f89 .o
theorem F89:Fn Tryd.prog 89 28 x89.er [.t 2]:=by unfold x89;exact fnX Tryd.func89 (by kernel_rfl) (by kernel_rfl) (by kernel_rfl) (by kernel_rfl)
def m89(a0:ByteArray):Option (Bool×Unit) :=
 cond (sEq a0 (bs [97,110,100]))
 (some (true,()))
 (cond (sEq a0 (bs [97,118,101,114,97,103,101]))
 (some (true,()))
 (cond (sEq a0 (bs [99,111,105,110,115,117,114,97,110,99,101]))
 (some (true,()))
 (cond (sEq a0 (bs [99,111,110,100,105,116,105,111,110]))
 (some (true,()))
 (cond (sEq a0 (bs [99,111,118,101,114]))
 (some (true,()))
 (cond (sEq a0 (bs [100,101,100,117,99,116,105,98,108,101]))
 (some (true,()))
 (cond (sEq a0 (bs [100,101,102,105,110,101]))
 (some (true,()))
 (cond (sEq a0 (bs [101,110,100]))
 (some (true,()))
 (cond (sEq a0 (bs [101,110,100,111,114,115,101]))
 (some (true,()))
 (cond (sEq a0 (bs [101,120,99,108,117,100,101]))
 (some (true,()))
 (cond (sEq a0 (bs [102,97,108,115,101]))
 (some (true,()))
 (cond (sEq a0 (bs [102,114,97,110,99,104,105,115,101]))
 (some (true,()))
 (cond (sEq a0 (bs [102,114,111,109]))
 (some (true,()))
 (cond (sEq a0 (bs [105,110]))
 (some (true,()))
 (cond (sEq a0 (bs [108,105,109,105,116]))
 (some (true,()))
 (cond (sEq a0 (bs [110,111,116]))
 (some (true,()))
 (cond (sEq a0 (bs [111,114]))
 (some (true,()))
 (cond (sEq a0 (bs [114,101,109,111,118,101]))
 (some (true,()))
 (cond (sEq a0 (bs [115,117,98,108,105,109,105,116]))
 (some (true,()))
 (cond (sEq a0 (bs [116,111]))
 (some (true,()))
 (cond (sEq a0 (bs [116,114,117,101]))
 (some (true,()))
 (cond (sEq a0 (bs [117,110,108,101,115,115]))
 (some (true,()))
 (cond (sEq a0 (bs [119,104,101,110]))
 (some (true,()))
 (some (false,()))))))))))))))))))))))))
def YF:Cfg:=⟨fG,bP,[],[]⟩
theorem a6T(x:ByteArray×Unit):gK YF x89 28 [.t 2] [.str] [.bool] x=m89 x.1:=by kernel_rfl
def i89:PI:=⟨89,[.str],[.bool],fun(x:ByteArray×Unit)=>m89 x.1⟩
theorem a5L:POk Tryd.prog (gx bP) i89:=pok mixed (bZ _ _:dx _ (YF)) F89 (a6T)
def x73:XC:=xoF Tryd.f73 .o
theorem F73:Fn Tryd.prog 73 10 x73.er [.t 2]:=by unfold x73;exact fnX Tryd.func73 (by kernel_rfl) (by kernel_rfl) (by kernel_rfl) (by kernel_rfl)
def m73(a0:ByteArray):Option (Bool×Unit) :=
 (m88 a0).bind λy10 =>
 cond y10.1
 ((m89 a0).bind λy11 =>
 some (not y11.1,()))
 (some (false,()))
def YS:Cfg:=⟨fG,bP,[i88,i89],[]⟩
theorem a7g(x:ByteArray×Unit):gK YS x73 10 [.t 2] [.str] [.bool] x=m73 x.1:=by kernel_rfl
def i73:PI:=⟨73,[.str],[.bool],fun(x:ByteArray×Unit)=>m73 x.1⟩
theorem Y4:POk Tryd.prog (gx bP) i73:=pok mixed (dw a5M (dw a5L (bZ _ _)):dx _ (YS)) F73 (a7g)
def x74:XC:=xoF Tryd.f74 (.d 1 (.s (.d 1 (.b (.l [] ⟨22,[(1,.str),(9,(.list tS0)),(10,(.int .i64)),(11,(.int .i64))],[],[]⟩ .o))) .o))
theorem F74:Fn Tryd.prog 74 22 x74.er [.t 4,.t 5]:=by unfold x74;exact fnX Tryd.func74 (by kernel_rfl) (by kernel_rfl) (by kernel_rfl) (by kernel_rfl)
def m74(a0:DS5)(a1:ByteArray):Option (Int×Bool×Unit) :=
 eT (S:=ByteArray×(List DS0)×Int×Int×Unit) (R:=Int×Bool×Unit) (λs14 =>
 cond (iLt s14.2.2.2.1 s14.2.2.1)
 (cond (bnd s14.2.2.2.1 (ay s14.2.1))
 (cond (sEq ((atI s14.2.1 s14.2.2.2.1 (ByteArray.empty,0,[],0,0,())).1) s14.1)
 (some (.inr (s14.2.2.2.1,true,())))
 (some (.inl (s14.1,s14.2.1,s14.2.2.1,bX .i64 s14.2.2.2.1 1,())))) none)
 (some (.inr (0,false,()))))
 (a1,a0.1,ay a0.1,0,())
def YR:Cfg:=⟨fG,bP,[],[]⟩
theorem a7f(x:DS5×ByteArray×Unit):gK YR x74 22 [.t 4,.t 5] [tS5,.str] [(.int .i64),.bool] x=m74 x.1 x.2.1:=by kernel_rfl
def i74:PI:=⟨74,[tS5,.str],[(.int .i64),.bool],fun(x:DS5×ByteArray×Unit)=>m74 x.1 x.2.1⟩
theorem a5R:POk Tryd.prog (gx bP) i74:=pok mixed (bZ _ _:dx _ (YR)) F74 (a7f)
def x107:XC:=xoF Tryd.f107 (.d 1 (.s (.d 1 (.b (.l [] ⟨19,[(0,(.list .str)),(1,.str),(7,(.int .i64)),(8,(.int .i64))],[],[]⟩ .o))) .o))
theorem b0a:Fn Tryd.prog 107 19 x107.er [.t 4]:=by unfold x107;exact fnX Tryd.func107 (by kernel_rfl) (by kernel_rfl) (by kernel_rfl) (by kernel_rfl)
def Qs(a0:List ByteArray)(a1:ByteArray):Option (Int×Unit) :=
 eT (S:=(List ByteArray)×ByteArray×Int×Int×Unit) (R:=Int×Unit) (λs20 =>
 cond (iLt s20.2.2.2.1 s20.2.2.1)
 (cond (bnd s20.2.2.2.1 (ay s20.1))
 (cond (sEq s20.2.1 (atI s20.1 s20.2.2.2.1 ByteArray.empty))
 (some (.inr (s20.2.2.2.1,())))
 (some (.inl (s20.1,s20.2.1,s20.2.2.1,bX .i64 s20.2.2.2.1 1,())))) none)
 (some (.inr ((-1),()))))
 (a0,a1,ay a0,0,())
def U1:Cfg:=⟨fG,bP,[],[]⟩
theorem a4A(x:(List ByteArray)×ByteArray×Unit):gK U1 x107 19 [.t 4] [(.list .str),.str] [(.int .i64)] x=Qs x.1 x.2.1:=by kernel_rfl
def i107:PI:=⟨107,[(.list .str),.str],[(.int .i64)],fun(x:(List ByteArray)×ByteArray×Unit)=>Qs x.1 x.2.1⟩
theorem a2Z:POk Tryd.prog (gx bP) i107:=pok mixed (bZ _ _:dx _ (U1)) b0a (a4A)
def x102:XC:=xoF Tryd.f102 .o
theorem b0e:Fn Tryd.prog 102 9 x102.er [.t 4]:=by unfold x102;exact fnX Tryd.func102 (by kernel_rfl) (by kernel_rfl) (by kernel_rfl) (by kernel_rfl)
def LG(a0:List ByteArray)(a1:ByteArray):Option (Bool×Unit) :=
 (Qs a0 a1).bind λy21 =>
 some (iLe 0 y21.1,())
def U5:Cfg:=⟨fG,bP,[i107],[]⟩
theorem a4E(x:(List ByteArray)×ByteArray×Unit):gK U5 x102 9 [.t 4] [(.list .str),.str] [.bool] x=LG x.1 x.2.1:=by kernel_rfl
def a3U:PI:=⟨102,[(.list .str),.str],[.bool],fun(x:(List ByteArray)×ByteArray×Unit)=>LG x.1 x.2.1⟩
theorem a3d:POk Tryd.prog (gx bP) a3U:=pok mixed (dw a2Z (bZ _ _):dx _ (U5)) b0e (a4E)
def x90:XC:=xoF Tryd.f90 (.d 3 (.s (.d 1 (.b (.l [] ⟨36,[(0,(.list .str)),(13,(.list .str)),(14,(.int .i64)),(15,(.int .i64))],[],[]⟩ .o))) (.s (.d 1 (.b (.l [] ⟨36,[(0,(.list .str)),(23,(.list .str)),(24,(.int .i64)),(25,(.int .i64))],[],[]⟩ .o))) .o)))
theorem F90:Fn Tryd.prog 90 36 x90.er [.t 2]:=by unfold x90;exact fnX Tryd.func90 (by kernel_rfl) (by kernel_rfl) (by kernel_rfl) (by kernel_rfl)
def m90(a0:List ByteArray):Option (Int×Unit) :=
 cond (iEq (ay a0) 0)
 (some (19,()))
 (cond (iLt 12 (ay a0))
 (some (4,()))
 (eT (S:=(List ByteArray)×(List ByteArray)×Int×Int×Unit) (R:=Int×Unit) (λs23 =>
 cond (iLt s23.2.2.2.1 s23.2.2.1)
 (cond (bnd s23.2.2.2.1 (ay s23.2.1))
 ((m73 (atI s23.2.1 s23.2.2.2.1 ByteArray.empty)).bind λy24 =>
 cond (not y24.1)
 (some (.inr (6,())))
 (some (.inl (s23.1,s23.2.1,s23.2.2.1,bX .i64 s23.2.2.2.1 1,())))) none)
 (Option.map Sum.inr (eT (S:=(List ByteArray)×(List ByteArray)×Int×Int×Unit) (R:=Int×Unit) (λs25 =>
 cond (iLt s25.2.2.2.1 s25.2.2.1)
 (cond (bnd s25.2.2.2.1 (ay s25.2.1))
 (cond (uM 0 s25.2.2.2.1 (List.length s25.1))
 ((LG (uU 0 s25.2.2.2.1 s25.1) (atI s25.2.1 s25.2.2.2.1 ByteArray.empty)).bind λy26 =>
 cond y26.1
 (some (.inr (8,())))
 (some (.inl (s25.1,s25.2.1,s25.2.2.1,bX .i64 s25.2.2.2.1 1,())))) none) none)
 (some (.inr (0,()))))
 (s23.1,s23.1,ay s23.1,0,()))))
 (a0,a0,ay a0,0,())))
def YE:Cfg:=⟨fG,bP,[a3U,i73],[]⟩
theorem a6S(x:(List ByteArray)×Unit):gK YE x90 36 [.t 2] [(.list .str)] [(.int .i64)] x=m90 x.1:=by kernel_rfl
def i90:PI:=⟨90,[(.list .str)],[(.int .i64)],fun(x:(List ByteArray)×Unit)=>m90 x.1⟩
theorem a5K:POk Tryd.prog (gx bP) i90:=pok mixed (dw a3d (dw Y4 (bZ _ _)):dx _ (YE)) F90 (a6S)
def x75:XC:=xoF Tryd.f75 .o
theorem F75:Fn Tryd.prog 75 55 x75.er [.t 2]:=by unfold x75;exact fnX Tryd.func75 (by kernel_rfl) (by kernel_rfl) (by kernel_rfl) (by kernel_rfl)
def m75(a0:DS0):Option (Int×Unit) :=
 cond (iEq a0.2.1 1)
 (cond (cond (iNe a0.2.2.2.1 0) true (iNe a0.2.2.2.2.1 0))
 (some (20,()))
 ((m90 a0.2.2.1).bind λy27 =>
 some (y27.1,())))
 (cond (iEq a0.2.1 2)
 (cond (iLt 0 (ay a0.2.2.1))
 (some (20,()))
 (cond (cond (cond (iLt a0.2.2.2.2.1 a0.2.2.2.1) true (iLt a0.2.2.2.1 (-1000000000))) true (iLt 1000000000 a0.2.2.2.2.1))
 (some (1,()))
 (some (0,()))))
 (cond (iEq a0.2.1 3)
 (cond (cond (cond (iLt 0 (ay a0.2.2.1)) true (iNe a0.2.2.2.1 0)) true (iNe a0.2.2.2.2.1 0))
 (some (20,()))
 (some (0,())))
 (some (11,()))))
def YQ:Cfg:=⟨fG,bP,[i90],[]⟩
theorem a7e(x:DS0×Unit):gK YQ x75 55 [.t 2] [tS0] [(.int .i64)] x=m75 x.1:=by kernel_rfl
def i75:PI:=⟨75,[tS0],[(.int .i64)],fun(x:DS0×Unit)=>m75 x.1⟩
theorem a5Q:POk Tryd.prog (gx bP) i75:=pok mixed (dw a5K (bZ _ _):dx _ (YQ)) F75 (a7e)
def x38:XC:=xoF Tryd.f38 (.d 3 (.s (.d 1 (.b (.l [] ⟨44,[(17,(.list tS0)),(18,(.int .i64)),(19,(.int .i64))],[(1,.ptr 0 0 0)],[.box 24 [.d (.list tS0)]]⟩ .o))) .o))
theorem F38:Fn Tryd.prog 38 44 x38.er [.t 2]:=by unfold x38;exact fnX Tryd.func38 (by kernel_rfl) (by kernel_rfl) (by kernel_rfl) (by kernel_rfl)
def m38(a0:DS5):Option (Int×Unit) :=
 cond (iEq (ay a0.1) 0)
 (some (19,()))
 (cond (iLt 6 (ay a0.1))
 (some (4,()))
 (eT (S:=(List DS0)×Int×Int×(List DS0)×Unit) (R:=Int×Unit) (λs29 =>
 cond (iLt s29.2.2.1 s29.2.1)
 (cond (bnd s29.2.2.1 (ay s29.1))
 ((m73 ((atI s29.1 s29.2.2.1 (ByteArray.empty,0,[],0,0,())).1)).bind λy30 =>
 cond (not y30.1)
 (some (.inr (6,())))
 ((m74 (s29.2.2.2.1,()) ((atI s29.1 s29.2.2.1 (ByteArray.empty,0,[],0,0,())).1)).bind λy31 =>
 cond (iLt y31.1 s29.2.2.1)
 (some (.inr (8,())))
 ((m75 ((atI s29.1 s29.2.2.1 (ByteArray.empty,0,[],0,0,())).1,(atI s29.1 s29.2.2.1 (ByteArray.empty,0,[],0,0,())).2.1,(atI s29.1 s29.2.2.1 (ByteArray.empty,0,[],0,0,())).2.2.1,(atI s29.1 s29.2.2.1 (ByteArray.empty,0,[],0,0,())).2.2.2.1,(atI s29.1 s29.2.2.1 (ByteArray.empty,0,[],0,0,())).2.2.2.2.1,())).bind λy32 =>
 cond (iNe y32.1 0)
 (some (.inr (y32.1,())))
 (some (.inl (s29.1,s29.2.1,bX .i64 s29.2.2.1 1,s29.2.2.2.1,())))))) none)
 (some (.inr (0,()))))
 (a0.1,ay a0.1,0,a0.1,())))
def Zk:Cfg:=⟨fG,bP,[i73,i74,i75],[]⟩
theorem a7E(x:DS5×Unit):gK Zk x38 44 [.t 2] [tS5] [(.int .i64)] x=m38 x.1:=by kernel_rfl
def i38:PI:=⟨38,[tS5],[(.int .i64)],fun(x:DS5×Unit)=>m38 x.1⟩
theorem JG:POk Tryd.prog (gx bP) i38:=pok mixed (dw Y4 (dw a5R (dw a5Q (bZ _ _))):dx _ (Zk)) F38 (a7E)
def x76:XC:=xoF Tryd.f76 .o
theorem F76:Fn Tryd.prog 76 18 x76.er [.t 2,.t 3]:=by unfold x76;exact fnX Tryd.func76 (by kernel_rfl) (by kernel_rfl) (by kernel_rfl) (by kernel_rfl)
def m76(a0:DS0):Option (Int×Int×Unit) :=
 cond (iEq a0.2.1 1)
 (some (0,fV .i64 (ay a0.2.2.1) 1,()))
 (cond (iEq a0.2.1 2)
 (some (a0.2.2.2.1,a0.2.2.2.2.1,()))
 (some (0,1,())))
def YP:Cfg:=⟨fG,bP,[],[]⟩
theorem a7d(x:DS0×Unit):gK YP x76 18 [.t 2,.t 3] [tS0] [(.int .i64),(.int .i64)] x=m76 x.1:=by kernel_rfl
def i76:PI:=⟨76,[tS0],[(.int .i64),(.int .i64)],fun(x:DS0×Unit)=>m76 x.1⟩
theorem a5P:POk Tryd.prog (gx bP) i76:=pok mixed (bZ _ _:dx _ (YP)) F76 (a7d)
def x39:XC:=xoF Tryd.f39 .o
theorem F39:Fn Tryd.prog 39 28 x39.er [.t 4,.t 5]:=by unfold x39;exact fnX Tryd.func39 (by kernel_rfl) (by kernel_rfl) (by kernel_rfl) (by kernel_rfl)
def m39(a0:DS5)(a1:Int):Option (Int×Int×Unit) :=
 (m38 (a0.1,())).bind λy34 =>
 cond (cond (cond (iNe y34.1 0) true (iLt a1 0)) true (iLe (ay a0.1) a1))
 (some (0,(-1),()))
 (cond (bnd a1 (ay a0.1))
 ((m76 (atI a0.1 a1 (ByteArray.empty,0,[],0,0,()))).bind λy35 =>
 some (y35.1,y35.2.1,())) none)
def Zj:Cfg:=⟨fG,bP,[i38,i76],[]⟩
theorem a7D(x:DS5×Int×Unit):gK Zj x39 28 [.t 4,.t 5] [tS5,(.int .i64)] [(.int .i64),(.int .i64)] x=m39 x.1 x.2.1:=by kernel_rfl
def i39:PI:=⟨39,[tS5,(.int .i64)],[(.int .i64),(.int .i64)],fun(x:DS5×Int×Unit)=>m39 x.1 x.2.1⟩
theorem Yb:POk Tryd.prog (gx bP) i39:=pok mixed (dw JG (dw a5P (bZ _ _)):dx _ (Zj)) F39 (a7D)
def x40:XC:=xoF Tryd.f40 .o
theorem F40:Fn Tryd.prog 40 5 x40.er [.t 2]:=by unfold x40;exact fnX Tryd.func40 (by kernel_rfl) (by kernel_rfl) (by kernel_rfl) (by kernel_rfl)
def m40(a0:Int):Option (Int×Unit) :=
 some (fV .i64 (-1) a0,())
def Zi:Cfg:=⟨fG,bP,[],[]⟩
theorem a7C(x:Int×Unit):gK Zi x40 5 [.t 2] [(.int .i64)] [(.int .i64)] x=m40 x.1:=by kernel_rfl
def i40:PI:=⟨40,[(.int .i64)],[(.int .i64)],fun(x:Int×Unit)=>m40 x.1⟩
theorem G8:POk Tryd.prog (gx bP) i40:=pok mixed (bZ _ _:dx _ (Zi)) F40 (a7C)
def x17:XC:=xoF Tryd.f17 .o
theorem F17:Fn Tryd.prog 17 8 x17.er [.c 2 2 true]:=by unfold x17;exact fnX Tryd.func17 (by kernel_rfl) (by kernel_rfl) (by kernel_rfl) (by kernel_rfl)
def m17(a0:Int):Option (DS2×Unit) :=
 (m40 (uT 0 (pW a0 255))).bind λy37 =>
 some ((([]:List DS1),y37.1,()),())
def ZA:Cfg:=⟨fG,bP,[i40],[]⟩
theorem a7T(x:Int×Unit):gK ZA x17 8 [.c 2 2 true] [(.int .i64)] [tS2] x=m17 x.1:=by kernel_rfl
def i17:PI:=⟨17,[(.int .i64)],[tS2],fun(x:Int×Unit)=>m17 x.1⟩
theorem a6f:POk Tryd.prog (gx bP) i17:=pok mixed (dw G8 (bZ _ _):dx _ (ZA)) F17 (a7T)
def x12:XC:=xoF Tryd.f12 (.d 8 (.j [.gh 13 3 (.int .i64)] ⟨81,[(1,(.int .i64)),(3,(.int .i64)),(12,(.int .i64))],[(8,.ptr 0 0 0),(13,.row 1),(14,.row 2)],[.box 28 [.nil,.d (.int .i64)],.row 3 (.int .i64) false,.row 3 (.int .i64) false]⟩ .o .o))
theorem F12:Fn Tryd.prog 12 81 x12.er [.c 8 2 true,.t 9]:=by unfold x12;exact fnX Tryd.func12 (by kernel_rfl) (by kernel_rfl) (by kernel_rfl) (by kernel_rfl)
def m12(a0:DS5)(a1:Int)(a2:Int)(a3:Int):Option (DS2×Int×Unit) :=
 (m38 (a0.1,())).bind λy46 =>
 cond (iNe y46.1 0)
 (some ((([]:List DS1),0,()),y46.1,()))
 (cond (cond (iLt a1 0) true (iLe (ay a0.1) a1))
 (some ((([]:List DS1),0,()),7,()))
 ((m39 (a0.1,()) a1).bind λy47 =>
 cond (iLt (pW a3 y47.2.1) (uT a2 y47.1))
 ((m17 0).bind λy48 =>
 some ((y48.1.1,y48.1.2.1,()),0,()))
 ((m40 1).bind λy49 =>
 Cm (S:=Int×Int×Int×Int×(List Int)×(List Int)×Unit) (R:=DS2×Int×Unit)
 (cond (iLt y47.1 (uT a2 y47.1))
 (cond (fits (List.length ([uT a2 y47.1]:List Int)) 8)
 ((m40 0).bind λy50 =>
 (m40 1).bind λy51 =>
 some (.inl (a1,pW a3 y47.2.1,y47.2.1,0,([uT a2 y47.1]:List Int),([y50.1,y51.1]:List Int),()))) none)
 (some (.inl (a1,pW a3 y47.2.1,y47.2.1,0,([]:List Int),([y49.1]:List Int),()))))
 (λj52 =>
 cond (iLt j52.2.1 j52.2.2.1)
 (cond (fits (List.length j52.2.2.2.2.1+List.length ([bX .i64 j52.2.1 1]:List Int)) 8)
 ((m40 0).bind λy53 =>
 cond (fits (List.length j52.2.2.2.2.2.1+List.length ([y53.1]:List Int)) 8)
 (cond (iEq (ay (j52.2.2.2.2.1++([bX .i64 j52.2.1 1]:List Int))) 0)
 ((m17 1).bind λy54 =>
 some ((y54.1.1,y54.1.2.1,()),0,()))
 (some ((([(j52.1,j52.2.2.2.2.1++([bX .i64 j52.2.1 1]:List Int),j52.2.2.2.2.2.1++([y53.1]:List Int),())]:List DS1),0,()),0,()))) none) none)
 (cond (iEq (ay j52.2.2.2.2.1) 0)
 ((m17 1).bind λy55 =>
 some ((y55.1.1,y55.1.2.1,()),0,()))
 (some ((([(j52.1,j52.2.2.2.2.1,j52.2.2.2.2.2.1,())]:List DS1),0,()),0,())))))))
def ZF:Cfg:=⟨fG,bP,[i17,i38,i39,i40],[]⟩
theorem a7X(x:DS5×Int×Int×Int×Unit):gK ZF x12 81 [.c 8 2 true,.t 9] [tS5,(.int .i64),(.int .i64),(.int .i64)] [tS2,(.int .i64)] x=m12 x.1 x.2.1 x.2.2.1 x.2.2.2.1:=by kernel_rfl
def i12:PI:=⟨12,[tS5,(.int .i64),(.int .i64),(.int .i64)],[tS2,(.int .i64)],fun(x:DS5×Int×Int×Int×Unit)=>m12 x.1 x.2.1 x.2.2.1 x.2.2.2.1⟩
theorem a6i:POk Tryd.prog (gx bP) i12:=pok mixed (dw a6f (dw JG (dw Yb (dw G8 (bZ _ _)))):dx _ (ZF)) F12 (a7X)
def x59:XC:=xoF Tryd.f59 .o
theorem F59:Fn Tryd.prog 59 15 x59.er [.t 4]:=by unfold x59;exact fnX Tryd.func59 (by kernel_rfl) (by kernel_rfl) (by kernel_rfl) (by kernel_rfl)
def m59(a0:DS2)(a1:Int):Option (Bool×Unit) :=
 (m40 255).bind λy58 =>
 some (cond (iLe y58.1 a1) (iLt a1 (ay a0.1)) false,())
def YX:Cfg:=⟨fG,bP,[i40],[]⟩
theorem a7l(x:DS2×Int×Unit):gK YX x59 15 [.t 4] [tS2,(.int .i64)] [.bool] x=m59 x.1 x.2.1:=by kernel_rfl
def i59:PI:=⟨59,[tS2,(.int .i64)],[.bool],fun(x:DS2×Int×Unit)=>m59 x.1 x.2.1⟩
theorem Y5:POk Tryd.prog (gx bP) i59:=pok mixed (dw G8 (bZ _ _):dx _ (YX)) F59 (a7l)
def x50:XC:=xoF Tryd.f50 (.d 2 (.s (.d 1 (.b (.l [] ⟨30,[(10,(.int .i64)),(11,(.int .i64))],[(1,.ptr 0 0 0),(3,.row 1)],[.box 24 [.d (.list tS0)],.row 86 tS3 false]⟩ .o))) .o))
theorem F50:Fn Tryd.prog 50 30 x50.er [.t 2]:=by unfold x50;exact fnX Tryd.func50 (by kernel_rfl) (by kernel_rfl) (by kernel_rfl) (by kernel_rfl)
def m50(a0:DS5):Option ((List DS3)×Unit) :=
 cond (qQ (ay a0.1) 16)
 (eT (S:=Int×Int×(List DS0)×(List DS3)×Unit) (R:=(List DS3)×Unit) (λs62 =>
 cond (iLt s62.2.1 s62.1)
 ((m39 (s62.2.2.1,()) s62.2.1).bind λy63 =>
 cond (bnd s62.2.1 (ay s62.2.2.2.1))
 (cond (inB (Int.toNat s62.2.1) s62.2.2.2.1)
 (cond (bnd s62.2.1 (ay (List.set s62.2.2.2.1 (Int.toNat s62.2.1) (y63.1,(List.getD s62.2.2.2.1 (Int.toNat s62.2.1) (0,0,())).2.1,()))))
 (cond (inB (Int.toNat s62.2.1) (List.set s62.2.2.2.1 (Int.toNat s62.2.1) (y63.1,(List.getD s62.2.2.2.1 (Int.toNat s62.2.1) (0,0,())).2.1,())))
 (some (.inl (s62.1,bX .i64 s62.2.1 1,s62.2.2.1,List.set (List.set s62.2.2.2.1 (Int.toNat s62.2.1) (y63.1,(List.getD s62.2.2.2.1 (Int.toNat s62.2.1) (0,0,())).2.1,())) (Int.toNat s62.2.1) ((List.getD (List.set s62.2.2.2.1 (Int.toNat s62.2.1) (y63.1,(List.getD s62.2.2.2.1 (Int.toNat s62.2.1) (0,0,())).2.1,())) (Int.toNat s62.2.1) (0,0,())).1,y63.2.1,()),()))) none) none) none) none)
 (some (.inr (s62.2.2.2.1,()))))
 (ay (List.replicate (Int.toNat (ay a0.1)) (0,0,()):List DS3),0,a0.1,(List.replicate (Int.toNat (ay a0.1)) (0,0,()):List DS3),())) none
def Z8:Cfg:=⟨fG,bP,[i39],[]⟩
theorem a7s(x:DS5×Unit):gK Z8 x50 30 [.t 2] [tS5] [(.list tS3)] x=m50 x.1:=by kernel_rfl
def i50:PI:=⟨50,[tS5],[(.list tS3)],fun(x:DS5×Unit)=>m50 x.1⟩
theorem Ql:POk Tryd.prog (gx bP) i50:=pok mixed (dw Yb (bZ _ _):dx _ (Z8)) F50 (a7s)
def x60:XC:=xoF Tryd.f60 (.d 3 (.s (.d 1 (.b (.l [] ⟨106,[(2,(.list tS3)),(7,(.int .i64)),(45,(.list (.int .i64))),(46,(.int .i64)),(47,(.int .i64))],[(3,.ptr 0 0 0),(4,.ptr 1 0 0)],[.box 28 [.d (.list tS1),.d (.int .i64)],.box 70 [.d (.int .i64),.d (.list (.int .i64)),.d (.list (.int .i64))]]⟩ .o))) (.s (.d 1 (.b (.l [] ⟨106,[(67,(.list (.int .i64))),(68,(.int .i64)),(69,(.int .i64))],[(3,.ptr 0 0 0),(4,.ptr 1 0 0)],[.box 28 [.d (.list tS1),.d (.int .i64)],.box 70 [.d (.int .i64),.d (.list (.int .i64)),.d (.list (.int .i64))]]⟩ .o))) .o)))
theorem F60:Fn Tryd.prog 60 106 x60.er [.t 6]:=by unfold x60;exact fnX Tryd.func60 (by kernel_rfl) (by kernel_rfl) (by kernel_rfl) (by kernel_rfl)
def m60(a0:DS2)(a1:DS1)(a2:List DS3):Option (Bool×Unit) :=
 cond (cond (cond (cond (iLt a1.1 0) true (iLe (ay a2) a1.1)) true (iEq (ay a1.2.1) 0)) true (iNe (ay a1.2.2.1) (bX .i64 (ay a1.2.1) 1)))
 (some (false,()))
 (cond (bnd a1.1 (ay a2))
 (eT (S:=(List DS3)×Int×(List Int)×Int×Int×(List DS1)×Int×Int×(List Int)×(List Int)×Unit) (R:=Bool×Unit) (λs69 =>
 cond (iLt s69.2.2.2.2.1 s69.2.2.2.1)
 (cond (bnd s69.2.2.2.2.1 (ay s69.2.2.1))
 (cond (or (bnd s69.2.2.2.2.2.2.2.1 (ay s69.1)) (not (bEq (iLe (atI s69.2.2.1 s69.2.2.2.2.1 0) s69.2.1) false)))
 (cond (cond (iLe (atI s69.2.2.1 s69.2.2.2.2.1 0) s69.2.1) true (iLt ((atI s69.1 s69.2.2.2.2.2.2.2.1 (0,0,())).2.1) (atI s69.2.2.1 s69.2.2.2.2.1 0)))
 (some (.inr (false,())))
 (some (.inl (s69.1,atI s69.2.2.1 s69.2.2.2.2.1 0,s69.2.2.1,s69.2.2.2.1,bX .i64 s69.2.2.2.2.1 1,s69.2.2.2.2.2.1,s69.2.2.2.2.2.2.1,s69.2.2.2.2.2.2.2.1,s69.2.2.2.2.2.2.2.2.1,s69.2.2.2.2.2.2.2.2.2.1,())))) none) none)
 (Option.map Sum.inr (eT (S:=(List Int)×Int×Int×(List DS1)×Int×Int×(List Int)×(List Int)×Unit) (R:=Bool×Unit) (λs70 =>
 cond (iLt s70.2.2.1 s70.2.1)
 (cond (bnd s70.2.2.1 (ay s70.1))
 ((m59 (s70.2.2.2.1,s70.2.2.2.2.1,()) (atI s70.1 s70.2.2.1 0)).bind λy71 =>
 cond (not y71.1)
 (some (.inr (false,())))
 (cond (or (bnd (fV .i64 s70.2.2.1 1) (ay s70.2.2.2.2.2.2.2.1)) (not (bEq (iLt 0 s70.2.2.1) true)))
 (cond (cond (iLt 0 s70.2.2.1) (iEq (atI s70.1 s70.2.2.1 0) (atI s70.2.2.2.2.2.2.2.1 (fV .i64 s70.2.2.1 1) 0)) false)
 (some (.inr (false,())))
 (cond (or (bnd (atI s70.1 s70.2.2.1 0) (ay s70.2.2.2.1)) (not (bEq (iLe 0 (atI s70.1 s70.2.2.1 0)) true)))
 (cond (cond (iLe 0 (atI s70.1 s70.2.2.1 0)) (iLe ((atI s70.2.2.2.1 (atI s70.1 s70.2.2.1 0) (0,[],[],())).1) s70.2.2.2.2.2.1) false)
 (some (.inr (false,())))
 (some (.inl (s70.1,s70.2.1,bX .i64 s70.2.2.1 1,s70.2.2.2.1,s70.2.2.2.2.1,s70.2.2.2.2.2.1,s70.2.2.2.2.2.2.1,s70.2.2.2.2.2.2.2.1,())))) none)) none)) none)
 (some (.inr (true,()))))
 (s69.2.2.2.2.2.2.2.2.2.1,ay s69.2.2.2.2.2.2.2.2.2.1,0,s69.2.2.2.2.2.1,s69.2.2.2.2.2.2.1,s69.2.2.2.2.2.2.2.1,s69.2.2.2.2.2.2.2.2.1,s69.2.2.2.2.2.2.2.2.2.1,()))))
 (a2,(atI a2 a1.1 (0,0,())).1,a1.2.1,ay a1.2.1,0,a0.1,a0.2.1,a1.1,a1.2.1,a1.2.2.1,())) none)
def YW:Cfg:=⟨fG,bP,[i59],[]⟩
theorem a7k(x:DS2×DS1×(List DS3)×Unit):gK YW x60 106 [.t 6] [tS2,tS1,(.list tS3)] [.bool] x=m60 x.1 x.2.1 x.2.2.1:=by kernel_rfl
def i60:PI:=⟨60,[tS2,tS1,(.list tS3)],[.bool],fun(x:DS2×DS1×(List DS3)×Unit)=>m60 x.1 x.2.1 x.2.2.1⟩
theorem a5T:POk Tryd.prog (gx bP) i60:=pok mixed (dw Y5 (bZ _ _):dx _ (YW)) F60 (a7k)
def x62:XC:=xoF Tryd.f62 (.d 4 (.s (.d 1 (.b (.l [] ⟨44,[(2,(.int .i64)),(26,(.list (.int .i64))),(27,(.int .i64)),(28,(.int .i64))],[(3,.ptr 0 0 0)],[.box 28 [.d (.list tS1),.d (.int .i64)]]⟩ .o))) .o))
theorem F62:Fn Tryd.prog 62 44 x62.er [.t 6,.t 7]:=by unfold x62;exact fnX Tryd.func62 (by kernel_rfl) (by kernel_rfl) (by kernel_rfl) (by kernel_rfl)
def Hy(self:(DS2×Int×Int×Unit)->Option (Int×Bool×Unit))(a0:DS2)(a1:Int)(a2:Int):Option (Int×Bool×Unit) :=
 cond (iLt a1 a2)
 (some (a2,true,()))
 (cond (iLt a2 a1)
 (some (a2,false,()))
 (cond (bnd a1 (ay a0.1))
 (eT (S:=Int×(List Int)×Int×Int×(List DS1)×Int×Unit) (R:=Int×Bool×Unit) (λs76 =>
 cond (iLt s76.2.2.2.1 s76.2.2.1)
 (cond (bnd s76.2.2.2.1 (ay s76.2.1))
 ((self ((s76.2.2.2.2.1,s76.2.2.2.2.2.1,()),atI s76.2.1 s76.2.2.2.1 0,s76.1,())).bind λy77 =>
 cond (not y77.2.1)
 (some (.inr (y77.1,false,())))
 (some (.inl (y77.1,s76.2.1,s76.2.2.1,bX .i64 s76.2.2.2.1 1,s76.2.2.2.2.1,s76.2.2.2.2.2.1,())))) none)
 (some (.inr (s76.1,true,()))))
 (bX .i64 a2 1,(atI a0.1 a1 (0,[],[],())).2.2.1,ay ((atI a0.1 a1 (0,[],[],())).2.2.1),0,a0.1,a0.2.1,())) none))
def YV(self:(DS2×Int×Int×Unit)->Option (Int×Bool×Unit)):Cfg:=⟨fG,bP,[⟨62,[tS2,(.int .i64),(.int .i64)],[(.int .i64),.bool],self⟩],[]⟩
theorem a7j(self:(DS2×Int×Int×Unit)->Option (Int×Bool×Unit))(x:DS2×Int×Int×Unit):gK (YV self) x62 44 [.t 6,.t 7] [tS2,(.int .i64),(.int .i64)] [(.int .i64),.bool] x=Hy self x.1 x.2.1 x.2.2.1:=by kernel_rfl
def m62(a0:DS2)(a1:Int)(a2:Int):Option (Int×Bool×Unit):=wW (λself (x:DS2×Int×Int×Unit)=>Hy self x.1 x.2.1 x.2.2.1) (a0,a1,a2,())
def i62:PI:=⟨62,[tS2,(.int .i64),(.int .i64)],[(.int .i64),.bool],fun(x:DS2×Int×Int×Unit)=>m62 x.1 x.2.1 x.2.2.1⟩
theorem a5S:POk Tryd.prog (gx bP) i62:=a0H (f:=62) (ps:=[tS2,(.int .i64),(.int .i64)]) (rs:=[(.int .i64),.bool]) (G:=λself (x:DS2×Int×Int×Unit)=>Hy self x.1 x.2.1 x.2.2.1) F62.callable (λrun hr=>pok mixed (dw hr (bZ _ _):dx _ (YV run)) F62 (a7j run))
def x31:XC:=xoF Tryd.f31 (.d 4 (.s (.d 1 (.b (.l [] ⟨74,[(5,(.list tS3)),(35,(.list tS1)),(36,(.int .i64)),(37,(.int .i64))],[(3,.ptr 0 0 0),(6,.mp 1)],[.box 28 [.d (.list tS1),.d (.int .i64)],.map 95 .str .bool]⟩ .o))) .o))
theorem F31:Fn Tryd.prog 31 74 x31.er [.t 4]:=by unfold x31;exact fnX Tryd.func31 (by kernel_rfl) (by kernel_rfl) (by kernel_rfl) (by kernel_rfl)
def m31(a0:DS5)(a1:DS2):Option (Bool×Unit) :=
 (m38 (a0.1,())).bind λy79 =>
 cond (cond (iNe y79.1 0) true (iLt 1000 (ay a1.1)))
 (some (false,()))
 ((m59 (a1.1,a1.2.1,()) a1.2.1).bind λy80 =>
 cond (not y80.1)
 (some (false,()))
 ((m50 (a0.1,())).bind λy81 =>
 eT (S:=(List DS3)×(List DS1)×Int×Int×(List DS1)×Int×(List DS4)×Unit) (R:=Bool×Unit) (λs82 =>
 cond (iLt s82.2.2.2.1 s82.2.2.1)
 (cond (bnd s82.2.2.2.1 (ay s82.2.1))
 ((m60 (s82.2.2.2.2.1,s82.2.2.2.2.2.1,()) ((atI s82.2.1 s82.2.2.2.1 (0,[],[],())).1,(atI s82.2.1 s82.2.2.2.1 (0,[],[],())).2.1,(atI s82.2.1 s82.2.2.2.1 (0,[],[],())).2.2.1,()) s82.1).bind λy83 =>
 cond (not y83.1)
 (some (.inr (false,())))
 ((Fe ((atI s82.2.1 s82.2.2.2.1 (0,[],[],())).1) ((atI s82.2.1 s82.2.2.2.1 (0,[],[],())).2.1) ((atI s82.2.1 s82.2.2.2.1 (0,[],[],())).2.2.1)).bind λy84 =>
 cond (oO sEq y84.1 s82.2.2.2.2.2.2.1 false)
 (some (.inr (false,())))
 (some (.inl (s82.1,s82.2.1,s82.2.2.1,bX .i64 s82.2.2.2.1 1,s82.2.2.2.2.1,s82.2.2.2.2.2.1,pV sEq y84.1 true s82.2.2.2.2.2.2.1,()))))) none)
 (Option.map Sum.inr ((m62 (s82.2.2.2.2.1,s82.2.2.2.2.2.1,()) s82.2.2.2.2.2.1 0).bind λy85 =>
 some (cond y85.2.1 (iEq y85.1 (ay s82.2.2.2.2.1)) false,()))))
 (y81.1,a1.1,ay a1.1,0,a1.1,a1.2.1,([]:List DS4),())))
def Zo:Cfg:=⟨fG,bP,[i38,i50,i59,i60,i62,QD],[]⟩
theorem a7I(x:DS5×DS2×Unit):gK Zo x31 74 [.t 4] [tS5,tS2] [.bool] x=m31 x.1 x.2.1:=by kernel_rfl
def i31:PI:=⟨31,[tS5,tS2],[.bool],fun(x:DS5×DS2×Unit)=>m31 x.1 x.2.1⟩
theorem Qo:POk Tryd.prog (gx bP) i31:=pok mixed (dw JG (dw Ql (dw Y5 (dw a5T (dw a5S (dw Sz (bZ _ _)))))):dx _ (Zo)) F31 (a7I)
def x72:XC:=xoF Tryd.f72 .o
theorem F72:Fn Tryd.prog 72 5 x72.er [.t 2]:=by unfold x72;exact fnX Tryd.func72 (by kernel_rfl) (by kernel_rfl) (by kernel_rfl) (by kernel_rfl)
def m72(a0:Int):Option (Int×Unit) :=
 some (fV .i64 (-1) a0,())
def YT:Cfg:=⟨fG,bP,[],[]⟩
theorem a7h(x:Int×Unit):gK YT x72 5 [.t 2] [(.int .i64)] [(.int .i64)] x=m72 x.1:=by kernel_rfl
def i72:PI:=⟨72,[(.int .i64)],[(.int .i64)],fun(x:Int×Unit)=>m72 x.1⟩
theorem Qk:POk Tryd.prog (gx bP) i72:=pok mixed (bZ _ _:dx _ (YT)) F72 (a7h)
def x82:XC:=xoF Tryd.f82 .o
theorem F82:Fn Tryd.prog 82 16 x82.er [.t 4]:=by unfold x82;exact fnX Tryd.func82 (by kernel_rfl) (by kernel_rfl) (by kernel_rfl) (by kernel_rfl)
def m82(a0:Int)(a1:Int):Option (Int×Unit) :=
 cond (or (iNe a0 0) (not (bEq (iLt 0 a0) true)))
 (cond (cond (iLt 0 a0) (iLt (rM .i64 17592186044416 a0) a1) false)
 (some (17592186044416,()))
 (some (AQ .i64 a0 a1,()))) none
def YJ:Cfg:=⟨fG,bP,[],[]⟩
theorem a6X(x:Int×Int×Unit):gK YJ x82 16 [.t 4] [(.int .i64),(.int .i64)] [(.int .i64)] x=m82 x.1 x.2.1:=by kernel_rfl
def i82:PI:=⟨82,[(.int .i64),(.int .i64)],[(.int .i64)],fun(x:Int×Int×Unit)=>m82 x.1 x.2.1⟩
theorem Y2:POk Tryd.prog (gx bP) i82:=pok mixed (bZ _ _:dx _ (YJ)) F82 (a6X)
def x81:XC:=xoF Tryd.f81 (.d 1 (.s (.d 1 (.b (.l [] ⟨33,[(1,(.int .i64)),(17,(.list tS3)),(18,(.int .i64)),(19,(.int .i64))],[],[.box 84 [.d (.list tS1),.d (.list tS3),.d (.int .i64),.mp 1],.map 82 (.int .i64) (.int .i64)]⟩ .o))) .o))
theorem F81:Fn Tryd.prog 81 33 x81.er [.t 8]:=by unfold x81;exact fnX Tryd.func81 (by kernel_rfl) (by kernel_rfl) (by kernel_rfl) (by kernel_rfl)
def m81(a0:Int)(a1:Int)(a2:Int)(a3:List DS1)(a4:List DS3)(a5:Int)(a6:List DS3):Option (Int×(List DS1)×(List DS3)×Int×(List DS3)×Unit) :=
 cond (uM a1 a2 (List.length a4))
 (eT (S:=Int×(List DS3)×Int×Int×(List DS1)×(List DS3)×Int×(List DS3)×Unit) (R:=Int×(List DS1)×(List DS3)×Int×(List DS3)×Unit) (λs91 =>
 cond (iLt s91.2.2.2.1 s91.2.2.1)
 (cond (bnd s91.2.2.2.1 (ay s91.2.1))
 ((m82 s91.1 (bX .i64 (fV .i64 ((atI s91.2.1 s91.2.2.2.1 (0,0,())).2.1) ((atI s91.2.1 s91.2.2.2.1 (0,0,())).1)) 1)).bind λy92 =>
 some (.inl (y92.1,s91.2.1,s91.2.2.1,bX .i64 s91.2.2.2.1 1,s91.2.2.2.2.1,s91.2.2.2.2.2.1,s91.2.2.2.2.2.2.1,s91.2.2.2.2.2.2.2.1,()))) none)
 (some (.inr (s91.1,s91.2.2.2.2.1,s91.2.2.2.2.2.1,s91.2.2.2.2.2.2.1,s91.2.2.2.2.2.2.2.1,()))))
 (a0,uU a1 a2 a4,ay (uU a1 a2 a4),0,a3,a4,a5,a6,())) none
def YK:Cfg:=⟨fG,bP,[i82],[]⟩
def Yh:Sh:=⟨4,[(1,(.int .i64)),(2,(.int .i64)),(3,(.int .i64))],[(0,.ptr 0 0 0)],[.box 84 [.d (.list tS1),.d (.list tS3),.d (.int .i64),.mp 1],.map 82 (.int .i64) (.int .i64)]⟩
def XP:Sh:=⟨1,[(0,(.int .i64))],[],[.box 84 [.d (.list tS1),.d (.list tS3),.d (.int .i64),.mp 1],.map 82 (.int .i64) (.int .i64)]⟩
theorem a6Y(x:Int×Int×Int×(List DS1)×(List DS3)×Int×(List DS3)×Unit):oL YK x81 33 [.t 8] [] Yh XP x=m81 x.1 x.2.1 x.2.2.1 x.2.2.2.1 x.2.2.2.2.1 x.2.2.2.2.2.1 x.2.2.2.2.2.2.1:=by kernel_rfl
def h81:HI:=⟨81,Yh,XP,fun(x:Int×Int×Int×(List DS1)×(List DS3)×Int×(List DS3)×Unit)=>m81 x.1 x.2.1 x.2.2.1 x.2.2.2.1 x.2.2.2.2.1 x.2.2.2.2.2.1 x.2.2.2.2.2.2.1,[]⟩
theorem a6k:HOk Tryd.prog (gx bP) h81:=hok mixed (dw Y2 (bZ _ _):dx _ (YK)) F81 (a6Y)
def x51:XC:=xoF Tryd.f51 (.d 4 (.s (.d 1 (.c (.d 1 (.s (.d 1 (.b (.l [] ⟨113,[(1,(.int .i64)),(2,(.int .i64)),(8,(.int .i64)),(10,(.int .i64)),(59,(.list (.int .i64))),(60,(.int .i64)),(61,(.int .i64))],[(0,.ptr 0 0 0),(7,.ptr 2 0 0)],[.box 84 [.d (.list tS1),.d (.list tS3),.d (.int .i64),.mp 1],.map 82 (.int .i64) (.int .i64),.box 70 [.d (.int .i64),.d (.list (.int .i64)),.d (.list (.int .i64))]]⟩ .o))) .o)) .o)) .o))
theorem F51:Fn Tryd.prog 51 113 x51.er [.t 6]:=by unfold x51;exact fnX Tryd.func51 (by kernel_rfl) (by kernel_rfl) (by kernel_rfl) (by kernel_rfl)
def HV(self:(Int×Int×(List DS1)×(List DS3)×Int×(List DS3)×Unit)->Option (Int×(List DS1)×(List DS3)×Int×(List DS3)×Unit))(a0:Int)(a1:Int)(a2:List DS1)(a3:List DS3)(a4:Int)(a5:List DS3):Option (Int×(List DS1)×(List DS3)×Int×(List DS3)×Unit) :=
 cond (iLt a0 0)
 ((m72 a0).bind λy101 =>
 cond (iNe y101.1 a4)
 (some (0,a2,a3,a4,a5,()))
 ((m81 1 a1 (ay a3) a2 a3 a4 a5).bind λy102 =>
 some (y102.1,y102.2.1,y102.2.2.1,y102.2.2.2.1,y102.2.2.2.2.1,())))
 (cond (bnd a0 (ay a2))
 (cond (not (yh iEq a0 a5))
 (cond (bnd ((atI a2 a0 (0,[],[],())).1) (ay a3))
 (eT (S:=Int×Int×Int×Int×(List Int)×Int×Int×(List DS1)×(List DS3)×Int×(List DS3)×Int×(List Int)×(List Int)×Unit) (R:=Int×(List DS1)×(List DS3)×Int×(List DS3)×Unit) (λgW =>
 cond (iLt gW.2.2.2.2.2.2.1 gW.2.2.2.2.2.1)
 (cond (bnd gW.2.2.2.2.2.2.1 (ay gW.2.2.2.2.1))
 (cond (bnd gW.2.2.2.2.2.2.2.2.2.2.2.1 (ay gW.2.2.2.2.2.2.2.2.1))
 (cond (iLt gW.2.2.2.2.2.2.1 (ay gW.2.2.2.2.2.2.2.2.2.2.2.2.1))
 (cond (bnd gW.2.2.2.2.2.2.1 (ay gW.2.2.2.2.2.2.2.2.2.2.2.2.1))
 ((self (atI gW.2.2.2.2.1 gW.2.2.2.2.2.2.1 0,bX .i64 gW.2.2.2.2.2.2.2.2.2.2.2.1 1,gW.2.2.2.2.2.2.2.1,gW.2.2.2.2.2.2.2.2.1,gW.2.2.2.2.2.2.2.2.2.1,gW.2.2.2.2.2.2.2.2.2.2.1,())).bind λy104 =>
 (m82 y104.1 (fV .i64 (atI gW.2.2.2.2.2.2.2.2.2.2.2.2.1 gW.2.2.2.2.2.2.1 0) gW.2.2.2.1)).bind λUC =>
 some (.inl (gW.1,gW.2.1,pW (bX .i64 gW.2.2.1 UC.1) 17592186044416,atI gW.2.2.2.2.2.2.2.2.2.2.2.2.1 gW.2.2.2.2.2.2.1 0,gW.2.2.2.2.1,gW.2.2.2.2.2.1,bX .i64 gW.2.2.2.2.2.2.1 1,y104.2.1,y104.2.2.1,y104.2.2.2.1,y104.2.2.2.2.1,gW.2.2.2.2.2.2.2.2.2.2.2.1,gW.2.2.2.2.2.2.2.2.2.2.2.2.1,gW.2.2.2.2.2.2.2.2.2.2.2.2.2.1,()))) none)
 ((self (atI gW.2.2.2.2.1 gW.2.2.2.2.2.2.1 0,bX .i64 gW.2.2.2.2.2.2.2.2.2.2.2.1 1,gW.2.2.2.2.2.2.2.1,gW.2.2.2.2.2.2.2.2.1,gW.2.2.2.2.2.2.2.2.2.1,gW.2.2.2.2.2.2.2.2.2.2.1,())).bind λKk =>
 (m82 Kk.1 (fV .i64 (bX .i64 ((atI gW.2.2.2.2.2.2.2.2.1 gW.2.2.2.2.2.2.2.2.2.2.2.1 (0,0,())).2.1) 1) gW.2.2.2.1)).bind λa9v =>
 some (.inl (gW.1,gW.2.1,pW (bX .i64 gW.2.2.1 a9v.1) 17592186044416,bX .i64 ((atI gW.2.2.2.2.2.2.2.2.1 gW.2.2.2.2.2.2.2.2.2.2.2.1 (0,0,())).2.1) 1,gW.2.2.2.2.1,gW.2.2.2.2.2.1,bX .i64 gW.2.2.2.2.2.2.1 1,Kk.2.1,Kk.2.2.1,Kk.2.2.2.1,Kk.2.2.2.2.1,gW.2.2.2.2.2.2.2.2.2.2.2.1,gW.2.2.2.2.2.2.2.2.2.2.2.2.1,gW.2.2.2.2.2.2.2.2.2.2.2.2.2.1,())))) none) none)
 (Option.map Sum.inr ((m81 gW.2.2.1 gW.2.1 gW.2.2.2.2.2.2.2.2.2.2.2.1 gW.2.2.2.2.2.2.2.1 gW.2.2.2.2.2.2.2.2.1 gW.2.2.2.2.2.2.2.2.2.1 (pV iEq gW.1 gW.2.2.1 gW.2.2.2.2.2.2.2.2.2.2.1)).bind λKj =>
 some (Kj.1,Kj.2.1,Kj.2.2.1,Kj.2.2.2.1,Kj.2.2.2.2.1,()))))
 (a0,a1,oO iEq a0 a5 0,(atI a3 ((atI a2 a0 (0,[],[],())).1) (0,0,())).1,(atI a2 a0 (0,[],[],())).2.2.1,ay ((atI a2 a0 (0,[],[],())).2.2.1),0,a2,a3,a4,a5,(atI a2 a0 (0,[],[],())).1,(atI a2 a0 (0,[],[],())).2.1,(atI a2 a0 (0,[],[],())).2.2.1,())) none)
 ((m81 (oO iEq a0 a5 0) a1 ((atI a2 a0 (0,[],[],())).1) a2 a3 a4 a5).bind λKi =>
 some (Ki.1,Ki.2.1,Ki.2.2.1,Ki.2.2.2.1,Ki.2.2.2.2.1,()))) none)
def JN:Sh:=⟨3,[(1,(.int .i64)),(2,(.int .i64))],[(0,.ptr 0 0 0)],[.box 84 [.d (.list tS1),.d (.list tS3),.d (.int .i64),.mp 1],.map 82 (.int .i64) (.int .i64)]⟩
def JE:Sh:=⟨1,[(0,(.int .i64))],[],[.box 84 [.d (.list tS1),.d (.list tS3),.d (.int .i64),.mp 1],.map 82 (.int .i64) (.int .i64)]⟩
def Z7(self:(Int×Int×(List DS1)×(List DS3)×Int×(List DS3)×Unit)->Option (Int×(List DS1)×(List DS3)×Int×(List DS3)×Unit)):Cfg:=⟨fG,bP,[i72,i82],[⟨51,JN,JE,self,[]⟩,h81]⟩
theorem a7r(self:(Int×Int×(List DS1)×(List DS3)×Int×(List DS3)×Unit)->Option (Int×(List DS1)×(List DS3)×Int×(List DS3)×Unit))(x:Int×Int×(List DS1)×(List DS3)×Int×(List DS3)×Unit):oL (Z7 self) x51 113 [.t 6] [] JN JE x=HV self x.1 x.2.1 x.2.2.1 x.2.2.2.1 x.2.2.2.2.1 x.2.2.2.2.2.1:=by kernel_rfl
def m51(a0:Int)(a1:Int)(a2:List DS1)(a3:List DS3)(a4:Int)(a5:List DS3):Option (Int×(List DS1)×(List DS3)×Int×(List DS3)×Unit):=wW (λself (x:Int×Int×(List DS1)×(List DS3)×Int×(List DS3)×Unit)=>HV self x.1 x.2.1 x.2.2.1 x.2.2.2.1 x.2.2.2.2.1 x.2.2.2.2.2.1) (a0,a1,a2,a3,a4,a5,())
def h51:HI:=⟨51,JN,JE,fun(x:Int×Int×(List DS1)×(List DS3)×Int×(List DS3)×Unit)=>m51 x.1 x.2.1 x.2.2.1 x.2.2.2.1 x.2.2.2.2.1 x.2.2.2.2.2.1,[]⟩
theorem Yd:HOk Tryd.prog (gx bP) h51:=Bw (f:=51) (ish:=JN) (osh:=JE) (G:=λself (x:Int×Int×(List DS1)×(List DS3)×Int×(List DS3)×Unit)=>HV self x.1 x.2.1 x.2.2.1 x.2.2.2.1 x.2.2.2.2.1 x.2.2.2.2.2.1) F51.callable (λrun hr=>hok mixed (dw Qk (dw Y2 (jI hr (jI a6k (bZ _ _)))):dx _ (Z7 run)) F51 (a7r run))
def x21:XC:=xoF Tryd.f21 (.d 6 (.s (.d 1 (.b (.l [] ⟨95,[(44,(.list tS3)),(45,(.int .i64)),(46,(.int .i64))],[(4,.ptr 0 0 0),(9,.ptr 1 0 0),(10,.row 2)],[.box 28 [.d (.list tS1),.d (.int .i64)],.box 84 [.d (.list tS1),.d (.list tS3),.d (.int .i64),.mp 3],.row 3 (.int .i64) false,.map 82 (.int .i64) (.int .i64)]⟩ .o))) (.d 1 (.s (.b (.l [] ⟨95,[(13,(.int .i64))],[(4,.ptr 0 0 0),(9,.ptr 1 0 0),(10,.row 2)],[.box 28 [.d (.list tS1),.d (.int .i64)],.box 84 [.d (.list tS1),.d (.list tS3),.d (.int .i64),.mp 3],.row 3 (.int .i64) false,.map 82 (.int .i64) (.int .i64)]⟩ (.d 1 (.b (.d 2 (.b (.l [] ⟨95,[(13,(.int .i64)),(67,(.list (.int .i64))),(68,(.int .i64)),(69,(.int .i64))],[(4,.ptr 0 0 0),(9,.ptr 1 0 0),(10,.row 2),(14,.ptr 3 0 0)],[.box 28 [.d (.list tS1),.d (.int .i64)],.box 84 [.d (.list tS1),.d (.list tS3),.d (.int .i64),.mp 4],.row 3 (.int .i64) false,.box 70 [.d (.int .i64),.d (.list (.int .i64)),.d (.list (.int .i64))],.map 82 (.int .i64) (.int .i64)]⟩ .o))))))) .o))))
theorem F21:Fn Tryd.prog 21 95 x21.er [.t 6,.t 7]:=by unfold x21;exact fnX Tryd.func21 (by kernel_rfl) (by kernel_rfl) (by kernel_rfl) (by kernel_rfl)
def m21(a0:DS5)(a1:DS2)(a2:Int):Option ((List Int)×Bool×Unit) :=
 cond (cond (iLt a2 0) true (iLt 255 a2))
 (some (([]:List Int),false,()))
 ((m31 (a0.1,()) (a1.1,a1.2.1,())).bind λy115 =>
 cond (not y115.1)
 (some (([]:List Int),false,()))
 ((m50 (a0.1,())).bind λKh =>
 (m51 a1.2.1 0 a1.1 Kh.1 a2 ([]:List DS3)).bind λKg =>
 cond (iEq Kg.1 0)
 (some (([]:List Int),false,()))
 (cond (qQ (ay Kh.1) 8)
 (eT (S:=(List DS3)×Int×Int×(List DS1)×Int×(List DS1)×(List DS3)×Int×(List Int)×(List DS3)×Unit) (R:=(List Int)×Bool×Unit) (λmR =>
 cond (iLt mR.2.2.1 mR.2.1)
 (cond (bnd mR.2.2.1 (ay mR.1))
 (cond (bnd mR.2.2.1 (ay mR.2.2.2.2.2.2.2.2.1))
 (cond (inB (Int.toNat mR.2.2.1) mR.2.2.2.2.2.2.2.2.1)
 (some (.inl (mR.1,mR.2.1,bX .i64 mR.2.2.1 1,mR.2.2.2.1,mR.2.2.2.2.1,mR.2.2.2.2.2.1,mR.2.2.2.2.2.2.1,mR.2.2.2.2.2.2.2.1,List.set mR.2.2.2.2.2.2.2.2.1 (Int.toNat mR.2.2.1) ((atI mR.1 mR.2.2.1 (0,0,())).1),mR.2.2.2.2.2.2.2.2.2.1,()))) none) none) none)
 (Option.map Sum.inr (eT (S:=Int×(List DS1)×Int×(List DS1)×(List DS3)×Int×(List Int)×(List DS3)×Unit) (R:=(List Int)×Bool×Unit) (λpU =>
 cond (iLe 0 pU.1)
 (cond (bnd pU.1 (ay pU.2.1))
 (eT (S:=Int×(List Int)×Int×Int×(List DS1)×Int×(List DS1)×(List DS3)×Int×(List Int)×Int×(List Int)×(List Int)×(List DS3)×Unit) (R:=(Int×(List DS1)×Int×(List DS1)×(List DS3)×Int×(List Int)×(List DS3)×Unit)⊕((List Int)×Bool×Unit)) (λj4 =>
 cond (iLt j4.2.2.2.1 j4.2.2.1)
 (cond (bnd j4.2.2.2.1 (ay j4.2.1))
 ((m51 (atI j4.2.1 j4.2.2.2.1 0) (bX .i64 j4.2.2.2.2.2.2.2.2.2.2.1 1) j4.2.2.2.2.2.2.1 j4.2.2.2.2.2.2.2.1 j4.2.2.2.2.2.2.2.2.1 j4.2.2.2.2.2.2.2.2.2.2.2.2.2.1).bind λwG =>
 cond (iEq wG.1 0)
 (some (.inl (j4.1,j4.2.1,j4.2.2.1,bX .i64 j4.2.2.2.1 1,j4.2.2.2.2.1,j4.2.2.2.2.2.1,wG.2.1,wG.2.2.1,wG.2.2.2.1,j4.2.2.2.2.2.2.2.2.2.1,j4.2.2.2.2.2.2.2.2.2.2.1,j4.2.2.2.2.2.2.2.2.2.2.2.1,j4.2.2.2.2.2.2.2.2.2.2.2.2.1,wG.2.2.2.2.1,())))
 (cond (iLt 0 j4.2.2.2.1)
 (cond (bnd (fV .i64 j4.2.2.2.1 1) (ay j4.2.2.2.2.2.2.2.2.2.2.2.1))
 (cond (bnd j4.2.2.2.2.2.2.2.2.2.2.1 (ay j4.2.2.2.2.2.2.2.2.2.1))
 (cond (inB (Int.toNat j4.2.2.2.2.2.2.2.2.2.2.1) j4.2.2.2.2.2.2.2.2.2.1)
 (some (.inr (.inl (atI j4.2.1 j4.2.2.2.1 0,j4.2.2.2.2.1,j4.2.2.2.2.2.1,wG.2.1,wG.2.2.1,wG.2.2.2.1,List.set j4.2.2.2.2.2.2.2.2.2.1 (Int.toNat j4.2.2.2.2.2.2.2.2.2.2.1) (atI j4.2.2.2.2.2.2.2.2.2.2.2.1 (fV .i64 j4.2.2.2.1 1) 0),wG.2.2.2.2.1,())))) none) none) none)
 (some (.inr (.inl (atI j4.2.1 j4.2.2.2.1 0,j4.2.2.2.2.1,j4.2.2.2.2.2.1,wG.2.1,wG.2.2.1,wG.2.2.2.1,j4.2.2.2.2.2.2.2.2.2.1,wG.2.2.2.2.1,())))))) none)
 (some (.inr (.inl (j4.1,j4.2.2.2.2.1,j4.2.2.2.2.2.1,j4.2.2.2.2.2.2.1,j4.2.2.2.2.2.2.2.1,j4.2.2.2.2.2.2.2.2.1,j4.2.2.2.2.2.2.2.2.2.1,j4.2.2.2.2.2.2.2.2.2.2.2.2.2.1,())))))
 (pU.1,(atI pU.2.1 pU.1 (0,[],[],())).2.2.1,ay ((atI pU.2.1 pU.1 (0,[],[],())).2.2.1),0,pU.2.1,pU.2.2.1,pU.2.2.2.1,pU.2.2.2.2.1,pU.2.2.2.2.2.1,pU.2.2.2.2.2.2.1,(atI pU.2.1 pU.1 (0,[],[],())).1,(atI pU.2.1 pU.1 (0,[],[],())).2.1,(atI pU.2.1 pU.1 (0,[],[],())).2.2.1,pU.2.2.2.2.2.2.2.1,())) none)
 (some (.inr (pU.2.2.2.2.2.2.1,true,()))))
 (mR.2.2.2.2.1,mR.2.2.2.1,mR.2.2.2.2.1,mR.2.2.2.2.2.1,mR.2.2.2.2.2.2.1,mR.2.2.2.2.2.2.2.1,mR.2.2.2.2.2.2.2.2.1,mR.2.2.2.2.2.2.2.2.2.1,()))))
 (Kh.1,ay Kh.1,0,a1.1,a1.2.1,Kg.2.1,Kg.2.2.1,Kg.2.2.2.1,(List.replicate (Int.toNat (ay Kh.1)) 0:List Int),Kg.2.2.2.2.1,())) none)))
def Zw:Cfg:=⟨fG,bP,[i31,i50],[h51]⟩
theorem a7P(x:DS5×DS2×Int×Unit):gK Zw x21 95 [.t 6,.t 7] [tS5,tS2,(.int .i64)] [(.list (.int .i64)),.bool] x=m21 x.1 x.2.1 x.2.2.1:=by kernel_rfl
def i21:PI:=⟨21,[tS5,tS2,(.int .i64)],[(.list (.int .i64)),.bool],fun(x:DS5×DS2×Int×Unit)=>m21 x.1 x.2.1 x.2.2.1⟩
theorem a6d:POk Tryd.prog (gx bP) i21:=pok mixed (dw Qo (dw Ql (jI Yd (bZ _ _))):dx _ (Zw)) F21 (a7P)
def x26:XC:=xoF Tryd.f26 .o
theorem F26:Fn Tryd.prog 26 30 x26.er [.t 6]:=by unfold x26;exact fnX Tryd.func26 (by kernel_rfl) (by kernel_rfl) (by kernel_rfl) (by kernel_rfl)
def m26(a0:DS5)(a1:DS2)(a2:Int):Option (Int×Unit) :=
 cond (cond (iLt a2 0) true (iLt 255 a2))
 (some (0,()))
 ((m31 (a0.1,()) (a1.1,a1.2.1,())).bind λa9u =>
 cond (not a9u.1)
 (some (0,()))
 ((m50 (a0.1,())).bind λa9t =>
 (m51 a1.2.1 0 a1.1 a9t.1 a2 ([]:List DS3)).bind λa9s =>
 some (a9s.1,())))
def Zr:Cfg:=⟨fG,bP,[i31,i50],[h51]⟩
theorem a7L(x:DS5×DS2×Int×Unit):gK Zr x26 30 [.t 6] [tS5,tS2,(.int .i64)] [(.int .i64)] x=m26 x.1 x.2.1 x.2.2.1:=by kernel_rfl
def i26:PI:=⟨26,[tS5,tS2,(.int .i64)],[(.int .i64)],fun(x:DS5×DS2×Int×Unit)=>m26 x.1 x.2.1 x.2.2.1⟩
theorem a6b:POk Tryd.prog (gx bP) i26:=pok mixed (dw Qo (dw Ql (jI Yd (bZ _ _))):dx _ (Zr)) F26 (a7L)
def x11:XC:=xoF Tryd.f11 .o
theorem F11:Fn Tryd.prog 11 53 x11.er [.t 0]:=by unfold x11;exact fnX Tryd.func11 (by kernel_rfl) (by kernel_rfl) (by kernel_rfl) (by kernel_rfl)
def m11:Option (Bool×Unit) :=
 (m12 (([((bs [120]),2,([]:List ByteArray),1,9,())]:List DS0),()) 0 3 20).bind λy56 =>
 (m21 (([((bs [120]),2,([]:List ByteArray),1,9,())]:List DS0),()) (y56.1.1,y56.1.2.1,()) 1).bind λGR =>
 cond (or (bnd 0 (ay GR.1)) (not (bEq (cond (cond (cond (cond (iEq y56.2.1 0) (iEq (ay y56.1.1) 1) false) (iEq y56.1.2.1 0) false) GR.2.1 false) (iEq (ay GR.1) 1) false) true)))
 (cond (cond (cond (cond (cond (cond (iEq y56.2.1 0) (iEq (ay y56.1.1) 1) false) (iEq y56.1.2.1 0) false) GR.2.1 false) (iEq (ay GR.1) 1) false) (iEq (atI GR.1 0 0) 3) false)
 ((m26 (([((bs [120]),2,([]:List ByteArray),1,9,())]:List DS0),()) (y56.1.1,y56.1.2.1,()) 1).bind λa9r =>
 some (iEq a9r.1 7,()))
 (some (false,()))) none
def ZG:Cfg:=⟨fG,bP,[i12,i21,i26],[]⟩
theorem a7Y(x:Unit):gK ZG x11 53 [.t 0] [] [.bool] x=m11:=by kernel_rfl
def i11:PI:=⟨11,[],[.bool],fun(x:Unit)=>m11⟩
theorem a6j:POk Tryd.prog (gx bP) i11:=pok mixed (dw a6i (dw a6d (dw a6b (bZ _ _))):dx _ (ZG)) F11 (a7Y)
def x16:XC:=xoF Tryd.f16 .o
theorem F16:Fn Tryd.prog 16 12 x16.er [.t 4]:=by unfold x16;exact fnX Tryd.func16 (by kernel_rfl) (by kernel_rfl) (by kernel_rfl) (by kernel_rfl)
def m16(a0:Int)(a1:Int):Option (Int×Unit) :=
 cond (iNe a1 0)
 (cond (iNe a1 0)
 (some (tZ (bX .i64 (tZ a0 a1) a1) a1,())) none) none
def ZB:Cfg:=⟨fG,bP,[],[]⟩
theorem a7U(x:Int×Int×Unit):gK ZB x16 12 [.t 4] [(.int .i64),(.int .i64)] [(.int .i64)] x=m16 x.1 x.2.1:=by kernel_rfl
def i16:PI:=⟨16,[(.int .i64),(.int .i64)],[(.int .i64)],fun(x:Int×Int×Unit)=>m16 x.1 x.2.1⟩
theorem Yc:POk Tryd.prog (gx bP) i16:=pok mixed (bZ _ _:dx _ (ZB)) F16 (a7U)
def x43:XC:=xoF Tryd.f43 .o
theorem F43:Fn Tryd.prog 43 3 x43.er [.c 0 5 true]:=by unfold x43;exact fnX Tryd.func43 (by kernel_rfl) (by kernel_rfl) (by kernel_rfl) (by kernel_rfl)
def m43:Option (DS0×Unit) :=
 some (((bs [112,101,114,105,108]),1,([(bs [102,105,114,101]),(bs [102,108,111,111,100]),(bs [119,105,110,100]),(bs [116,104,101,102,116])]:List ByteArray),0,0,()),())
def Zf:Cfg:=⟨fG,bP,[],[]⟩
theorem a7z(x:Unit):gK Zf x43 3 [.c 0 5 true] [] [tS0] x=m43:=by kernel_rfl
def i43:PI:=⟨43,[],[tS0],fun(x:Unit)=>m43⟩
theorem a5W:POk Tryd.prog (gx bP) i43:=pok mixed (bZ _ _:dx _ (Zf)) F43 (a7z)
def x15:XC:=xoF Tryd.f15 .o
theorem F15:Fn Tryd.prog 15 43 x15.er [.c 2 1 true]:=by unfold x15;exact fnX Tryd.func15 (by kernel_rfl) (by kernel_rfl) (by kernel_rfl) (by kernel_rfl)
def m15(a0:Int):Option (DS5×Unit) :=
 (m16 a0 6).bind λKe =>
 cond (iEq Ke.1 0)
 ((m43).bind λa9q =>
 some ((([a9q.1,((bs [115,116,111,114,101,121,115]),2,([]:List ByteArray),1,9,()),((bs [97,108,97,114,109]),3,([]:List ByteArray),0,0,())]:List DS0),()),()))
 (cond (iEq Ke.1 1)
 (some ((([((bs [110]),2,([]:List ByteArray),(-5),20,())]:List DS0),()),()))
 (cond (iEq Ke.1 2)
 (some ((([((bs [97]),3,([]:List ByteArray),0,0,()),((bs [114,111,108,101]),1,([(bs [99,114,101,119]),(bs [103,117,101,115,116])]:List ByteArray),0,0,()),((bs [98]),3,([]:List ByteArray),0,0,())]:List DS0),()),()))
 (cond (iEq Ke.1 3)
 (some ((([((bs [110]),2,([]:List ByteArray),(-1000000000),1000000000,()),((bs [116]),3,([]:List ByteArray),0,0,())]:List DS0),()),()))
 (cond (iEq Ke.1 4)
 ((m43).bind λa9p =>
 some ((([((bs [111,110,101]),1,([(bs [111,110,108,121])]:List ByteArray),0,0,()),a9p.1,((bs [110]),2,([]:List ByteArray),0,6,()),((bs [116]),3,([]:List ByteArray),0,0,())]:List DS0),()),()))
 (some ((([((bs [116]),3,([]:List ByteArray),0,0,())]:List DS0),()),()))))))
def ZC:Cfg:=⟨fG,bP,[i16,i43],[]⟩
theorem a7V(x:Int×Unit):gK ZC x15 43 [.c 2 1 true] [(.int .i64)] [tS5] x=m15 x.1:=by kernel_rfl
def i15:PI:=⟨15,[(.int .i64)],[tS5],fun(x:Int×Unit)=>m15 x.1⟩
theorem a6g:POk Tryd.prog (gx bP) i15:=pok mixed (dw Yc (dw a5W (bZ _ _)):dx _ (ZC)) F15 (a7V)
def x19:XC:=xoF Tryd.f19 .o
theorem F19:Fn Tryd.prog 19 6 x19.er [.t 2]:=by unfold x19;exact fnX Tryd.func19 (by kernel_rfl) (by kernel_rfl) (by kernel_rfl) (by kernel_rfl)
def m19(a0:List Int):Option ((List Int)×Int×Unit) :=
 some (a0,0,())
def Zy:Cfg:=⟨fG,bP,[],[]⟩
def Ym:Sh:=⟨1,[(0,(.list (.int .i64)))],[],[]⟩
def XW:Sh:=⟨1,[],[(0,.ptr 0 0 0)],[.box 78 [.d (.list (.int .i64)),.d (.int .i64)]]⟩
theorem a7R(x:(List Int)×Unit):oL Zy x19 6 [.t 2] [] Ym XW x=m19 x.1:=by kernel_rfl
def h19:HI:=⟨19,Ym,XW,fun(x:(List Int)×Unit)=>m19 x.1,[]⟩
theorem a6r:HOk Tryd.prog (gx bP) h19:=hok mixed (bZ _ _:dx _ (Zy)) F19 (a7R)
def x103:XC:=xoF Tryd.f103 .o
theorem b0d:Fn Tryd.prog 103 9 x103.er [.t 2]:=by unfold x103;exact fnX Tryd.func103 (by kernel_rfl) (by kernel_rfl) (by kernel_rfl) (by kernel_rfl)
def HZ(a0:Int):Option (Bool×Unit) :=
 some (cond (iLe 97 a0) (iLe a0 122) false,())
def U4:Cfg:=⟨fG,bP,[],[]⟩
theorem a4D(x:Int×Unit):gK U4 x103 9 [.t 2] [(.int .u8)] [.bool] x=HZ x.1:=by kernel_rfl
def a3T:PI:=⟨103,[(.int .u8)],[.bool],fun(x:Int×Unit)=>HZ x.1⟩
theorem a3c:POk Tryd.prog (gx bP) a3T:=pok mixed (bZ _ _:dx _ (U4)) b0d (a4D)
def x104:XC:=xoF Tryd.f104 .o
theorem b0c:Fn Tryd.prog 104 9 x104.er [.t 2]:=by unfold x104;exact fnX Tryd.func104 (by kernel_rfl) (by kernel_rfl) (by kernel_rfl) (by kernel_rfl)
def LD(a0:Int):Option (Bool×Unit) :=
 some (cond (iLe 48 a0) (iLe a0 57) false,())
def U3:Cfg:=⟨fG,bP,[],[]⟩
theorem a4C(x:Int×Unit):gK U3 x104 9 [.t 2] [(.int .u8)] [.bool] x=LD x.1:=by kernel_rfl
def a3S:PI:=⟨104,[(.int .u8)],[.bool],fun(x:Int×Unit)=>LD x.1⟩
theorem a3b:POk Tryd.prog (gx bP) a3S:=pok mixed (bZ _ _:dx _ (U3)) b0c (a4C)
def x91:XC:=xoF Tryd.f91 (.d 2 (.s (.d 1 (.b (.l [] ⟨50,[(0,.str),(3,(.int .i64))],[],[]⟩ .o))) .o))
theorem F91:Fn Tryd.prog 91 50 x91.er [.t 2]:=by unfold x91;exact fnX Tryd.func91 (by kernel_rfl) (by kernel_rfl) (by kernel_rfl) (by kernel_rfl)
def m91(a0:ByteArray):Option (Bool×Unit) :=
 cond (or (bnd 0 (sLen a0)) (not (bEq (cond (iLt (sLen a0) 1) true (iLt 16 (sLen a0))) false)))
 (cond (cond (iLt (sLen a0) 1) true (iLt 16 (sLen a0)))
 (cond (or (bnd (fV .i64 (sLen a0) 1) (sLen a0)) (not (bEq true false)))
 (some (false,())) none)
 ((HZ (sAt a0 0)).bind λa2l =>
 cond (or (bnd (fV .i64 (sLen a0) 1) (sLen a0)) (not (bEq (not a2l.1) false)))
 (cond (cond (not a2l.1) true (iEq (sAt a0 (fV .i64 (sLen a0) 1)) 45))
 (some (false,()))
 (eT (S:=ByteArray×Int×Unit) (R:=Bool×Unit) (λqY =>
 cond (iLt qY.2.1 (sLen qY.1))
 (cond (bnd qY.2.1 (sLen qY.1))
 ((HZ (sAt qY.1 qY.2.1)).bind λa2k =>
 cond (or (bnd qY.2.1 (sLen qY.1)) (not (bEq (not a2k.1) true)))
 (cond (not a2k.1)
 ((LD (sAt qY.1 qY.2.1)).bind λa2j =>
 cond (or (bnd qY.2.1 (sLen qY.1)) (not (bEq (not a2j.1) true)))
 (cond (cond (not a2j.1) (iNe (sAt qY.1 qY.2.1) 45) false)
 (some (.inr (false,())))
 (some (.inl (qY.1,bX .i64 qY.2.1 1,())))) none)
 (cond (or (bnd qY.2.1 (sLen qY.1)) (not (bEq false true)))
 (some (.inl (qY.1,bX .i64 qY.2.1 1,()))) none)) none) none)
 (some (.inr (true,()))))
 (a0,0,()))) none)) none
def YD:Cfg:=⟨fG,bP,[a3T,a3S],[]⟩
theorem a6R(x:ByteArray×Unit):gK YD x91 50 [.t 2] [.str] [.bool] x=m91 x.1:=by kernel_rfl
def i91:PI:=⟨91,[.str],[.bool],fun(x:ByteArray×Unit)=>m91 x.1⟩
theorem a5J:POk Tryd.prog (gx bP) i91:=pok mixed (dw a3c (dw a3b (bZ _ _)):dx _ (YD)) F91 (a6R)
def x92:XC:=xoF Tryd.f92 .o
theorem F92:Fn Tryd.prog 92 28 x92.er [.t 2]:=by unfold x92;exact fnX Tryd.func92 (by kernel_rfl) (by kernel_rfl) (by kernel_rfl) (by kernel_rfl)
def m92(a0:ByteArray):Option (Bool×Unit) :=
 cond (sEq a0 (bs [97,110,100]))
 (some (true,()))
 (cond (sEq a0 (bs [97,118,101,114,97,103,101]))
 (some (true,()))
 (cond (sEq a0 (bs [99,111,105,110,115,117,114,97,110,99,101]))
 (some (true,()))
 (cond (sEq a0 (bs [99,111,110,100,105,116,105,111,110]))
 (some (true,()))
 (cond (sEq a0 (bs [99,111,118,101,114]))
 (some (true,()))
 (cond (sEq a0 (bs [100,101,100,117,99,116,105,98,108,101]))
 (some (true,()))
 (cond (sEq a0 (bs [100,101,102,105,110,101]))
 (some (true,()))
 (cond (sEq a0 (bs [101,110,100]))
 (some (true,()))
 (cond (sEq a0 (bs [101,110,100,111,114,115,101]))
 (some (true,()))
 (cond (sEq a0 (bs [101,120,99,108,117,100,101]))
 (some (true,()))
 (cond (sEq a0 (bs [102,97,108,115,101]))
 (some (true,()))
 (cond (sEq a0 (bs [102,114,97,110,99,104,105,115,101]))
 (some (true,()))
 (cond (sEq a0 (bs [102,114,111,109]))
 (some (true,()))
 (cond (sEq a0 (bs [105,110]))
 (some (true,()))
 (cond (sEq a0 (bs [108,105,109,105,116]))
 (some (true,()))
 (cond (sEq a0 (bs [110,111,116]))
 (some (true,()))
 (cond (sEq a0 (bs [111,114]))
 (some (true,()))
 (cond (sEq a0 (bs [114,101,109,111,118,101]))
 (some (true,()))
 (cond (sEq a0 (bs [115,117,98,108,105,109,105,116]))
 (some (true,()))
 (cond (sEq a0 (bs [116,111]))
 (some (true,()))
 (cond (sEq a0 (bs [116,114,117,101]))
 (some (true,()))
 (cond (sEq a0 (bs [117,110,108,101,115,115]))
 (some (true,()))
 (cond (sEq a0 (bs [119,104,101,110]))
 (some (true,()))
 (some (false,()))))))))))))))))))))))))
def YC:Cfg:=⟨fG,bP,[],[]⟩
theorem a6Q(x:ByteArray×Unit):gK YC x92 28 [.t 2] [.str] [.bool] x=m92 x.1:=by kernel_rfl
def i92:PI:=⟨92,[.str],[.bool],fun(x:ByteArray×Unit)=>m92 x.1⟩
theorem a5I:POk Tryd.prog (gx bP) i92:=pok mixed (bZ _ _:dx _ (YC)) F92 (a6Q)
def x77:XC:=xoF Tryd.f77 .o
theorem F77:Fn Tryd.prog 77 10 x77.er [.t 2]:=by unfold x77;exact fnX Tryd.func77 (by kernel_rfl) (by kernel_rfl) (by kernel_rfl) (by kernel_rfl)
def m77(a0:ByteArray):Option (Bool×Unit) :=
 (m91 a0).bind λa9o =>
 cond a9o.1
 ((m92 a0).bind λa9n =>
 some (not a9n.1,()))
 (some (false,()))
def YO:Cfg:=⟨fG,bP,[i91,i92],[]⟩
theorem a7c(x:ByteArray×Unit):gK YO x77 10 [.t 2] [.str] [.bool] x=m77 x.1:=by kernel_rfl
def i77:PI:=⟨77,[.str],[.bool],fun(x:ByteArray×Unit)=>m77 x.1⟩
theorem Y3:POk Tryd.prog (gx bP) i77:=pok mixed (dw a5J (dw a5I (bZ _ _)):dx _ (YO)) F77 (a7c)
def x93:XC:=xoF Tryd.f93 (.d 1 (.s (.d 1 (.b (.l [] ⟨16,[(0,(.list .str)),(3,(.int .i64))],[],[]⟩ .o))) .o))
theorem F93:Fn Tryd.prog 93 16 x93.er [.t 2]:=by unfold x93;exact fnX Tryd.func93 (by kernel_rfl) (by kernel_rfl) (by kernel_rfl) (by kernel_rfl)
def m93(a0:List ByteArray):Option (Bool×Unit) :=
 eT (S:=(List ByteArray)×Int×Unit) (R:=Bool×Unit) (λDa =>
 cond (iLt Da.2.1 (ay Da.1))
 (cond (bnd Da.2.1 (ay Da.1))
 ((m77 (atI Da.1 Da.2.1 ByteArray.empty)).bind λy150 =>
 cond (not y150.1)
 (some (.inr (false,())))
 (some (.inl (Da.1,bX .i64 Da.2.1 1,())))) none)
 (some (.inr (true,()))))
 (a0,0,())
def YB:Cfg:=⟨fG,bP,[i77],[]⟩
theorem a6P(x:(List ByteArray)×Unit):gK YB x93 16 [.t 2] [(.list .str)] [.bool] x=m93 x.1:=by kernel_rfl
def i93:PI:=⟨93,[(.list .str)],[.bool],fun(x:(List ByteArray)×Unit)=>m93 x.1⟩
theorem a5H:POk Tryd.prog (gx bP) i93:=pok mixed (dw Y3 (bZ _ _):dx _ (YB)) F93 (a6P)
def x94:XC:=xoF Tryd.f94 (.d 1 (.s (.d 1 (.b (.l [] ⟨25,[(0,(.list .str)),(3,(.int .i64))],[],[]⟩ (.d 1 (.s (.b (.d 1 (.b (.l [] ⟨25,[(0,(.list .str)),(3,(.int .i64)),(4,(.int .i64))],[],[]⟩ .o)))) .o))))) .o))
theorem F94:Fn Tryd.prog 94 25 x94.er [.t 2]:=by unfold x94;exact fnX Tryd.func94 (by kernel_rfl) (by kernel_rfl) (by kernel_rfl) (by kernel_rfl)
def m94(a0:List ByteArray):Option (Bool×Unit) :=
 eT (S:=(List ByteArray)×Int×Unit) (R:=Bool×Unit) (λQ5 =>
 cond (iLt Q5.2.1 (ay Q5.1))
 (eT (S:=(List ByteArray)×Int×Int×Unit) (R:=((List ByteArray)×Int×Unit)⊕(Bool×Unit)) (λuO =>
 cond (iLt uO.2.2.1 uO.2.1)
 (cond (bnd uO.2.1 (ay uO.1))
 (cond (bnd uO.2.2.1 (ay uO.1))
 (cond (sEq (atI uO.1 uO.2.1 ByteArray.empty) (atI uO.1 uO.2.2.1 ByteArray.empty))
 (some (.inr (.inr (false,()))))
 (some (.inl (uO.1,uO.2.1,bX .i64 uO.2.2.1 1,())))) none) none)
 (some (.inr (.inl (uO.1,bX .i64 uO.2.1 1,())))))
 (Q5.1,Q5.2.1,0,()))
 (some (.inr (true,()))))
 (a0,0,())
def YA:Cfg:=⟨fG,bP,[],[]⟩
theorem a6O(x:(List ByteArray)×Unit):gK YA x94 25 [.t 2] [(.list .str)] [.bool] x=m94 x.1:=by kernel_rfl
def i94:PI:=⟨94,[(.list .str)],[.bool],fun(x:(List ByteArray)×Unit)=>m94 x.1⟩
theorem a5G:POk Tryd.prog (gx bP) i94:=pok mixed (bZ _ _:dx _ (YA)) F94 (a6O)
def x95:XC:=xoF Tryd.f95 .o
theorem F95:Fn Tryd.prog 95 9 x95.er [.t 2]:=by unfold x95;exact fnX Tryd.func95 (by kernel_rfl) (by kernel_rfl) (by kernel_rfl) (by kernel_rfl)
def m95(a0:Int):Option (Bool×Unit) :=
 some (cond (iLt 1000000000 a0) true (iLt a0 (-1000000000)),())
def Yz:Cfg:=⟨fG,bP,[],[]⟩
theorem a6N(x:Int×Unit):gK Yz x95 9 [.t 2] [(.int .i64)] [.bool] x=m95 x.1:=by kernel_rfl
def i95:PI:=⟨95,[(.int .i64)],[.bool],fun(x:Int×Unit)=>m95 x.1⟩
theorem a5F:POk Tryd.prog (gx bP) i95:=pok mixed (bZ _ _:dx _ (Yz)) F95 (a6N)
def x78:XC:=xoF Tryd.f78 .o
theorem F78:Fn Tryd.prog 78 73 x78.er [.t 2]:=by unfold x78;exact fnX Tryd.func78 (by kernel_rfl) (by kernel_rfl) (by kernel_rfl) (by kernel_rfl)
def m78(a0:DS0):Option (Int×Unit) :=
 cond (iEq a0.2.1 1)
 (cond (cond (iNe a0.2.2.2.1 0) true (iNe a0.2.2.2.2.1 0))
 (some (20,()))
 (cond (iEq (ay a0.2.2.1) 0)
 (some (19,()))
 (cond (iLt 12 (ay a0.2.2.1))
 (some (4,()))
 ((m93 a0.2.2.1).bind λy151 =>
 cond (not y151.1)
 (some (6,()))
 ((m94 a0.2.2.1).bind λa9m =>
 cond (not a9m.1)
 (some (8,()))
 (some (0,())))))))
 (cond (iEq a0.2.1 2)
 (cond (iLt 0 (ay a0.2.2.1))
 (some (20,()))
 (cond (iLt a0.2.2.2.2.1 a0.2.2.2.1)
 (some (1,()))
 ((m95 a0.2.2.2.1).bind λy157 =>
 cond y157.1
 (some (1,()))
 ((m95 a0.2.2.2.2.1).bind λy158 =>
 cond y158.1
 (some (1,()))
 (some (0,()))))))
 (cond (iEq a0.2.1 3)
 (cond (cond (cond (iLt 0 (ay a0.2.2.1)) true (iNe a0.2.2.2.1 0)) true (iNe a0.2.2.2.2.1 0))
 (some (20,()))
 (some (0,())))
 (some (11,()))))
def YN:Cfg:=⟨fG,bP,[i93,i94,i95],[]⟩
theorem a7b(x:DS0×Unit):gK YN x78 73 [.t 2] [tS0] [(.int .i64)] x=m78 x.1:=by kernel_rfl
def i78:PI:=⟨78,[tS0],[(.int .i64)],fun(x:DS0×Unit)=>m78 x.1⟩
theorem a5O:POk Tryd.prog (gx bP) i78:=pok mixed (dw a5H (dw a5G (dw a5F (bZ _ _))):dx _ (YN)) F78 (a7b)
def x41:XC:=xoF Tryd.f41 (.d 3 (.s (.d 1 (.b (.l [] ⟨50,[(3,(.int .i64))],[(1,.ptr 0 0 0)],[.box 24 [.d (.list tS0)]]⟩ (.d 1 (.s (.b (.d 2 (.s (.d 1 (.b (.l [] ⟨50,[(3,(.int .i64)),(5,(.int .i64))],[(1,.ptr 0 0 0),(4,.ptr 1 0 0)],[.box 24 [.d (.list tS0)],.box 64 [.d .str,.d (.int .i64),.d (.list .str),.d (.int .i64),.d (.int .i64)]]⟩ .o))) .o))) .o))))) .o))
theorem F41:Fn Tryd.prog 41 50 x41.er [.t 2]:=by unfold x41;exact fnX Tryd.func41 (by kernel_rfl) (by kernel_rfl) (by kernel_rfl) (by kernel_rfl)
def m41(a0:DS5):Option (Int×Unit) :=
 cond (iEq (ay a0.1) 0)
 (some (19,()))
 (cond (iLt 6 (ay a0.1))
 (some (4,()))
 (eT (S:=Int×(List DS0)×Unit) (R:=Int×Unit) (λsj =>
 cond (iLt sj.1 (ay sj.2.1))
 (cond (bnd sj.1 (ay sj.2.1))
 ((m77 ((atI sj.2.1 sj.1 (ByteArray.empty,0,[],0,0,())).1)).bind λa9l =>
 cond (not a9l.1)
 (some (.inr (6,())))
 (eT (S:=Int×Int×(List DS0)×ByteArray×Int×(List ByteArray)×Int×Int×Unit) (R:=(Int×(List DS0)×Unit)⊕(Int×Unit)) (λpR =>
 cond (iLt pR.2.1 pR.1)
 (cond (bnd pR.2.1 (ay pR.2.2.1))
 (cond (sEq ((atI pR.2.2.1 pR.2.1 (ByteArray.empty,0,[],0,0,())).1) pR.2.2.2.1)
 (some (.inr (.inr (8,()))))
 (some (.inl (pR.1,bX .i64 pR.2.1 1,pR.2.2.1,pR.2.2.2.1,pR.2.2.2.2.1,pR.2.2.2.2.2.1,pR.2.2.2.2.2.2.1,pR.2.2.2.2.2.2.2.1,())))) none)
 (Option.map Sum.inr ((m78 (pR.2.2.2.1,pR.2.2.2.2.1,pR.2.2.2.2.2.1,pR.2.2.2.2.2.2.1,pR.2.2.2.2.2.2.2.1,())).bind λa2i =>
 cond (iNe a2i.1 0)
 (some (.inr (a2i.1,())))
 (some (.inl (bX .i64 pR.1 1,pR.2.2.1,()))))))
 (sj.1,0,sj.2.1,(atI sj.2.1 sj.1 (ByteArray.empty,0,[],0,0,())).1,(atI sj.2.1 sj.1 (ByteArray.empty,0,[],0,0,())).2.1,(atI sj.2.1 sj.1 (ByteArray.empty,0,[],0,0,())).2.2.1,(atI sj.2.1 sj.1 (ByteArray.empty,0,[],0,0,())).2.2.2.1,(atI sj.2.1 sj.1 (ByteArray.empty,0,[],0,0,())).2.2.2.2.1,()))) none)
 (some (.inr (0,()))))
 (0,a0.1,())))
def Zh:Cfg:=⟨fG,bP,[i77,i78],[]⟩
theorem a7B(x:DS5×Unit):gK Zh x41 50 [.t 2] [tS5] [(.int .i64)] x=m41 x.1:=by kernel_rfl
def i41:PI:=⟨41,[tS5],[(.int .i64)],fun(x:DS5×Unit)=>m41 x.1⟩
theorem Ya:POk Tryd.prog (gx bP) i41:=pok mixed (dw Y3 (dw a5O (bZ _ _)):dx _ (Zh)) F41 (a7B)
def x42:XC:=xoF Tryd.f42 .o
theorem F42:Fn Tryd.prog 42 40 x42.er [.t 4,.t 5]:=by unfold x42;exact fnX Tryd.func42 (by kernel_rfl) (by kernel_rfl) (by kernel_rfl) (by kernel_rfl)
def m42(a0:DS5)(a1:Int):Option (Int×Int×Unit) :=
 (m41 (a0.1,())).bind λa9k =>
 cond (cond (cond (iNe a9k.1 0) true (iLt a1 0)) true (iLe (ay a0.1) a1))
 (some (0,(-1),()))
 (cond (bnd a1 (ay a0.1))
 (cond (iEq ((atI a0.1 a1 (ByteArray.empty,0,[],0,0,())).2.1) 1)
 (some (0,fV .i64 (ay ((atI a0.1 a1 (ByteArray.empty,0,[],0,0,())).2.2.1)) 1,()))
 (cond (iEq ((atI a0.1 a1 (ByteArray.empty,0,[],0,0,())).2.1) 2)
 (some ((atI a0.1 a1 (ByteArray.empty,0,[],0,0,())).2.2.2.1,(atI a0.1 a1 (ByteArray.empty,0,[],0,0,())).2.2.2.2.1,()))
 (some (0,1,())))) none)
def Zg:Cfg:=⟨fG,bP,[i41],[]⟩
theorem a7A(x:DS5×Int×Unit):gK Zg x42 40 [.t 4,.t 5] [tS5,(.int .i64)] [(.int .i64),(.int .i64)] x=m42 x.1 x.2.1:=by kernel_rfl
def i42:PI:=⟨42,[tS5,(.int .i64)],[(.int .i64),(.int .i64)],fun(x:DS5×Int×Unit)=>m42 x.1 x.2.1⟩
theorem JF:POk Tryd.prog (gx bP) i42:=pok mixed (dw Ya (bZ _ _):dx _ (Zg)) F42 (a7A)
def x44:XC:=xoF Tryd.f44 (.d 2 (.s (.d 1 (.b (.l [.gh 3 37 (.list (.int .i64))] ⟨26,[(4,(.int .i64))],[(1,.ptr 0 0 0),(3,.row 1)],[.box 24 [.d (.list tS0)],.row 37 (.list (.int .i64)) false]⟩ .o))) .o))
theorem F44:Fn Tryd.prog 44 26 x44.er [.t 2]:=by unfold x44;exact fnX Tryd.func44 (by kernel_rfl) (by kernel_rfl) (by kernel_rfl) (by kernel_rfl)
def m44(a0:DS5):Option ((List (List Int))×Unit) :=
 eT (S:=Int×(List DS0)×(List (List Int))×Unit) (R:=(List (List Int))×Unit) (λBX =>
 cond (iLt BX.1 (ay BX.2.1))
 ((m42 (BX.2.1,()) BX.1).bind λy167 =>
 cond (fits (List.length BX.2.2.1+List.length ([([y167.1]:List Int)]:List (List Int))) 24)
 (some (.inl (bX .i64 BX.1 1,BX.2.1,BX.2.2.1++([([y167.1]:List Int)]:List (List Int)),()))) none)
 (some (.inr (BX.2.2.1,()))))
 (0,a0.1,([]:List (List Int)),())
def Ze:Cfg:=⟨fG,bP,[i42],[]⟩
theorem a7y(x:DS5×Unit):gK Ze x44 26 [.t 2] [tS5] [(.list (.list (.int .i64)))] x=m44 x.1:=by kernel_rfl
def i44:PI:=⟨44,[tS5],[(.list (.list (.int .i64)))],fun(x:DS5×Unit)=>m44 x.1⟩
theorem Qn:POk Tryd.prog (gx bP) i44:=pok mixed (dw JF (bZ _ _):dx _ (Ze)) F44 (a7y)
def x45:XC:=xoF Tryd.f45 .o
theorem F45:Fn Tryd.prog 45 39 x45.er [.t 4]:=by unfold x45;exact fnX Tryd.func45 (by kernel_rfl) (by kernel_rfl) (by kernel_rfl) (by kernel_rfl)
def m45(a0:Int)(a1:List Int)(a2:Int):Option (Int×(List Int)×Int×Unit) :=
 cond (iLe (ay a1) a2)
 (some (0,a1,a2,()))
 (cond (bnd (fV .i64 (bX .i64 a2 1) 1) (ay a1))
 (cond (iNe a0 0)
 (cond (iNe a0 0)
 (some (tZ (bX .i64 (tZ (atI a1 (fV .i64 (bX .i64 a2 1) 1) 0) a0) a0) a0,a1,bX .i64 a2 1,())) none) none) none)
def Zd:Cfg:=⟨fG,bP,[],[]⟩
def Yj:Sh:=⟨2,[(1,(.int .i64))],[(0,.ptr 0 0 0)],[.box 78 [.d (.list (.int .i64)),.d (.int .i64)]]⟩
def XR:Sh:=⟨1,[(0,(.int .i64))],[],[.box 78 [.d (.list (.int .i64)),.d (.int .i64)]]⟩
theorem a7x(x:Int×(List Int)×Int×Unit):oL Zd x45 39 [.t 4] [] Yj XR x=m45 x.1 x.2.1 x.2.2.1:=by kernel_rfl
def h45:HI:=⟨45,Yj,XR,fun(x:Int×(List Int)×Int×Unit)=>m45 x.1 x.2.1 x.2.2.1,[]⟩
theorem JH:HOk Tryd.prog (gx bP) h45:=hok mixed (bZ _ _:dx _ (Zd)) F45 (a7x)
def x24:XC:=xoF Tryd.f24 (.d 2 (.s (.d 1 (.b (.l [.gh 5 3 (.int .i64)] ⟨53,[(6,(.int .i64))],[(0,.ptr 0 0 0),(3,.ptr 1 0 0),(5,.row 2)],[.box 78 [.d (.list (.int .i64)),.d (.int .i64)],.box 24 [.d (.list tS0)],.row 3 (.int .i64) false]⟩ .o))) .o))
theorem F24:Fn Tryd.prog 24 53 x24.er [.t 4]:=by unfold x24;exact fnX Tryd.func24 (by kernel_rfl) (by kernel_rfl) (by kernel_rfl) (by kernel_rfl)
def m24(a0:DS5)(a1:List Int)(a2:Int):Option ((List Int)×Int×(List Int)×Unit) :=
 eT (S:=Int×(List Int)×Int×(List DS0)×(List Int)×Unit) (R:=(List Int)×Int×(List Int)×Unit) (λoC =>
 cond (iLt oC.1 (ay oC.2.2.2.1))
 ((m42 (oC.2.2.2.1,()) oC.1).bind λxZ =>
 (m45 (bX .i64 (fV .i64 xZ.2.1 xZ.1) 1) oC.2.1 oC.2.2.1).bind λPf =>
 (m45 5 Pf.2.1 Pf.2.2.1).bind λze =>
 cond (iEq ze.1 0)
 (cond (fits (List.length oC.2.2.2.2.1+List.length ([xZ.1]:List Int)) 8)
 (some (.inl (bX .i64 oC.1 1,ze.2.1,ze.2.2.1,oC.2.2.2.1,oC.2.2.2.2.1++([xZ.1]:List Int),()))) none)
 (cond (iEq ze.1 1)
 (cond (fits (List.length oC.2.2.2.2.1+List.length ([xZ.2.1]:List Int)) 8)
 (some (.inl (bX .i64 oC.1 1,ze.2.1,ze.2.2.1,oC.2.2.2.1,oC.2.2.2.2.1++([xZ.2.1]:List Int),()))) none)
 (cond (iEq ze.1 2)
 ((m45 12 ze.2.1 ze.2.2.1).bind λPb =>
 cond (fits (List.length oC.2.2.2.2.1+List.length ([pW (uT (fV .i64 Pb.1 4) xZ.1) xZ.2.1]:List Int)) 8)
 (some (.inl (bX .i64 oC.1 1,Pb.2.1,Pb.2.2.1,oC.2.2.2.1,oC.2.2.2.2.1++([pW (uT (fV .i64 Pb.1 4) xZ.1) xZ.2.1]:List Int),()))) none)
 (cond (fits (List.length oC.2.2.2.2.1+List.length ([bX .i64 xZ.1 Pf.1]:List Int)) 8)
 (some (.inl (bX .i64 oC.1 1,ze.2.1,ze.2.2.1,oC.2.2.2.1,oC.2.2.2.2.1++([bX .i64 xZ.1 Pf.1]:List Int),()))) none))))
 (some (.inr (oC.2.1,oC.2.2.1,oC.2.2.2.2.1,()))))
 (0,a1,a2,a0.1,([]:List Int),())
def Zu:Cfg:=⟨fG,bP,[i42],[h45]⟩
def Yl:Sh:=⟨2,[(1,tS5)],[(0,.ptr 0 0 0)],[.box 78 [.d (.list (.int .i64)),.d (.int .i64)]]⟩
def XU:Sh:=⟨1,[],[(0,.row 1)],[.box 78 [.d (.list (.int .i64)),.d (.int .i64)],.row 3 (.int .i64) false]⟩
theorem a7N(x:DS5×(List Int)×Int×Unit):oL Zu x24 53 [.t 4] [.gh 4 3 (.int .i64)] Yl XU x=m24 x.1 x.2.1 x.2.2.1:=by kernel_rfl
def h24:HI:=⟨24,Yl,XU,fun(x:DS5×(List Int)×Int×Unit)=>m24 x.1 x.2.1 x.2.2.1,[]⟩
theorem a6q:HOk Tryd.prog (gx bP) h24:=hok mixed (dw JF (jI JH (bZ _ _)):dx _ (Zu)) F24 (a7N)
def x96:XC:=xoF Tryd.f96 (.d 3 (.s (.d 1 (.b (.l [.gh 5 3 (.int .i64)] ⟨48,[(0,(.list (.int .i64))),(1,(.int .i64)),(6,.bool),(7,(.int .i64))],[(5,.row 0)],[.row 3 (.int .i64) false]⟩ .o))) .o))
theorem F96:Fn Tryd.prog 96 48 x96.er [.t 4]:=by unfold x96;exact fnX Tryd.func96 (by kernel_rfl) (by kernel_rfl) (by kernel_rfl) (by kernel_rfl)
def m96(a0:List Int)(a1:Int):Option ((List Int)×Unit) :=
 eT (S:=(List Int)×Int×Bool×Int×(List Int)×Unit) (R:=(List Int)×Unit) (λiA =>
 cond (iLt iA.2.2.2.1 (ay iA.1))
 (cond (or (bnd iA.2.2.2.1 (ay iA.1)) (not (bEq (not iA.2.2.1) true)))
 (cond (cond (not iA.2.2.1) (iLe iA.2.1 (atI iA.1 iA.2.2.2.1 0)) false)
 (cond (bnd iA.2.2.2.1 (ay iA.1))
 (cond (iLt iA.2.1 (atI iA.1 iA.2.2.2.1 0))
 (cond (fits (List.length iA.2.2.2.2.1+List.length ([iA.2.1]:List Int)) 8)
 (cond (bnd iA.2.2.2.1 (ay iA.1))
 (cond (fits (List.length (iA.2.2.2.2.1++([iA.2.1]:List Int))+List.length ([atI iA.1 iA.2.2.2.1 0]:List Int)) 8)
 (some (.inl (iA.1,iA.2.1,true,bX .i64 iA.2.2.2.1 1,(iA.2.2.2.2.1++([iA.2.1]:List Int))++([atI iA.1 iA.2.2.2.1 0]:List Int),()))) none) none) none)
 (cond (bnd iA.2.2.2.1 (ay iA.1))
 (cond (fits (List.length iA.2.2.2.2.1+List.length ([atI iA.1 iA.2.2.2.1 0]:List Int)) 8)
 (some (.inl (iA.1,iA.2.1,true,bX .i64 iA.2.2.2.1 1,iA.2.2.2.2.1++([atI iA.1 iA.2.2.2.1 0]:List Int),()))) none) none)) none)
 (cond (bnd iA.2.2.2.1 (ay iA.1))
 (cond (fits (List.length iA.2.2.2.2.1+List.length ([atI iA.1 iA.2.2.2.1 0]:List Int)) 8)
 (some (.inl (iA.1,iA.2.1,iA.2.2.1,bX .i64 iA.2.2.2.1 1,iA.2.2.2.2.1++([atI iA.1 iA.2.2.2.1 0]:List Int),()))) none) none)) none)
 (Option.map Sum.inr (cond (not iA.2.2.1)
 (cond (fits (List.length iA.2.2.2.2.1+List.length ([iA.2.1]:List Int)) 8)
 (some (iA.2.2.2.2.1++([iA.2.1]:List Int),())) none)
 (some (iA.2.2.2.2.1,())))))
 (a0,a1,false,0,([]:List Int),())
def Yy:Cfg:=⟨fG,bP,[],[]⟩
theorem a6M(x:(List Int)×Int×Unit):gK Yy x96 48 [.t 4] [(.list (.int .i64)),(.int .i64)] [(.list (.int .i64))] x=m96 x.1 x.2.1:=by kernel_rfl
def i96:PI:=⟨96,[(.list (.int .i64)),(.int .i64)],[(.list (.int .i64))],fun(x:(List Int)×Int×Unit)=>m96 x.1 x.2.1⟩
theorem a5E:POk Tryd.prog (gx bP) i96:=pok mixed (bZ _ _:dx _ (Yy)) F96 (a6M)
def x79:XC:=xoF Tryd.f79 .o
theorem F79:Fn Tryd.prog 79 8 x79.er [.t 4]:=by unfold x79;exact fnX Tryd.func79 (by kernel_rfl) (by kernel_rfl) (by kernel_rfl) (by kernel_rfl)
def m79(a0:List Int)(a1:Int):Option ((List Int)×Unit) :=
 (m96 a0 a1).bind λa9j =>
 some (a9j.1,())
def YM:Cfg:=⟨fG,bP,[i96],[]⟩
theorem a7a(x:(List Int)×Int×Unit):gK YM x79 8 [.t 4] [(.list (.int .i64)),(.int .i64)] [(.list (.int .i64))] x=m79 x.1 x.2.1:=by kernel_rfl
def i79:PI:=⟨79,[(.list (.int .i64)),(.int .i64)],[(.list (.int .i64))],fun(x:(List Int)×Int×Unit)=>m79 x.1 x.2.1⟩
theorem a5N:POk Tryd.prog (gx bP) i79:=pok mixed (dw a5E (bZ _ _):dx _ (YM)) F79 (a7a)
def x46:XC:=xoF Tryd.f46 .o
theorem F46:Fn Tryd.prog 46 40 x46.er [.t 8]:=by unfold x46;exact fnX Tryd.func46 (by kernel_rfl) (by kernel_rfl) (by kernel_rfl) (by kernel_rfl)
def m46(a0:DS5)(a1:List (List Int))(a2:Int)(a3:Int):Option ((List (List Int))×Unit) :=
 (m42 (a0.1,()) a2).bind λa2h =>
 cond (cond (iLe a3 a2h.1) true (iLt a2h.2.1 a3))
 (some (a1,()))
 (cond (fits (List.length ([]:List (List Int))+List.length a1) 24)
 (cond (bnd a2 (ay a1))
 ((m79 (atI a1 a2 []) a3).bind λa9i =>
 cond (bnd a2 (ay (([]:List (List Int))++a1)))
 (cond (inB (Int.toNat a2) (([]:List (List Int))++a1))
 (some (List.set (([]:List (List Int))++a1) (Int.toNat a2) a9i.1,())) none) none) none) none)
def Zc:Cfg:=⟨fG,bP,[i42,i79],[]⟩
theorem a7w(x:DS5×(List (List Int))×Int×Int×Unit):gK Zc x46 40 [.t 8] [tS5,(.list (.list (.int .i64))),(.int .i64),(.int .i64)] [(.list (.list (.int .i64)))] x=m46 x.1 x.2.1 x.2.2.1 x.2.2.2.1:=by kernel_rfl
def i46:PI:=⟨46,[tS5,(.list (.list (.int .i64))),(.int .i64),(.int .i64)],[(.list (.list (.int .i64)))],fun(x:DS5×(List (List Int))×Int×Int×Unit)=>m46 x.1 x.2.1 x.2.2.1 x.2.2.2.1⟩
theorem Y9:POk Tryd.prog (gx bP) i46:=pok mixed (dw JF (dw a5N (bZ _ _)):dx _ (Zc)) F46 (a7w)
def x47:XC:=xoF Tryd.f47 (.d 2 (.s (.d 1 (.b (.l [] ⟨20,[(0,(.list (.list (.int .i64)))),(3,(.int .i64)),(4,(.int .i64))],[],[]⟩ .o))) .o))
theorem F47:Fn Tryd.prog 47 20 x47.er [.t 2]:=by unfold x47;exact fnX Tryd.func47 (by kernel_rfl) (by kernel_rfl) (by kernel_rfl) (by kernel_rfl)
def m47(a0:List (List Int)):Option (Int×Unit) :=
 eT (S:=(List (List Int))×Int×Int×Unit) (R:=Int×Unit) (λAA =>
 cond (iLt AA.2.2.1 (ay AA.1))
 (cond (bnd AA.2.2.1 (ay AA.1))
 (some (.inl (AA.1,pW (AQ .i64 AA.2.1 (ay (atI AA.1 AA.2.2.1 []))) 8193,bX .i64 AA.2.2.1 1,()))) none)
 (some (.inr (AA.2.1,()))))
 (a0,1,0,())
def Zb:Cfg:=⟨fG,bP,[],[]⟩
theorem a7v(x:(List (List Int))×Unit):gK Zb x47 20 [.t 2] [(.list (.list (.int .i64)))] [(.int .i64)] x=m47 x.1:=by kernel_rfl
def i47:PI:=⟨47,[(.list (.list (.int .i64)))],[(.int .i64)],fun(x:(List (List Int))×Unit)=>m47 x.1⟩
theorem Qm:POk Tryd.prog (gx bP) i47:=pok mixed (bZ _ _:dx _ (Zb)) F47 (a7v)
def x23:XC:=xoF Tryd.f23 (.d 2 (.s (.d 1 (.b (.l [] ⟨26,[(0,(.list (.int .i64))),(1,(.list (.int .i64))),(5,(.int .i64))],[],[]⟩ .o))) .o))
theorem F23:Fn Tryd.prog 23 26 x23.er [.t 4]:=by unfold x23;exact fnX Tryd.func23 (by kernel_rfl) (by kernel_rfl) (by kernel_rfl) (by kernel_rfl)
def m23(a0:List Int)(a1:List Int):Option (Bool×Unit) :=
 cond (iNe (ay a0) (ay a1))
 (some (false,()))
 (eT (S:=(List Int)×(List Int)×Int×Unit) (R:=Bool×Unit) (λwM =>
 cond (iLt wM.2.2.1 (ay wM.1))
 (cond (bnd wM.2.2.1 (ay wM.1))
 (cond (bnd wM.2.2.1 (ay wM.2.1))
 (cond (iNe (atI wM.1 wM.2.2.1 0) (atI wM.2.1 wM.2.2.1 0))
 (some (.inr (false,())))
 (some (.inl (wM.1,wM.2.1,bX .i64 wM.2.2.1 1,())))) none) none)
 (some (.inr (true,()))))
 (a0,a1,0,()))
def Zv:Cfg:=⟨fG,bP,[],[]⟩
theorem a7O(x:(List Int)×(List Int)×Unit):gK Zv x23 26 [.t 4] [(.list (.int .i64)),(.list (.int .i64))] [.bool] x=m23 x.1 x.2.1:=by kernel_rfl
def i23:PI:=⟨23,[(.list (.int .i64)),(.list (.int .i64))],[.bool],fun(x:(List Int)×(List Int)×Unit)=>m23 x.1 x.2.1⟩
theorem Qp:POk Tryd.prog (gx bP) i23:=pok mixed (bZ _ _:dx _ (Zv)) F23 (a7O)
def Pm:XC:=xoF Tryd.f97 (.d 3 (.s (.d 1 (.b (.l [.gh 9 3 (.int .i64)] ⟨107,[(1,(.int .i64)),(2,(.list (.int .i64))),(11,(.int .i64))],[(0,.ptr 0 0 0),(3,.row 1),(9,.row 3),(10,.row 4)],[.box 93 [.d (.list (.list (.int .i64))),.d (.list (.int .i64)),.row 2],.row 3 (.int .i64) false,.row 70 tS1 false,.row 3 (.int .i64) false,.row 3 (.int .i64) false]⟩ (.d 1 (.s (.b (.d 1 (.c (.u [3]) .o))) .o))))) (.d 1 (.s (.d 1 (.b (.l [.gh 9 3 (.int .i64)] ⟨107,[(1,(.int .i64)),(12,(.int .i64))],[(0,.ptr 0 0 0),(9,.row 3),(10,.row 4)],[.box 93 [.d (.list (.list (.int .i64))),.d (.list (.int .i64)),.row 2],.row 3 (.int .i64) false,.row 70 tS1 false,.row 3 (.int .i64) false,.row 3 (.int .i64) false]⟩ .o))) .o))))
theorem a8m:Fn Tryd.prog 97 107 Pm.er [.t 8]:=by unfold Pm;exact fnX Tryd.func97 (by kernel_rfl) (by kernel_rfl) (by kernel_rfl) (by kernel_rfl)
def yL(a0:Int)(a1:List Int)(a2:List (List Int))(a3:List Int)(a4:List Int)(a5:List DS1):Option (Int×(List (List Int))×(List Int)×(List Int)×(List DS1)×Unit) :=
 cond (bnd 0 (ay a4))
 (cond (inB (Int.toNat 0) a4)
 (eT (S:=Int×(List Int)×Int×(List (List Int))×(List Int)×(List Int)×(List DS1)×(List Int)×(List Int)×Unit) (R:=Int×(List (List Int))×(List Int)×(List Int)×(List DS1)×Unit) (λgN =>
 cond (iLt gN.2.2.1 (ay gN.2.2.2.2.2.1))
 (cond (bnd gN.2.2.1 (ay gN.2.2.2.2.2.1))
 (cond (inB (Int.toNat gN.2.2.1) gN.2.2.2.2.2.1)
 (cond (bnd (fV .i64 (ay gN.2.2.2.2.2.2.2.2.1) 1) (ay gN.2.2.2.2.2.2.2.2.1))
 (cond (inB (Int.toNat (fV .i64 (ay gN.2.2.2.2.2.2.2.2.1) 1)) gN.2.2.2.2.2.2.2.2.1)
 (cond (iNe (List.getD gN.2.2.2.2.2.1 (Int.toNat gN.2.2.1) 0) (List.getD gN.2.2.2.2.2.2.2.2.1 (Int.toNat (fV .i64 (ay gN.2.2.2.2.2.2.2.2.1) 1)) 0))
 (cond (bnd gN.2.2.1 (ay gN.2.1))
 (cond (fits (List.length gN.2.2.2.2.2.2.2.1+List.length ([atI gN.2.1 gN.2.2.1 0]:List Int)) 8)
 (cond (bnd gN.2.2.1 (ay gN.2.2.2.2.2.1))
 (cond (inB (Int.toNat gN.2.2.1) gN.2.2.2.2.2.1)
 (cond (fits (List.length gN.2.2.2.2.2.2.2.2.1+List.length ([List.getD gN.2.2.2.2.2.1 (Int.toNat gN.2.2.1) 0]:List Int)) 8)
 (some (.inl (gN.1,gN.2.1,bX .i64 gN.2.2.1 1,gN.2.2.2.1,gN.2.2.2.2.1,gN.2.2.2.2.2.1,gN.2.2.2.2.2.2.1,gN.2.2.2.2.2.2.2.1++([atI gN.2.1 gN.2.2.1 0]:List Int),gN.2.2.2.2.2.2.2.2.1++([List.getD gN.2.2.2.2.2.1 (Int.toNat gN.2.2.1) 0]:List Int),()))) none) none) none) none) none)
 (some (.inl (gN.1,gN.2.1,bX .i64 gN.2.2.1 1,gN.2.2.2.1,gN.2.2.2.2.1,gN.2.2.2.2.2.1,gN.2.2.2.2.2.2.1,gN.2.2.2.2.2.2.2.1,gN.2.2.2.2.2.2.2.2.1,())))) none) none) none) none)
 (Option.map Sum.inr (cond (iEq (ay gN.2.2.2.2.2.2.2.2.1) 1)
 (cond (bnd 0 (ay gN.2.2.2.2.2.2.2.2.1))
 (cond (inB (Int.toNat 0) gN.2.2.2.2.2.2.2.2.1)
 (some (List.getD gN.2.2.2.2.2.2.2.2.1 (Int.toNat 0) 0,gN.2.2.2.1,gN.2.2.2.2.1,gN.2.2.2.2.2.1,gN.2.2.2.2.2.2.1,())) none) none)
 (eT (S:=Int×Int×(List (List Int))×(List Int)×(List Int)×(List DS1)×(List Int)×(List Int)×Unit) (R:=Int×(List (List Int))×(List Int)×(List Int)×(List DS1)×Unit) (λiq =>
 cond (iLt iq.2.1 (ay iq.2.2.2.2.2.1))
 (cond (bnd iq.2.1 (ay iq.2.2.2.2.2.1))
 (cond (inB (Int.toNat iq.2.1) iq.2.2.2.2.2.1)
 (cond (iEq ((List.getD iq.2.2.2.2.2.1 (Int.toNat iq.2.1) (0,[],[],())).1) iq.1)
 ((m23 ((List.getD iq.2.2.2.2.2.1 (Int.toNat iq.2.1) (0,[],[],())).2.1) iq.2.2.2.2.2.2.1).bind λa9h =>
 cond a9h.1
 ((m23 ((List.getD iq.2.2.2.2.2.1 (Int.toNat iq.2.1) (0,[],[],())).2.2.1) iq.2.2.2.2.2.2.2.1).bind λa9g =>
 cond a9g.1
 (some (.inr (iq.2.1,iq.2.2.1,iq.2.2.2.1,iq.2.2.2.2.1,iq.2.2.2.2.2.1,())))
 (some (.inl (iq.1,bX .i64 iq.2.1 1,iq.2.2.1,iq.2.2.2.1,iq.2.2.2.2.1,iq.2.2.2.2.2.1,iq.2.2.2.2.2.2.1,iq.2.2.2.2.2.2.2.1,()))))
 (some (.inl (iq.1,bX .i64 iq.2.1 1,iq.2.2.1,iq.2.2.2.1,iq.2.2.2.2.1,iq.2.2.2.2.2.1,iq.2.2.2.2.2.2.1,iq.2.2.2.2.2.2.2.1,()))))
 (some (.inl (iq.1,bX .i64 iq.2.1 1,iq.2.2.1,iq.2.2.2.1,iq.2.2.2.2.1,iq.2.2.2.2.2.1,iq.2.2.2.2.2.2.1,iq.2.2.2.2.2.2.2.1,())))) none) none)
 (Option.map Sum.inr (cond (fits (List.length iq.2.2.2.2.2.1+List.length ([(iq.1,iq.2.2.2.2.2.2.1,iq.2.2.2.2.2.2.2.1,())]:List DS1)) 56)
 (some (fV .i64 (ay (iq.2.2.2.2.2.1++([(iq.1,iq.2.2.2.2.2.2.1,iq.2.2.2.2.2.2.2.1,())]:List DS1))) 1,iq.2.2.1,iq.2.2.2.1,iq.2.2.2.2.1,iq.2.2.2.2.2.1++([(iq.1,iq.2.2.2.2.2.2.1,iq.2.2.2.2.2.2.2.1,())]:List DS1),())) none)))
 (gN.1,0,gN.2.2.2.1,gN.2.2.2.2.1,gN.2.2.2.2.2.1,gN.2.2.2.2.2.2.1,gN.2.2.2.2.2.2.2.1,gN.2.2.2.2.2.2.2.2.1,())))))
 (a0,a1,1,a2,a3,a4,a5,([]:List Int),([List.getD a4 (Int.toNat 0) 0]:List Int),())) none) none
def OL:Cfg:=⟨fG,bP,[i23],[]⟩
def Oj:Sh:=⟨4,[(1,(.int .i64)),(2,(.list (.int .i64)))],[(0,.ptr 0 0 0),(3,.row 1)],[.box 93 [.d (.list (.list (.int .i64))),.d (.list (.int .i64)),.row 2],.row 3 (.int .i64) false,.row 70 tS1 false]⟩
def NU:Sh:=⟨1,[(0,(.int .i64))],[],[.box 93 [.d (.list (.list (.int .i64))),.d (.list (.int .i64)),.row 2],.row 3 (.int .i64) false,.row 70 tS1 false]⟩
theorem a1n(x:Int×(List Int)×(List (List Int))×(List Int)×(List Int)×(List DS1)×Unit):oL OL Pm 107 [.t 8] [] Oj NU x=yL x.1 x.2.1 x.2.2.1 x.2.2.2.1 x.2.2.2.2.1 x.2.2.2.2.2.1:=by kernel_rfl
def QM:HI:=⟨97,Oj,NU,fun(x:Int×(List Int)×(List (List Int))×(List Int)×(List Int)×(List DS1)×Unit)=>yL x.1 x.2.1 x.2.2.1 x.2.2.2.1 x.2.2.2.2.1 x.2.2.2.2.2.1,[1]⟩
theorem O6:HOk Tryd.prog (gx bP) QM:=hok mixed (dw Qp (bZ _ _):dx _ (OL)) a8m (a1n)
def x80:XC:=xoF Tryd.f80 (.d 4 (.s (.d 1 (.b (.l [.gh 10 3 (.int .i64)] ⟨73,[(1,(.int .i64)),(2,(.int .i64)),(9,(.int .i64)),(11,(.int .i64))],[(0,.ptr 0 0 0),(10,.row 2)],[.box 93 [.d (.list (.list (.int .i64))),.d (.list (.int .i64)),.row 1],.row 70 tS1 false,.row 3 (.int .i64) false]⟩ .o))) .o))
theorem F80:Fn Tryd.prog 80 73 x80.er [.t 8]:=by unfold x80;exact fnX Tryd.func80 (by kernel_rfl) (by kernel_rfl) (by kernel_rfl) (by kernel_rfl)
def Fb(self:(Int×Int×Int×(List (List Int))×(List Int)×(List DS1)×Unit)->Option (Int×(List (List Int))×(List Int)×(List DS1)×Unit))(a0:Int)(a1:Int)(a2:Int)(a3:List (List Int))(a4:List Int)(a5:List DS1):Option (Int×(List (List Int))×(List Int)×(List DS1)×Unit) :=
 cond (iEq a0 (ay a3))
 (cond (bnd a1 (ay a4))
 (some (fV .i64 (-1) (atI a4 a1 0),a3,a4,a5,())) none)
 (cond (bnd a0 (ay a3))
 (cond (iNe (ay (atI a3 a0 [])) 0)
 (eT (S:=Int×Int×Int×Int×(List (List Int))×(List Int)×(List DS1)×(List Int)×Unit) (R:=Int×(List (List Int))×(List Int)×(List DS1)×Unit) (λmO =>
 cond (bnd mO.1 (ay mO.2.2.2.2.1))
 (cond (iLt mO.2.2.2.1 (ay (atI mO.2.2.2.2.1 mO.1 [])))
 ((self (bX .i64 mO.1 1,bX .i64 mO.2.1 (AQ .i64 mO.2.2.2.1 mO.2.2.1),mO.2.2.1,mO.2.2.2.2.1,mO.2.2.2.2.2.1,mO.2.2.2.2.2.2.1,())).bind λKc =>
 cond (fits (List.length mO.2.2.2.2.2.2.2.1+List.length ([Kc.1]:List Int)) 8)
 (some (.inl (mO.1,mO.2.1,mO.2.2.1,bX .i64 mO.2.2.2.1 1,Kc.2.1,Kc.2.2.1,Kc.2.2.2.1,mO.2.2.2.2.2.2.2.1++([Kc.1]:List Int),()))) none)
 (Option.map Sum.inr (cond (bnd mO.1 (ay mO.2.2.2.2.1))
 ((yL mO.1 (atI mO.2.2.2.2.1 mO.1 []) mO.2.2.2.2.1 mO.2.2.2.2.2.1 mO.2.2.2.2.2.2.2.1 mO.2.2.2.2.2.2.1).bind λKa =>
 cond (and (Nat.beq (List.length mO.2.2.2.2.2.2.2.1) (List.length Ka.2.2.2.1)) true)
 (some (Ka.1,Ka.2.1,Ka.2.2.1,Ka.2.2.2.2.1,())) none) none))) none)
 (a0,a1,rM .i64 a2 (ay (atI a3 a0 [])),0,a3,a4,a5,([]:List Int),())) none) none)
def JK:Sh:=⟨4,[(1,(.int .i64)),(2,(.int .i64)),(3,(.int .i64))],[(0,.ptr 0 0 0)],[.box 93 [.d (.list (.list (.int .i64))),.d (.list (.int .i64)),.row 1],.row 70 tS1 false]⟩
def JB:Sh:=⟨1,[(0,(.int .i64))],[],[.box 93 [.d (.list (.list (.int .i64))),.d (.list (.int .i64)),.row 1],.row 70 tS1 false]⟩
def YL(self:(Int×Int×Int×(List (List Int))×(List Int)×(List DS1)×Unit)->Option (Int×(List (List Int))×(List Int)×(List DS1)×Unit)):Cfg:=⟨fG,bP,[],[⟨80,JK,JB,self,[]⟩,QM]⟩
theorem a6Z(self:(Int×Int×Int×(List (List Int))×(List Int)×(List DS1)×Unit)->Option (Int×(List (List Int))×(List Int)×(List DS1)×Unit))(x:Int×Int×Int×(List (List Int))×(List Int)×(List DS1)×Unit):oL (YL self) x80 73 [.t 8] [] JK JB x=Fb self x.1 x.2.1 x.2.2.1 x.2.2.2.1 x.2.2.2.2.1 x.2.2.2.2.2.1:=by kernel_rfl
def m80(a0:Int)(a1:Int)(a2:Int)(a3:List (List Int))(a4:List Int)(a5:List DS1):Option (Int×(List (List Int))×(List Int)×(List DS1)×Unit):=wW (λself (x:Int×Int×Int×(List (List Int))×(List Int)×(List DS1)×Unit)=>Fb self x.1 x.2.1 x.2.2.1 x.2.2.2.1 x.2.2.2.2.1 x.2.2.2.2.2.1) (a0,a1,a2,a3,a4,a5,())
def h80:HI:=⟨80,JK,JB,fun(x:Int×Int×Int×(List (List Int))×(List Int)×(List DS1)×Unit)=>m80 x.1 x.2.1 x.2.2.1 x.2.2.2.1 x.2.2.2.2.1 x.2.2.2.2.2.1,[]⟩
theorem a6l:HOk Tryd.prog (gx bP) h80:=Bw (f:=80) (ish:=JK) (osh:=JB) (G:=λself (x:Int×Int×Int×(List (List Int))×(List Int)×(List DS1)×Unit)=>Fb self x.1 x.2.1 x.2.2.1 x.2.2.2.1 x.2.2.2.2.1 x.2.2.2.2.2.1) F80.callable (λrun hr=>hok mixed (jI hr (jI O6 (bZ _ _)):dx _ (YL run)) F80 (a6Z run))
def Po:XC:=xoF Tryd.f80 (.d 4 (.s (.d 1 (.b (.l [.gh 10 3 (.int .i64),.ghc 0 2 70 tS1] ⟨73,[(1,(.int .i64)),(2,(.int .i64)),(9,(.int .i64)),(11,(.int .i64))],[(0,.ptr 0 0 0),(10,.row 1)],[.box 93 [.d (.list (.list (.int .i64))),.d (.list (.int .i64)),.row 2],.row 3 (.int .i64) false,.row 70 tS1 false]⟩ .o))) .o))
theorem a8o:Fn Tryd.prog 80 73 Po.er [.t 8]:=by unfold Po;exact fnX Tryd.func80 (by kernel_rfl) (by kernel_rfl) (by kernel_rfl) (by kernel_rfl)
def Ch(a0:Int)(a1:Int)(a2:Int)(a3:List (List Int))(a4:List Int):Option (Int×(List (List Int))×(List Int)×(List DS1)×Unit) :=
 cond (iEq a0 (ay a3))
 (cond (bnd a1 (ay a4))
 (some (fV .i64 (-1) (atI a4 a1 0),a3,a4,([]:List DS1),())) none)
 (cond (bnd a0 (ay a3))
 (cond (iNe (ay (atI a3 a0 [])) 0)
 (eT (S:=Int×Int×Int×Int×(List (List Int))×(List Int)×(List Int)×(List DS1)×Unit) (R:=Int×(List (List Int))×(List Int)×(List DS1)×Unit) (λmQ =>
 cond (bnd mQ.1 (ay mQ.2.2.2.2.1))
 (cond (iLt mQ.2.2.2.1 (ay (atI mQ.2.2.2.2.1 mQ.1 [])))
 ((m80 (bX .i64 mQ.1 1) (bX .i64 mQ.2.1 (AQ .i64 mQ.2.2.2.1 mQ.2.2.1)) mQ.2.2.1 mQ.2.2.2.2.1 mQ.2.2.2.2.2.1 mQ.2.2.2.2.2.2.2.1).bind λK9 =>
 cond (fits (List.length mQ.2.2.2.2.2.2.1+List.length ([K9.1]:List Int)) 8)
 (some (.inl (mQ.1,mQ.2.1,mQ.2.2.1,bX .i64 mQ.2.2.2.1 1,K9.2.1,K9.2.2.1,mQ.2.2.2.2.2.2.1++([K9.1]:List Int),K9.2.2.2.1,()))) none)
 (Option.map Sum.inr (cond (bnd mQ.1 (ay mQ.2.2.2.2.1))
 ((yL mQ.1 (atI mQ.2.2.2.2.1 mQ.1 []) mQ.2.2.2.2.1 mQ.2.2.2.2.2.1 mQ.2.2.2.2.2.2.1 mQ.2.2.2.2.2.2.2.1).bind λK8 =>
 cond (and (Nat.beq (List.length mQ.2.2.2.2.2.2.1) (List.length K8.2.2.2.1)) true)
 (some (K8.1,K8.2.1,K8.2.2.1,K8.2.2.2.2.1,())) none) none))) none)
 (a0,a1,rM .i64 a2 (ay (atI a3 a0 [])),0,a3,a4,([]:List Int),([]:List DS1),())) none) none)
def OO:Cfg:=⟨fG,bP,[],[h80,QM]⟩
def Om:Sh:=⟨4,[(1,(.int .i64)),(2,(.int .i64)),(3,(.int .i64))],[(0,.ptr 0 0 0)],[.box 93 [.d (.list (.list (.int .i64))),.d (.list (.int .i64)),.nil]]⟩
def NW:Sh:=⟨1,[(0,(.int .i64))],[],[.box 93 [.d (.list (.list (.int .i64))),.d (.list (.int .i64)),.row 1],.row 70 tS1 false]⟩
theorem a1p(x:Int×Int×Int×(List (List Int))×(List Int)×Unit):oL OO Po 73 [.t 8] [.ghc 0 2 70 tS1] Om NW x=Ch x.1 x.2.1 x.2.2.1 x.2.2.2.1 x.2.2.2.2.1:=by kernel_rfl
def Yp:HI:=⟨80,Om,NW,fun(x:Int×Int×Int×(List (List Int))×(List Int)×Unit)=>Ch x.1 x.2.1 x.2.2.1 x.2.2.2.1 x.2.2.2.2.1,[]⟩
theorem a0J:HOk Tryd.prog (gx bP) Yp:=hok mixed (jI a6l (jI O6 (bZ _ _)):dx _ (OO)) a8o (a1p)
def x58:XC:=xoF Tryd.f58 (.d 4 (.s (.d 1 (.b (.l [] ⟨64,[(3,(.int .i64)),(9,(.int .i64))],[(0,.ptr 0 0 0),(1,.row 1),(2,.row 2)],[.box 93 [.d (.list (.list (.int .i64))),.d (.list (.int .i64)),.row 3],.row 70 tS1 false,.row 3 (.int .i64) false,.row 70 tS1 false]⟩ .o))) .o))
theorem F58:Fn Tryd.prog 58 64 x58.er [.t 8]:=by unfold x58;exact fnX Tryd.func58 (by kernel_rfl) (by kernel_rfl) (by kernel_rfl) (by kernel_rfl)
def Hz(self:(Int×(List (List Int))×(List Int)×(List DS1)×(List Int)×(List DS1)×Unit)->Option ((List (List Int))×(List Int)×(List DS1)×(List Int)×(List DS1)×Unit))(a0:Int)(a1:List (List Int))(a2:List Int)(a3:List DS1)(a4:List Int)(a5:List DS1):Option ((List (List Int))×(List Int)×(List DS1)×(List Int)×(List DS1)×Unit) :=
 cond (or (bnd a0 (ay a4)) (not (bEq (iLt a0 0) false)))
 (cond (or (inB (Int.toNat a0) a4) (not (bEq (iLt a0 0) false)))
 (cond (cond (iLt a0 0) true (iLe 0 (List.getD a4 (Int.toNat a0) 0)))
 (some (a1,a2,a3,a4,a5,()))
 (cond (bnd a0 (ay a4))
 (cond (inB (Int.toNat a0) a4)
 (cond (bnd a0 (ay a5))
 (cond (inB (Int.toNat a0) a5)
 (cond (fits (List.length a3+List.length ([List.getD a5 (Int.toNat a0) (0,[],[],())]:List DS1)) 56)
 (eT (S:=Int×Int×(List (List Int))×(List Int)×(List DS1)×(List Int)×(List DS1)×Unit) (R:=(List (List Int))×(List Int)×(List DS1)×(List Int)×(List DS1)×Unit) (λmG =>
 cond (bnd mG.1 (ay mG.2.2.2.2.2.2.1))
 (cond (inB (Int.toNat mG.1) mG.2.2.2.2.2.2.1)
 (cond (iLt mG.2.1 (ay ((List.getD mG.2.2.2.2.2.2.1 (Int.toNat mG.1) (0,[],[],())).2.2.1)))
 (cond (bnd mG.1 (ay mG.2.2.2.2.2.2.1))
 (cond (inB (Int.toNat mG.1) mG.2.2.2.2.2.2.1)
 (cond (bnd mG.2.1 (ay ((List.getD mG.2.2.2.2.2.2.1 (Int.toNat mG.1) (0,[],[],())).2.2.1)))
 ((self (atI ((List.getD mG.2.2.2.2.2.2.1 (Int.toNat mG.1) (0,[],[],())).2.2.1) mG.2.1 0,mG.2.2.1,mG.2.2.2.1,mG.2.2.2.2.1,mG.2.2.2.2.2.1,mG.2.2.2.2.2.2.1,())).bind λGQ =>
 cond (and (Nat.beq (List.length mG.2.2.2.2.2.1) (List.length GQ.2.2.2.1)) true)
 (some (.inl (mG.1,bX .i64 mG.2.1 1,GQ.1,GQ.2.1,GQ.2.2.1,GQ.2.2.2.1,GQ.2.2.2.2.1,()))) none) none) none) none)
 (some (.inr (mG.2.2.1,mG.2.2.2.1,mG.2.2.2.2.1,mG.2.2.2.2.2.1,mG.2.2.2.2.2.2.1,())))) none) none)
 (a0,0,a1,a2,a3++([List.getD a5 (Int.toNat a0) (0,[],[],())]:List DS1),List.set a4 (Int.toNat a0) (ay a3),a5,())) none) none) none) none) none)) none) none
def JM:Sh:=⟨4,[(3,(.int .i64))],[(0,.ptr 0 0 0),(1,.row 1),(2,.row 2)],[.box 93 [.d (.list (.list (.int .i64))),.d (.list (.int .i64)),.row 3],.row 70 tS1 false,.row 3 (.int .i64) false,.row 70 tS1 false]⟩
def JD:Sh:=⟨1,[],[(0,.row 1)],[.box 93 [.d (.list (.list (.int .i64))),.d (.list (.int .i64)),.row 3],.row 70 tS1 false,.row 3 (.int .i64) false,.row 70 tS1 false]⟩
def YZ(self:(Int×(List (List Int))×(List Int)×(List DS1)×(List Int)×(List DS1)×Unit)->Option ((List (List Int))×(List Int)×(List DS1)×(List Int)×(List DS1)×Unit)):Cfg:=⟨fG,bP,[],[⟨58,JM,JD,self,[2]⟩]⟩
theorem a7m(self:(Int×(List (List Int))×(List Int)×(List DS1)×(List Int)×(List DS1)×Unit)->Option ((List (List Int))×(List Int)×(List DS1)×(List Int)×(List DS1)×Unit))(x:Int×(List (List Int))×(List Int)×(List DS1)×(List Int)×(List DS1)×Unit):oL (YZ self) x58 64 [.t 8] [] JM JD x=Hz self x.1 x.2.1 x.2.2.1 x.2.2.2.1 x.2.2.2.2.1 x.2.2.2.2.2.1:=by kernel_rfl
def m58(a0:Int)(a1:List (List Int))(a2:List Int)(a3:List DS1)(a4:List Int)(a5:List DS1):Option ((List (List Int))×(List Int)×(List DS1)×(List Int)×(List DS1)×Unit):=wW (λself (x:Int×(List (List Int))×(List Int)×(List DS1)×(List Int)×(List DS1)×Unit)=>Hz self x.1 x.2.1 x.2.2.1 x.2.2.2.1 x.2.2.2.2.1 x.2.2.2.2.2.1) (a0,a1,a2,a3,a4,a5,())
def h58:HI:=⟨58,JM,JD,fun(x:Int×(List (List Int))×(List Int)×(List DS1)×(List Int)×(List DS1)×Unit)=>m58 x.1 x.2.1 x.2.2.1 x.2.2.2.1 x.2.2.2.2.1 x.2.2.2.2.2.1,[2]⟩
theorem a6n:HOk Tryd.prog (gx bP) h58:=Bw (f:=58) (ish:=JM) (osh:=JD) (G:=λself (x:Int×(List (List Int))×(List Int)×(List DS1)×(List Int)×(List DS1)×Unit)=>Hz self x.1 x.2.1 x.2.2.1 x.2.2.2.1 x.2.2.2.2.1 x.2.2.2.2.2.1) F58.callable (λrun hr=>hok mixed (jI hr (bZ _ _):dx _ (YZ run)) F58 (a7m run))
def Px:XC:=xoF Tryd.f58 (.d 4 (.s (.d 1 (.b (.l [] ⟨64,[(3,(.int .i64)),(9,(.int .i64))],[(0,.ptr 0 0 0),(1,.row 3),(2,.row 1)],[.box 93 [.d (.list (.list (.int .i64))),.d (.list (.int .i64)),.row 2],.row 3 (.int .i64) false,.row 70 tS1 false,.row 70 tS1 false]⟩ .o))) .o))
theorem a8s:Fn Tryd.prog 58 64 Px.er [.t 8]:=by unfold Px;exact fnX Tryd.func58 (by kernel_rfl) (by kernel_rfl) (by kernel_rfl) (by kernel_rfl)
def Gd(a0:Int)(a1:List (List Int))(a2:List Int)(a3:List Int)(a4:List DS1):Option ((List (List Int))×(List Int)×(List Int)×(List DS1)×(List DS1)×Unit) :=
 cond (or (bnd a0 (ay a3)) (not (bEq (iLt a0 0) false)))
 (cond (or (inB (Int.toNat a0) a3) (not (bEq (iLt a0 0) false)))
 (cond (cond (iLt a0 0) true (iLe 0 (List.getD a3 (Int.toNat a0) 0)))
 (some (a1,a2,a3,a4,([]:List DS1),()))
 (cond (bnd a0 (ay a3))
 (cond (inB (Int.toNat a0) a3)
 (cond (bnd a0 (ay a4))
 (cond (inB (Int.toNat a0) a4)
 (cond (fits (List.length ([List.getD a4 (Int.toNat a0) (0,[],[],())]:List DS1)) 56)
 (eT (S:=Int×Int×(List (List Int))×(List Int)×(List Int)×(List DS1)×(List DS1)×Unit) (R:=(List (List Int))×(List Int)×(List Int)×(List DS1)×(List DS1)×Unit) (λmE =>
 cond (bnd mE.1 (ay mE.2.2.2.2.2.1))
 (cond (inB (Int.toNat mE.1) mE.2.2.2.2.2.1)
 (cond (iLt mE.2.1 (ay ((List.getD mE.2.2.2.2.2.1 (Int.toNat mE.1) (0,[],[],())).2.2.1)))
 (cond (bnd mE.1 (ay mE.2.2.2.2.2.1))
 (cond (inB (Int.toNat mE.1) mE.2.2.2.2.2.1)
 (cond (bnd mE.2.1 (ay ((List.getD mE.2.2.2.2.2.1 (Int.toNat mE.1) (0,[],[],())).2.2.1)))
 ((m58 (atI ((List.getD mE.2.2.2.2.2.1 (Int.toNat mE.1) (0,[],[],())).2.2.1) mE.2.1 0) mE.2.2.1 mE.2.2.2.1 mE.2.2.2.2.2.2.1 mE.2.2.2.2.1 mE.2.2.2.2.2.1).bind λGN =>
 cond (and (Nat.beq (List.length mE.2.2.2.2.1) (List.length GN.2.2.2.1)) true)
 (some (.inl (mE.1,bX .i64 mE.2.1 1,GN.1,GN.2.1,GN.2.2.2.1,GN.2.2.2.2.1,GN.2.2.1,()))) none) none) none) none)
 (some (.inr (mE.2.2.1,mE.2.2.2.1,mE.2.2.2.2.1,mE.2.2.2.2.2.1,mE.2.2.2.2.2.2.1,())))) none) none)
 (a0,0,a1,a2,List.set a3 (Int.toNat a0) 0,a4,([List.getD a4 (Int.toNat a0) (0,[],[],())]:List DS1),())) none) none) none) none) none)) none) none
def OV:Cfg:=⟨fG,bP,[],[h58]⟩
def Ou:Sh:=⟨4,[(3,(.int .i64))],[(0,.ptr 0 0 0),(1,.nil),(2,.row 1)],[.box 93 [.d (.list (.list (.int .i64))),.d (.list (.int .i64)),.row 2],.row 3 (.int .i64) false,.row 70 tS1 false]⟩
def O5:Sh:=⟨1,[],[(0,.row 3)],[.box 93 [.d (.list (.list (.int .i64))),.d (.list (.int .i64)),.row 2],.row 3 (.int .i64) false,.row 70 tS1 false,.row 70 tS1 false]⟩
theorem a1u(x:Int×(List (List Int))×(List Int)×(List Int)×(List DS1)×Unit):oL OV Px 64 [.t 8] [.gh 8 70 tS1] Ou O5 x=Gd x.1 x.2.1 x.2.2.1 x.2.2.2.1 x.2.2.2.2.1:=by kernel_rfl
def Yu:HI:=⟨58,Ou,O5,fun(x:Int×(List (List Int))×(List Int)×(List Int)×(List DS1)×Unit)=>Gd x.1 x.2.1 x.2.2.1 x.2.2.2.1 x.2.2.2.2.1,[1]⟩
theorem a0N:HOk Tryd.prog (gx bP) Yu:=hok mixed (jI a6n (bZ _ _):dx _ (OV)) a8s (a1u)
def x48:XC:=xoF Tryd.f48 (.d 5 (.s (.d 1 (.b (.l [] ⟨107,[(7,(.int .i64)),(9,(.int .i64))],[(4,.ptr 0 0 0),(6,.ptr 1 0 0),(8,.row 2)],[.box 28 [.nil,.d (.int .i64)],.box 93 [.d (.list (.list (.int .i64))),.d (.list (.int .i64)),.row 3],.row 3 (.int .i64) false,.row 70 tS1 false]⟩ .o))) (.d 1 (.s (.d 1 (.b (.l [] ⟨107,[(7,(.int .i64)),(11,(.int .i64))],[(4,.ptr 0 0 0),(8,.row 1),(10,.row 2)],[.box 28 [.nil,.d (.int .i64)],.row 3 (.int .i64) false,.row 70 tS1 false]⟩ (.d 1 (.s (.b (.d 1 (.s (.d 1 (.b (.l [.gh 12 3 (.int .i64)] ⟨107,[(7,(.int .i64)),(11,(.int .i64)),(13,(.int .i64))],[(4,.ptr 0 0 0),(8,.row 1),(10,.row 2),(12,.row 3)],[.box 28 [.nil,.d (.int .i64)],.row 3 (.int .i64) false,.row 70 tS1 false,.row 3 (.int .i64) false]⟩ .o))) .o))) .o))))) .o))))
theorem F48:Fn Tryd.prog 48 107 x48.er [.c 4 2 true,.t 5]:=by unfold x48;exact fnX Tryd.func48 (by kernel_rfl) (by kernel_rfl) (by kernel_rfl) (by kernel_rfl)
def m48(a0:List (List Int))(a1:List Int):Option (DS2×Int×Unit) :=
 (Ch 0 0 (ay a1) a0 a1).bind λEO =>
 cond (iLt 1000 (ay EO.2.2.2.1))
 (some ((([]:List DS1),0,()),4,()))
 (cond (qQ (ay EO.2.2.2.1) 8)
 (eT (S:=Int×Int×Int×(List (List Int))×(List Int)×(List Int)×(List DS1)×Unit) (R:=DS2×Int×Unit) (λpQ =>
 cond (iLt pQ.2.1 (ay pQ.2.2.2.2.2.1))
 (cond (bnd pQ.2.1 (ay pQ.2.2.2.2.2.1))
 (cond (inB (Int.toNat pQ.2.1) pQ.2.2.2.2.2.1)
 (some (.inl (pQ.1,bX .i64 pQ.2.1 1,pQ.2.2.1,pQ.2.2.2.1,pQ.2.2.2.2.1,List.set pQ.2.2.2.2.2.1 (Int.toNat pQ.2.1) (-1),pQ.2.2.2.2.2.2.1,()))) none) none)
 (Option.map Sum.inr ((Gd pQ.1 pQ.2.2.2.1 pQ.2.2.2.2.1 pQ.2.2.2.2.2.1 pQ.2.2.2.2.2.2.1).bind λUA =>
 cond (and (Nat.beq (List.length pQ.2.2.2.2.2.1) (List.length UA.2.2.1)) true)
 (eT (S:=Int×Int×Int×(List Int)×(List DS1)×Unit) (R:=DS2×Int×Unit) (λsO =>
 cond (iLt sO.2.1 (ay sO.2.2.2.2.1))
 (eT (S:=Int×Int×Int×Int×(List Int)×(List DS1)×(List Int)×Unit) (R:=(Int×Int×Int×(List Int)×(List DS1)×Unit)⊕(DS2×Int×Unit)) (λfO =>
 cond (bnd fO.2.1 (ay fO.2.2.2.2.2.1))
 (cond (inB (Int.toNat fO.2.1) fO.2.2.2.2.2.1)
 (cond (iLt fO.2.2.1 (ay ((List.getD fO.2.2.2.2.2.1 (Int.toNat fO.2.1) (0,[],[],())).2.2.1)))
 (cond (bnd fO.2.1 (ay fO.2.2.2.2.2.1))
 (cond (inB (Int.toNat fO.2.1) fO.2.2.2.2.2.1)
 (cond (bnd fO.2.2.1 (ay ((List.getD fO.2.2.2.2.2.1 (Int.toNat fO.2.1) (0,[],[],())).2.2.1)))
 (cond (iLe 0 (atI ((List.getD fO.2.2.2.2.2.1 (Int.toNat fO.2.1) (0,[],[],())).2.2.1) fO.2.2.1 0))
 (cond (bnd (atI ((List.getD fO.2.2.2.2.2.1 (Int.toNat fO.2.1) (0,[],[],())).2.2.1) fO.2.2.1 0) (ay fO.2.2.2.2.1))
 (cond (inB (Int.toNat (atI ((List.getD fO.2.2.2.2.2.1 (Int.toNat fO.2.1) (0,[],[],())).2.2.1) fO.2.2.1 0)) fO.2.2.2.2.1)
 (cond (fits (List.length fO.2.2.2.2.2.2.1+List.length ([List.getD fO.2.2.2.2.1 (Int.toNat (atI ((List.getD fO.2.2.2.2.2.1 (Int.toNat fO.2.1) (0,[],[],())).2.2.1) fO.2.2.1 0)) 0]:List Int)) 8)
 (some (.inl (fO.1,fO.2.1,bX .i64 fO.2.2.1 1,fO.2.2.2.1,fO.2.2.2.2.1,fO.2.2.2.2.2.1,fO.2.2.2.2.2.2.1++([List.getD fO.2.2.2.2.1 (Int.toNat (atI ((List.getD fO.2.2.2.2.2.1 (Int.toNat fO.2.1) (0,[],[],())).2.2.1) fO.2.2.1 0)) 0]:List Int),()))) none) none) none)
 (cond (fits (List.length fO.2.2.2.2.2.2.1+List.length ([atI ((List.getD fO.2.2.2.2.2.1 (Int.toNat fO.2.1) (0,[],[],())).2.2.1) fO.2.2.1 0]:List Int)) 8)
 (some (.inl (fO.1,fO.2.1,bX .i64 fO.2.2.1 1,fO.2.2.2.1,fO.2.2.2.2.1,fO.2.2.2.2.2.1,fO.2.2.2.2.2.2.1++([atI ((List.getD fO.2.2.2.2.2.1 (Int.toNat fO.2.1) (0,[],[],())).2.2.1) fO.2.2.1 0]:List Int),()))) none)) none) none) none)
 (Option.map Sum.inr (cond (bnd fO.2.1 (ay fO.2.2.2.2.2.1))
 (cond (inB (Int.toNat fO.2.1) fO.2.2.2.2.2.1)
 (cond (bnd fO.2.1 (ay fO.2.2.2.2.2.1))
 (cond (inB (Int.toNat fO.2.1) fO.2.2.2.2.2.1)
 (cond (bnd fO.2.1 (ay fO.2.2.2.2.2.1))
 (cond (inB (Int.toNat fO.2.1) fO.2.2.2.2.2.1)
 (some (.inl (fO.1,bX .i64 fO.2.1 1,fO.2.2.2.1,fO.2.2.2.2.1,List.set fO.2.2.2.2.2.1 (Int.toNat fO.2.1) ((List.getD fO.2.2.2.2.2.1 (Int.toNat fO.2.1) (0,[],[],())).1,(List.getD fO.2.2.2.2.2.1 (Int.toNat fO.2.1) (0,[],[],())).2.1,fO.2.2.2.2.2.2.1,()),()))) none) none) none) none) none) none))) none) none)
 (sO.1,sO.2.1,0,sO.2.2.1,sO.2.2.2.1,sO.2.2.2.2.1,([]:List Int),()))
 (Option.map Sum.inr (cond (iLe 0 sO.1)
 (cond (bnd sO.1 (ay sO.2.2.2.1))
 (cond (inB (Int.toNat sO.1) sO.2.2.2.1)
 (some ((sO.2.2.2.2.1,List.getD sO.2.2.2.1 (Int.toNat sO.1) 0,()),0,())) none) none)
 (some ((sO.2.2.2.2.1,sO.1,()),0,())))))
 (pQ.1,0,pQ.2.2.1,UA.2.2.1,UA.2.2.2.2.1,())) none)))
 (EO.1,0,0,EO.2.1,EO.2.2.1,(List.replicate (Int.toNat (ay EO.2.2.2.1)) 0:List Int),EO.2.2.2.1,())) none)
def Za:Cfg:=⟨fG,bP,[],[Yu,Yp]⟩
theorem a7u(x:(List (List Int))×(List Int)×Unit):gK Za x48 107 [.c 4 2 true,.t 5] [(.list (.list (.int .i64))),(.list (.int .i64))] [tS2,(.int .i64)] x=m48 x.1 x.2.1:=by kernel_rfl
def i48:PI:=⟨48,[(.list (.list (.int .i64))),(.list (.int .i64))],[tS2,(.int .i64)],fun(x:(List (List Int))×(List Int)×Unit)=>m48 x.1 x.2.1⟩
theorem Y8:POk Tryd.prog (gx bP) i48:=pok mixed (jI a0N (jI a0J (bZ _ _)):dx _ (Za)) F48 (a7u)
def x18:XC:=xoF Tryd.f18 (.d 2 (.s (.d 1 (.b (.l [] ⟨58,[(2,(.int .i64)),(7,(.list (.list (.int .i64)))),(8,(.int .i64))],[(1,.ptr 0 0 0),(3,.ptr 1 0 0),(6,.ptr 2 0 0)],[.box 78 [.d (.list (.int .i64)),.d (.int .i64)],.box 24 [.d (.list tS0)],.box 28 [.nil,.d (.int .i64)]]⟩ .o))) (.d 1 (.s (.d 1 (.b (.l [.gh 11 3 (.int .i64)] ⟨58,[(2,(.int .i64)),(7,(.list (.list (.int .i64)))),(12,(.int .i64))],[(1,.ptr 0 0 0),(6,.ptr 1 0 0),(11,.row 2)],[.box 78 [.d (.list (.int .i64)),.d (.int .i64)],.box 28 [.nil,.d (.int .i64)],.row 3 (.int .i64) false]⟩ .o))) .o))))
theorem F18:Fn Tryd.prog 18 58 x18.er [.c 6 2 true]:=by unfold x18;exact fnX Tryd.func18 (by kernel_rfl) (by kernel_rfl) (by kernel_rfl) (by kernel_rfl)
def m18(a0:DS5)(a1:Int)(a2:List Int)(a3:Int):Option ((List DS1)×Int×(List Int)×Int×Unit) :=
 (m44 (a0.1,())).bind λa9f =>
 (m45 5 a2 a3).bind λUz =>
 eT (S:=Int×(List (List Int))×Int×(List Int)×Int×(List DS0)×Int×Unit) (R:=(List DS1)×Int×(List Int)×Int×Unit) (λsN =>
 cond (iLt 0 sN.2.2.1)
 ((m45 (ay sN.2.2.2.2.2.1) sN.2.2.2.1 sN.2.2.2.2.1).bind λGL =>
 (m24 (sN.2.2.2.2.2.1,()) GL.2.1 GL.2.2.1).bind λK7 =>
 cond (bnd GL.1 (ay K7.2.2.1))
 (cond (inB (Int.toNat GL.1) K7.2.2.1)
 ((m46 (sN.2.2.2.2.2.1,()) sN.2.1 GL.1 (List.getD K7.2.2.1 (Int.toNat GL.1) 0)).bind λa9e =>
 some (.inl (sN.1,a9e.1,fV .i64 sN.2.2.1 1,K7.1,K7.2.1,sN.2.2.2.2.2.1,sN.2.2.2.2.2.2.1,()))) none) none)
 (Option.map Sum.inr ((m47 sN.2.1).bind λa9d =>
 eT (S:=Int×(List (List Int))×Int×(List Int)×Int×Int×(List Int)×Unit) (R:=(List DS1)×Int×(List Int)×Int×Unit) (λvM =>
 cond (iLt 0 vM.2.2.1)
 ((m45 vM.1 vM.2.2.2.1 vM.2.2.2.2.1).bind λP9 =>
 cond (fits (List.length vM.2.2.2.2.2.2.1+List.length ([P9.1]:List Int)) 8)
 (some (.inl (vM.1,vM.2.1,fV .i64 vM.2.2.1 1,P9.2.1,P9.2.2.1,vM.2.2.2.2.2.1,vM.2.2.2.2.2.2.1++([P9.1]:List Int),()))) none)
 (Option.map Sum.inr ((m48 vM.2.1 vM.2.2.2.2.2.2.1).bind λa2g =>
 some (a2g.1.1,a2g.1.2.1,vM.2.2.2.1,vM.2.2.2.2.1,()))))
 (sN.1,sN.2.1,a9d.1,sN.2.2.2.1,sN.2.2.2.2.1,sN.2.2.2.2.2.2.1,([]:List Int),()))))
 (a1,a9f.1,Uz.1,Uz.2.1,Uz.2.2.1,a0.1,0,())
def Zz:Cfg:=⟨fG,bP,[i44,i46,i47,i48],[h24,h45]⟩
def Yn:Sh:=⟨3,[(0,tS5),(2,(.int .i64))],[(1,.ptr 0 0 0)],[.box 78 [.d (.list (.int .i64)),.d (.int .i64)]]⟩
def XY:Sh:=⟨1,[],[(0,.agg [.d (.list tS1),.d (.int .i64)])],[.box 78 [.d (.list (.int .i64)),.d (.int .i64)]]⟩
theorem a7S(x:DS5×Int×(List Int)×Int×Unit):oL Zz x18 58 [.c 6 2 true] [] Yn XY x=m18 x.1 x.2.1 x.2.2.1 x.2.2.2.1:=by kernel_rfl
def h18:HI:=⟨18,Yn,XY,fun(x:DS5×Int×(List Int)×Int×Unit)=>m18 x.1 x.2.1 x.2.2.1 x.2.2.2.1,[]⟩
theorem a6s:HOk Tryd.prog (gx bP) h18:=hok mixed (dw Qn (dw Y9 (dw Qm (dw Y8 (jI a6q (jI JH (bZ _ _)))))):dx _ (Zz)) F18 (a7S)
def x49:XC:=xoF Tryd.f49 (.d 1 (.s (.d 1 (.b (.l [] ⟨46,[(1,(.list (.list (.int .i64)))),(7,(.int .i64))],[(3,.ptr 0 0 0),(5,.ptr 1 0 0)],[.box 24 [.d (.list tS0)],.box 28 [.d (.list tS1),.d (.int .i64)]]⟩ (.d 1 (.s (.b (.d 1 (.b (.l [] ⟨46,[(1,(.list (.list (.int .i64)))),(7,(.int .i64)),(8,(.int .i64))],[(3,.ptr 0 0 0),(5,.ptr 1 0 0)],[.box 24 [.d (.list tS0)],.box 28 [.d (.list tS1),.d (.int .i64)]]⟩ .o)))) .o))))) .o))
theorem F49:Fn Tryd.prog 49 46 x49.er [.t 6]:=by unfold x49;exact fnX Tryd.func49 (by kernel_rfl) (by kernel_rfl) (by kernel_rfl) (by kernel_rfl)
def m49(a0:DS5)(a1:List (List Int))(a2:DS2):Option ((List (List Int))×Unit) :=
 eT (S:=(List (List Int))×Int×(List DS0)×(List DS1)×Int×Unit) (R:=(List (List Int))×Unit) (λD9 =>
 cond (iLt D9.2.1 (ay D9.2.2.2.1))
 (eT (S:=(List (List Int))×Int×Int×(List DS0)×(List DS1)×Int×Unit) (R:=((List (List Int))×Int×(List DS0)×(List DS1)×Int×Unit)⊕((List (List Int))×Unit)) (λmM =>
 cond (bnd mM.2.1 (ay mM.2.2.2.2.1))
 (cond (iLt mM.2.2.1 (ay ((atI mM.2.2.2.2.1 mM.2.1 (0,[],[],())).2.1)))
 (cond (bnd mM.2.1 (ay mM.2.2.2.2.1))
 (cond (bnd mM.2.1 (ay mM.2.2.2.2.1))
 (cond (bnd mM.2.2.1 (ay ((atI mM.2.2.2.2.1 mM.2.1 (0,[],[],())).2.1)))
 ((m46 (mM.2.2.2.1,()) mM.1 ((atI mM.2.2.2.2.1 mM.2.1 (0,[],[],())).1) (atI ((atI mM.2.2.2.2.1 mM.2.1 (0,[],[],())).2.1) mM.2.2.1 0)).bind λa9b =>
 some (.inl (a9b.1,mM.2.1,bX .i64 mM.2.2.1 1,mM.2.2.2.1,mM.2.2.2.2.1,mM.2.2.2.2.2.1,()))) none) none) none)
 (some (.inr (.inl (mM.1,bX .i64 mM.2.1 1,mM.2.2.2.1,mM.2.2.2.2.1,mM.2.2.2.2.2.1,()))))) none)
 (D9.1,D9.2.1,0,D9.2.2.1,D9.2.2.2.1,D9.2.2.2.2.1,()))
 (some (.inr (D9.1,()))))
 (a1,0,a0.1,a2.1,a2.2.1,())
def Z9:Cfg:=⟨fG,bP,[i46],[]⟩
theorem a7t(x:DS5×(List (List Int))×DS2×Unit):gK Z9 x49 46 [.t 6] [tS5,(.list (.list (.int .i64))),tS2] [(.list (.list (.int .i64)))] x=m49 x.1 x.2.1 x.2.2.1:=by kernel_rfl
def i49:PI:=⟨49,[tS5,(.list (.list (.int .i64))),tS2],[(.list (.list (.int .i64)))],fun(x:DS5×(List (List Int))×DS2×Unit)=>m49 x.1 x.2.1 x.2.2.1⟩
theorem Y7:POk Tryd.prog (gx bP) i49:=pok mixed (dw Y9 (bZ _ _):dx _ (Z9)) F49 (a7t)
def x20:XC:=xoF Tryd.f20 .o
theorem F20:Fn Tryd.prog 20 17 x20.er [.t 6]:=by unfold x20;exact fnX Tryd.func20 (by kernel_rfl) (by kernel_rfl) (by kernel_rfl) (by kernel_rfl)
def m20(a0:DS5)(a1:DS2)(a2:DS2):Option (Bool×Unit) :=
 (m44 (a0.1,())).bind λa9c =>
 (m49 (a0.1,()) a9c.1 (a1.1,a1.2.1,())).bind λa9a =>
 (m49 (a0.1,()) a9a.1 (a2.1,a2.2.1,())).bind λa88 =>
 (m47 a88.1).bind λa81 =>
 some (iLe a81.1 8192,())
def Zx:Cfg:=⟨fG,bP,[i44,i47,i49],[]⟩
theorem a7Q(x:DS5×DS2×DS2×Unit):gK Zx x20 17 [.t 6] [tS5,tS2,tS2] [.bool] x=m20 x.1 x.2.1 x.2.2.1:=by kernel_rfl
def i20:PI:=⟨20,[tS5,tS2,tS2],[.bool],fun(x:DS5×DS2×DS2×Unit)=>m20 x.1 x.2.1 x.2.2.1⟩
theorem a6e:POk Tryd.prog (gx bP) i20:=pok mixed (dw Qn (dw Qm (dw Y7 (bZ _ _))):dx _ (Zx)) F20 (a7Q)
def x84:XC:=xoF Tryd.f84 .o
theorem F84:Fn Tryd.prog 84 27 x84.er [.t 6]:=by unfold x84;exact fnX Tryd.func84 (by kernel_rfl) (by kernel_rfl) (by kernel_rfl) (by kernel_rfl)
def m84(a0:Int)(a1:Int)(a2:Int):Option (Int×Unit) :=
 cond (iEq a2 1)
 (some (pW a0 a1,()))
 (cond (iEq a2 2)
 (some (uT a0 a1,()))
 (cond (iEq a2 3)
 (cond (iNe a0 a1)
 (some (1,()))
 (some (0,())))
 (cond (iEq a0 0)
 (some (a1,()))
 (some (a0,())))))
def YI:Cfg:=⟨fG,bP,[],[]⟩
theorem a6W(x:Int×Int×Int×Unit):gK YI x84 27 [.t 6] [(.int .i64),(.int .i64),(.int .i64)] [(.int .i64)] x=m84 x.1 x.2.1 x.2.2.1:=by kernel_rfl
def i84:PI:=⟨84,[(.int .i64),(.int .i64),(.int .i64)],[(.int .i64)],fun(x:Int×Int×Int×Unit)=>m84 x.1 x.2.1 x.2.2.1⟩
theorem Y1:POk Tryd.prog (gx bP) i84:=pok mixed (bZ _ _:dx _ (YI)) F84 (a6W)
def x85:XC:=xoF Tryd.f85 .o
theorem F85:Fn Tryd.prog 85 14 x85.er [.c 4 3 true]:=by unfold x85;exact fnX Tryd.func85 (by kernel_rfl) (by kernel_rfl) (by kernel_rfl) (by kernel_rfl)
def m85(a0:List DS1)(a1:Int):Option (DS1×Unit) :=
 cond (iLt a1 0)
 (some ((6,([]:List Int),([a1]:List Int),()),()))
 (cond (bnd a1 (ay a0))
 (some (((atI a0 a1 (0,[],[],())).1,(atI a0 a1 (0,[],[],())).2.1,(atI a0 a1 (0,[],[],())).2.2.1,()),())) none)
def YH:Cfg:=⟨fG,bP,[],[]⟩
theorem a6V(x:(List DS1)×Int×Unit):gK YH x85 14 [.c 4 3 true] [(.list tS1),(.int .i64)] [tS1] x=m85 x.1 x.2.1:=by kernel_rfl
def i85:PI:=⟨85,[(.list tS1),(.int .i64)],[tS1],fun(x:(List DS1)×Int×Unit)=>m85 x.1 x.2.1⟩
theorem Y0:POk Tryd.prog (gx bP) i85:=pok mixed (bZ _ _:dx _ (YH)) F85 (a6V)
def Pp:XC:=xoF Tryd.f67 .o
theorem a8p:Fn Tryd.prog 67 9 Pp.er [.t 2]:=by unfold Pp;exact fnX Tryd.func67 (by kernel_rfl) (by kernel_rfl) (by kernel_rfl) (by kernel_rfl)
def Af(a0:List DS1)(a1:List DS1)(a2:Int)(a3:List DS6)(a4:List DS1)(a5:List DS7):Option (Bool×(List DS1)×(List DS1)×Int×(List DS6)×(List DS1)×(List DS7)×Unit) :=
 some (iLt 1000 (ay a4),a0,a1,a2,a3,a4,a5,())
def OP:Cfg:=⟨fG,bP,[],[]⟩
def Oo:Sh:=⟨1,[],[(0,.ptr 0 0 4)],[.box 107 [.d (.list tS1),.d (.list tS1),.d (.int .i64),.mp 1,.row 2,.mp 3],.map 102 tS3 (.int .i64),.row 70 tS1 false,.map 103 .str (.int .i64)]⟩
def NY:Sh:=⟨1,[(0,.bool)],[],[.box 107 [.d (.list tS1),.d (.list tS1),.d (.int .i64),.mp 1,.row 2,.mp 3],.map 102 tS3 (.int .i64),.row 70 tS1 false,.map 103 .str (.int .i64)]⟩
theorem a1q(x:(List DS1)×(List DS1)×Int×(List DS6)×(List DS1)×(List DS7)×Unit):oL OP Pp 9 [.t 2] [] Oo NY x=Af x.1 x.2.1 x.2.2.1 x.2.2.2.1 x.2.2.2.2.1 x.2.2.2.2.2.1:=by kernel_rfl
def JV:HI:=⟨67,Oo,NY,fun(x:(List DS1)×(List DS1)×Int×(List DS6)×(List DS1)×(List DS7)×Unit)=>Af x.1 x.2.1 x.2.2.1 x.2.2.2.1 x.2.2.2.2.1 x.2.2.2.2.2.1,[]⟩
theorem Hq:HOk Tryd.prog (gx bP) JV:=hok mixed (bZ _ _:dx _ (OP)) a8p (a1q)
def Pn:XC:=xoF Tryd.f86 (.d 3 (.s (.d 1 (.b (.l [.fz 28 (.list (.int .i64))] ⟨101,[(1,(.int .i64)),(28,(.list (.int .i64))),(29,(.int .i64)),(30,(.int .i64))],[(0,.ptr 0 0 4),(2,.row 1),(9,.row 6),(10,.row 7)],[.box 107 [.d (.list tS1),.d (.list tS1),.d (.int .i64),.mp 3,.row 4,.mp 5],.row 3 (.int .i64) false,.row 3 (.int .i64) true,.map 102 tS3 (.int .i64),.row 70 tS1 false,.map 103 .str (.int .i64),.row 3 (.int .i64) false,.row 3 (.int .i64) false]⟩ .o))) .o))
theorem a8n:Fn Tryd.prog 86 101 Pn.er [.t 8]:=by unfold Pn;exact fnX Tryd.func86 (by kernel_rfl) (by kernel_rfl) (by kernel_rfl) (by kernel_rfl)
def Eh(a0:Int)(a1:List DS1)(a2:List DS1)(a3:Int)(a4:List Int)(a5:List Int)(a6:List DS6)(a7:List DS1)(a8:List DS7):Option (Int×(List DS1)×(List DS1)×Int×(List Int)×(List Int)×(List DS6)×(List DS1)×(List DS7)×Unit) :=
 cond (and (and (iLe 0 0) (iLe 0 (ay a4))) (qQ (ay a4) 8))
 (cond (and (and (iLe 0 1) (iLe 1 (ay a5))) (qQ (ay a5) 8))
 (cond (bnd 0 (ay a5))
 (cond (inB (Int.toNat 0) a5)
 (cond (bnd 0 (ay (List.replicate (Int.toNat 1) 0:List Int)))
 (cond (inB (Int.toNat 0) (List.replicate (Int.toNat 1) 0:List Int))
 (cond (uM 1 ((List.length a5:Nat):Int) (List.length a5))
 (eT (S:=Int×(List Int)×Int×Int×(List DS1)×(List DS1)×Int×(List Int)×(List Int)×(List DS6)×(List DS1)×(List DS7)×(List Int)×(List Int)×Unit) (R:=Int×(List DS1)×(List DS1)×Int×(List Int)×(List Int)×(List DS6)×(List DS1)×(List DS7)×Unit) (λeu =>
 cond (iLt eu.2.2.2.1 eu.2.2.1)
 (cond (bnd eu.2.2.2.1 (ay eu.2.1))
 (cond (bnd (fV .i64 (ay eu.2.2.2.2.2.2.2.2.2.2.2.2.2.1) 1) (ay eu.2.2.2.2.2.2.2.2.2.2.2.2.2.1))
 (cond (inB (Int.toNat (fV .i64 (ay eu.2.2.2.2.2.2.2.2.2.2.2.2.2.1) 1)) eu.2.2.2.2.2.2.2.2.2.2.2.2.2.1)
 (cond (iNe (atI eu.2.1 eu.2.2.2.1 0) (List.getD eu.2.2.2.2.2.2.2.2.2.2.2.2.2.1 (Int.toNat (fV .i64 (ay eu.2.2.2.2.2.2.2.2.2.2.2.2.2.1) 1)) 0))
 (cond (bnd eu.2.2.2.1 (ay eu.2.2.2.2.2.2.2.1))
 (cond (inB (Int.toNat eu.2.2.2.1) eu.2.2.2.2.2.2.2.1)
 (cond (fits (List.length eu.2.2.2.2.2.2.2.2.2.2.2.2.1+List.length ([List.getD eu.2.2.2.2.2.2.2.1 (Int.toNat eu.2.2.2.1) 0]:List Int)) 8)
 (cond (fits (List.length eu.2.2.2.2.2.2.2.2.2.2.2.2.2.1+List.length ([atI eu.2.1 eu.2.2.2.1 0]:List Int)) 8)
 (some (.inl (eu.1,eu.2.1,eu.2.2.1,bX .i64 eu.2.2.2.1 1,eu.2.2.2.2.1,eu.2.2.2.2.2.1,eu.2.2.2.2.2.2.1,eu.2.2.2.2.2.2.2.1,eu.2.2.2.2.2.2.2.2.1,eu.2.2.2.2.2.2.2.2.2.1,eu.2.2.2.2.2.2.2.2.2.2.1,eu.2.2.2.2.2.2.2.2.2.2.2.1,eu.2.2.2.2.2.2.2.2.2.2.2.2.1++([List.getD eu.2.2.2.2.2.2.2.1 (Int.toNat eu.2.2.2.1) 0]:List Int),eu.2.2.2.2.2.2.2.2.2.2.2.2.2.1++([atI eu.2.1 eu.2.2.2.1 0]:List Int),()))) none) none) none) none)
 (some (.inl (eu.1,eu.2.1,eu.2.2.1,bX .i64 eu.2.2.2.1 1,eu.2.2.2.2.1,eu.2.2.2.2.2.1,eu.2.2.2.2.2.2.1,eu.2.2.2.2.2.2.2.1,eu.2.2.2.2.2.2.2.2.1,eu.2.2.2.2.2.2.2.2.2.1,eu.2.2.2.2.2.2.2.2.2.2.1,eu.2.2.2.2.2.2.2.2.2.2.2.1,eu.2.2.2.2.2.2.2.2.2.2.2.2.1,eu.2.2.2.2.2.2.2.2.2.2.2.2.2.1,())))) none) none) none)
 (Option.map Sum.inr (cond (iEq (ay eu.2.2.2.2.2.2.2.2.2.2.2.2.1) 0)
 (cond (bnd 0 (ay eu.2.2.2.2.2.2.2.2.2.2.2.2.2.1))
 (cond (inB (Int.toNat 0) eu.2.2.2.2.2.2.2.2.2.2.2.2.2.1)
 (some (List.getD eu.2.2.2.2.2.2.2.2.2.2.2.2.2.1 (Int.toNat 0) 0,eu.2.2.2.2.1,eu.2.2.2.2.2.1,eu.2.2.2.2.2.2.1,eu.2.2.2.2.2.2.2.1,eu.2.2.2.2.2.2.2.2.1,eu.2.2.2.2.2.2.2.2.2.1,eu.2.2.2.2.2.2.2.2.2.2.1,eu.2.2.2.2.2.2.2.2.2.2.2.1,())) none) none)
 ((Fe eu.1 eu.2.2.2.2.2.2.2.2.2.2.2.2.1 eu.2.2.2.2.2.2.2.2.2.2.2.2.2.1).bind λUy =>
 cond (not (yh sEq Uy.1 eu.2.2.2.2.2.2.2.2.2.2.2.1))
 (cond (fits (List.length eu.2.2.2.2.2.2.2.2.2.2.1+List.length ([(eu.1,eu.2.2.2.2.2.2.2.2.2.2.2.2.1,eu.2.2.2.2.2.2.2.2.2.2.2.2.2.1,())]:List DS1)) 56)
 (some (ay eu.2.2.2.2.2.2.2.2.2.2.1,eu.2.2.2.2.1,eu.2.2.2.2.2.1,eu.2.2.2.2.2.2.1,eu.2.2.2.2.2.2.2.1,eu.2.2.2.2.2.2.2.2.1,eu.2.2.2.2.2.2.2.2.2.1,eu.2.2.2.2.2.2.2.2.2.2.1++([(eu.1,eu.2.2.2.2.2.2.2.2.2.2.2.2.1,eu.2.2.2.2.2.2.2.2.2.2.2.2.2.1,())]:List DS1),pV sEq Uy.1 (ay eu.2.2.2.2.2.2.2.2.2.2.1) eu.2.2.2.2.2.2.2.2.2.2.2.1,())) none)
 (some (oO sEq Uy.1 eu.2.2.2.2.2.2.2.2.2.2.2.1 0,eu.2.2.2.2.1,eu.2.2.2.2.2.1,eu.2.2.2.2.2.2.1,eu.2.2.2.2.2.2.2.1,eu.2.2.2.2.2.2.2.2.1,eu.2.2.2.2.2.2.2.2.2.1,eu.2.2.2.2.2.2.2.2.2.2.1,eu.2.2.2.2.2.2.2.2.2.2.2.1,()))))))
 (a0,List.take (Int.toNat (((List.length a5:Nat):Int)-1)) (List.drop (Int.toNat 1) a5),(((Int.toNat (((List.length a5:Nat):Int)-1)):Nat):Int),0,a1,a2,a3,a4,a5,a6,a7,a8,(List.replicate (Int.toNat 0) 0:List Int),List.set (List.replicate (Int.toNat 1) 0:List Int) (Int.toNat 0) (List.getD a5 (Int.toNat 0) 0),())) none) none) none) none) none) none) none
def OM:Cfg:=⟨fG,bP,[QD],[]⟩
def Ol:Sh:=⟨4,[(1,(.int .i64))],[(0,.ptr 0 0 4),(2,.row 1),(3,.row 2)],[.box 107 [.d (.list tS1),.d (.list tS1),.d (.int .i64),.mp 3,.row 4,.mp 5],.row 3 (.int .i64) false,.row 3 (.int .i64) false,.map 102 tS3 (.int .i64),.row 70 tS1 false,.map 103 .str (.int .i64)]⟩
def NV:Sh:=⟨1,[(0,(.int .i64))],[],[.box 107 [.d (.list tS1),.d (.list tS1),.d (.int .i64),.mp 3,.row 4,.mp 5],.row 3 (.int .i64) false,.row 3 (.int .i64) true,.map 102 tS3 (.int .i64),.row 70 tS1 false,.map 103 .str (.int .i64)]⟩
theorem a1o(x:Int×(List DS1)×(List DS1)×Int×(List Int)×(List Int)×(List DS6)×(List DS1)×(List DS7)×Unit):oL OM Pn 101 [.t 8] [] Ol NV x=Eh x.1 x.2.1 x.2.2.1 x.2.2.2.1 x.2.2.2.2.1 x.2.2.2.2.2.1 x.2.2.2.2.2.2.1 x.2.2.2.2.2.2.2.1 x.2.2.2.2.2.2.2.2.1:=by kernel_rfl
def QN:HI:=⟨86,Ol,NV,fun(x:Int×(List DS1)×(List DS1)×Int×(List Int)×(List Int)×(List DS6)×(List DS1)×(List DS7)×Unit)=>Eh x.1 x.2.1 x.2.2.1 x.2.2.2.1 x.2.2.2.2.1 x.2.2.2.2.2.1 x.2.2.2.2.2.2.1 x.2.2.2.2.2.2.2.1 x.2.2.2.2.2.2.2.2.1,[1,2]⟩
theorem O7:HOk Tryd.prog (gx bP) QN:=hok mixed (dw Sz (bZ _ _):dx _ (OM)) a8n (a1o)
def x66:XC:=xoF Tryd.f66 (.d 4 (.j [] ⟨197,[],[(0,.ptr 0 0 0),(3,.ptr 4 0 0),(7,.ptr 5 0 0),(8,.ptr 6 0 0)],[.box 107 [.d (.list tS1),.d (.list tS1),.d (.int .i64),.mp 1,.row 2,.mp 3],.map 102 tS3 (.int .i64),.row 70 tS1 false,.map 103 .str (.int .i64),.row 109 tS3 true,.box 70 [.d (.int .i64),.d (.list (.int .i64)),.d (.list (.int .i64))],.box 70 [.d (.int .i64),.d (.list (.int .i64)),.d (.list (.int .i64))]]⟩ .o (.d 2 (.s (.b (.l [.gh 9 3 (.int .i64),.gh 10 3 (.int .i64)] ⟨197,[(11,(.int .i64)),(12,(.int .i64))],[(0,.ptr 0 0 0),(3,.ptr 4 0 0),(7,.ptr 5 0 0),(8,.ptr 6 0 0),(9,.row 7),(10,.row 8)],[.box 107 [.d (.list tS1),.d (.list tS1),.d (.int .i64),.mp 1,.row 2,.mp 3],.map 102 tS3 (.int .i64),.row 70 tS1 false,.map 103 .str (.int .i64),.row 109 tS3 true,.box 70 [.d (.int .i64),.d (.list (.int .i64)),.d (.list (.int .i64))],.box 70 [.d (.int .i64),.d (.list (.int .i64)),.d (.list (.int .i64))],.row 3 (.int .i64) false,.row 3 (.int .i64) false]⟩ (.b (.s (.u [0,1,2,3]) .o)))) (.s (.u [0,1,2,3,7,8]) .o)))))
theorem F66:Fn Tryd.prog 66 197 x66.er [.t 4]:=by unfold x66;exact fnX Tryd.func66 (by kernel_rfl) (by kernel_rfl) (by kernel_rfl) (by kernel_rfl)
def Hw(self:(DS3×(List DS1)×(List DS1)×Int×(List DS6)×(List DS1)×(List DS7)×Unit)->Option (Int×(List DS1)×(List DS1)×Int×(List DS6)×(List DS1)×(List DS7)×Unit))(a0:DS3)(a1:List DS1)(a2:List DS1)(a3:Int)(a4:List DS6)(a5:List DS1)(a6:List DS7):Option (Int×(List DS1)×(List DS1)×Int×(List DS6)×(List DS1)×(List DS7)×Unit) :=
 cond (cond (iLt a0.1 0) (iLt a0.2.1 0) false)
 ((m72 a0.1).bind λa8X =>
 (m72 a0.2.1).bind λa8W =>
 (m84 a8X.1 a8W.1 a3).bind λa8V =>
 (m40 a8V.1).bind λa8U =>
 some (a8U.1,a1,a2,a3,a4,a5,a6,()))
 (cond (yh (eqT tS3) a0 a4)
 (some (oO (eqT tS3) a0 a4 0,a1,a2,a3,a4,a5,a6,()))
 ((m85 a1 a0.1).bind λBN =>
 (m85 a2 a0.2.1).bind λBM =>
 Cm (S:=(List DS1)×(List DS1)×Int×(List DS6)×(List DS1)×(List DS7)×(List DS3)×Int×(List Int)×(List Int)×Int×(List Int)×(List Int)×Unit) (R:=Int×(List DS1)×(List DS1)×Int×(List DS6)×(List DS1)×(List DS7)×Unit)
 (cond (iLt BN.1.1 BM.1.1)
 (some (.inl (a1,a2,a3,a4,a5,a6,([a0]:List DS3),BN.1.1,BN.1.2.1,BN.1.2.2.1,BN.1.1,([]:List Int),([a0.2.1]:List Int),())))
 (cond (iLt BM.1.1 BN.1.1)
 (some (.inl (a1,a2,a3,a4,a5,a6,([a0]:List DS3),BM.1.1,([]:List Int),([a0.1]:List Int),BM.1.1,BM.1.2.1,BM.1.2.2.1,())))
 (some (.inl (a1,a2,a3,a4,a5,a6,([a0]:List DS3),BN.1.1,BN.1.2.1,BN.1.2.2.1,BM.1.1,BM.1.2.1,BM.1.2.2.1,())))))
 (λwU =>
 eT (S:=Int×Int×(List DS1)×(List DS1)×Int×(List DS6)×(List DS1)×(List DS7)×(List DS3)×Int×(List Int)×(List Int)×Int×(List Int)×(List Int)×(List Int)×(List Int)×Unit) (R:=Int×(List DS1)×(List DS1)×Int×(List DS6)×(List DS1)×(List DS7)×Unit) (λaP =>
 cond (bnd aP.1 (ay aP.2.2.2.2.2.2.2.2.2.2.2.1))
 (cond (bnd aP.2.1 (ay aP.2.2.2.2.2.2.2.2.2.2.2.2.2.2.1))
 ((self ((atI aP.2.2.2.2.2.2.2.2.2.2.2.1 aP.1 0,atI aP.2.2.2.2.2.2.2.2.2.2.2.2.2.2.1 aP.2.1 0,()),aP.2.2.1,aP.2.2.2.1,aP.2.2.2.2.1,aP.2.2.2.2.2.1,aP.2.2.2.2.2.2.1,aP.2.2.2.2.2.2.2.1,())).bind λqF =>
 cond (fits (List.length aP.2.2.2.2.2.2.2.2.2.2.2.2.2.2.2.2.1+List.length ([qF.1]:List Int)) 8)
 ((Af qF.2.1 qF.2.2.1 qF.2.2.2.1 qF.2.2.2.2.1 qF.2.2.2.2.2.1 qF.2.2.2.2.2.2.1).bind λfA =>
 cond fA.1
 ((m40 0).bind λa8T =>
 some (.inr (a8T.1,fA.2.1,fA.2.2.1,fA.2.2.2.1,fA.2.2.2.2.1,fA.2.2.2.2.2.1,fA.2.2.2.2.2.2.1,())))
 (cond (cond (iEq aP.1 (ay aP.2.2.2.2.2.2.2.2.2.2.1)) (iEq aP.2.1 (ay aP.2.2.2.2.2.2.2.2.2.2.2.2.2.1)) false)
 (Option.map Sum.inr ((Eh aP.2.2.2.2.2.2.2.2.2.1 fA.2.1 fA.2.2.1 fA.2.2.2.1 aP.2.2.2.2.2.2.2.2.2.2.2.2.2.2.2.1 (aP.2.2.2.2.2.2.2.2.2.2.2.2.2.2.2.2.1++([qF.1]:List Int)) fA.2.2.2.2.1 fA.2.2.2.2.2.1 fA.2.2.2.2.2.2.1).bind λAw =>
 cond (and (Nat.beq (List.length aP.2.2.2.2.2.2.2.2.2.2.2.2.2.2.2.1) (List.length Aw.2.2.2.2.1)) (and (Nat.beq (List.length (aP.2.2.2.2.2.2.2.2.2.2.2.2.2.2.2.2.1++([qF.1]:List Int))) (List.length Aw.2.2.2.2.2.1)) true))
 (cond (inB 0 aP.2.2.2.2.2.2.2.2.1)
 (some (Aw.1,Aw.2.1,Aw.2.2.1,Aw.2.2.2.1,pV (eqT tS3) (List.getD aP.2.2.2.2.2.2.2.2.1 0 (0,0,())) Aw.1 Aw.2.2.2.2.2.2.1,Aw.2.2.2.2.2.2.2.1,Aw.2.2.2.2.2.2.2.2.1,())) none) none))
 (cond (iEq aP.2.1 (ay aP.2.2.2.2.2.2.2.2.2.2.2.2.2.1))
 (cond (bnd aP.1 (ay aP.2.2.2.2.2.2.2.2.2.2.1))
 (cond (fits (List.length aP.2.2.2.2.2.2.2.2.2.2.2.2.2.2.2.1+List.length ([atI aP.2.2.2.2.2.2.2.2.2.2.1 aP.1 0]:List Int)) 8)
 (cond (or (bnd aP.1 (ay aP.2.2.2.2.2.2.2.2.2.2.1)) (not (bEq (iLt aP.1 (ay aP.2.2.2.2.2.2.2.2.2.2.1)) true)))
 (cond (cond (iLt aP.1 (ay aP.2.2.2.2.2.2.2.2.2.2.1)) (iEq (atI aP.2.2.2.2.2.2.2.2.2.2.1 aP.1 0) (atI aP.2.2.2.2.2.2.2.2.2.2.1 aP.1 0)) false)
 (cond (or (bnd aP.2.1 (ay aP.2.2.2.2.2.2.2.2.2.2.2.2.2.1)) (not (bEq (iLt aP.2.1 (ay aP.2.2.2.2.2.2.2.2.2.2.2.2.2.1)) true)))
 (cond (cond (iLt aP.2.1 (ay aP.2.2.2.2.2.2.2.2.2.2.2.2.2.1)) (iEq (atI aP.2.2.2.2.2.2.2.2.2.2.2.2.2.1 aP.2.1 0) (atI aP.2.2.2.2.2.2.2.2.2.2.1 aP.1 0)) false)
 (some (.inl (bX .i64 aP.1 1,bX .i64 aP.2.1 1,fA.2.1,fA.2.2.1,fA.2.2.2.1,fA.2.2.2.2.1,fA.2.2.2.2.2.1,fA.2.2.2.2.2.2.1,aP.2.2.2.2.2.2.2.2.1,aP.2.2.2.2.2.2.2.2.2.1,aP.2.2.2.2.2.2.2.2.2.2.1,aP.2.2.2.2.2.2.2.2.2.2.2.1,aP.2.2.2.2.2.2.2.2.2.2.2.2.1,aP.2.2.2.2.2.2.2.2.2.2.2.2.2.1,aP.2.2.2.2.2.2.2.2.2.2.2.2.2.2.1,aP.2.2.2.2.2.2.2.2.2.2.2.2.2.2.2.1++([atI aP.2.2.2.2.2.2.2.2.2.2.1 aP.1 0]:List Int),aP.2.2.2.2.2.2.2.2.2.2.2.2.2.2.2.2.1++([qF.1]:List Int),())))
 (some (.inl (bX .i64 aP.1 1,aP.2.1,fA.2.1,fA.2.2.1,fA.2.2.2.1,fA.2.2.2.2.1,fA.2.2.2.2.2.1,fA.2.2.2.2.2.2.1,aP.2.2.2.2.2.2.2.2.1,aP.2.2.2.2.2.2.2.2.2.1,aP.2.2.2.2.2.2.2.2.2.2.1,aP.2.2.2.2.2.2.2.2.2.2.2.1,aP.2.2.2.2.2.2.2.2.2.2.2.2.1,aP.2.2.2.2.2.2.2.2.2.2.2.2.2.1,aP.2.2.2.2.2.2.2.2.2.2.2.2.2.2.1,aP.2.2.2.2.2.2.2.2.2.2.2.2.2.2.2.1++([atI aP.2.2.2.2.2.2.2.2.2.2.1 aP.1 0]:List Int),aP.2.2.2.2.2.2.2.2.2.2.2.2.2.2.2.2.1++([qF.1]:List Int),())))) none)
 (cond (or (bnd aP.2.1 (ay aP.2.2.2.2.2.2.2.2.2.2.2.2.2.1)) (not (bEq (iLt aP.2.1 (ay aP.2.2.2.2.2.2.2.2.2.2.2.2.2.1)) true)))
 (cond (cond (iLt aP.2.1 (ay aP.2.2.2.2.2.2.2.2.2.2.2.2.2.1)) (iEq (atI aP.2.2.2.2.2.2.2.2.2.2.2.2.2.1 aP.2.1 0) (atI aP.2.2.2.2.2.2.2.2.2.2.1 aP.1 0)) false)
 (some (.inl (aP.1,bX .i64 aP.2.1 1,fA.2.1,fA.2.2.1,fA.2.2.2.1,fA.2.2.2.2.1,fA.2.2.2.2.2.1,fA.2.2.2.2.2.2.1,aP.2.2.2.2.2.2.2.2.1,aP.2.2.2.2.2.2.2.2.2.1,aP.2.2.2.2.2.2.2.2.2.2.1,aP.2.2.2.2.2.2.2.2.2.2.2.1,aP.2.2.2.2.2.2.2.2.2.2.2.2.1,aP.2.2.2.2.2.2.2.2.2.2.2.2.2.1,aP.2.2.2.2.2.2.2.2.2.2.2.2.2.2.1,aP.2.2.2.2.2.2.2.2.2.2.2.2.2.2.2.1++([atI aP.2.2.2.2.2.2.2.2.2.2.1 aP.1 0]:List Int),aP.2.2.2.2.2.2.2.2.2.2.2.2.2.2.2.2.1++([qF.1]:List Int),())))
 (some (.inl (aP.1,aP.2.1,fA.2.1,fA.2.2.1,fA.2.2.2.1,fA.2.2.2.2.1,fA.2.2.2.2.2.1,fA.2.2.2.2.2.2.1,aP.2.2.2.2.2.2.2.2.1,aP.2.2.2.2.2.2.2.2.2.1,aP.2.2.2.2.2.2.2.2.2.2.1,aP.2.2.2.2.2.2.2.2.2.2.2.1,aP.2.2.2.2.2.2.2.2.2.2.2.2.1,aP.2.2.2.2.2.2.2.2.2.2.2.2.2.1,aP.2.2.2.2.2.2.2.2.2.2.2.2.2.2.1,aP.2.2.2.2.2.2.2.2.2.2.2.2.2.2.2.1++([atI aP.2.2.2.2.2.2.2.2.2.2.1 aP.1 0]:List Int),aP.2.2.2.2.2.2.2.2.2.2.2.2.2.2.2.2.1++([qF.1]:List Int),())))) none)) none) none) none)
 (cond (or (bnd aP.1 (ay aP.2.2.2.2.2.2.2.2.2.2.1)) (not (bEq (iLt aP.1 (ay aP.2.2.2.2.2.2.2.2.2.2.1)) true)))
 (cond (or (bnd aP.2.1 (ay aP.2.2.2.2.2.2.2.2.2.2.2.2.2.1)) (not (bEq (iLt aP.1 (ay aP.2.2.2.2.2.2.2.2.2.2.1)) true)))
 (cond (cond (iLt aP.1 (ay aP.2.2.2.2.2.2.2.2.2.2.1)) (iLe (atI aP.2.2.2.2.2.2.2.2.2.2.1 aP.1 0) (atI aP.2.2.2.2.2.2.2.2.2.2.2.2.2.1 aP.2.1 0)) false)
 (cond (bnd aP.1 (ay aP.2.2.2.2.2.2.2.2.2.2.1))
 (cond (fits (List.length aP.2.2.2.2.2.2.2.2.2.2.2.2.2.2.2.1+List.length ([atI aP.2.2.2.2.2.2.2.2.2.2.1 aP.1 0]:List Int)) 8)
 (cond (or (bnd aP.1 (ay aP.2.2.2.2.2.2.2.2.2.2.1)) (not (bEq (iLt aP.1 (ay aP.2.2.2.2.2.2.2.2.2.2.1)) true)))
 (cond (cond (iLt aP.1 (ay aP.2.2.2.2.2.2.2.2.2.2.1)) (iEq (atI aP.2.2.2.2.2.2.2.2.2.2.1 aP.1 0) (atI aP.2.2.2.2.2.2.2.2.2.2.1 aP.1 0)) false)
 (cond (or (bnd aP.2.1 (ay aP.2.2.2.2.2.2.2.2.2.2.2.2.2.1)) (not (bEq (iLt aP.2.1 (ay aP.2.2.2.2.2.2.2.2.2.2.2.2.2.1)) true)))
 (cond (cond (iLt aP.2.1 (ay aP.2.2.2.2.2.2.2.2.2.2.2.2.2.1)) (iEq (atI aP.2.2.2.2.2.2.2.2.2.2.2.2.2.1 aP.2.1 0) (atI aP.2.2.2.2.2.2.2.2.2.2.1 aP.1 0)) false)
 (some (.inl (bX .i64 aP.1 1,bX .i64 aP.2.1 1,fA.2.1,fA.2.2.1,fA.2.2.2.1,fA.2.2.2.2.1,fA.2.2.2.2.2.1,fA.2.2.2.2.2.2.1,aP.2.2.2.2.2.2.2.2.1,aP.2.2.2.2.2.2.2.2.2.1,aP.2.2.2.2.2.2.2.2.2.2.1,aP.2.2.2.2.2.2.2.2.2.2.2.1,aP.2.2.2.2.2.2.2.2.2.2.2.2.1,aP.2.2.2.2.2.2.2.2.2.2.2.2.2.1,aP.2.2.2.2.2.2.2.2.2.2.2.2.2.2.1,aP.2.2.2.2.2.2.2.2.2.2.2.2.2.2.2.1++([atI aP.2.2.2.2.2.2.2.2.2.2.1 aP.1 0]:List Int),aP.2.2.2.2.2.2.2.2.2.2.2.2.2.2.2.2.1++([qF.1]:List Int),())))
 (some (.inl (bX .i64 aP.1 1,aP.2.1,fA.2.1,fA.2.2.1,fA.2.2.2.1,fA.2.2.2.2.1,fA.2.2.2.2.2.1,fA.2.2.2.2.2.2.1,aP.2.2.2.2.2.2.2.2.1,aP.2.2.2.2.2.2.2.2.2.1,aP.2.2.2.2.2.2.2.2.2.2.1,aP.2.2.2.2.2.2.2.2.2.2.2.1,aP.2.2.2.2.2.2.2.2.2.2.2.2.1,aP.2.2.2.2.2.2.2.2.2.2.2.2.2.1,aP.2.2.2.2.2.2.2.2.2.2.2.2.2.2.1,aP.2.2.2.2.2.2.2.2.2.2.2.2.2.2.2.1++([atI aP.2.2.2.2.2.2.2.2.2.2.1 aP.1 0]:List Int),aP.2.2.2.2.2.2.2.2.2.2.2.2.2.2.2.2.1++([qF.1]:List Int),())))) none)
 (cond (or (bnd aP.2.1 (ay aP.2.2.2.2.2.2.2.2.2.2.2.2.2.1)) (not (bEq (iLt aP.2.1 (ay aP.2.2.2.2.2.2.2.2.2.2.2.2.2.1)) true)))
 (cond (cond (iLt aP.2.1 (ay aP.2.2.2.2.2.2.2.2.2.2.2.2.2.1)) (iEq (atI aP.2.2.2.2.2.2.2.2.2.2.2.2.2.1 aP.2.1 0) (atI aP.2.2.2.2.2.2.2.2.2.2.1 aP.1 0)) false)
 (some (.inl (aP.1,bX .i64 aP.2.1 1,fA.2.1,fA.2.2.1,fA.2.2.2.1,fA.2.2.2.2.1,fA.2.2.2.2.2.1,fA.2.2.2.2.2.2.1,aP.2.2.2.2.2.2.2.2.1,aP.2.2.2.2.2.2.2.2.2.1,aP.2.2.2.2.2.2.2.2.2.2.1,aP.2.2.2.2.2.2.2.2.2.2.2.1,aP.2.2.2.2.2.2.2.2.2.2.2.2.1,aP.2.2.2.2.2.2.2.2.2.2.2.2.2.1,aP.2.2.2.2.2.2.2.2.2.2.2.2.2.2.1,aP.2.2.2.2.2.2.2.2.2.2.2.2.2.2.2.1++([atI aP.2.2.2.2.2.2.2.2.2.2.1 aP.1 0]:List Int),aP.2.2.2.2.2.2.2.2.2.2.2.2.2.2.2.2.1++([qF.1]:List Int),())))
 (some (.inl (aP.1,aP.2.1,fA.2.1,fA.2.2.1,fA.2.2.2.1,fA.2.2.2.2.1,fA.2.2.2.2.2.1,fA.2.2.2.2.2.2.1,aP.2.2.2.2.2.2.2.2.1,aP.2.2.2.2.2.2.2.2.2.1,aP.2.2.2.2.2.2.2.2.2.2.1,aP.2.2.2.2.2.2.2.2.2.2.2.1,aP.2.2.2.2.2.2.2.2.2.2.2.2.1,aP.2.2.2.2.2.2.2.2.2.2.2.2.2.1,aP.2.2.2.2.2.2.2.2.2.2.2.2.2.2.1,aP.2.2.2.2.2.2.2.2.2.2.2.2.2.2.2.1++([atI aP.2.2.2.2.2.2.2.2.2.2.1 aP.1 0]:List Int),aP.2.2.2.2.2.2.2.2.2.2.2.2.2.2.2.2.1++([qF.1]:List Int),())))) none)) none) none) none)
 (cond (bnd aP.2.1 (ay aP.2.2.2.2.2.2.2.2.2.2.2.2.2.1))
 (cond (fits (List.length aP.2.2.2.2.2.2.2.2.2.2.2.2.2.2.2.1+List.length ([atI aP.2.2.2.2.2.2.2.2.2.2.2.2.2.1 aP.2.1 0]:List Int)) 8)
 (cond (or (bnd aP.1 (ay aP.2.2.2.2.2.2.2.2.2.2.1)) (not (bEq (iLt aP.1 (ay aP.2.2.2.2.2.2.2.2.2.2.1)) true)))
 (cond (cond (iLt aP.1 (ay aP.2.2.2.2.2.2.2.2.2.2.1)) (iEq (atI aP.2.2.2.2.2.2.2.2.2.2.1 aP.1 0) (atI aP.2.2.2.2.2.2.2.2.2.2.2.2.2.1 aP.2.1 0)) false)
 (cond (or (bnd aP.2.1 (ay aP.2.2.2.2.2.2.2.2.2.2.2.2.2.1)) (not (bEq (iLt aP.2.1 (ay aP.2.2.2.2.2.2.2.2.2.2.2.2.2.1)) true)))
 (cond (cond (iLt aP.2.1 (ay aP.2.2.2.2.2.2.2.2.2.2.2.2.2.1)) (iEq (atI aP.2.2.2.2.2.2.2.2.2.2.2.2.2.1 aP.2.1 0) (atI aP.2.2.2.2.2.2.2.2.2.2.2.2.2.1 aP.2.1 0)) false)
 (some (.inl (bX .i64 aP.1 1,bX .i64 aP.2.1 1,fA.2.1,fA.2.2.1,fA.2.2.2.1,fA.2.2.2.2.1,fA.2.2.2.2.2.1,fA.2.2.2.2.2.2.1,aP.2.2.2.2.2.2.2.2.1,aP.2.2.2.2.2.2.2.2.2.1,aP.2.2.2.2.2.2.2.2.2.2.1,aP.2.2.2.2.2.2.2.2.2.2.2.1,aP.2.2.2.2.2.2.2.2.2.2.2.2.1,aP.2.2.2.2.2.2.2.2.2.2.2.2.2.1,aP.2.2.2.2.2.2.2.2.2.2.2.2.2.2.1,aP.2.2.2.2.2.2.2.2.2.2.2.2.2.2.2.1++([atI aP.2.2.2.2.2.2.2.2.2.2.2.2.2.1 aP.2.1 0]:List Int),aP.2.2.2.2.2.2.2.2.2.2.2.2.2.2.2.2.1++([qF.1]:List Int),())))
 (some (.inl (bX .i64 aP.1 1,aP.2.1,fA.2.1,fA.2.2.1,fA.2.2.2.1,fA.2.2.2.2.1,fA.2.2.2.2.2.1,fA.2.2.2.2.2.2.1,aP.2.2.2.2.2.2.2.2.1,aP.2.2.2.2.2.2.2.2.2.1,aP.2.2.2.2.2.2.2.2.2.2.1,aP.2.2.2.2.2.2.2.2.2.2.2.1,aP.2.2.2.2.2.2.2.2.2.2.2.2.1,aP.2.2.2.2.2.2.2.2.2.2.2.2.2.1,aP.2.2.2.2.2.2.2.2.2.2.2.2.2.2.1,aP.2.2.2.2.2.2.2.2.2.2.2.2.2.2.2.1++([atI aP.2.2.2.2.2.2.2.2.2.2.2.2.2.1 aP.2.1 0]:List Int),aP.2.2.2.2.2.2.2.2.2.2.2.2.2.2.2.2.1++([qF.1]:List Int),())))) none)
 (cond (or (bnd aP.2.1 (ay aP.2.2.2.2.2.2.2.2.2.2.2.2.2.1)) (not (bEq (iLt aP.2.1 (ay aP.2.2.2.2.2.2.2.2.2.2.2.2.2.1)) true)))
 (cond (cond (iLt aP.2.1 (ay aP.2.2.2.2.2.2.2.2.2.2.2.2.2.1)) (iEq (atI aP.2.2.2.2.2.2.2.2.2.2.2.2.2.1 aP.2.1 0) (atI aP.2.2.2.2.2.2.2.2.2.2.2.2.2.1 aP.2.1 0)) false)
 (some (.inl (aP.1,bX .i64 aP.2.1 1,fA.2.1,fA.2.2.1,fA.2.2.2.1,fA.2.2.2.2.1,fA.2.2.2.2.2.1,fA.2.2.2.2.2.2.1,aP.2.2.2.2.2.2.2.2.1,aP.2.2.2.2.2.2.2.2.2.1,aP.2.2.2.2.2.2.2.2.2.2.1,aP.2.2.2.2.2.2.2.2.2.2.2.1,aP.2.2.2.2.2.2.2.2.2.2.2.2.1,aP.2.2.2.2.2.2.2.2.2.2.2.2.2.1,aP.2.2.2.2.2.2.2.2.2.2.2.2.2.2.1,aP.2.2.2.2.2.2.2.2.2.2.2.2.2.2.2.1++([atI aP.2.2.2.2.2.2.2.2.2.2.2.2.2.1 aP.2.1 0]:List Int),aP.2.2.2.2.2.2.2.2.2.2.2.2.2.2.2.2.1++([qF.1]:List Int),())))
 (some (.inl (aP.1,aP.2.1,fA.2.1,fA.2.2.1,fA.2.2.2.1,fA.2.2.2.2.1,fA.2.2.2.2.2.1,fA.2.2.2.2.2.2.1,aP.2.2.2.2.2.2.2.2.1,aP.2.2.2.2.2.2.2.2.2.1,aP.2.2.2.2.2.2.2.2.2.2.1,aP.2.2.2.2.2.2.2.2.2.2.2.1,aP.2.2.2.2.2.2.2.2.2.2.2.2.1,aP.2.2.2.2.2.2.2.2.2.2.2.2.2.1,aP.2.2.2.2.2.2.2.2.2.2.2.2.2.2.1,aP.2.2.2.2.2.2.2.2.2.2.2.2.2.2.2.1++([atI aP.2.2.2.2.2.2.2.2.2.2.2.2.2.1 aP.2.1 0]:List Int),aP.2.2.2.2.2.2.2.2.2.2.2.2.2.2.2.2.1++([qF.1]:List Int),())))) none)) none) none) none)) none) none)))) none) none) none)
 (0,0,wU.1,wU.2.1,wU.2.2.1,wU.2.2.2.1,wU.2.2.2.2.1,wU.2.2.2.2.2.1,wU.2.2.2.2.2.2.1,wU.2.2.2.2.2.2.2.1,wU.2.2.2.2.2.2.2.2.1,wU.2.2.2.2.2.2.2.2.2.1,wU.2.2.2.2.2.2.2.2.2.2.1,wU.2.2.2.2.2.2.2.2.2.2.2.1,wU.2.2.2.2.2.2.2.2.2.2.2.2.1,([]:List Int),([]:List Int),()))))
def JL:Sh:=⟨2,[(1,tS3)],[(0,.ptr 0 0 0)],[.box 107 [.d (.list tS1),.d (.list tS1),.d (.int .i64),.mp 1,.row 2,.mp 3],.map 102 tS3 (.int .i64),.row 70 tS1 false,.map 103 .str (.int .i64)]⟩
def JC:Sh:=⟨1,[(0,(.int .i64))],[],[.box 107 [.d (.list tS1),.d (.list tS1),.d (.int .i64),.mp 1,.row 2,.mp 3],.map 102 tS3 (.int .i64),.row 70 tS1 false,.map 103 .str (.int .i64)]⟩
def YU(self:(DS3×(List DS1)×(List DS1)×Int×(List DS6)×(List DS1)×(List DS7)×Unit)->Option (Int×(List DS1)×(List DS1)×Int×(List DS6)×(List DS1)×(List DS7)×Unit)):Cfg:=⟨fG,bP,[i40,i72,i84,i85],[⟨66,JL,JC,self,[]⟩,JV,QN]⟩
theorem a7i(self:(DS3×(List DS1)×(List DS1)×Int×(List DS6)×(List DS1)×(List DS7)×Unit)->Option (Int×(List DS1)×(List DS1)×Int×(List DS6)×(List DS1)×(List DS7)×Unit))(x:DS3×(List DS1)×(List DS1)×Int×(List DS6)×(List DS1)×(List DS7)×Unit):oL (YU self) x66 197 [.t 4] [] JL JC x=Hw self x.1 x.2.1 x.2.2.1 x.2.2.2.1 x.2.2.2.2.1 x.2.2.2.2.2.1 x.2.2.2.2.2.2.1:=by kernel_rfl
def m66(a0:DS3)(a1:List DS1)(a2:List DS1)(a3:Int)(a4:List DS6)(a5:List DS1)(a6:List DS7):Option (Int×(List DS1)×(List DS1)×Int×(List DS6)×(List DS1)×(List DS7)×Unit):=wW (λself (x:DS3×(List DS1)×(List DS1)×Int×(List DS6)×(List DS1)×(List DS7)×Unit)=>Hw self x.1 x.2.1 x.2.2.1 x.2.2.2.1 x.2.2.2.2.1 x.2.2.2.2.2.1 x.2.2.2.2.2.2.1) (a0,a1,a2,a3,a4,a5,a6,())
def h66:HI:=⟨66,JL,JC,fun(x:DS3×(List DS1)×(List DS1)×Int×(List DS6)×(List DS1)×(List DS7)×Unit)=>m66 x.1 x.2.1 x.2.2.1 x.2.2.2.1 x.2.2.2.2.1 x.2.2.2.2.2.1 x.2.2.2.2.2.2.1,[]⟩
theorem a6m:HOk Tryd.prog (gx bP) h66:=Bw (f:=66) (ish:=JL) (osh:=JC) (G:=λself (x:DS3×(List DS1)×(List DS1)×Int×(List DS6)×(List DS1)×(List DS7)×Unit)=>Hw self x.1 x.2.1 x.2.2.1 x.2.2.2.1 x.2.2.2.2.1 x.2.2.2.2.2.1 x.2.2.2.2.2.2.1) F66.callable (λrun hr=>hok mixed (dw G8 (dw Qk (dw Y1 (dw Y0 (jI hr (jI Hq (jI O7 (bZ _ _))))))):dx _ (YU run)) F66 (a7i run))
def Pq:XC:=xoF Tryd.f66 (.d 4 (.j [] ⟨197,[],[(0,.ptr 0 0 0),(3,.ptr 3 0 0),(7,.ptr 4 0 0),(8,.ptr 5 0 0)],[.box 107 [.d (.list tS1),.d (.list tS1),.d (.int .i64),.mp 1,.nil,.mp 2],.map 102 tS3 (.int .i64),.map 103 .str (.int .i64),.row 109 tS3 true,.box 70 [.d (.int .i64),.d (.list (.int .i64)),.d (.list (.int .i64))],.box 70 [.d (.int .i64),.d (.list (.int .i64)),.d (.list (.int .i64))]]⟩ .o (.d 2 (.s (.b (.l [.gh 9 3 (.int .i64),.gh 10 3 (.int .i64),.ghc 0 4 70 tS1] ⟨197,[(11,(.int .i64)),(12,(.int .i64))],[(0,.ptr 0 0 0),(3,.ptr 3 0 0),(7,.ptr 4 0 0),(8,.ptr 5 0 0),(9,.row 6),(10,.row 7)],[.box 107 [.d (.list tS1),.d (.list tS1),.d (.int .i64),.mp 1,.row 8,.mp 2],.map 102 tS3 (.int .i64),.map 103 .str (.int .i64),.row 109 tS3 true,.box 70 [.d (.int .i64),.d (.list (.int .i64)),.d (.list (.int .i64))],.box 70 [.d (.int .i64),.d (.list (.int .i64)),.d (.list (.int .i64))],.row 3 (.int .i64) false,.row 3 (.int .i64) false,.row 70 tS1 false]⟩ (.b (.s (.u [0,1,2,8]) .o)))) (.s (.u [0,1,2,6,7,8]) .o)))))
theorem a8q:Fn Tryd.prog 66 197 Pq.er [.t 4]:=by unfold Pq;exact fnX Tryd.func66 (by kernel_rfl) (by kernel_rfl) (by kernel_rfl) (by kernel_rfl)
def Ei(a0:DS3)(a1:List DS1)(a2:List DS1)(a3:Int)(a4:List DS6)(a5:List DS7):Option (Int×(List DS1)×(List DS1)×Int×(List DS6)×(List DS7)×(List DS1)×Unit) :=
 cond (cond (iLt a0.1 0) (iLt a0.2.1 0) false)
 ((m72 a0.1).bind λa8S =>
 (m72 a0.2.1).bind λa8R =>
 (m84 a8S.1 a8R.1 a3).bind λa8Q =>
 (m40 a8Q.1).bind λa8P =>
 some (a8P.1,a1,a2,a3,a4,a5,([]:List DS1),()))
 (cond (yh (eqT tS3) a0 a4)
 (some (oO (eqT tS3) a0 a4 0,a1,a2,a3,a4,a5,([]:List DS1),()))
 ((m85 a1 a0.1).bind λBL =>
 (m85 a2 a0.2.1).bind λBK =>
 Cm (S:=(List DS1)×(List DS1)×Int×(List DS6)×(List DS7)×(List DS3)×Int×(List Int)×(List Int)×Int×(List Int)×(List Int)×Unit) (R:=Int×(List DS1)×(List DS1)×Int×(List DS6)×(List DS7)×(List DS1)×Unit)
 (cond (iLt BL.1.1 BK.1.1)
 (some (.inl (a1,a2,a3,a4,a5,([a0]:List DS3),BL.1.1,BL.1.2.1,BL.1.2.2.1,BL.1.1,([]:List Int),([a0.2.1]:List Int),())))
 (cond (iLt BK.1.1 BL.1.1)
 (some (.inl (a1,a2,a3,a4,a5,([a0]:List DS3),BK.1.1,([]:List Int),([a0.1]:List Int),BK.1.1,BK.1.2.1,BK.1.2.2.1,())))
 (some (.inl (a1,a2,a3,a4,a5,([a0]:List DS3),BL.1.1,BL.1.2.1,BL.1.2.2.1,BK.1.1,BK.1.2.1,BK.1.2.2.1,())))))
 (λyu =>
 eT (S:=Int×Int×(List DS1)×(List DS1)×Int×(List DS6)×(List DS7)×(List DS3)×Int×(List Int)×(List Int)×Int×(List Int)×(List Int)×(List Int)×(List Int)×(List DS1)×Unit) (R:=Int×(List DS1)×(List DS1)×Int×(List DS6)×(List DS7)×(List DS1)×Unit) (λaO =>
 cond (bnd aO.1 (ay aO.2.2.2.2.2.2.2.2.2.2.1))
 (cond (bnd aO.2.1 (ay aO.2.2.2.2.2.2.2.2.2.2.2.2.2.1))
 ((m66 (atI aO.2.2.2.2.2.2.2.2.2.2.1 aO.1 0,atI aO.2.2.2.2.2.2.2.2.2.2.2.2.2.1 aO.2.1 0,()) aO.2.2.1 aO.2.2.2.1 aO.2.2.2.2.1 aO.2.2.2.2.2.1 aO.2.2.2.2.2.2.2.2.2.2.2.2.2.2.2.2.1 aO.2.2.2.2.2.2.1).bind λqE =>
 cond (fits (List.length aO.2.2.2.2.2.2.2.2.2.2.2.2.2.2.2.1+List.length ([qE.1]:List Int)) 8)
 ((Af qE.2.1 qE.2.2.1 qE.2.2.2.1 qE.2.2.2.2.1 qE.2.2.2.2.2.1 qE.2.2.2.2.2.2.1).bind λfu =>
 cond fu.1
 ((m40 0).bind λa8O =>
 some (.inr (a8O.1,fu.2.1,fu.2.2.1,fu.2.2.2.1,fu.2.2.2.2.1,fu.2.2.2.2.2.2.1,fu.2.2.2.2.2.1,())))
 (cond (cond (iEq aO.1 (ay aO.2.2.2.2.2.2.2.2.2.1)) (iEq aO.2.1 (ay aO.2.2.2.2.2.2.2.2.2.2.2.2.1)) false)
 (Option.map Sum.inr ((Eh aO.2.2.2.2.2.2.2.2.1 fu.2.1 fu.2.2.1 fu.2.2.2.1 aO.2.2.2.2.2.2.2.2.2.2.2.2.2.2.1 (aO.2.2.2.2.2.2.2.2.2.2.2.2.2.2.2.1++([qE.1]:List Int)) fu.2.2.2.2.1 fu.2.2.2.2.2.1 fu.2.2.2.2.2.2.1).bind λAv =>
 cond (and (Nat.beq (List.length aO.2.2.2.2.2.2.2.2.2.2.2.2.2.2.1) (List.length Av.2.2.2.2.1)) (and (Nat.beq (List.length (aO.2.2.2.2.2.2.2.2.2.2.2.2.2.2.2.1++([qE.1]:List Int))) (List.length Av.2.2.2.2.2.1)) true))
 (cond (inB 0 aO.2.2.2.2.2.2.2.1)
 (some (Av.1,Av.2.1,Av.2.2.1,Av.2.2.2.1,pV (eqT tS3) (List.getD aO.2.2.2.2.2.2.2.1 0 (0,0,())) Av.1 Av.2.2.2.2.2.2.1,Av.2.2.2.2.2.2.2.2.1,Av.2.2.2.2.2.2.2.1,())) none) none))
 (cond (iEq aO.2.1 (ay aO.2.2.2.2.2.2.2.2.2.2.2.2.1))
 (cond (bnd aO.1 (ay aO.2.2.2.2.2.2.2.2.2.1))
 (cond (fits (List.length aO.2.2.2.2.2.2.2.2.2.2.2.2.2.2.1+List.length ([atI aO.2.2.2.2.2.2.2.2.2.1 aO.1 0]:List Int)) 8)
 (cond (or (bnd aO.1 (ay aO.2.2.2.2.2.2.2.2.2.1)) (not (bEq (iLt aO.1 (ay aO.2.2.2.2.2.2.2.2.2.1)) true)))
 (cond (cond (iLt aO.1 (ay aO.2.2.2.2.2.2.2.2.2.1)) (iEq (atI aO.2.2.2.2.2.2.2.2.2.1 aO.1 0) (atI aO.2.2.2.2.2.2.2.2.2.1 aO.1 0)) false)
 (cond (or (bnd aO.2.1 (ay aO.2.2.2.2.2.2.2.2.2.2.2.2.1)) (not (bEq (iLt aO.2.1 (ay aO.2.2.2.2.2.2.2.2.2.2.2.2.1)) true)))
 (cond (cond (iLt aO.2.1 (ay aO.2.2.2.2.2.2.2.2.2.2.2.2.1)) (iEq (atI aO.2.2.2.2.2.2.2.2.2.2.2.2.1 aO.2.1 0) (atI aO.2.2.2.2.2.2.2.2.2.1 aO.1 0)) false)
 (some (.inl (bX .i64 aO.1 1,bX .i64 aO.2.1 1,fu.2.1,fu.2.2.1,fu.2.2.2.1,fu.2.2.2.2.1,fu.2.2.2.2.2.2.1,aO.2.2.2.2.2.2.2.1,aO.2.2.2.2.2.2.2.2.1,aO.2.2.2.2.2.2.2.2.2.1,aO.2.2.2.2.2.2.2.2.2.2.1,aO.2.2.2.2.2.2.2.2.2.2.2.1,aO.2.2.2.2.2.2.2.2.2.2.2.2.1,aO.2.2.2.2.2.2.2.2.2.2.2.2.2.1,aO.2.2.2.2.2.2.2.2.2.2.2.2.2.2.1++([atI aO.2.2.2.2.2.2.2.2.2.1 aO.1 0]:List Int),aO.2.2.2.2.2.2.2.2.2.2.2.2.2.2.2.1++([qE.1]:List Int),fu.2.2.2.2.2.1,())))
 (some (.inl (bX .i64 aO.1 1,aO.2.1,fu.2.1,fu.2.2.1,fu.2.2.2.1,fu.2.2.2.2.1,fu.2.2.2.2.2.2.1,aO.2.2.2.2.2.2.2.1,aO.2.2.2.2.2.2.2.2.1,aO.2.2.2.2.2.2.2.2.2.1,aO.2.2.2.2.2.2.2.2.2.2.1,aO.2.2.2.2.2.2.2.2.2.2.2.1,aO.2.2.2.2.2.2.2.2.2.2.2.2.1,aO.2.2.2.2.2.2.2.2.2.2.2.2.2.1,aO.2.2.2.2.2.2.2.2.2.2.2.2.2.2.1++([atI aO.2.2.2.2.2.2.2.2.2.1 aO.1 0]:List Int),aO.2.2.2.2.2.2.2.2.2.2.2.2.2.2.2.1++([qE.1]:List Int),fu.2.2.2.2.2.1,())))) none)
 (cond (or (bnd aO.2.1 (ay aO.2.2.2.2.2.2.2.2.2.2.2.2.1)) (not (bEq (iLt aO.2.1 (ay aO.2.2.2.2.2.2.2.2.2.2.2.2.1)) true)))
 (cond (cond (iLt aO.2.1 (ay aO.2.2.2.2.2.2.2.2.2.2.2.2.1)) (iEq (atI aO.2.2.2.2.2.2.2.2.2.2.2.2.1 aO.2.1 0) (atI aO.2.2.2.2.2.2.2.2.2.1 aO.1 0)) false)
 (some (.inl (aO.1,bX .i64 aO.2.1 1,fu.2.1,fu.2.2.1,fu.2.2.2.1,fu.2.2.2.2.1,fu.2.2.2.2.2.2.1,aO.2.2.2.2.2.2.2.1,aO.2.2.2.2.2.2.2.2.1,aO.2.2.2.2.2.2.2.2.2.1,aO.2.2.2.2.2.2.2.2.2.2.1,aO.2.2.2.2.2.2.2.2.2.2.2.1,aO.2.2.2.2.2.2.2.2.2.2.2.2.1,aO.2.2.2.2.2.2.2.2.2.2.2.2.2.1,aO.2.2.2.2.2.2.2.2.2.2.2.2.2.2.1++([atI aO.2.2.2.2.2.2.2.2.2.1 aO.1 0]:List Int),aO.2.2.2.2.2.2.2.2.2.2.2.2.2.2.2.1++([qE.1]:List Int),fu.2.2.2.2.2.1,())))
 (some (.inl (aO.1,aO.2.1,fu.2.1,fu.2.2.1,fu.2.2.2.1,fu.2.2.2.2.1,fu.2.2.2.2.2.2.1,aO.2.2.2.2.2.2.2.1,aO.2.2.2.2.2.2.2.2.1,aO.2.2.2.2.2.2.2.2.2.1,aO.2.2.2.2.2.2.2.2.2.2.1,aO.2.2.2.2.2.2.2.2.2.2.2.1,aO.2.2.2.2.2.2.2.2.2.2.2.2.1,aO.2.2.2.2.2.2.2.2.2.2.2.2.2.1,aO.2.2.2.2.2.2.2.2.2.2.2.2.2.2.1++([atI aO.2.2.2.2.2.2.2.2.2.1 aO.1 0]:List Int),aO.2.2.2.2.2.2.2.2.2.2.2.2.2.2.2.1++([qE.1]:List Int),fu.2.2.2.2.2.1,())))) none)) none) none) none)
 (cond (or (bnd aO.1 (ay aO.2.2.2.2.2.2.2.2.2.1)) (not (bEq (iLt aO.1 (ay aO.2.2.2.2.2.2.2.2.2.1)) true)))
 (cond (or (bnd aO.2.1 (ay aO.2.2.2.2.2.2.2.2.2.2.2.2.1)) (not (bEq (iLt aO.1 (ay aO.2.2.2.2.2.2.2.2.2.1)) true)))
 (cond (cond (iLt aO.1 (ay aO.2.2.2.2.2.2.2.2.2.1)) (iLe (atI aO.2.2.2.2.2.2.2.2.2.1 aO.1 0) (atI aO.2.2.2.2.2.2.2.2.2.2.2.2.1 aO.2.1 0)) false)
 (cond (bnd aO.1 (ay aO.2.2.2.2.2.2.2.2.2.1))
 (cond (fits (List.length aO.2.2.2.2.2.2.2.2.2.2.2.2.2.2.1+List.length ([atI aO.2.2.2.2.2.2.2.2.2.1 aO.1 0]:List Int)) 8)
 (cond (or (bnd aO.1 (ay aO.2.2.2.2.2.2.2.2.2.1)) (not (bEq (iLt aO.1 (ay aO.2.2.2.2.2.2.2.2.2.1)) true)))
 (cond (cond (iLt aO.1 (ay aO.2.2.2.2.2.2.2.2.2.1)) (iEq (atI aO.2.2.2.2.2.2.2.2.2.1 aO.1 0) (atI aO.2.2.2.2.2.2.2.2.2.1 aO.1 0)) false)
 (cond (or (bnd aO.2.1 (ay aO.2.2.2.2.2.2.2.2.2.2.2.2.1)) (not (bEq (iLt aO.2.1 (ay aO.2.2.2.2.2.2.2.2.2.2.2.2.1)) true)))
 (cond (cond (iLt aO.2.1 (ay aO.2.2.2.2.2.2.2.2.2.2.2.2.1)) (iEq (atI aO.2.2.2.2.2.2.2.2.2.2.2.2.1 aO.2.1 0) (atI aO.2.2.2.2.2.2.2.2.2.1 aO.1 0)) false)
 (some (.inl (bX .i64 aO.1 1,bX .i64 aO.2.1 1,fu.2.1,fu.2.2.1,fu.2.2.2.1,fu.2.2.2.2.1,fu.2.2.2.2.2.2.1,aO.2.2.2.2.2.2.2.1,aO.2.2.2.2.2.2.2.2.1,aO.2.2.2.2.2.2.2.2.2.1,aO.2.2.2.2.2.2.2.2.2.2.1,aO.2.2.2.2.2.2.2.2.2.2.2.1,aO.2.2.2.2.2.2.2.2.2.2.2.2.1,aO.2.2.2.2.2.2.2.2.2.2.2.2.2.1,aO.2.2.2.2.2.2.2.2.2.2.2.2.2.2.1++([atI aO.2.2.2.2.2.2.2.2.2.1 aO.1 0]:List Int),aO.2.2.2.2.2.2.2.2.2.2.2.2.2.2.2.1++([qE.1]:List Int),fu.2.2.2.2.2.1,())))
 (some (.inl (bX .i64 aO.1 1,aO.2.1,fu.2.1,fu.2.2.1,fu.2.2.2.1,fu.2.2.2.2.1,fu.2.2.2.2.2.2.1,aO.2.2.2.2.2.2.2.1,aO.2.2.2.2.2.2.2.2.1,aO.2.2.2.2.2.2.2.2.2.1,aO.2.2.2.2.2.2.2.2.2.2.1,aO.2.2.2.2.2.2.2.2.2.2.2.1,aO.2.2.2.2.2.2.2.2.2.2.2.2.1,aO.2.2.2.2.2.2.2.2.2.2.2.2.2.1,aO.2.2.2.2.2.2.2.2.2.2.2.2.2.2.1++([atI aO.2.2.2.2.2.2.2.2.2.1 aO.1 0]:List Int),aO.2.2.2.2.2.2.2.2.2.2.2.2.2.2.2.1++([qE.1]:List Int),fu.2.2.2.2.2.1,())))) none)
 (cond (or (bnd aO.2.1 (ay aO.2.2.2.2.2.2.2.2.2.2.2.2.1)) (not (bEq (iLt aO.2.1 (ay aO.2.2.2.2.2.2.2.2.2.2.2.2.1)) true)))
 (cond (cond (iLt aO.2.1 (ay aO.2.2.2.2.2.2.2.2.2.2.2.2.1)) (iEq (atI aO.2.2.2.2.2.2.2.2.2.2.2.2.1 aO.2.1 0) (atI aO.2.2.2.2.2.2.2.2.2.1 aO.1 0)) false)
 (some (.inl (aO.1,bX .i64 aO.2.1 1,fu.2.1,fu.2.2.1,fu.2.2.2.1,fu.2.2.2.2.1,fu.2.2.2.2.2.2.1,aO.2.2.2.2.2.2.2.1,aO.2.2.2.2.2.2.2.2.1,aO.2.2.2.2.2.2.2.2.2.1,aO.2.2.2.2.2.2.2.2.2.2.1,aO.2.2.2.2.2.2.2.2.2.2.2.1,aO.2.2.2.2.2.2.2.2.2.2.2.2.1,aO.2.2.2.2.2.2.2.2.2.2.2.2.2.1,aO.2.2.2.2.2.2.2.2.2.2.2.2.2.2.1++([atI aO.2.2.2.2.2.2.2.2.2.1 aO.1 0]:List Int),aO.2.2.2.2.2.2.2.2.2.2.2.2.2.2.2.1++([qE.1]:List Int),fu.2.2.2.2.2.1,())))
 (some (.inl (aO.1,aO.2.1,fu.2.1,fu.2.2.1,fu.2.2.2.1,fu.2.2.2.2.1,fu.2.2.2.2.2.2.1,aO.2.2.2.2.2.2.2.1,aO.2.2.2.2.2.2.2.2.1,aO.2.2.2.2.2.2.2.2.2.1,aO.2.2.2.2.2.2.2.2.2.2.1,aO.2.2.2.2.2.2.2.2.2.2.2.1,aO.2.2.2.2.2.2.2.2.2.2.2.2.1,aO.2.2.2.2.2.2.2.2.2.2.2.2.2.1,aO.2.2.2.2.2.2.2.2.2.2.2.2.2.2.1++([atI aO.2.2.2.2.2.2.2.2.2.1 aO.1 0]:List Int),aO.2.2.2.2.2.2.2.2.2.2.2.2.2.2.2.1++([qE.1]:List Int),fu.2.2.2.2.2.1,())))) none)) none) none) none)
 (cond (bnd aO.2.1 (ay aO.2.2.2.2.2.2.2.2.2.2.2.2.1))
 (cond (fits (List.length aO.2.2.2.2.2.2.2.2.2.2.2.2.2.2.1+List.length ([atI aO.2.2.2.2.2.2.2.2.2.2.2.2.1 aO.2.1 0]:List Int)) 8)
 (cond (or (bnd aO.1 (ay aO.2.2.2.2.2.2.2.2.2.1)) (not (bEq (iLt aO.1 (ay aO.2.2.2.2.2.2.2.2.2.1)) true)))
 (cond (cond (iLt aO.1 (ay aO.2.2.2.2.2.2.2.2.2.1)) (iEq (atI aO.2.2.2.2.2.2.2.2.2.1 aO.1 0) (atI aO.2.2.2.2.2.2.2.2.2.2.2.2.1 aO.2.1 0)) false)
 (cond (or (bnd aO.2.1 (ay aO.2.2.2.2.2.2.2.2.2.2.2.2.1)) (not (bEq (iLt aO.2.1 (ay aO.2.2.2.2.2.2.2.2.2.2.2.2.1)) true)))
 (cond (cond (iLt aO.2.1 (ay aO.2.2.2.2.2.2.2.2.2.2.2.2.1)) (iEq (atI aO.2.2.2.2.2.2.2.2.2.2.2.2.1 aO.2.1 0) (atI aO.2.2.2.2.2.2.2.2.2.2.2.2.1 aO.2.1 0)) false)
 (some (.inl (bX .i64 aO.1 1,bX .i64 aO.2.1 1,fu.2.1,fu.2.2.1,fu.2.2.2.1,fu.2.2.2.2.1,fu.2.2.2.2.2.2.1,aO.2.2.2.2.2.2.2.1,aO.2.2.2.2.2.2.2.2.1,aO.2.2.2.2.2.2.2.2.2.1,aO.2.2.2.2.2.2.2.2.2.2.1,aO.2.2.2.2.2.2.2.2.2.2.2.1,aO.2.2.2.2.2.2.2.2.2.2.2.2.1,aO.2.2.2.2.2.2.2.2.2.2.2.2.2.1,aO.2.2.2.2.2.2.2.2.2.2.2.2.2.2.1++([atI aO.2.2.2.2.2.2.2.2.2.2.2.2.1 aO.2.1 0]:List Int),aO.2.2.2.2.2.2.2.2.2.2.2.2.2.2.2.1++([qE.1]:List Int),fu.2.2.2.2.2.1,())))
 (some (.inl (bX .i64 aO.1 1,aO.2.1,fu.2.1,fu.2.2.1,fu.2.2.2.1,fu.2.2.2.2.1,fu.2.2.2.2.2.2.1,aO.2.2.2.2.2.2.2.1,aO.2.2.2.2.2.2.2.2.1,aO.2.2.2.2.2.2.2.2.2.1,aO.2.2.2.2.2.2.2.2.2.2.1,aO.2.2.2.2.2.2.2.2.2.2.2.1,aO.2.2.2.2.2.2.2.2.2.2.2.2.1,aO.2.2.2.2.2.2.2.2.2.2.2.2.2.1,aO.2.2.2.2.2.2.2.2.2.2.2.2.2.2.1++([atI aO.2.2.2.2.2.2.2.2.2.2.2.2.1 aO.2.1 0]:List Int),aO.2.2.2.2.2.2.2.2.2.2.2.2.2.2.2.1++([qE.1]:List Int),fu.2.2.2.2.2.1,())))) none)
 (cond (or (bnd aO.2.1 (ay aO.2.2.2.2.2.2.2.2.2.2.2.2.1)) (not (bEq (iLt aO.2.1 (ay aO.2.2.2.2.2.2.2.2.2.2.2.2.1)) true)))
 (cond (cond (iLt aO.2.1 (ay aO.2.2.2.2.2.2.2.2.2.2.2.2.1)) (iEq (atI aO.2.2.2.2.2.2.2.2.2.2.2.2.1 aO.2.1 0) (atI aO.2.2.2.2.2.2.2.2.2.2.2.2.1 aO.2.1 0)) false)
 (some (.inl (aO.1,bX .i64 aO.2.1 1,fu.2.1,fu.2.2.1,fu.2.2.2.1,fu.2.2.2.2.1,fu.2.2.2.2.2.2.1,aO.2.2.2.2.2.2.2.1,aO.2.2.2.2.2.2.2.2.1,aO.2.2.2.2.2.2.2.2.2.1,aO.2.2.2.2.2.2.2.2.2.2.1,aO.2.2.2.2.2.2.2.2.2.2.2.1,aO.2.2.2.2.2.2.2.2.2.2.2.2.1,aO.2.2.2.2.2.2.2.2.2.2.2.2.2.1,aO.2.2.2.2.2.2.2.2.2.2.2.2.2.2.1++([atI aO.2.2.2.2.2.2.2.2.2.2.2.2.1 aO.2.1 0]:List Int),aO.2.2.2.2.2.2.2.2.2.2.2.2.2.2.2.1++([qE.1]:List Int),fu.2.2.2.2.2.1,())))
 (some (.inl (aO.1,aO.2.1,fu.2.1,fu.2.2.1,fu.2.2.2.1,fu.2.2.2.2.1,fu.2.2.2.2.2.2.1,aO.2.2.2.2.2.2.2.1,aO.2.2.2.2.2.2.2.2.1,aO.2.2.2.2.2.2.2.2.2.1,aO.2.2.2.2.2.2.2.2.2.2.1,aO.2.2.2.2.2.2.2.2.2.2.2.1,aO.2.2.2.2.2.2.2.2.2.2.2.2.1,aO.2.2.2.2.2.2.2.2.2.2.2.2.2.1,aO.2.2.2.2.2.2.2.2.2.2.2.2.2.2.1++([atI aO.2.2.2.2.2.2.2.2.2.2.2.2.1 aO.2.1 0]:List Int),aO.2.2.2.2.2.2.2.2.2.2.2.2.2.2.2.1++([qE.1]:List Int),fu.2.2.2.2.2.1,())))) none)) none) none) none)) none) none)))) none) none) none)
 (0,0,yu.1,yu.2.1,yu.2.2.1,yu.2.2.2.1,yu.2.2.2.2.1,yu.2.2.2.2.2.1,yu.2.2.2.2.2.2.1,yu.2.2.2.2.2.2.2.1,yu.2.2.2.2.2.2.2.2.1,yu.2.2.2.2.2.2.2.2.2.1,yu.2.2.2.2.2.2.2.2.2.2.1,yu.2.2.2.2.2.2.2.2.2.2.2.1,([]:List Int),([]:List Int),([]:List DS1),()))))
def OQ:Cfg:=⟨fG,bP,[i40,i72,i84,i85],[h66,JV,QN]⟩
def Oq:Sh:=⟨2,[(1,tS3)],[(0,.ptr 0 0 0)],[.box 107 [.d (.list tS1),.d (.list tS1),.d (.int .i64),.mp 1,.nil,.mp 2],.map 102 tS3 (.int .i64),.map 103 .str (.int .i64)]⟩
def NZ:Sh:=⟨1,[(0,(.int .i64))],[],[.box 107 [.d (.list tS1),.d (.list tS1),.d (.int .i64),.mp 1,.row 3,.mp 2],.map 102 tS3 (.int .i64),.map 103 .str (.int .i64),.row 70 tS1 false]⟩
theorem a1r(x:DS3×(List DS1)×(List DS1)×Int×(List DS6)×(List DS7)×Unit):oL OQ Pq 197 [.t 4] [.ghc 0 4 70 tS1] Oq NZ x=Ei x.1 x.2.1 x.2.2.1 x.2.2.2.1 x.2.2.2.2.1 x.2.2.2.2.2.1:=by kernel_rfl
def Yq:HI:=⟨66,Oq,NZ,fun(x:DS3×(List DS1)×(List DS1)×Int×(List DS6)×(List DS7)×Unit)=>Ei x.1 x.2.1 x.2.2.1 x.2.2.2.1 x.2.2.2.2.1 x.2.2.2.2.2.1,[]⟩
theorem a0K:HOk Tryd.prog (gx bP) Yq:=hok mixed (dw G8 (dw Qk (dw Y1 (dw Y0 (jI a6m (jI Hq (jI O7 (bZ _ _))))))):dx _ (OQ)) a8q (a1r)
def x33:XC:=xoF Tryd.f33 .o
theorem F33:Fn Tryd.prog 33 58 x33.er [.c 8 2 true,.t 9]:=by unfold x33;exact fnX Tryd.func33 (by kernel_rfl) (by kernel_rfl) (by kernel_rfl) (by kernel_rfl)
def m33(a0:DS5)(a1:DS2)(a2:DS2)(a3:Int):Option (DS2×Int×Unit) :=
 (m38 (a0.1,())).bind λa2f =>
 cond (iNe a2f.1 0)
 (some ((([]:List DS1),0,()),a2f.1,()))
 ((m31 (a0.1,()) (a1.1,a1.2.1,())).bind λa8Z =>
 cond (not a8Z.1)
 (some ((([]:List DS1),0,()),21,()))
 ((m31 (a0.1,()) (a2.1,a2.2.1,())).bind λa8Y =>
 cond (not a8Y.1)
 (some ((([]:List DS1),0,()),21,()))
 (cond (cond (iLt a3 1) true (iLt 4 a3))
 (some ((([]:List DS1),0,()),11,()))
 ((Ei (a1.2.1,a2.2.1,()) a1.1 a2.1 a3 ([]:List DS6) ([]:List DS7)).bind λEN =>
 (Af EN.2.1 EN.2.2.1 EN.2.2.2.1 EN.2.2.2.2.1 EN.2.2.2.2.2.2.1 EN.2.2.2.2.2.1).bind λEM =>
 cond EM.1
 (some ((([]:List DS1),0,()),4,()))
 ((LB EN.1 EM.2.1 EM.2.2.1 EM.2.2.2.1 EM.2.2.2.2.1 EM.2.2.2.2.2.1 EM.2.2.2.2.2.2.1).bind λa2e =>
 some ((a2e.1.1,a2e.1.2.1,()),0,()))))))
def Zn:Cfg:=⟨fG,bP,[i31,i38],[Yq,JV,a4v]⟩
theorem a7H(x:DS5×DS2×DS2×Int×Unit):gK Zn x33 58 [.c 8 2 true,.t 9] [tS5,tS2,tS2,(.int .i64)] [tS2,(.int .i64)] x=m33 x.1 x.2.1 x.2.2.1 x.2.2.2.1:=by kernel_rfl
def i33:PI:=⟨33,[tS5,tS2,tS2,(.int .i64)],[tS2,(.int .i64)],fun(x:DS5×DS2×DS2×Int×Unit)=>m33 x.1 x.2.1 x.2.2.1 x.2.2.2.1⟩
theorem a5Z:POk Tryd.prog (gx bP) i33:=pok mixed (dw Qo (dw JG (jI a0K (jI Hq (jI a3h (bZ _ _))))):dx _ (Zn)) F33 (a7H)
def x52:XC:=xoF Tryd.f52 (.d 2 (.s (.d 1 (.b (.l [] ⟨41,[(0,(.list (.list (.int .i64)))),(1,(.int .i64)),(6,(.int .i64))],[(5,.row 0)],[.row 3 (.int .i64) false]⟩ .o))) .o))
theorem F52:Fn Tryd.prog 52 41 x52.er [.t 4]:=by unfold x52;exact fnX Tryd.func52 (by kernel_rfl) (by kernel_rfl) (by kernel_rfl) (by kernel_rfl)
def m52(a0:List (List Int))(a1:Int):Option ((List Int)×Unit) :=
 cond (qQ (ay a0) 8)
 (eT (S:=(List (List Int))×Int×Int×(List Int)×Unit) (R:=(List Int)×Unit) (λl9 =>
 cond (iLe 0 l9.2.2.1)
 (cond (bnd l9.2.2.1 (ay l9.1))
 (cond (bnd l9.2.2.1 (ay l9.1))
 (cond (iNe (ay (atI l9.1 l9.2.2.1 [])) 0)
 (cond (bnd (tZ l9.2.1 (ay (atI l9.1 l9.2.2.1 []))) (ay (atI l9.1 l9.2.2.1 [])))
 (cond (bnd l9.2.2.1 (ay l9.2.2.2.1))
 (cond (inB (Int.toNat l9.2.2.1) l9.2.2.2.1)
 (cond (bnd l9.2.2.1 (ay l9.1))
 (cond (iNe (ay (atI l9.1 l9.2.2.1 [])) 0)
 (some (.inl (l9.1,rM .i64 l9.2.1 (ay (atI l9.1 l9.2.2.1 [])),fV .i64 l9.2.2.1 1,List.set l9.2.2.2.1 (Int.toNat l9.2.2.1) (atI (atI l9.1 l9.2.2.1 []) (tZ l9.2.1 (ay (atI l9.1 l9.2.2.1 []))) 0),()))) none) none) none) none) none) none) none) none)
 (some (.inr (l9.2.2.2.1,()))))
 (a0,a1,fV .i64 (ay a0) 1,(List.replicate (Int.toNat (ay a0)) 0:List Int),())) none
def Z6:Cfg:=⟨fG,bP,[],[]⟩
theorem a7q(x:(List (List Int))×Int×Unit):gK Z6 x52 41 [.t 4] [(.list (.list (.int .i64))),(.int .i64)] [(.list (.int .i64))] x=m52 x.1 x.2.1:=by kernel_rfl
def i52:PI:=⟨52,[(.list (.list (.int .i64))),(.int .i64)],[(.list (.int .i64))],fun(x:(List (List Int))×Int×Unit)=>m52 x.1 x.2.1⟩
theorem a5V:POk Tryd.prog (gx bP) i52:=pok mixed (bZ _ _:dx _ (Z6)) F52 (a7q)
def x25:XC:=xoF Tryd.f25 (.d 2 (.s (.b (.l [] ⟨44,[(1,(.list (.int .i64))),(5,(.int .i64))],[(2,.ptr 0 0 0)],[.box 28 [.d (.list tS1),.d (.int .i64)]]⟩ (.d 1 (.b (.d 2 (.s (.b (.l [] ⟨44,[(1,(.list (.int .i64))),(7,(.int .i64))],[(2,.ptr 0 0 0),(6,.ptr 1 0 0)],[.box 28 [.d (.list tS1),.d (.int .i64)],.box 70 [.d (.int .i64),.d (.list (.int .i64)),.d (.list (.int .i64))]]⟩ .o)) .o)))))) .o))
theorem F25:Fn Tryd.prog 25 44 x25.er [.t 4]:=by unfold x25;exact fnX Tryd.func25 (by kernel_rfl) (by kernel_rfl) (by kernel_rfl) (by kernel_rfl)
def m25(a0:DS2)(a1:List Int):Option (Int×Unit) :=
 eT (S:=(List Int)×Int×(List DS1)×Int×Unit) (R:=Int×Unit) (λwL =>
 cond (iLe 0 wL.2.1)
 (cond (bnd wL.2.1 (ay wL.2.2.1))
 (eT (S:=(List Int)×Int×(List DS1)×Int×Int×(List Int)×(List Int)×Unit) (R:=((List Int)×Int×(List DS1)×Int×Unit)⊕(Int×Unit)) (λny =>
 cond (or (bnd ny.2.2.2.2.1 (ay ny.1)) (not (bEq (iLt ny.2.1 (ay ny.2.2.2.2.2.1)) true)))
 (cond (or (bnd ny.2.1 (ay ny.2.2.2.2.2.1)) (not (bEq (iLt ny.2.1 (ay ny.2.2.2.2.2.1)) true)))
 (cond (cond (iLt ny.2.1 (ay ny.2.2.2.2.2.1)) (iLe (atI ny.2.2.2.2.2.1 ny.2.1 0) (atI ny.1 ny.2.2.2.2.1 0)) false)
 (some (.inl (ny.1,bX .i64 ny.2.1 1,ny.2.2.1,ny.2.2.2.1,ny.2.2.2.2.1,ny.2.2.2.2.2.1,ny.2.2.2.2.2.2.1,())))
 (Option.map Sum.inr (cond (bnd ny.2.1 (ay ny.2.2.2.2.2.2.1))
 (some (.inl (ny.1,atI ny.2.2.2.2.2.2.1 ny.2.1 0,ny.2.2.1,ny.2.2.2.1,()))) none))) none) none)
 (wL.1,0,wL.2.2.1,wL.2.2.2.1,(atI wL.2.2.1 wL.2.1 (0,[],[],())).1,(atI wL.2.2.1 wL.2.1 (0,[],[],())).2.1,(atI wL.2.2.1 wL.2.1 (0,[],[],())).2.2.1,())) none)
 (some (.inr (fV .i64 (-1) wL.2.1,()))))
 (a1,a0.2.1,a0.1,a0.2.1,())
def Zt:Cfg:=⟨fG,bP,[],[]⟩
theorem a7M(x:DS2×(List Int)×Unit):gK Zt x25 44 [.t 4] [tS2,(.list (.int .i64))] [(.int .i64)] x=m25 x.1 x.2.1:=by kernel_rfl
def i25:PI:=⟨25,[tS2,(.list (.int .i64))],[(.int .i64)],fun(x:DS2×(List Int)×Unit)=>m25 x.1 x.2.1⟩
theorem a6c:POk Tryd.prog (gx bP) i25:=pok mixed (bZ _ _:dx _ (Zt)) F25 (a7M)
def x37:XC:=xoF Tryd.f37 .o
theorem F37:Fn Tryd.prog 37 27 x37.er [.t 6]:=by unfold x37;exact fnX Tryd.func37 (by kernel_rfl) (by kernel_rfl) (by kernel_rfl) (by kernel_rfl)
def m37(a0:Int)(a1:Int)(a2:Int):Option (Int×Unit) :=
 cond (iEq a2 1)
 (some (pW a0 a1,()))
 (cond (iEq a2 2)
 (some (uT a0 a1,()))
 (cond (iEq a2 3)
 (cond (iEq a0 a1)
 (some (0,()))
 (some (1,())))
 (cond (iEq a0 0)
 (some (a1,()))
 (some (a0,())))))
def Zl:Cfg:=⟨fG,bP,[],[]⟩
theorem a7F(x:Int×Int×Int×Unit):gK Zl x37 27 [.t 6] [(.int .i64),(.int .i64),(.int .i64)] [(.int .i64)] x=m37 x.1 x.2.1 x.2.2.1:=by kernel_rfl
def i37:PI:=⟨37,[(.int .i64),(.int .i64),(.int .i64)],[(.int .i64)],fun(x:Int×Int×Int×Unit)=>m37 x.1 x.2.1 x.2.2.1⟩
theorem a5X:POk Tryd.prog (gx bP) i37:=pok mixed (bZ _ _:dx _ (Zl)) F37 (a7F)
def x34:XC:=xoF Tryd.f34 (.d 4 (.s (.d 1 (.b (.l [] ⟨57,[(3,(.int .i64)),(10,(.list (.list (.int .i64)))),(12,(.int .i64))],[(5,.ptr 0 0 0),(6,.ptr 1 0 0),(8,.ptr 2 0 0),(11,.row 3)],[.box 28 [.d (.list tS1),.d (.int .i64)],.box 28 [.d (.list tS1),.d (.int .i64)],.box 28 [.nil,.d (.int .i64)],.row 3 (.int .i64) false]⟩ .o))) .o))
theorem F34:Fn Tryd.prog 34 57 x34.er [.c 8 2 true,.t 9]:=by unfold x34;exact fnX Tryd.func34 (by kernel_rfl) (by kernel_rfl) (by kernel_rfl) (by kernel_rfl)
def m34(a0:DS5)(a1:DS2)(a2:DS2)(a3:Int):Option (DS2×Int×Unit) :=
 cond (cond (iLt a3 1) true (iLt 4 a3))
 (some ((([]:List DS1),0,()),11,()))
 ((m44 (a0.1,())).bind λa8N =>
 (m49 (a0.1,()) a8N.1 (a1.1,a1.2.1,())).bind λa8M =>
 (m49 (a0.1,()) a8M.1 (a2.1,a2.2.1,())).bind λa2d =>
 (m47 a2d.1).bind λa2c =>
 cond (qQ a2c.1 8)
 (eT (S:=Int×(List (List Int))×Int×(List DS1)×Int×(List DS1)×Int×Int×(List Int)×Unit) (R:=DS2×Int×Unit) (λoz =>
 cond (iLt oz.2.2.1 (ay oz.2.2.2.2.2.2.2.2.1))
 ((m52 oz.2.1 oz.2.2.1).bind λa2b =>
 (m25 (oz.2.2.2.1,oz.2.2.2.2.1,()) a2b.1).bind λa8L =>
 (m25 (oz.2.2.2.2.2.1,oz.2.2.2.2.2.2.1,()) a2b.1).bind λa8K =>
 (m37 a8L.1 a8K.1 oz.1).bind λa8J =>
 cond (bnd oz.2.2.1 (ay oz.2.2.2.2.2.2.2.2.1))
 (cond (inB (Int.toNat oz.2.2.1) oz.2.2.2.2.2.2.2.2.1)
 (some (.inl (oz.1,oz.2.1,bX .i64 oz.2.2.1 1,oz.2.2.2.1,oz.2.2.2.2.1,oz.2.2.2.2.2.1,oz.2.2.2.2.2.2.1,oz.2.2.2.2.2.2.2.1,List.set oz.2.2.2.2.2.2.2.2.1 (Int.toNat oz.2.2.1) a8J.1,()))) none) none)
 (Option.map Sum.inr ((m48 oz.2.1 oz.2.2.2.2.2.2.2.2.1).bind λUx =>
 some ((Ux.1.1,Ux.1.2.1,()),Ux.2.1,()))))
 (a3,a2d.1,0,a1.1,a1.2.1,a2.1,a2.2.1,0,(List.replicate (Int.toNat a2c.1) 0:List Int),())) none)
def Zm:Cfg:=⟨fG,bP,[i25,i37,i44,i47,i48,i49,i52],[]⟩
theorem a7G(x:DS5×DS2×DS2×Int×Unit):gK Zm x34 57 [.c 8 2 true,.t 9] [tS5,tS2,tS2,(.int .i64)] [tS2,(.int .i64)] x=m34 x.1 x.2.1 x.2.2.1 x.2.2.2.1:=by kernel_rfl
def i34:PI:=⟨34,[tS5,tS2,tS2,(.int .i64)],[tS2,(.int .i64)],fun(x:DS5×DS2×DS2×Int×Unit)=>m34 x.1 x.2.1 x.2.2.1 x.2.2.2.1⟩
theorem a5Y:POk Tryd.prog (gx bP) i34:=pok mixed (dw a6c (dw a5X (dw Qn (dw Qm (dw Y8 (dw Y7 (dw a5V (bZ _ _))))))):dx _ (Zm)) F34 (a7G)
def x55:XC:=xoF Tryd.f55 .o
theorem F55:Fn Tryd.prog 55 15 x55.er [.t 6]:=by unfold x55;exact fnX Tryd.func55 (by kernel_rfl) (by kernel_rfl) (by kernel_rfl) (by kernel_rfl)
def m55(a0:Int)(a1:Int)(a2:List Int)(a3:Int):Option (Int×(List Int)×Int×Unit) :=
 (m45 (bX .i64 (fV .i64 a1 a0) 1) a2 a3).bind λUw =>
 some (bX .i64 a0 Uw.1,Uw.2.1,Uw.2.2.1,())
def Z5:Cfg:=⟨fG,bP,[],[h45]⟩
def Yi:Sh:=⟨3,[(1,(.int .i64)),(2,(.int .i64))],[(0,.ptr 0 0 0)],[.box 78 [.d (.list (.int .i64)),.d (.int .i64)]]⟩
def XQ:Sh:=⟨1,[(0,(.int .i64))],[],[.box 78 [.d (.list (.int .i64)),.d (.int .i64)]]⟩
theorem a7p(x:Int×Int×(List Int)×Int×Unit):oL Z5 x55 15 [.t 6] [] Yi XQ x=m55 x.1 x.2.1 x.2.2.1 x.2.2.2.1:=by kernel_rfl
def h55:HI:=⟨55,Yi,XQ,fun(x:Int×Int×(List Int)×Int×Unit)=>m55 x.1 x.2.1 x.2.2.1 x.2.2.2.1,[]⟩
theorem a6o:HOk Tryd.prog (gx bP) h55:=hok mixed (jI JH (bZ _ _):dx _ (Z5)) F55 (a7p)
def x29:XC:=xoF Tryd.f29 (.d 6 (.s (.d 1 (.b (.d 1 (.c .o (.d 1 (.c (.u [0]) (.d 1 (.c (.u [0]) .o)))))))) .o))
theorem F29:Fn Tryd.prog 29 124 x29.er [.c 4 2 true]:=by unfold x29;exact fnX Tryd.func29 (by kernel_rfl) (by kernel_rfl) (by kernel_rfl) (by kernel_rfl)
def m29(a0:DS2)(a1:List Int)(a2:Int):Option (DS2×(List Int)×Int×Unit) :=
 cond (fits (List.length ([]:List DS1)+List.length a0.1) 56)
 (cond (iEq (ay (([]:List DS1)++a0.1)) 0)
 ((m55 (-258) 2 a1 a2).bind λUv =>
 some ((a0.1,Uv.1,()),Uv.2.1,Uv.2.2.1,()))
 ((m45 6 a1 a2).bind λK6 =>
 cond (iEq K6.1 0)
 ((m55 (-258) 2 K6.2.1 K6.2.2.1).bind λUu =>
 some ((a0.1,Uu.1,()),Uu.2.1,Uu.2.2.1,()))
 ((m45 (ay (([]:List DS1)++a0.1)) K6.2.1 K6.2.2.1).bind λfI =>
 cond (bnd fI.1 (ay (([]:List DS1)++a0.1)))
 (cond (inB (Int.toNat fI.1) (([]:List DS1)++a0.1))
 (cond (fits (List.length ([]:List Int)+List.length ((List.getD (([]:List DS1)++a0.1) (Int.toNat fI.1) (0,[],[],())).2.1)) 8)
 (cond (fits (List.length ([]:List Int)+List.length ((List.getD (([]:List DS1)++a0.1) (Int.toNat fI.1) (0,[],[],())).2.2.1)) 8)
 ((m45 6 fI.2.1 fI.2.2.1).bind λqV =>
 cond (iEq qV.1 0)
 ((m55 (-1) 4 qV.2.1 qV.2.2.1).bind λUt =>
 cond (bnd fI.1 (ay (([]:List DS1)++a0.1)))
 (cond (inB (Int.toNat fI.1) (([]:List DS1)++a0.1))
 (some ((List.set (([]:List DS1)++a0.1) (Int.toNat fI.1) (Ut.1,([]:List Int)++((List.getD (([]:List DS1)++a0.1) (Int.toNat fI.1) (0,[],[],())).2.1),([]:List Int)++((List.getD (([]:List DS1)++a0.1) (Int.toNat fI.1) (0,[],[],())).2.2.1),()),a0.2.1,()),Ut.2.1,Ut.2.2.1,())) none) none)
 (cond (iEq qV.1 1)
 ((m45 (ay (([]:List Int)++((List.getD (([]:List DS1)++a0.1) (Int.toNat fI.1) (0,[],[],())).2.1))) qV.2.1 qV.2.2.1).bind λK5 =>
 (m55 (-6) 21 K5.2.1 K5.2.2.1).bind λUs =>
 cond (bnd K5.1 (ay (([]:List Int)++((List.getD (([]:List DS1)++a0.1) (Int.toNat fI.1) (0,[],[],())).2.1))))
 (cond (inB (Int.toNat K5.1) (([]:List Int)++((List.getD (([]:List DS1)++a0.1) (Int.toNat fI.1) (0,[],[],())).2.1)))
 (cond (bnd fI.1 (ay (([]:List DS1)++a0.1)))
 (cond (inB (Int.toNat fI.1) (([]:List DS1)++a0.1))
 (some ((List.set (([]:List DS1)++a0.1) (Int.toNat fI.1) ((List.getD (([]:List DS1)++a0.1) (Int.toNat fI.1) (0,[],[],())).1,List.set (([]:List Int)++((List.getD (([]:List DS1)++a0.1) (Int.toNat fI.1) (0,[],[],())).2.1)) (Int.toNat K5.1) Us.1,([]:List Int)++((List.getD (([]:List DS1)++a0.1) (Int.toNat fI.1) (0,[],[],())).2.2.1),()),a0.2.1,()),Us.2.1,Us.2.2.1,())) none) none) none) none)
 (cond (iEq qV.1 2)
 ((m45 (ay (([]:List Int)++((List.getD (([]:List DS1)++a0.1) (Int.toNat fI.1) (0,[],[],())).2.2.1))) qV.2.1 qV.2.2.1).bind λK4 =>
 (m55 (-5) (ay (([]:List DS1)++a0.1)) K4.2.1 K4.2.2.1).bind λUr =>
 cond (bnd K4.1 (ay (([]:List Int)++((List.getD (([]:List DS1)++a0.1) (Int.toNat fI.1) (0,[],[],())).2.2.1))))
 (cond (inB (Int.toNat K4.1) (([]:List Int)++((List.getD (([]:List DS1)++a0.1) (Int.toNat fI.1) (0,[],[],())).2.2.1)))
 (cond (bnd fI.1 (ay (([]:List DS1)++a0.1)))
 (cond (inB (Int.toNat fI.1) (([]:List DS1)++a0.1))
 (some ((List.set (([]:List DS1)++a0.1) (Int.toNat fI.1) ((List.getD (([]:List DS1)++a0.1) (Int.toNat fI.1) (0,[],[],())).1,([]:List Int)++((List.getD (([]:List DS1)++a0.1) (Int.toNat fI.1) (0,[],[],())).2.1),List.set (([]:List Int)++((List.getD (([]:List DS1)++a0.1) (Int.toNat fI.1) (0,[],[],())).2.2.1)) (Int.toNat K4.1) Ur.1,()),a0.2.1,()),Ur.2.1,Ur.2.2.1,())) none) none) none) none)
 (cond (iEq qV.1 3)
 (cond (bnd (fV .i64 (ay (([]:List Int)++((List.getD (([]:List DS1)++a0.1) (Int.toNat fI.1) (0,[],[],())).2.1))) 1) (ay (([]:List Int)++((List.getD (([]:List DS1)++a0.1) (Int.toNat fI.1) (0,[],[],())).2.1))))
 (cond (inB (Int.toNat (fV .i64 (ay (([]:List Int)++((List.getD (([]:List DS1)++a0.1) (Int.toNat fI.1) (0,[],[],())).2.1))) 1)) (([]:List Int)++((List.getD (([]:List DS1)++a0.1) (Int.toNat fI.1) (0,[],[],())).2.1)))
 (cond (fits (List.length (([]:List Int)++((List.getD (([]:List DS1)++a0.1) (Int.toNat fI.1) (0,[],[],())).2.1))+List.length ([bX .i64 (List.getD (([]:List Int)++((List.getD (([]:List DS1)++a0.1) (Int.toNat fI.1) (0,[],[],())).2.1)) (Int.toNat (fV .i64 (ay (([]:List Int)++((List.getD (([]:List DS1)++a0.1) (Int.toNat fI.1) (0,[],[],())).2.1))) 1)) 0) 1]:List Int)) 8)
 (cond (fits (List.length (([]:List Int)++((List.getD (([]:List DS1)++a0.1) (Int.toNat fI.1) (0,[],[],())).2.2.1))+List.length ([(-1)]:List Int)) 8)
 (cond (bnd fI.1 (ay (([]:List DS1)++a0.1)))
 (cond (inB (Int.toNat fI.1) (([]:List DS1)++a0.1))
 (some ((List.set (([]:List DS1)++a0.1) (Int.toNat fI.1) ((List.getD (([]:List DS1)++a0.1) (Int.toNat fI.1) (0,[],[],())).1,(([]:List Int)++((List.getD (([]:List DS1)++a0.1) (Int.toNat fI.1) (0,[],[],())).2.1))++([bX .i64 (List.getD (([]:List Int)++((List.getD (([]:List DS1)++a0.1) (Int.toNat fI.1) (0,[],[],())).2.1)) (Int.toNat (fV .i64 (ay (([]:List Int)++((List.getD (([]:List DS1)++a0.1) (Int.toNat fI.1) (0,[],[],())).2.1))) 1)) 0) 1]:List Int),(([]:List Int)++((List.getD (([]:List DS1)++a0.1) (Int.toNat fI.1) (0,[],[],())).2.2.1))++([(-1)]:List Int),()),a0.2.1,()),qV.2.1,qV.2.2.1,())) none) none) none) none) none) none)
 (cond (iEq qV.1 4)
 (cond (fits (List.length (([]:List DS1)++a0.1)+List.length ([((List.getD (([]:List DS1)++a0.1) (Int.toNat fI.1) (0,[],[],())).1,([]:List Int)++((List.getD (([]:List DS1)++a0.1) (Int.toNat fI.1) (0,[],[],())).2.1),([]:List Int)++((List.getD (([]:List DS1)++a0.1) (Int.toNat fI.1) (0,[],[],())).2.2.1),())]:List DS1)) 56)
 (cond (bnd fI.1 (ay ((([]:List DS1)++a0.1)++([((List.getD (([]:List DS1)++a0.1) (Int.toNat fI.1) (0,[],[],())).1,([]:List Int)++((List.getD (([]:List DS1)++a0.1) (Int.toNat fI.1) (0,[],[],())).2.1),([]:List Int)++((List.getD (([]:List DS1)++a0.1) (Int.toNat fI.1) (0,[],[],())).2.2.1),())]:List DS1))))
 (cond (inB (Int.toNat fI.1) ((([]:List DS1)++a0.1)++([((List.getD (([]:List DS1)++a0.1) (Int.toNat fI.1) (0,[],[],())).1,([]:List Int)++((List.getD (([]:List DS1)++a0.1) (Int.toNat fI.1) (0,[],[],())).2.1),([]:List Int)++((List.getD (([]:List DS1)++a0.1) (Int.toNat fI.1) (0,[],[],())).2.2.1),())]:List DS1)))
 (some ((List.set ((([]:List DS1)++a0.1)++([((List.getD (([]:List DS1)++a0.1) (Int.toNat fI.1) (0,[],[],())).1,([]:List Int)++((List.getD (([]:List DS1)++a0.1) (Int.toNat fI.1) (0,[],[],())).2.1),([]:List Int)++((List.getD (([]:List DS1)++a0.1) (Int.toNat fI.1) (0,[],[],())).2.2.1),())]:List DS1)) (Int.toNat fI.1) ((List.getD (([]:List DS1)++a0.1) (Int.toNat fI.1) (0,[],[],())).1,([]:List Int)++((List.getD (([]:List DS1)++a0.1) (Int.toNat fI.1) (0,[],[],())).2.1),([]:List Int)++((List.getD (([]:List DS1)++a0.1) (Int.toNat fI.1) (0,[],[],())).2.2.1),()),a0.2.1,()),qV.2.1,qV.2.2.1,())) none) none) none)
 (cond (iEq qV.1 5)
 ((m45 (ay (([]:List DS1)++a0.1)) qV.2.1 qV.2.2.1).bind λxY =>
 cond (bnd xY.1 (ay (([]:List DS1)++a0.1)))
 (cond (inB (Int.toNat xY.1) (([]:List DS1)++a0.1))
 (cond (bnd xY.1 (ay (([]:List DS1)++a0.1)))
 (cond (inB (Int.toNat xY.1) (([]:List DS1)++a0.1))
 (cond (bnd fI.1 (ay (List.set (([]:List DS1)++a0.1) (Int.toNat xY.1) ((List.getD (([]:List DS1)++a0.1) (Int.toNat fI.1) (0,[],[],())).1,([]:List Int)++((List.getD (([]:List DS1)++a0.1) (Int.toNat fI.1) (0,[],[],())).2.1),([]:List Int)++((List.getD (([]:List DS1)++a0.1) (Int.toNat fI.1) (0,[],[],())).2.2.1),()))))
 (cond (inB (Int.toNat fI.1) (List.set (([]:List DS1)++a0.1) (Int.toNat xY.1) ((List.getD (([]:List DS1)++a0.1) (Int.toNat fI.1) (0,[],[],())).1,([]:List Int)++((List.getD (([]:List DS1)++a0.1) (Int.toNat fI.1) (0,[],[],())).2.1),([]:List Int)++((List.getD (([]:List DS1)++a0.1) (Int.toNat fI.1) (0,[],[],())).2.2.1),())))
 (some ((List.set (List.set (([]:List DS1)++a0.1) (Int.toNat xY.1) ((List.getD (([]:List DS1)++a0.1) (Int.toNat fI.1) (0,[],[],())).1,([]:List Int)++((List.getD (([]:List DS1)++a0.1) (Int.toNat fI.1) (0,[],[],())).2.1),([]:List Int)++((List.getD (([]:List DS1)++a0.1) (Int.toNat fI.1) (0,[],[],())).2.2.1),())) (Int.toNat fI.1) ((List.getD (([]:List DS1)++a0.1) (Int.toNat xY.1) (0,[],[],())).1,(List.getD (([]:List DS1)++a0.1) (Int.toNat xY.1) (0,[],[],())).2.1,(List.getD (([]:List DS1)++a0.1) (Int.toNat xY.1) (0,[],[],())).2.2.1,()),a0.2.1,()),xY.2.1,xY.2.2.1,())) none) none) none) none) none) none)
 (cond (bnd fI.1 (ay (([]:List DS1)++a0.1)))
 (cond (inB (Int.toNat fI.1) (([]:List DS1)++a0.1))
 (some ((List.set (([]:List DS1)++a0.1) (Int.toNat fI.1) ((List.getD (([]:List DS1)++a0.1) (Int.toNat fI.1) (0,[],[],())).1,([]:List Int)++((List.getD (([]:List DS1)++a0.1) (Int.toNat fI.1) (0,[],[],())).2.1),([]:List Int)++((List.getD (([]:List DS1)++a0.1) (Int.toNat fI.1) (0,[],[],())).2.2.1),()),a0.2.1,()),qV.2.1,qV.2.2.1,())) none) none))))))) none) none) none) none))) none
def Zq:Cfg:=⟨fG,bP,[],[h45,h55]⟩
def Yk:Sh:=⟨2,[(0,tS2)],[(1,.ptr 0 0 0)],[.box 78 [.d (.list (.int .i64)),.d (.int .i64)]]⟩
def XT:Sh:=⟨1,[(0,tS2)],[],[.box 78 [.d (.list (.int .i64)),.d (.int .i64)]]⟩
theorem a7K(x:DS2×(List Int)×Int×Unit):Ry Zq x29 124 [.c 4 2 true] [] tS2 Yk XT x=m29 x.1 x.2.1 x.2.2.1:=by kernel_rfl
def h29:HI:=⟨29,Yk,XT,fun(x:DS2×(List Int)×Int×Unit)=>m29 x.1 x.2.1 x.2.2.1,[]⟩
theorem a6p:HOk Tryd.prog (gx bP) h29:=a9R mixed (jI JH (jI a6o (bZ _ _)):dx _ (Zq)) F29 (a7K)
def x14:XC:=xoF Tryd.f14 (.d 2 (.s (.d 1 (.b (.l [] ⟨72,[(5,(.int .i64))],[(2,.ptr 0 0 0),(3,.ptr 1 0 0)],[.box 28 [.d (.list tS1),.d (.int .i64)],.box 28 [.d (.list tS1),.d (.int .i64)]]⟩ .o))) .o))
theorem F14:Fn Tryd.prog 14 72 x14.er [.t 4]:=by unfold x14;exact fnX Tryd.func14 (by kernel_rfl) (by kernel_rfl) (by kernel_rfl) (by kernel_rfl)
def m14(a0:DS2)(a1:DS2):Option (Bool×Unit) :=
 cond (cond (iNe a0.2.1 a1.2.1) true (iNe (ay a0.1) (ay a1.1)))
 (some (false,()))
 (eT (S:=Int×(List DS1)×Int×(List DS1)×Int×Unit) (R:=Bool×Unit) (λjE =>
 cond (iLt jE.1 (ay jE.2.1))
 (cond (bnd jE.1 (ay jE.2.1))
 (cond (bnd jE.1 (ay jE.2.2.2.1))
 (cond (or (bnd jE.1 (ay jE.2.1)) (not (bEq (iNe ((atI jE.2.1 jE.1 (0,[],[],())).1) ((atI jE.2.2.2.1 jE.1 (0,[],[],())).1)) false)))
 (cond (or (bnd jE.1 (ay jE.2.2.2.1)) (not (bEq (iNe ((atI jE.2.1 jE.1 (0,[],[],())).1) ((atI jE.2.2.2.1 jE.1 (0,[],[],())).1)) false)))
 (cond (iNe ((atI jE.2.1 jE.1 (0,[],[],())).1) ((atI jE.2.2.2.1 jE.1 (0,[],[],())).1))
 (cond (or (bnd jE.1 (ay jE.2.1)) (not (bEq true false)))
 (cond (or (bnd jE.1 (ay jE.2.2.2.1)) (not (bEq true false)))
 (some (.inr (false,()))) none) none)
 ((m23 ((atI jE.2.1 jE.1 (0,[],[],())).2.1) ((atI jE.2.2.2.1 jE.1 (0,[],[],())).2.1)).bind λUq =>
 cond (or (bnd jE.1 (ay jE.2.1)) (not (bEq (not Uq.1) false)))
 (cond (or (bnd jE.1 (ay jE.2.2.2.1)) (not (bEq (not Uq.1) false)))
 (cond (not Uq.1)
 (some (.inr (false,())))
 ((m23 ((atI jE.2.1 jE.1 (0,[],[],())).2.2.1) ((atI jE.2.2.2.1 jE.1 (0,[],[],())).2.2.1)).bind λa8I =>
 cond (not a8I.1)
 (some (.inr (false,())))
 (some (.inl (bX .i64 jE.1 1,jE.2.1,jE.2.2.1,jE.2.2.2.1,jE.2.2.2.2.1,()))))) none) none)) none) none) none) none)
 (some (.inr (true,()))))
 (0,a0.1,a0.2.1,a1.1,a1.2.1,()))
def ZE:Cfg:=⟨fG,bP,[i23],[]⟩
theorem a7W(x:DS2×DS2×Unit):gK ZE x14 72 [.t 4] [tS2,tS2] [.bool] x=m14 x.1 x.2.1:=by kernel_rfl
def i14:PI:=⟨14,[tS2,tS2],[.bool],fun(x:DS2×DS2×Unit)=>m14 x.1 x.2.1⟩
theorem a6h:POk Tryd.prog (gx bP) i14:=pok mixed (dw Qp (bZ _ _):dx _ (ZE)) F14 (a7W)
def x56:XC:=xoF Tryd.f56 .o
theorem F56:Fn Tryd.prog 56 14 x56.er [.t 4]:=by unfold x56;exact fnX Tryd.func56 (by kernel_rfl) (by kernel_rfl) (by kernel_rfl) (by kernel_rfl)
def m56(a0:DS2)(a1:Int):Option (Bool×Unit) :=
 cond (iLt a1 0)
 (some (iLe (-256) a1,()))
 (some (iLt a1 (ay a0.1),()))
def Z4:Cfg:=⟨fG,bP,[],[]⟩
theorem a7o(x:DS2×Int×Unit):gK Z4 x56 14 [.t 4] [tS2,(.int .i64)] [.bool] x=m56 x.1 x.2.1:=by kernel_rfl
def i56:PI:=⟨56,[tS2,(.int .i64)],[.bool],fun(x:DS2×Int×Unit)=>m56 x.1 x.2.1⟩
theorem Y6:POk Tryd.prog (gx bP) i56:=pok mixed (bZ _ _:dx _ (Z4)) F56 (a7o)
def x57:XC:=xoF Tryd.f57 (.d 3 (.s (.d 1 (.b (.l [] ⟨132,[(7,(.int .i64)),(8,(.int .i64)),(9,(.int .i64))],[(4,.ptr 0 0 0),(5,.ptr 1 0 0)],[.box 28 [.d (.list tS1),.d (.int .i64)],.box 70 [.d (.int .i64),.d (.list (.int .i64)),.d (.list (.int .i64))]]⟩ .o))) (.s (.d 1 (.b (.l [] ⟨132,[(10,(.int .i64))],[(4,.ptr 0 0 0),(5,.ptr 1 0 0)],[.box 28 [.d (.list tS1),.d (.int .i64)],.box 70 [.d (.int .i64),.d (.list (.int .i64)),.d (.list (.int .i64))]]⟩ .o))) .o)))
theorem F57:Fn Tryd.prog 57 132 x57.er [.t 6]:=by unfold x57;exact fnX Tryd.func57 (by kernel_rfl) (by kernel_rfl) (by kernel_rfl) (by kernel_rfl)
def m57(a0:DS5)(a1:DS2)(a2:DS1):Option (Bool×Unit) :=
 cond (cond (cond (cond (iLt a2.1 0) true (iLe (ay a0.1) a2.1)) true (iLt (ay a2.2.1) 1)) true (iNe (fV .i64 (ay a2.2.2.1) 1) (ay a2.2.1)))
 (some (false,()))
 ((m42 (a0.1,()) a2.1).bind λa2a =>
 eT (S:=Int×Int×Int×(List DS1)×Int×Int×(List Int)×(List Int)×Unit) (R:=Bool×Unit) (λjT =>
 cond (iLt jT.2.2.1 (ay jT.2.2.2.2.2.2.1))
 (cond (bnd jT.2.2.1 (ay jT.2.2.2.2.2.2.1))
 (cond (or (bnd jT.2.2.1 (ay jT.2.2.2.2.2.2.1)) (not (bEq (iLe (atI jT.2.2.2.2.2.2.1 jT.2.2.1 0) jT.1) false)))
 (cond (cond (iLe (atI jT.2.2.2.2.2.2.1 jT.2.2.1 0) jT.1) true (iLt jT.2.1 (atI jT.2.2.2.2.2.2.1 jT.2.2.1 0)))
 (some (.inr (false,())))
 (cond (or (bnd jT.2.2.1 (ay jT.2.2.2.2.2.2.1)) (not (bEq (iLt 0 jT.2.2.1) true)))
 (cond (or (bnd (fV .i64 jT.2.2.1 1) (ay jT.2.2.2.2.2.2.1)) (not (bEq (iLt 0 jT.2.2.1) true)))
 (cond (cond (iLt 0 jT.2.2.1) (iLe (atI jT.2.2.2.2.2.2.1 jT.2.2.1 0) (atI jT.2.2.2.2.2.2.1 (fV .i64 jT.2.2.1 1) 0)) false)
 (some (.inr (false,())))
 (some (.inl (jT.1,jT.2.1,bX .i64 jT.2.2.1 1,jT.2.2.2.1,jT.2.2.2.2.1,jT.2.2.2.2.2.1,jT.2.2.2.2.2.2.1,jT.2.2.2.2.2.2.2.1,())))) none) none)) none) none)
 (Option.map Sum.inr (eT (S:=Int×(List DS1)×Int×Int×(List Int)×(List Int)×Unit) (R:=Bool×Unit) (λl8 =>
 cond (iLt l8.1 (ay l8.2.2.2.2.2.1))
 (cond (bnd l8.1 (ay l8.2.2.2.2.2.1))
 ((m56 (l8.2.1,l8.2.2.1,()) (atI l8.2.2.2.2.2.1 l8.1 0)).bind λa8H =>
 cond (not a8H.1)
 (some (.inr (false,())))
 (cond (or (bnd (fV .i64 l8.1 1) (ay l8.2.2.2.2.2.1)) (not (bEq (iLt 0 l8.1) true)))
 (cond (cond (iLt 0 l8.1) (iEq (atI l8.2.2.2.2.2.1 l8.1 0) (atI l8.2.2.2.2.2.1 (fV .i64 l8.1 1) 0)) false)
 (some (.inr (false,())))
 (cond (or (bnd (atI l8.2.2.2.2.2.1 l8.1 0) (ay l8.2.1)) (not (bEq (iLe 0 (atI l8.2.2.2.2.2.1 l8.1 0)) true)))
 (cond (cond (iLe 0 (atI l8.2.2.2.2.2.1 l8.1 0)) (iLe ((atI l8.2.1 (atI l8.2.2.2.2.2.1 l8.1 0) (0,[],[],())).1) l8.2.2.2.1) false)
 (some (.inr (false,())))
 (some (.inl (bX .i64 l8.1 1,l8.2.1,l8.2.2.1,l8.2.2.2.1,l8.2.2.2.2.1,l8.2.2.2.2.2.1,())))) none)) none)) none)
 (some (.inr (true,()))))
 (0,jT.2.2.2.1,jT.2.2.2.2.1,jT.2.2.2.2.2.1,jT.2.2.2.2.2.2.1,jT.2.2.2.2.2.2.2.1,()))))
 (a2a.1,a2a.2.1,0,a1.1,a1.2.1,a2.1,a2.2.1,a2.2.2.1,()))
def Z0:Cfg:=⟨fG,bP,[i42,i56],[]⟩
theorem a7n(x:DS5×DS2×DS1×Unit):gK Z0 x57 132 [.t 6] [tS5,tS2,tS1] [.bool] x=m57 x.1 x.2.1 x.2.2.1:=by kernel_rfl
def i57:PI:=⟨57,[tS5,tS2,tS1],[.bool],fun(x:DS5×DS2×DS1×Unit)=>m57 x.1 x.2.1 x.2.2.1⟩
theorem a5U:POk Tryd.prog (gx bP) i57:=pok mixed (dw JF (dw Y6 (bZ _ _)):dx _ (Z0)) F57 (a7n)
def Pw:XC:=xoF Tryd.f58 (.d 4 (.s (.d 1 (.b (.l [] ⟨64,[(3,(.int .i64)),(9,(.int .i64))],[(0,.ptr 0 0 0),(1,.row 1),(2,.row 2)],[.box 93 [.nil,.nil,.d (.list tS1)],.row 70 tS1 false,.row 3 (.int .i64) false]⟩ .o))) .o))
theorem ZK:Fn Tryd.prog 58 64 Pw.er [.t 8]:=by unfold Pw;exact fnX Tryd.func58 (by kernel_rfl) (by kernel_rfl) (by kernel_rfl) (by kernel_rfl)
def Bp(self:(Int×(List DS1)×(List DS1)×(List Int)×Unit)->Option ((List DS1)×(List DS1)×(List Int)×Unit))(a0:Int)(a1:List DS1)(a2:List DS1)(a3:List Int):Option ((List DS1)×(List DS1)×(List Int)×Unit) :=
 cond (or (bnd a0 (ay a3)) (not (bEq (iLt a0 0) false)))
 (cond (or (inB (Int.toNat a0) a3) (not (bEq (iLt a0 0) false)))
 (cond (cond (iLt a0 0) true (iLe 0 (List.getD a3 (Int.toNat a0) 0)))
 (some (a1,a2,a3,()))
 (cond (bnd a0 (ay a3))
 (cond (inB (Int.toNat a0) a3)
 (cond (bnd a0 (ay a1))
 (cond (fits (List.length a2+List.length ([atI a1 a0 (0,[],[],())]:List DS1)) 56)
 (eT (S:=Int×Int×(List DS1)×(List DS1)×(List Int)×Unit) (R:=(List DS1)×(List DS1)×(List Int)×Unit) (λpO =>
 cond (bnd pO.1 (ay pO.2.2.1))
 (cond (iLt pO.2.1 (ay ((atI pO.2.2.1 pO.1 (0,[],[],())).2.2.1)))
 (cond (bnd pO.1 (ay pO.2.2.1))
 (cond (bnd pO.2.1 (ay ((atI pO.2.2.1 pO.1 (0,[],[],())).2.2.1)))
 ((self (atI ((atI pO.2.2.1 pO.1 (0,[],[],())).2.2.1) pO.2.1 0,pO.2.2.1,pO.2.2.2.1,pO.2.2.2.2.1,())).bind λP8 =>
 cond (and (Nat.beq (List.length pO.2.2.2.2.1) (List.length P8.2.2.1)) true)
 (some (.inl (pO.1,bX .i64 pO.2.1 1,P8.1,P8.2.1,P8.2.2.1,()))) none) none) none)
 (some (.inr (pO.2.2.1,pO.2.2.2.1,pO.2.2.2.2.1,())))) none)
 (a0,0,a1,a2++([atI a1 a0 (0,[],[],())]:List DS1),List.set a3 (Int.toNat a0) (ay a2),())) none) none) none) none)) none) none
def En:Sh:=⟨4,[(3,(.int .i64))],[(0,.ptr 0 0 0),(1,.row 1),(2,.row 2)],[.box 93 [.nil,.nil,.d (.list tS1)],.row 70 tS1 false,.row 3 (.int .i64) false]⟩
def Ec:Sh:=⟨1,[],[(0,.row 1)],[.box 93 [.nil,.nil,.d (.list tS1)],.row 70 tS1 false,.row 3 (.int .i64) false]⟩
def OU(self:(Int×(List DS1)×(List DS1)×(List Int)×Unit)->Option ((List DS1)×(List DS1)×(List Int)×Unit)):Cfg:=⟨fG,bP,[],[⟨58,En,Ec,self,[2]⟩]⟩
theorem a1t(self:(Int×(List DS1)×(List DS1)×(List Int)×Unit)->Option ((List DS1)×(List DS1)×(List Int)×Unit))(x:Int×(List DS1)×(List DS1)×(List Int)×Unit):oL (OU self) Pw 64 [.t 8] [] En Ec x=Bp self x.1 x.2.1 x.2.2.1 x.2.2.2.1:=by kernel_rfl
def JJ(a0:Int)(a1:List DS1)(a2:List DS1)(a3:List Int):Option ((List DS1)×(List DS1)×(List Int)×Unit):=wW (λself (x:Int×(List DS1)×(List DS1)×(List Int)×Unit)=>Bp self x.1 x.2.1 x.2.2.1 x.2.2.2.1) (a0,a1,a2,a3,())
def Yt:HI:=⟨58,En,Ec,fun(x:Int×(List DS1)×(List DS1)×(List Int)×Unit)=>JJ x.1 x.2.1 x.2.2.1 x.2.2.2.1,[2]⟩
theorem a0M:HOk Tryd.prog (gx bP) Yt:=Bw (f:=58) (ish:=En) (osh:=Ec) (G:=λself (x:Int×(List DS1)×(List DS1)×(List Int)×Unit)=>Bp self x.1 x.2.1 x.2.2.1 x.2.2.2.1) ZK.callable (λrun hr=>hok mixed (jI hr (bZ _ _):dx _ (OU run)) ZK (a1t run))
def Pt:XC:=xoF Tryd.f58 (.d 4 (.s (.d 1 (.b (.l [] ⟨64,[(3,(.int .i64)),(9,(.int .i64))],[(0,.ptr 0 0 0),(1,.row 2),(2,.row 1)],[.box 93 [.nil,.nil,.d (.list tS1)],.row 3 (.int .i64) false,.row 70 tS1 false]⟩ .o))) .o))
theorem a8r:Fn Tryd.prog 58 64 Pt.er [.t 8]:=by unfold Pt;exact fnX Tryd.func58 (by kernel_rfl) (by kernel_rfl) (by kernel_rfl) (by kernel_rfl)
def Gc(a0:Int)(a1:List DS1)(a2:List Int):Option ((List DS1)×(List Int)×(List DS1)×Unit) :=
 cond (or (bnd a0 (ay a2)) (not (bEq (iLt a0 0) false)))
 (cond (or (inB (Int.toNat a0) a2) (not (bEq (iLt a0 0) false)))
 (cond (cond (iLt a0 0) true (iLe 0 (List.getD a2 (Int.toNat a0) 0)))
 (some (a1,a2,([]:List DS1),()))
 (cond (bnd a0 (ay a2))
 (cond (inB (Int.toNat a0) a2)
 (cond (bnd a0 (ay a1))
 (cond (fits (List.length ([atI a1 a0 (0,[],[],())]:List DS1)) 56)
 (eT (S:=Int×Int×(List DS1)×(List Int)×(List DS1)×Unit) (R:=(List DS1)×(List Int)×(List DS1)×Unit) (λpK =>
 cond (bnd pK.1 (ay pK.2.2.1))
 (cond (iLt pK.2.1 (ay ((atI pK.2.2.1 pK.1 (0,[],[],())).2.2.1)))
 (cond (bnd pK.1 (ay pK.2.2.1))
 (cond (bnd pK.2.1 (ay ((atI pK.2.2.1 pK.1 (0,[],[],())).2.2.1)))
 ((JJ (atI ((atI pK.2.2.1 pK.1 (0,[],[],())).2.2.1) pK.2.1 0) pK.2.2.1 pK.2.2.2.2.1 pK.2.2.2.1).bind λP7 =>
 cond (and (Nat.beq (List.length pK.2.2.2.1) (List.length P7.2.2.1)) true)
 (some (.inl (pK.1,bX .i64 pK.2.1 1,P7.1,P7.2.2.1,P7.2.1,()))) none) none) none)
 (some (.inr (pK.2.2.1,pK.2.2.2.1,pK.2.2.2.2.1,())))) none)
 (a0,0,a1,List.set a2 (Int.toNat a0) 0,([atI a1 a0 (0,[],[],())]:List DS1),())) none) none) none) none)) none) none
def OT:Cfg:=⟨fG,bP,[],[Yt]⟩
def Ot:Sh:=⟨4,[(3,(.int .i64))],[(0,.ptr 0 0 0),(1,.nil),(2,.row 1)],[.box 93 [.nil,.nil,.d (.list tS1)],.row 3 (.int .i64) false]⟩
def O4:Sh:=⟨1,[],[(0,.row 2)],[.box 93 [.nil,.nil,.d (.list tS1)],.row 3 (.int .i64) false,.row 70 tS1 false]⟩
theorem a1s(x:Int×(List DS1)×(List Int)×Unit):oL OT Pt 64 [.t 8] [.gh 8 70 tS1] Ot O4 x=Gc x.1 x.2.1 x.2.2.1:=by kernel_rfl
def Yr:HI:=⟨58,Ot,O4,fun(x:Int×(List DS1)×(List Int)×Unit)=>Gc x.1 x.2.1 x.2.2.1,[1]⟩
theorem a0L:HOk Tryd.prog (gx bP) Yr:=hok mixed (jI a0M (bZ _ _):dx _ (OT)) a8r (a1s)
def x30:XC:=xoF Tryd.f30 (.d 2 (.s (.d 1 (.b (.l [] ⟨109,[(5,(.int .i64))],[(2,.ptr 0 0 0),(3,.ptr 1 0 0)],[.box 24 [.d (.list tS0)],.box 28 [.d (.list tS1),.d (.int .i64)]]⟩ (.d 1 (.s (.b (.d 3 (.b (.l [] ⟨109,[(5,(.int .i64)),(7,(.int .i64))],[(2,.ptr 0 0 0),(3,.ptr 1 0 0),(6,.ptr 2 0 0)],[.box 24 [.d (.list tS0)],.box 28 [.d (.list tS1),.d (.int .i64)],.box 70 [.d (.int .i64),.d (.list (.int .i64)),.d (.list (.int .i64))]]⟩ .o)))) .o))))) (.d 2 (.s (.d 1 (.b (.l [] ⟨109,[(11,(.int .i64))],[(3,.ptr 0 0 0),(9,.ptr 1 0 0),(10,.row 2)],[.box 28 [.d (.list tS1),.d (.int .i64)],.box 93 [.nil,.nil,.d (.list tS1)],.row 3 (.int .i64) false]⟩ .o))) (.d 1 (.s (.d 1 (.b (.l [] ⟨109,[(12,(.int .i64))],[(10,.row 0)],[.row 3 (.int .i64) false]⟩ .o))) .o))))))
theorem F30:Fn Tryd.prog 30 109 x30.er [.t 4]:=by unfold x30;exact fnX Tryd.func30 (by kernel_rfl) (by kernel_rfl) (by kernel_rfl) (by kernel_rfl)
def m30(a0:DS5)(a1:DS2):Option (Bool×Unit) :=
 (m41 (a0.1,())).bind λa8G =>
 cond (cond (iNe a8G.1 0) true (iLt 1000 (ay a1.1)))
 (some (false,()))
 ((m56 (a1.1,a1.2.1,()) a1.2.1).bind λa8F =>
 cond (not a8F.1)
 (some (false,()))
 (eT (S:=Int×(List DS0)×(List DS1)×Int×Unit) (R:=Bool×Unit) (λnu =>
 cond (iLt nu.1 (ay nu.2.2.1))
 (cond (bnd nu.1 (ay nu.2.2.1))
 ((m57 (nu.2.1,()) (nu.2.2.1,nu.2.2.2.1,()) ((atI nu.2.2.1 nu.1 (0,[],[],())).1,(atI nu.2.2.1 nu.1 (0,[],[],())).2.1,(atI nu.2.2.1 nu.1 (0,[],[],())).2.2.1,())).bind λa8E =>
 cond (not a8E.1)
 (some (.inr (false,())))
 (eT (S:=Int×Int×(List DS0)×(List DS1)×Int×Int×(List Int)×(List Int)×Unit) (R:=(Int×(List DS0)×(List DS1)×Int×Unit)⊕(Bool×Unit)) (λjK =>
 cond (iLt jK.2.1 jK.1)
 (cond (bnd jK.2.1 (ay jK.2.2.2.1))
 (cond (iEq ((atI jK.2.2.2.1 jK.2.1 (0,[],[],())).1) jK.2.2.2.2.2.1)
 ((m23 ((atI jK.2.2.2.1 jK.2.1 (0,[],[],())).2.1) jK.2.2.2.2.2.2.1).bind λa8D =>
 cond a8D.1
 ((m23 ((atI jK.2.2.2.1 jK.2.1 (0,[],[],())).2.2.1) jK.2.2.2.2.2.2.2.1).bind λa8C =>
 cond a8C.1
 (some (.inr (.inr (false,()))))
 (some (.inl (jK.1,bX .i64 jK.2.1 1,jK.2.2.1,jK.2.2.2.1,jK.2.2.2.2.1,jK.2.2.2.2.2.1,jK.2.2.2.2.2.2.1,jK.2.2.2.2.2.2.2.1,()))))
 (some (.inl (jK.1,bX .i64 jK.2.1 1,jK.2.2.1,jK.2.2.2.1,jK.2.2.2.2.1,jK.2.2.2.2.2.1,jK.2.2.2.2.2.2.1,jK.2.2.2.2.2.2.2.1,()))))
 (some (.inl (jK.1,bX .i64 jK.2.1 1,jK.2.2.1,jK.2.2.2.1,jK.2.2.2.2.1,jK.2.2.2.2.2.1,jK.2.2.2.2.2.2.1,jK.2.2.2.2.2.2.2.1,())))) none)
 (some (.inr (.inl (bX .i64 jK.1 1,jK.2.2.1,jK.2.2.2.1,jK.2.2.2.2.1,())))))
 (nu.1,0,nu.2.1,nu.2.2.1,nu.2.2.2.1,(atI nu.2.2.1 nu.1 (0,[],[],())).1,(atI nu.2.2.1 nu.1 (0,[],[],())).2.1,(atI nu.2.2.1 nu.1 (0,[],[],())).2.2.1,()))) none)
 (Option.map Sum.inr (cond (qQ (ay nu.2.2.1) 8)
 (eT (S:=Int×(List DS1)×Int×(List DS1)×(List Int)×Unit) (R:=Bool×Unit) (λtV =>
 cond (iLt tV.1 (ay tV.2.2.2.2.1))
 (cond (bnd tV.1 (ay tV.2.2.2.2.1))
 (cond (inB (Int.toNat tV.1) tV.2.2.2.2.1)
 (some (.inl (bX .i64 tV.1 1,tV.2.1,tV.2.2.1,tV.2.2.2.1,List.set tV.2.2.2.2.1 (Int.toNat tV.1) (-1),()))) none) none)
 (Option.map Sum.inr ((Gc tV.2.2.1 tV.2.2.2.1 tV.2.2.2.2.1).bind λa19 =>
 cond (and (Nat.beq (List.length tV.2.2.2.2.1) (List.length a19.2.1)) true)
 (eT (S:=Int×(List Int)×Unit) (R:=Bool×Unit) (λzl =>
 cond (iLt zl.1 (ay zl.2.1))
 (cond (bnd zl.1 (ay zl.2.1))
 (cond (inB (Int.toNat zl.1) zl.2.1)
 (cond (iNe (List.getD zl.2.1 (Int.toNat zl.1) 0) zl.1)
 (some (.inr (false,())))
 (some (.inl (bX .i64 zl.1 1,zl.2.1,())))) none) none)
 (some (.inr (true,()))))
 (0,a19.2.1,())) none)))
 (0,nu.2.2.1,nu.2.2.2.1,nu.2.2.1,(List.replicate (Int.toNat (ay nu.2.2.1)) 0:List Int),())) none)))
 (0,a0.1,a1.1,a1.2.1,())))
def Zp:Cfg:=⟨fG,bP,[i23,i41,i56,i57],[Yr]⟩
theorem a7J(x:DS5×DS2×Unit):gK Zp x30 109 [.t 4] [tS5,tS2] [.bool] x=m30 x.1 x.2.1:=by kernel_rfl
def i30:PI:=⟨30,[tS5,tS2],[.bool],fun(x:DS5×DS2×Unit)=>m30 x.1 x.2.1⟩
theorem a6a:POk Tryd.prog (gx bP) i30:=pok mixed (dw Qp (dw Ya (dw Y6 (dw a5U (jI a0L (bZ _ _))))):dx _ (Zp)) F30 (a7J)
def x8:XC:=xoF Tryd.f8 (.d 4 (.s (.u [2]) .o))
theorem F8:Fn Tryd.prog 8 112 x8.er [.t 10]:=by unfold x8;exact fnX Tryd.func8 (by kernel_rfl) (by kernel_rfl) (by kernel_rfl) (by kernel_rfl)
def m8(a0:Int)(a1:List Int)(a2:List Int)(a3:Int)(a4:DS2):Option (Bool×Unit) :=
 cond (iLt 60 (ay a4.1))
 ((m11).bind λa8B =>
 some (a8B.1,()))
 ((m15 a0).bind λBJ =>
 (m19 a1).bind λa18 =>
 (m18 (BJ.1.1,()) 3 a18.1 a18.2.1).bind λAu =>
 (m18 (BJ.1.1,()) 3 Au.2.2.1 Au.2.2.2.1).bind λAr =>
 (m20 (BJ.1.1,()) (Au.1,Au.2.1,()) (Ar.1,Ar.2.1,())).bind λa8A =>
 cond (not a8A.1)
 ((m11).bind λa8z =>
 some (a8z.1,()))
 ((m16 a3 6).bind λP6 =>
 (m33 (BJ.1.1,()) (Au.1,Au.2.1,()) (Ar.1,Ar.2.1,()) P6.1).bind λUo =>
 (m34 (BJ.1.1,()) (Au.1,Au.2.1,()) (Ar.1,Ar.2.1,()) P6.1).bind λUn =>
 (m19 a2).bind λa15 =>
 (m29 (Ar.1,Ar.2.1,()) a15.1 a15.2.1).bind λP5 =>
 (m33 (BJ.1.1,()) (Au.1,Au.2.1,()) (P5.1.1,P5.1.2.1,()) P6.1).bind λa8y =>
 (m33 (BJ.1.1,()) (a4.1,a4.2.1,()) (Ar.1,Ar.2.1,()) P6.1).bind λa8x =>
 (m14 (Uo.1.1,Uo.1.2.1,()) (Un.1.1,Un.1.2.1,())).bind λa8w =>
 cond (cond a8w.1 (iEq Uo.2.1 Un.2.1) false)
 ((m30 (BJ.1.1,()) (P5.1.1,P5.1.2.1,())).bind λa8v =>
 cond (bEq (iEq a8y.2.1 21) (not a8v.1))
 ((m30 (BJ.1.1,()) (a4.1,a4.2.1,())).bind λa8u =>
 cond (bEq (iEq a8x.2.1 21) (not a8u.1))
 ((m11).bind λa8t =>
 some (a8t.1,()))
 (some (false,())))
 (some (false,())))
 (some (false,()))))
def a4O:Cfg:=⟨fG,bP,[i11,i14,i15,i16,i20,i30,i33,i34],[h18,h19,h29]⟩
theorem a94(x:Int×(List Int)×(List Int)×Int×DS2×Unit):gK a4O x8 112 [.t 10] [(.int .i64),(.list (.int .i64)),(.list (.int .i64)),(.int .i64),tS2] [.bool] x=m8 x.1 x.2.1 x.2.2.1 x.2.2.2.1 x.2.2.2.2.1:=by kernel_rfl
def i8:PI:=⟨8,[(.int .i64),(.list (.int .i64)),(.list (.int .i64)),(.int .i64),tS2],[.bool],fun(x:Int×(List Int)×(List Int)×Int×DS2×Unit)=>m8 x.1 x.2.1 x.2.2.1 x.2.2.2.1 x.2.2.2.2.1⟩
theorem a9B:POk Tryd.prog (gx bP) i8:=pok mixed (dw a6j (dw a6h (dw a6g (dw Yc (dw a6e (dw a6a (dw a5Z (dw a5Y (jI a6s (jI a6r (jI a6p (bZ _ _))))))))))):dx _ (a4O)) F8 (a94)
end
end Abs
end Go.Proofs.YtgfnhpadmifiiaaDoor
