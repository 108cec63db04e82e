/- Merged and trimmed by a program: Models. -/
import Derived.Test.YtgfnhpadmifiiaaDoorZDF
import Derived.Test.YtgfnhpadmifiiaaDoorProg
import Derived.KernelRfl
set_option linter.unusedVariables false
set_option linter.unusedSimpArgs false
set_option linter.defProp false
namespace Go.Proofs.YtgfnhpadmifiiaaDoor
namespace Abs
noncomputable section
set_option maxRecDepth 100000
theorem mixed:Tryd.prog.follows .mixedOrders=true:=by kernel_rfl
abbrev tS0:Ty:=.tup [.str,(.int .i64),(.list .str),(.int .i64),(.int .i64)]
abbrev DS0:Type:=ByteArray×Int×(List ByteArray)×Int×Int×Unit
abbrev tS1:Ty:=.tup [(.int .i64),(.list (.int .i64)),(.list (.int .i64))]
abbrev DS1:Type:=Int×(List Int)×(List Int)×Unit
abbrev tS2:Ty:=.tup [(.list tS1),(.int .i64)]
abbrev DS2:Type:=(List DS1)×Int×Unit
abbrev tS3:Ty:=.tup [(.int .i64),(.int .i64)]
abbrev DS3:Type:=Int×Int×Unit
abbrev tS4:Ty:=.tup [.str,.bool]
abbrev DS4:Type:=ByteArray×Bool×Unit
abbrev tS5:Ty:=.tup [(.list tS0)]
abbrev DS5:Type:=(List DS0)×Unit
abbrev tS6:Ty:=.tup [tS3,(.int .i64)]
abbrev DS6:Type:=DS3×Int×Unit
abbrev tS7:Ty:=.tup [.str,(.int .i64)]
abbrev DS7:Type:=ByteArray×Int×Unit
abbrev tS8:Ty:=.tup [(.int .u64),(.int .u64),(.int .u64),(.int .u64),(.int .u64),(.int .u64),(.int .u64),(.int .u64),(.int .u64),(.int .u64),(.int .u64),(.int .u64),(.int .u64),(.int .u64),(.int .u64),(.int .u64),(.int .u64),(.int .u64),(.int .u64),(.int .u64)]
abbrev DS8:Type:=Int×Int×Int×Int×Int×Int×Int×Int×Int×Int×Int×Int×Int×Int×Int×Int×Int×Int×Int×Int×Unit
instance (n:Nat):OfNat Opd n:=⟨.t n⟩
def fQ:Nat->Option Ty:=λn=>if Nat.beq n 3=true then some (.int .i64) else if Nat.beq n 9=true then some .str else if Nat.beq n 37=true then some (.list (.int .i64)) else if Nat.beq n 64=true then some tS0 else if Nat.beq n 70=true then some tS1 else if Nat.beq n 82=true then some tS3 else if Nat.beq n 86=true then some tS3 else if Nat.beq n 95=true then some tS4 else if Nat.beq n 102=true then some tS6 else if Nat.beq n 103=true then some tS7 else none
def bQ:GXT:=λn=>if Nat.beq n 0=true then some ⟨tS8,(show DS8 from(1,10,100,1000,10000,100000,1000000,10000000,100000000,1000000000,10000000000,100000000000,1000000000000,10000000000000,100000000000000,1000000000000000,10000000000000000,100000000000000000,1000000000000000000,10000000000000000000,()))⟩ else none
def hcl:List Nat:=[18,19,24,29,45,51,55,58,66,67,68,70,80,81,86,97,127,128,129,130,131,134]
def xoF(f:Func)(a:AT):XC:=xo Tryd.prog hcl f a
theorem fnX{f n:Nat}{fn:Func}{a:AT}{rs:List RV}(h1:Tryd.prog.funcs[f]?=some fn)(h2:(fn.body.bind (cC Tryd.prog hcl)).isSome=true)(h3:xQ Tryd.prog fn.results.toList=some rs)(h4:fn.ntmps=n)(h5:callable Tryd.prog f=true):Fn Tryd.prog f n (xoF fn a).er rs:=⟨fn,hcl,h1,a5y h2,h3,h4,h5⟩
theorem SV:POk Tryd.prog (gx bQ) QJ:=a3s (by rfl)
def x99:XC:=xoF Tryd.f99 .o
theorem F99:Fn Tryd.prog 99 9 x99.er [.t 2]:=by unfold x99;exact fnX Tryd.func99 (by kernel_rfl) (by kernel_rfl) (by kernel_rfl) (by kernel_rfl)
def m99(a0:Int):Option (Bool×Unit) :=
 some (cond (iLe 97 a0) (iLe a0 122) false,())
def YQ:Cfg:=⟨fQ,bQ,[],[]⟩
theorem a6X(x:Int×Unit):gZ YQ x99 9 [.t 2] [(.int .u8)] [.bool] x=m99 x.1:=by kernel_rfl
def i99:PI:=⟨99,[(.int .u8)],[.bool],fun(x:Int×Unit)=>m99 x.1⟩
theorem Yj:POk Tryd.prog (gx bQ) i99:=pok mixed (cu _ _:dG _ (YQ)) F99 (a6X)
def UH:XC:=xoF Tryd.f106 .o
theorem a92:Fn Tryd.prog 106 9 UH.er [.t 2]:=by unfold UH;exact fnX Tryd.func106 (by kernel_rfl) (by kernel_rfl) (by kernel_rfl) (by kernel_rfl)
def LX(a0:Int):Option (Bool×Unit) :=
 some (cond (iLe 48 a0) (iLe a0 57) false,())
def Uc:Cfg:=⟨fQ,bQ,[],[]⟩
theorem a4K(x:Int×Unit):gZ Uc UH 9 [.t 2] [(.int .u8)] [.bool] x=LX x.1:=by kernel_rfl
def a4e:PI:=⟨106,[(.int .u8)],[.bool],fun(x:Int×Unit)=>LX x.1⟩
theorem a3m:POk Tryd.prog (gx bQ) a4e:=pok mixed (cu _ _:dG _ (Uc)) a92 (a4K)
def x101:XC:=xoF Tryd.f101 .o
theorem a97:Fn Tryd.prog 101 13 x101.er [.t 2]:=by unfold x101;exact fnX Tryd.func101 (by kernel_rfl) (by kernel_rfl) (by kernel_rfl) (by kernel_rfl)
def M0(a0:Int):Option (Bool×Unit) :=
 (m99 a0).bind λy4 =>
 cond y4.1
 (some (true,()))
 ((LX a0).bind λy5 =>
 some (cond y5.1 true (iEq a0 45),()))
def Ug:Cfg:=⟨fQ,bQ,[a4e,i99],[]⟩
theorem a4O(x:Int×Unit):gZ Ug x101 13 [.t 2] [(.int .u8)] [.bool] x=M0 x.1:=by kernel_rfl
def a4i:PI:=⟨101,[(.int .u8)],[.bool],fun(x:Int×Unit)=>M0 x.1⟩
theorem a3q:POk Tryd.prog (gx bQ) a4i:=pok mixed (dA a3m (dA Yj (cu _ _)):dG _ (Ug)) a97 (a4O)
def x100:XC:=xoF Tryd.f100 (.d 1 (.s (.b (.l [] ⟨21,[(0,.str),(1,(.int .i64)),(2,(.fnc 101))],[],[]⟩ .o)) .o))
theorem a98:Fn Tryd.prog 100 21 x100.er [.t 6]:=by unfold x100;exact fnX Tryd.func100 (by kernel_rfl) (by kernel_rfl) (by kernel_rfl) (by kernel_rfl)
def M4(a0:ByteArray)(a1:Int)(a2:Unit):Option (Int×Unit) :=
 eZ (S:=ByteArray×Int×Unit×Unit) (R:=Int×Unit) (λs7 =>
 cond (or (bnd s7.2.1 (sLen s7.1)) (not (bEq (iLt s7.2.1 (sLen s7.1)) true)))
 (cond (iLt s7.2.1 (sLen s7.1))
 ((M0 (sAt s7.1 s7.2.1)).bind λy8 =>
 cond y8.1
 (some (.inl (s7.1,bZ .i64 s7.2.1 1,s7.2.2.1,())))
 (some (.inr (s7.2.1,()))))
 (some (.inr (s7.2.1,())))) none)
 (a0,a1,(),())
def Uh:Cfg:=⟨fQ,bQ,[a4i],[]⟩
theorem a4P(x:ByteArray×Int×Unit×Unit):gZ Uh x100 21 [.t 6] [.str,(.int .i64),(.fnc 101)] [(.int .i64)] x=M4 x.1 x.2.1 x.2.2.1:=by kernel_rfl
def a4j:PI:=⟨100,[.str,(.int .i64),(.fnc 101)],[(.int .i64)],fun(x:ByteArray×Int×Unit×Unit)=>M4 x.1 x.2.1 x.2.2.1⟩
theorem a3r:POk Tryd.prog (gx bQ) a4j:=pok mixed (dA a3q (cu _ _):dG _ (Uh)) a98 (a4P)
def x88:XC:=xoF Tryd.f88 .o
theorem F88:Fn Tryd.prog 88 30 x88.er [.t 2]:=by unfold x88;exact fnX Tryd.func88 (by kernel_rfl) (by kernel_rfl) (by kernel_rfl) (by kernel_rfl)
def m88(a0:ByteArray):Option (Bool×Unit) :=
 cond (or (bnd 0 (sLen a0)) (not (bEq (cond (iEq (sLen a0) 0) true (iLt 16 (sLen a0))) false)))
 (cond (cond (iEq (sLen a0) 0) true (iLt 16 (sLen a0)))
 (cond (or (bnd (gP .i64 (sLen a0) 1) (sLen a0)) (not (bEq true false)))
 (some (false,())) none)
 ((m99 (sAt a0 0)).bind λy2 =>
 cond (or (bnd (gP .i64 (sLen a0) 1) (sLen a0)) (not (bEq (not y2.1) false)))
 (cond (cond (not y2.1) true (iEq (sAt a0 (gP .i64 (sLen a0) 1)) 45))
 (some (false,()))
 ((M4 a0 0 ()).bind λy9 =>
 some (iEq y9.1 (sLen a0),()))) none)) none
def Z0:Cfg:=⟨fQ,bQ,[a4j,i99],[]⟩
theorem a7g(x:ByteArray×Unit):gZ Z0 x88 30 [.t 2] [.str] [.bool] x=m88 x.1:=by kernel_rfl
def i88:PI:=⟨88,[.str],[.bool],fun(x:ByteArray×Unit)=>m88 x.1⟩
theorem a5Y:POk Tryd.prog (gx bQ) i88:=pok mixed (dA a3r (dA Yj (cu _ _)):dG _ (Z0)) F88 (a7g)
def x89:XC:=xoF Tryd.f89 .o
theorem F89:Fn Tryd.prog 89 28 x89.er [.t 2]:=by unfold x89;exact fnX Tryd.func89 (by kernel_rfl) (by kernel_rfl) (by kernel_rfl) (by kernel_rfl)
def m89(a0:ByteArray):Option (Bool×Unit) :=
 cond (sEq a0 (bs [97,110,100]))
 (some (true,()))
 (cond (sEq a0 (bs [97,118,101,114,97,103,101]))
 (some (true,()))
 (cond (sEq a0 (bs [99,111,105,110,115,117,114,97,110,99,101]))
 (some (true,()))
 (cond (sEq a0 (bs [99,111,110,100,105,116,105,111,110]))
 (some (true,()))
 (cond (sEq a0 (bs [99,111,118,101,114]))
 (some (true,()))
 (cond (sEq a0 (bs [100,101,100,117,99,116,105,98,108,101]))
 (some (true,()))
 (cond (sEq a0 (bs [100,101,102,105,110,101]))
 (some (true,()))
 (cond (sEq a0 (bs [101,110,100]))
 (some (true,()))
 (cond (sEq a0 (bs [101,110,100,111,114,115,101]))
 (some (true,()))
 (cond (sEq a0 (bs [101,120,99,108,117,100,101]))
 (some (true,()))
 (cond (sEq a0 (bs [102,97,108,115,101]))
 (some (true,()))
 (cond (sEq a0 (bs [102,114,97,110,99,104,105,115,101]))
 (some (true,()))
 (cond (sEq a0 (bs [102,114,111,109]))
 (some (true,()))
 (cond (sEq a0 (bs [105,110]))
 (some (true,()))
 (cond (sEq a0 (bs [108,105,109,105,116]))
 (some (true,()))
 (cond (sEq a0 (bs [110,111,116]))
 (some (true,()))
 (cond (sEq a0 (bs [111,114]))
 (some (true,()))
 (cond (sEq a0 (bs [114,101,109,111,118,101]))
 (some (true,()))
 (cond (sEq a0 (bs [115,117,98,108,105,109,105,116]))
 (some (true,()))
 (cond (sEq a0 (bs [116,111]))
 (some (true,()))
 (cond (sEq a0 (bs [116,114,117,101]))
 (some (true,()))
 (cond (sEq a0 (bs [117,110,108,101,115,115]))
 (some (true,()))
 (cond (sEq a0 (bs [119,104,101,110]))
 (some (true,()))
 (some (false,()))))))))))))))))))))))))
def YZ:Cfg:=⟨fQ,bQ,[],[]⟩
theorem a7f(x:ByteArray×Unit):gZ YZ x89 28 [.t 2] [.str] [.bool] x=m89 x.1:=by kernel_rfl
def i89:PI:=⟨89,[.str],[.bool],fun(x:ByteArray×Unit)=>m89 x.1⟩
theorem a5X:POk Tryd.prog (gx bQ) i89:=pok mixed (cu _ _:dG _ (YZ)) F89 (a7f)
def x73:XC:=xoF Tryd.f73 .o
theorem F73:Fn Tryd.prog 73 10 x73.er [.t 2]:=by unfold x73;exact fnX Tryd.func73 (by kernel_rfl) (by kernel_rfl) (by kernel_rfl) (by kernel_rfl)
def m73(a0:ByteArray):Option (Bool×Unit) :=
 (m88 a0).bind λy10 =>
 cond y10.1
 ((m89 a0).bind λy11 =>
 some (not y11.1,()))
 (some (false,()))
def Zf:Cfg:=⟨fQ,bQ,[i88,i89],[]⟩
theorem a7s(x:ByteArray×Unit):gZ Zf x73 10 [.t 2] [.str] [.bool] x=m73 x.1:=by kernel_rfl
def i73:PI:=⟨73,[.str],[.bool],fun(x:ByteArray×Unit)=>m73 x.1⟩
theorem Yp:POk Tryd.prog (gx bQ) i73:=pok mixed (dA a5Y (dA a5X (cu _ _)):dG _ (Zf)) F73 (a7s)
def x74:XC:=xoF Tryd.f74 (.d 1 (.s (.d 1 (.b (.l [] ⟨22,[(1,.str),(9,(.list tS0)),(10,(.int .i64)),(11,(.int .i64))],[],[]⟩ .o))) .o))
theorem F74:Fn Tryd.prog 74 22 x74.er [.t 4,.t 5]:=by unfold x74;exact fnX Tryd.func74 (by kernel_rfl) (by kernel_rfl) (by kernel_rfl) (by kernel_rfl)
def m74(a0:DS5)(a1:ByteArray):Option (Int×Bool×Unit) :=
 eZ (S:=ByteArray×(List DS0)×Int×Int×Unit) (R:=Int×Bool×Unit) (λs14 =>
 cond (iLt s14.2.2.2.1 s14.2.2.1)
 (cond (bnd s14.2.2.2.1 (aG s14.2.1))
 (cond (sEq ((atI s14.2.1 s14.2.2.2.1 (ByteArray.empty,0,[],0,0,())).1) s14.1)
 (some (.inr (s14.2.2.2.1,true,())))
 (some (.inl (s14.1,s14.2.1,s14.2.2.1,bZ .i64 s14.2.2.2.1 1,())))) none)
 (some (.inr (0,false,()))))
 (a1,a0.1,aG a0.1,0,())
def Ze:Cfg:=⟨fQ,bQ,[],[]⟩
theorem a7r(x:DS5×ByteArray×Unit):gZ Ze x74 22 [.t 4,.t 5] [tS5,.str] [(.int .i64),.bool] x=m74 x.1 x.2.1:=by kernel_rfl
def i74:PI:=⟨74,[tS5,.str],[(.int .i64),.bool],fun(x:DS5×ByteArray×Unit)=>m74 x.1 x.2.1⟩
theorem a6c:POk Tryd.prog (gx bQ) i74:=pok mixed (cu _ _:dG _ (Ze)) F74 (a7r)
def x107:XC:=xoF Tryd.f107 (.d 1 (.s (.d 1 (.b (.l [] ⟨19,[(0,(.list .str)),(1,.str),(7,(.int .i64)),(8,(.int .i64))],[],[]⟩ .o))) .o))
theorem a90:Fn Tryd.prog 107 19 x107.er [.t 4]:=by unfold x107;exact fnX Tryd.func107 (by kernel_rfl) (by kernel_rfl) (by kernel_rfl) (by kernel_rfl)
def Qz(a0:List ByteArray)(a1:ByteArray):Option (Int×Unit) :=
 eZ (S:=(List ByteArray)×ByteArray×Int×Int×Unit) (R:=Int×Unit) (λs20 =>
 cond (iLt s20.2.2.2.1 s20.2.2.1)
 (cond (bnd s20.2.2.2.1 (aG s20.1))
 (cond (sEq s20.2.1 (atI s20.1 s20.2.2.2.1 ByteArray.empty))
 (some (.inr (s20.2.2.2.1,())))
 (some (.inl (s20.1,s20.2.1,s20.2.2.1,bZ .i64 s20.2.2.2.1 1,())))) none)
 (some (.inr ((-1),()))))
 (a0,a1,aG a0,0,())
def Ub:Cfg:=⟨fQ,bQ,[],[]⟩
theorem a4J(x:(List ByteArray)×ByteArray×Unit):gZ Ub x107 19 [.t 4] [(.list .str),.str] [(.int .i64)] x=Qz x.1 x.2.1:=by kernel_rfl
def i107:PI:=⟨107,[(.list .str),.str],[(.int .i64)],fun(x:(List ByteArray)×ByteArray×Unit)=>Qz x.1 x.2.1⟩
theorem a3l:POk Tryd.prog (gx bQ) i107:=pok mixed (cu _ _:dG _ (Ub)) a90 (a4J)
def x102:XC:=xoF Tryd.f102 .o
theorem a96:Fn Tryd.prog 102 9 x102.er [.t 4]:=by unfold x102;exact fnX Tryd.func102 (by kernel_rfl) (by kernel_rfl) (by kernel_rfl) (by kernel_rfl)
def LZ(a0:List ByteArray)(a1:ByteArray):Option (Bool×Unit) :=
 (Qz a0 a1).bind λy21 =>
 some (iLe 0 y21.1,())
def Uf:Cfg:=⟨fQ,bQ,[i107],[]⟩
theorem a4N(x:(List ByteArray)×ByteArray×Unit):gZ Uf x102 9 [.t 4] [(.list .str),.str] [.bool] x=LZ x.1 x.2.1:=by kernel_rfl
def a4h:PI:=⟨102,[(.list .str),.str],[.bool],fun(x:(List ByteArray)×ByteArray×Unit)=>LZ x.1 x.2.1⟩
theorem a3p:POk Tryd.prog (gx bQ) a4h:=pok mixed (dA a3l (cu _ _):dG _ (Uf)) a96 (a4N)
def x90:XC:=xoF Tryd.f90 (.d 3 (.s (.d 1 (.b (.l [] ⟨36,[(0,(.list .str)),(13,(.list .str)),(14,(.int .i64)),(15,(.int .i64))],[],[]⟩ .o))) (.s (.d 1 (.b (.l [] ⟨36,[(0,(.list .str)),(23,(.list .str)),(24,(.int .i64)),(25,(.int .i64))],[],[]⟩ .o))) .o)))
theorem F90:Fn Tryd.prog 90 36 x90.er [.t 2]:=by unfold x90;exact fnX Tryd.func90 (by kernel_rfl) (by kernel_rfl) (by kernel_rfl) (by kernel_rfl)
def m90(a0:List ByteArray):Option (Int×Unit) :=
 cond (iEq (aG a0) 0)
 (some (19,()))
 (cond (iLt 12 (aG a0))
 (some (4,()))
 (eZ (S:=(List ByteArray)×(List ByteArray)×Int×Int×Unit) (R:=Int×Unit) (λs23 =>
 cond (iLt s23.2.2.2.1 s23.2.2.1)
 (cond (bnd s23.2.2.2.1 (aG s23.2.1))
 ((m73 (atI s23.2.1 s23.2.2.2.1 ByteArray.empty)).bind λy24 =>
 cond (not y24.1)
 (some (.inr (6,())))
 (some (.inl (s23.1,s23.2.1,s23.2.2.1,bZ .i64 s23.2.2.2.1 1,())))) none)
 (Option.map Sum.inr (eZ (S:=(List ByteArray)×(List ByteArray)×Int×Int×Unit) (R:=Int×Unit) (λs25 =>
 cond (iLt s25.2.2.2.1 s25.2.2.1)
 (cond (bnd s25.2.2.2.1 (aG s25.2.1))
 (cond (vw 0 s25.2.2.2.1 (List.length s25.1))
 ((LZ (vJ 0 s25.2.2.2.1 s25.1) (atI s25.2.1 s25.2.2.2.1 ByteArray.empty)).bind λy26 =>
 cond y26.1
 (some (.inr (8,())))
 (some (.inl (s25.1,s25.2.1,s25.2.2.1,bZ .i64 s25.2.2.2.1 1,())))) none) none)
 (some (.inr (0,()))))
 (s23.1,s23.1,aG s23.1,0,()))))
 (a0,a0,aG a0,0,())))
def YX:Cfg:=⟨fQ,bQ,[a4h,i73],[]⟩
theorem a7e(x:(List ByteArray)×Unit):gZ YX x90 36 [.t 2] [(.list .str)] [(.int .i64)] x=m90 x.1:=by kernel_rfl
def i90:PI:=⟨90,[(.list .str)],[(.int .i64)],fun(x:(List ByteArray)×Unit)=>m90 x.1⟩
theorem a5W:POk Tryd.prog (gx bQ) i90:=pok mixed (dA a3p (dA Yp (cu _ _)):dG _ (YX)) F90 (a7e)
def x75:XC:=xoF Tryd.f75 .o
theorem F75:Fn Tryd.prog 75 55 x75.er [.t 2]:=by unfold x75;exact fnX Tryd.func75 (by kernel_rfl) (by kernel_rfl) (by kernel_rfl) (by kernel_rfl)
def m75(a0:DS0):Option (Int×Unit) :=
 cond (iEq a0.2.1 1)
 (cond (cond (iNe a0.2.2.2.1 0) true (iNe a0.2.2.2.2.1 0))
 (some (20,()))
 ((m90 a0.2.2.1).bind λy27 =>
 some (y27.1,())))
 (cond (iEq a0.2.1 2)
 (cond (iLt 0 (aG a0.2.2.1))
 (some (20,()))
 (cond (cond (cond (iLt a0.2.2.2.2.1 a0.2.2.2.1) true (iLt a0.2.2.2.1 (-1000000000))) true (iLt 1000000000 a0.2.2.2.2.1))
 (some (1,()))
 (some (0,()))))
 (cond (iEq a0.2.1 3)
 (cond (cond (cond (iLt 0 (aG a0.2.2.1)) true (iNe a0.2.2.2.1 0)) true (iNe a0.2.2.2.2.1 0))
 (some (20,()))
 (some (0,())))
 (some (11,()))))
def Zd:Cfg:=⟨fQ,bQ,[i90],[]⟩
theorem a7q(x:DS0×Unit):gZ Zd x75 55 [.t 2] [tS0] [(.int .i64)] x=m75 x.1:=by kernel_rfl
def i75:PI:=⟨75,[tS0],[(.int .i64)],fun(x:DS0×Unit)=>m75 x.1⟩
theorem a6b:POk Tryd.prog (gx bQ) i75:=pok mixed (dA a5W (cu _ _):dG _ (Zd)) F75 (a7q)
def x38:XC:=xoF Tryd.f38 (.d 3 (.s (.d 1 (.b (.l [] ⟨44,[(17,(.list tS0)),(18,(.int .i64)),(19,(.int .i64))],[(1,.ptr 0 0 0)],[.box 24 [.d (.list tS0)]]⟩ .o))) .o))
theorem F38:Fn Tryd.prog 38 44 x38.er [.t 2]:=by unfold x38;exact fnX Tryd.func38 (by kernel_rfl) (by kernel_rfl) (by kernel_rfl) (by kernel_rfl)
def m38(a0:DS5):Option (Int×Unit) :=
 cond (iEq (aG a0.1) 0)
 (some (19,()))
 (cond (iLt 6 (aG a0.1))
 (some (4,()))
 (eZ (S:=(List DS0)×Int×Int×(List DS0)×Unit) (R:=Int×Unit) (λs29 =>
 cond (iLt s29.2.2.1 s29.2.1)
 (cond (bnd s29.2.2.1 (aG s29.1))
 ((m73 ((atI s29.1 s29.2.2.1 (ByteArray.empty,0,[],0,0,())).1)).bind λy30 =>
 cond (not y30.1)
 (some (.inr (6,())))
 ((m74 (s29.2.2.2.1,()) ((atI s29.1 s29.2.2.1 (ByteArray.empty,0,[],0,0,())).1)).bind λy31 =>
 cond (iLt y31.1 s29.2.2.1)
 (some (.inr (8,())))
 ((m75 ((atI s29.1 s29.2.2.1 (ByteArray.empty,0,[],0,0,())).1,(atI s29.1 s29.2.2.1 (ByteArray.empty,0,[],0,0,())).2.1,(atI s29.1 s29.2.2.1 (ByteArray.empty,0,[],0,0,())).2.2.1,(atI s29.1 s29.2.2.1 (ByteArray.empty,0,[],0,0,())).2.2.2.1,(atI s29.1 s29.2.2.1 (ByteArray.empty,0,[],0,0,())).2.2.2.2.1,())).bind λy32 =>
 cond (iNe y32.1 0)
 (some (.inr (y32.1,())))
 (some (.inl (s29.1,s29.2.1,bZ .i64 s29.2.2.1 1,s29.2.2.2.1,())))))) none)
 (some (.inr (0,()))))
 (a0.1,aG a0.1,0,a0.1,())))
def ZC:Cfg:=⟨fQ,bQ,[i73,i74,i75],[]⟩
theorem a7O(x:DS5×Unit):gZ ZC x38 44 [.t 2] [tS5] [(.int .i64)] x=m38 x.1:=by kernel_rfl
def i38:PI:=⟨38,[tS5],[(.int .i64)],fun(x:DS5×Unit)=>m38 x.1⟩
theorem Em:POk Tryd.prog (gx bQ) i38:=pok mixed (dA Yp (dA a6c (dA a6b (cu _ _))):dG _ (ZC)) F38 (a7O)
def x76:XC:=xoF Tryd.f76 .o
theorem F76:Fn Tryd.prog 76 18 x76.er [.t 2,.t 3]:=by unfold x76;exact fnX Tryd.func76 (by kernel_rfl) (by kernel_rfl) (by kernel_rfl) (by kernel_rfl)
def m76(a0:DS0):Option (Int×Int×Unit) :=
 cond (iEq a0.2.1 1)
 (some (0,gP .i64 (aG a0.2.2.1) 1,()))
 (cond (iEq a0.2.1 2)
 (some (a0.2.2.2.1,a0.2.2.2.2.1,()))
 (some (0,1,())))
def Zc:Cfg:=⟨fQ,bQ,[],[]⟩
theorem a7p(x:DS0×Unit):gZ Zc x76 18 [.t 2,.t 3] [tS0] [(.int .i64),(.int .i64)] x=m76 x.1:=by kernel_rfl
def i76:PI:=⟨76,[tS0],[(.int .i64),(.int .i64)],fun(x:DS0×Unit)=>m76 x.1⟩
theorem Yo:POk Tryd.prog (gx bQ) i76:=pok mixed (cu _ _:dG _ (Zc)) F76 (a7p)
def x39:XC:=xoF Tryd.f39 .o
theorem F39:Fn Tryd.prog 39 28 x39.er [.t 4,.t 5]:=by unfold x39;exact fnX Tryd.func39 (by kernel_rfl) (by kernel_rfl) (by kernel_rfl) (by kernel_rfl)
def m39(a0:DS5)(a1:Int):Option (Int×Int×Unit) :=
 (m38 (a0.1,())).bind λy34 =>
 cond (cond (cond (iNe y34.1 0) true (iLt a1 0)) true (iLe (aG a0.1) a1))
 (some (0,(-1),()))
 (cond (bnd a1 (aG a0.1))
 ((m76 (atI a0.1 a1 (ByteArray.empty,0,[],0,0,()))).bind λy35 =>
 some (y35.1,y35.2.1,())) none)
def ZB:Cfg:=⟨fQ,bQ,[i38,i76],[]⟩
theorem a7N(x:DS5×Int×Unit):gZ ZB x39 28 [.t 4,.t 5] [tS5,(.int .i64)] [(.int .i64),(.int .i64)] x=m39 x.1 x.2.1:=by kernel_rfl
def i39:PI:=⟨39,[tS5,(.int .i64)],[(.int .i64),(.int .i64)],fun(x:DS5×Int×Unit)=>m39 x.1 x.2.1⟩
theorem Yt:POk Tryd.prog (gx bQ) i39:=pok mixed (dA Em (dA Yo (cu _ _)):dG _ (ZB)) F39 (a7N)
def x40:XC:=xoF Tryd.f40 .o
theorem F40:Fn Tryd.prog 40 5 x40.er [.t 2]:=by unfold x40;exact fnX Tryd.func40 (by kernel_rfl) (by kernel_rfl) (by kernel_rfl) (by kernel_rfl)
def m40(a0:Int):Option (Int×Unit) :=
 some (gP .i64 (-1) a0,())
def ZA:Cfg:=⟨fQ,bQ,[],[]⟩
theorem a7M(x:Int×Unit):gZ ZA x40 5 [.t 2] [(.int .i64)] [(.int .i64)] x=m40 x.1:=by kernel_rfl
def i40:PI:=⟨40,[(.int .i64)],[(.int .i64)],fun(x:Int×Unit)=>m40 x.1⟩
theorem Gj:POk Tryd.prog (gx bQ) i40:=pok mixed (cu _ _:dG _ (ZA)) F40 (a7M)
def x17:XC:=xoF Tryd.f17 .o
theorem F17:Fn Tryd.prog 17 8 x17.er [.c 2 2 true]:=by unfold x17;exact fnX Tryd.func17 (by kernel_rfl) (by kernel_rfl) (by kernel_rfl) (by kernel_rfl)
def m17(a0:Int):Option (DS2×Unit) :=
 (m40 (vI 0 (qZ a0 255))).bind λy37 =>
 some ((([]:List DS1),y37.1,()),())
def ZQ:Cfg:=⟨fQ,bQ,[i40],[]⟩
theorem a8b(x:Int×Unit):gZ ZQ x17 8 [.c 2 2 true] [(.int .i64)] [tS2] x=m17 x.1:=by kernel_rfl
def i17:PI:=⟨17,[(.int .i64)],[tS2],fun(x:Int×Unit)=>m17 x.1⟩
theorem a6u:POk Tryd.prog (gx bQ) i17:=pok mixed (dA Gj (cu _ _):dG _ (ZQ)) F17 (a8b)
def x12:XC:=xoF Tryd.f12 (.d 8 (.j [.gh 13 3 (.int .i64)] ⟨81,[(1,(.int .i64)),(3,(.int .i64)),(12,(.int .i64))],[(8,.ptr 0 0 0),(13,.row 1),(14,.row 2)],[.box 28 [.nil,.d (.int .i64)],.row 3 (.int .i64) false,.row 3 (.int .i64) false]⟩ .o .o))
theorem F12:Fn Tryd.prog 12 81 x12.er [.c 8 2 true,.t 9]:=by unfold x12;exact fnX Tryd.func12 (by kernel_rfl) (by kernel_rfl) (by kernel_rfl) (by kernel_rfl)
def m12(a0:DS5)(a1:Int)(a2:Int)(a3:Int):Option (DS2×Int×Unit) :=
 (m38 (a0.1,())).bind λy46 =>
 cond (iNe y46.1 0)
 (some ((([]:List DS1),0,()),y46.1,()))
 (cond (cond (iLt a1 0) true (iLe (aG a0.1) a1))
 (some ((([]:List DS1),0,()),7,()))
 ((m39 (a0.1,()) a1).bind λy47 =>
 cond (iLt (qZ a3 y47.2.1) (vI a2 y47.1))
 ((m17 0).bind λy48 =>
 some ((y48.1.1,y48.1.2.1,()),0,()))
 ((m40 1).bind λy49 =>
 AA (S:=Int×Int×Int×Int×(List Int)×(List Int)×Unit) (R:=DS2×Int×Unit)
 (cond (iLt y47.1 (vI a2 y47.1))
 (cond (fits (List.length ([vI a2 y47.1]:List Int)) 8)
 ((m40 0).bind λy50 =>
 (m40 1).bind λy51 =>
 some (.inl (a1,qZ a3 y47.2.1,y47.2.1,0,([vI a2 y47.1]:List Int),([y50.1,y51.1]:List Int),()))) none)
 (some (.inl (a1,qZ a3 y47.2.1,y47.2.1,0,([]:List Int),([y49.1]:List Int),()))))
 (λj52 =>
 cond (iLt j52.2.1 j52.2.2.1)
 (cond (fits (List.length j52.2.2.2.2.1+List.length ([bZ .i64 j52.2.1 1]:List Int)) 8)
 ((m40 0).bind λy53 =>
 cond (fits (List.length j52.2.2.2.2.2.1+List.length ([y53.1]:List Int)) 8)
 (cond (iEq (aG (j52.2.2.2.2.1++([bZ .i64 j52.2.1 1]:List Int))) 0)
 ((m17 1).bind λy54 =>
 some ((y54.1.1,y54.1.2.1,()),0,()))
 (some ((([(j52.1,j52.2.2.2.2.1++([bZ .i64 j52.2.1 1]:List Int),j52.2.2.2.2.2.1++([y53.1]:List Int),())]:List DS1),0,()),0,()))) none) none)
 (cond (iEq (aG j52.2.2.2.2.1) 0)
 ((m17 1).bind λy55 =>
 some ((y55.1.1,y55.1.2.1,()),0,()))
 (some ((([(j52.1,j52.2.2.2.2.1,j52.2.2.2.2.2.1,())]:List DS1),0,()),0,())))))))
def ZU:Cfg:=⟨fQ,bQ,[i17,i38,i39,i40],[]⟩
theorem a8e(x:DS5×Int×Int×Int×Unit):gZ ZU x12 81 [.c 8 2 true,.t 9] [tS5,(.int .i64),(.int .i64),(.int .i64)] [tS2,(.int .i64)] x=m12 x.1 x.2.1 x.2.2.1 x.2.2.2.1:=by kernel_rfl
def i12:PI:=⟨12,[tS5,(.int .i64),(.int .i64),(.int .i64)],[tS2,(.int .i64)],fun(x:DS5×Int×Int×Int×Unit)=>m12 x.1 x.2.1 x.2.2.1 x.2.2.2.1⟩
theorem a6w:POk Tryd.prog (gx bQ) i12:=pok mixed (dA a6u (dA Em (dA Yt (dA Gj (cu _ _)))):dG _ (ZU)) F12 (a8e)
def x59:XC:=xoF Tryd.f59 .o
theorem F59:Fn Tryd.prog 59 15 x59.er [.t 4]:=by unfold x59;exact fnX Tryd.func59 (by kernel_rfl) (by kernel_rfl) (by kernel_rfl) (by kernel_rfl)
def m59(a0:DS2)(a1:Int):Option (Bool×Unit) :=
 (m40 255).bind λy58 =>
 some (cond (iLe y58.1 a1) (iLt a1 (aG a0.1)) false,())
def Zl:Cfg:=⟨fQ,bQ,[i40],[]⟩
theorem a7y(x:DS2×Int×Unit):gZ Zl x59 15 [.t 4] [tS2,(.int .i64)] [.bool] x=m59 x.1 x.2.1:=by kernel_rfl
def i59:PI:=⟨59,[tS2,(.int .i64)],[.bool],fun(x:DS2×Int×Unit)=>m59 x.1 x.2.1⟩
theorem Yq:POk Tryd.prog (gx bQ) i59:=pok mixed (dA Gj (cu _ _):dG _ (Zl)) F59 (a7y)
def x50:XC:=xoF Tryd.f50 (.d 2 (.s (.d 1 (.b (.l [] ⟨30,[(10,(.int .i64)),(11,(.int .i64))],[(1,.ptr 0 0 0),(3,.row 1)],[.box 24 [.d (.list tS0)],.row 86 tS3 false]⟩ .o))) .o))
theorem F50:Fn Tryd.prog 50 30 x50.er [.t 2]:=by unfold x50;exact fnX Tryd.func50 (by kernel_rfl) (by kernel_rfl) (by kernel_rfl) (by kernel_rfl)
def m50(a0:DS5):Option ((List DS3)×Unit) :=
 cond (tu (aG a0.1) 16)
 (eZ (S:=Int×Int×(List DS0)×(List DS3)×Unit) (R:=(List DS3)×Unit) (λs62 =>
 cond (iLt s62.2.1 s62.1)
 ((m39 (s62.2.2.1,()) s62.2.1).bind λy63 =>
 cond (bnd s62.2.1 (aG s62.2.2.2.1))
 (cond (inB (Int.toNat s62.2.1) s62.2.2.2.1)
 (cond (bnd s62.2.1 (aG (List.set s62.2.2.2.1 (Int.toNat s62.2.1) (y63.1,(List.getD s62.2.2.2.1 (Int.toNat s62.2.1) (0,0,())).2.1,()))))
 (cond (inB (Int.toNat s62.2.1) (List.set s62.2.2.2.1 (Int.toNat s62.2.1) (y63.1,(List.getD s62.2.2.2.1 (Int.toNat s62.2.1) (0,0,())).2.1,())))
 (some (.inl (s62.1,bZ .i64 s62.2.1 1,s62.2.2.1,List.set (List.set s62.2.2.2.1 (Int.toNat s62.2.1) (y63.1,(List.getD s62.2.2.2.1 (Int.toNat s62.2.1) (0,0,())).2.1,())) (Int.toNat s62.2.1) ((List.getD (List.set s62.2.2.2.1 (Int.toNat s62.2.1) (y63.1,(List.getD s62.2.2.2.1 (Int.toNat s62.2.1) (0,0,())).2.1,())) (Int.toNat s62.2.1) (0,0,())).1,y63.2.1,()),()))) none) none) none) none)
 (some (.inr (s62.2.2.2.1,()))))
 (aG (List.replicate (Int.toNat (aG a0.1)) (0,0,()):List DS3),0,a0.1,(List.replicate (Int.toNat (aG a0.1)) (0,0,()):List DS3),())) none
def Zq:Cfg:=⟨fQ,bQ,[i39],[]⟩
theorem a7D(x:DS5×Unit):gZ Zq x50 30 [.t 2] [tS5] [(.list tS3)] x=m50 x.1:=by kernel_rfl
def i50:PI:=⟨50,[tS5],[(.list tS3)],fun(x:DS5×Unit)=>m50 x.1⟩
theorem Qu:POk Tryd.prog (gx bQ) i50:=pok mixed (dA Yt (cu _ _):dG _ (Zq)) F50 (a7D)
def x60:XC:=xoF Tryd.f60 (.d 3 (.s (.d 1 (.b (.l [] ⟨106,[(2,(.list tS3)),(7,(.int .i64)),(45,(.list (.int .i64))),(46,(.int .i64)),(47,(.int .i64))],[(3,.ptr 0 0 0),(4,.ptr 1 0 0)],[.box 28 [.d (.list tS1),.d (.int .i64)],.box 70 [.d (.int .i64),.d (.list (.int .i64)),.d (.list (.int .i64))]]⟩ .o))) (.s (.d 1 (.b (.l [] ⟨106,[(67,(.list (.int .i64))),(68,(.int .i64)),(69,(.int .i64))],[(3,.ptr 0 0 0),(4,.ptr 1 0 0)],[.box 28 [.d (.list tS1),.d (.int .i64)],.box 70 [.d (.int .i64),.d (.list (.int .i64)),.d (.list (.int .i64))]]⟩ .o))) .o)))
theorem F60:Fn Tryd.prog 60 106 x60.er [.t 6]:=by unfold x60;exact fnX Tryd.func60 (by kernel_rfl) (by kernel_rfl) (by kernel_rfl) (by kernel_rfl)
def m60(a0:DS2)(a1:DS1)(a2:List DS3):Option (Bool×Unit) :=
 cond (cond (cond (cond (iLt a1.1 0) true (iLe (aG a2) a1.1)) true (iEq (aG a1.2.1) 0)) true (iNe (aG a1.2.2.1) (bZ .i64 (aG a1.2.1) 1)))
 (some (false,()))
 (cond (bnd a1.1 (aG a2))
 (eZ (S:=(List DS3)×Int×(List Int)×Int×Int×(List DS1)×Int×Int×(List Int)×(List Int)×Unit) (R:=Bool×Unit) (λs69 =>
 cond (iLt s69.2.2.2.2.1 s69.2.2.2.1)
 (cond (bnd s69.2.2.2.2.1 (aG s69.2.2.1))
 (cond (or (bnd s69.2.2.2.2.2.2.2.1 (aG s69.1)) (not (bEq (iLe (atI s69.2.2.1 s69.2.2.2.2.1 0) s69.2.1) false)))
 (cond (cond (iLe (atI s69.2.2.1 s69.2.2.2.2.1 0) s69.2.1) true (iLt ((atI s69.1 s69.2.2.2.2.2.2.2.1 (0,0,())).2.1) (atI s69.2.2.1 s69.2.2.2.2.1 0)))
 (some (.inr (false,())))
 (some (.inl (s69.1,atI s69.2.2.1 s69.2.2.2.2.1 0,s69.2.2.1,s69.2.2.2.1,bZ .i64 s69.2.2.2.2.1 1,s69.2.2.2.2.2.1,s69.2.2.2.2.2.2.1,s69.2.2.2.2.2.2.2.1,s69.2.2.2.2.2.2.2.2.1,s69.2.2.2.2.2.2.2.2.2.1,())))) none) none)
 (Option.map Sum.inr (eZ (S:=(List Int)×Int×Int×(List DS1)×Int×Int×(List Int)×(List Int)×Unit) (R:=Bool×Unit) (λs70 =>
 cond (iLt s70.2.2.1 s70.2.1)
 (cond (bnd s70.2.2.1 (aG s70.1))
 ((m59 (s70.2.2.2.1,s70.2.2.2.2.1,()) (atI s70.1 s70.2.2.1 0)).bind λy71 =>
 cond (not y71.1)
 (some (.inr (false,())))
 (cond (or (bnd (gP .i64 s70.2.2.1 1) (aG s70.2.2.2.2.2.2.2.1)) (not (bEq (iLt 0 s70.2.2.1) true)))
 (cond (cond (iLt 0 s70.2.2.1) (iEq (atI s70.1 s70.2.2.1 0) (atI s70.2.2.2.2.2.2.2.1 (gP .i64 s70.2.2.1 1) 0)) false)
 (some (.inr (false,())))
 (cond (or (bnd (atI s70.1 s70.2.2.1 0) (aG s70.2.2.2.1)) (not (bEq (iLe 0 (atI s70.1 s70.2.2.1 0)) true)))
 (cond (cond (iLe 0 (atI s70.1 s70.2.2.1 0)) (iLe ((atI s70.2.2.2.1 (atI s70.1 s70.2.2.1 0) (0,[],[],())).1) s70.2.2.2.2.2.1) false)
 (some (.inr (false,())))
 (some (.inl (s70.1,s70.2.1,bZ .i64 s70.2.2.1 1,s70.2.2.2.1,s70.2.2.2.2.1,s70.2.2.2.2.2.1,s70.2.2.2.2.2.2.1,s70.2.2.2.2.2.2.2.1,())))) none)) none)) none)
 (some (.inr (true,()))))
 (s69.2.2.2.2.2.2.2.2.2.1,aG s69.2.2.2.2.2.2.2.2.2.1,0,s69.2.2.2.2.2.1,s69.2.2.2.2.2.2.1,s69.2.2.2.2.2.2.2.1,s69.2.2.2.2.2.2.2.2.1,s69.2.2.2.2.2.2.2.2.2.1,()))))
 (a2,(atI a2 a1.1 (0,0,())).1,a1.2.1,aG a1.2.1,0,a0.1,a0.2.1,a1.1,a1.2.1,a1.2.2.1,())) none)
def Zk:Cfg:=⟨fQ,bQ,[i59],[]⟩
theorem a7x(x:DS2×DS1×(List DS3)×Unit):gZ Zk x60 106 [.t 6] [tS2,tS1,(.list tS3)] [.bool] x=m60 x.1 x.2.1 x.2.2.1:=by kernel_rfl
def i60:PI:=⟨60,[tS2,tS1,(.list tS3)],[.bool],fun(x:DS2×DS1×(List DS3)×Unit)=>m60 x.1 x.2.1 x.2.2.1⟩
theorem a6f:POk Tryd.prog (gx bQ) i60:=pok mixed (dA Yq (cu _ _):dG _ (Zk)) F60 (a7x)
def x62:XC:=xoF Tryd.f62 (.d 4 (.s (.d 1 (.b (.l [] ⟨44,[(2,(.int .i64)),(26,(.list (.int .i64))),(27,(.int .i64)),(28,(.int .i64))],[(3,.ptr 0 0 0)],[.box 28 [.d (.list tS1),.d (.int .i64)]]⟩ .o))) .o))
theorem F62:Fn Tryd.prog 62 44 x62.er [.t 6,.t 7]:=by unfold x62;exact fnX Tryd.func62 (by kernel_rfl) (by kernel_rfl) (by kernel_rfl) (by kernel_rfl)
def Ih(self:(DS2×Int×Int×Unit)->Option (Int×Bool×Unit))(a0:DS2)(a1:Int)(a2:Int):Option (Int×Bool×Unit) :=
 cond (iLt a1 a2)
 (some (a2,true,()))
 (cond (iLt a2 a1)
 (some (a2,false,()))
 (cond (bnd a1 (aG a0.1))
 (eZ (S:=Int×(List Int)×Int×Int×(List DS1)×Int×Unit) (R:=Int×Bool×Unit) (λs76 =>
 cond (iLt s76.2.2.2.1 s76.2.2.1)
 (cond (bnd s76.2.2.2.1 (aG s76.2.1))
 ((self ((s76.2.2.2.2.1,s76.2.2.2.2.2.1,()),atI s76.2.1 s76.2.2.2.1 0,s76.1,())).bind λy77 =>
 cond (not y77.2.1)
 (some (.inr (y77.1,false,())))
 (some (.inl (y77.1,s76.2.1,s76.2.2.1,bZ .i64 s76.2.2.2.1 1,s76.2.2.2.2.1,s76.2.2.2.2.2.1,())))) none)
 (some (.inr (s76.1,true,()))))
 (bZ .i64 a2 1,(atI a0.1 a1 (0,[],[],())).2.2.1,aG ((atI a0.1 a1 (0,[],[],())).2.2.1),0,a0.1,a0.2.1,())) none))
def Zj(self:(DS2×Int×Int×Unit)->Option (Int×Bool×Unit)):Cfg:=⟨fQ,bQ,[⟨62,[tS2,(.int .i64),(.int .i64)],[(.int .i64),.bool],self⟩],[]⟩
theorem a7w(self:(DS2×Int×Int×Unit)->Option (Int×Bool×Unit))(x:DS2×Int×Int×Unit):gZ (Zj self) x62 44 [.t 6,.t 7] [tS2,(.int .i64),(.int .i64)] [(.int .i64),.bool] x=Ih self x.1 x.2.1 x.2.2.1:=by kernel_rfl
def m62(a0:DS2)(a1:Int)(a2:Int):Option (Int×Bool×Unit):=xL (λself (x:DS2×Int×Int×Unit)=>Ih self x.1 x.2.1 x.2.2.1) (a0,a1,a2,())
def i62:PI:=⟨62,[tS2,(.int .i64),(.int .i64)],[(.int .i64),.bool],fun(x:DS2×Int×Int×Unit)=>m62 x.1 x.2.1 x.2.2.1⟩
theorem a6e:POk Tryd.prog (gx bQ) i62:=a0Z (f:=62) (ps:=[tS2,(.int .i64),(.int .i64)]) (rs:=[(.int .i64),.bool]) (G:=λself (x:DS2×Int×Int×Unit)=>Ih self x.1 x.2.1 x.2.2.1) F62.callable (λrun hr=>pok mixed (dA hr (cu _ _):dG _ (Zj run)) F62 (a7w run))
def x31:XC:=xoF Tryd.f31 (.d 4 (.s (.d 1 (.b (.l [] ⟨74,[(5,(.list tS3)),(35,(.list tS1)),(36,(.int .i64)),(37,(.int .i64))],[(3,.ptr 0 0 0),(6,.mp 1)],[.box 28 [.d (.list tS1),.d (.int .i64)],.map 95 .str .bool]⟩ .o))) .o))
theorem F31:Fn Tryd.prog 31 74 x31.er [.t 4]:=by unfold x31;exact fnX Tryd.func31 (by kernel_rfl) (by kernel_rfl) (by kernel_rfl) (by kernel_rfl)
def m31(a0:DS5)(a1:DS2):Option (Bool×Unit) :=
 (m38 (a0.1,())).bind λy79 =>
 cond (cond (iNe y79.1 0) true (iLt 1000 (aG a1.1)))
 (some (false,()))
 ((m59 (a1.1,a1.2.1,()) a1.2.1).bind λy80 =>
 cond (not y80.1)
 (some (false,()))
 ((m50 (a0.1,())).bind λy81 =>
 eZ (S:=(List DS3)×(List DS1)×Int×Int×(List DS1)×Int×(List DS4)×Unit) (R:=Bool×Unit) (λs82 =>
 cond (iLt s82.2.2.2.1 s82.2.2.1)
 (cond (bnd s82.2.2.2.1 (aG s82.2.1))
 ((m60 (s82.2.2.2.2.1,s82.2.2.2.2.2.1,()) ((atI s82.2.1 s82.2.2.2.1 (0,[],[],())).1,(atI s82.2.1 s82.2.2.2.1 (0,[],[],())).2.1,(atI s82.2.1 s82.2.2.2.1 (0,[],[],())).2.2.1,()) s82.1).bind λy83 =>
 cond (not y83.1)
 (some (.inr (false,())))
 ((Fu ((atI s82.2.1 s82.2.2.2.1 (0,[],[],())).1) ((atI s82.2.1 s82.2.2.2.1 (0,[],[],())).2.1) ((atI s82.2.1 s82.2.2.2.1 (0,[],[],())).2.2.1)).bind λy84 =>
 cond (pE sEq y84.1 s82.2.2.2.2.2.2.1 false)
 (some (.inr (false,())))
 (some (.inl (s82.1,s82.2.1,s82.2.2.1,bZ .i64 s82.2.2.2.1 1,s82.2.2.2.2.1,s82.2.2.2.2.2.1,qx sEq y84.1 true s82.2.2.2.2.2.2.1,()))))) none)
 (Option.map Sum.inr ((m62 (s82.2.2.2.2.1,s82.2.2.2.2.2.1,()) s82.2.2.2.2.2.1 0).bind λy85 =>
 some (cond y85.2.1 (iEq y85.1 (aG s82.2.2.2.2.1)) false,()))))
 (y81.1,a1.1,aG a1.1,0,a1.1,a1.2.1,([]:List DS4),())))
def ZH:Cfg:=⟨fQ,bQ,[i38,i50,i59,i60,i62,QJ],[]⟩
theorem a7S(x:DS5×DS2×Unit):gZ ZH x31 74 [.t 4] [tS5,tS2] [.bool] x=m31 x.1 x.2.1:=by kernel_rfl
def i31:PI:=⟨31,[tS5,tS2],[.bool],fun(x:DS5×DS2×Unit)=>m31 x.1 x.2.1⟩
theorem K6:POk Tryd.prog (gx bQ) i31:=pok mixed (dA Em (dA Qu (dA Yq (dA a6f (dA a6e (dA SV (cu _ _)))))):dG _ (ZH)) F31 (a7S)
def x72:XC:=xoF Tryd.f72 .o
theorem F72:Fn Tryd.prog 72 5 x72.er [.t 2]:=by unfold x72;exact fnX Tryd.func72 (by kernel_rfl) (by kernel_rfl) (by kernel_rfl) (by kernel_rfl)
def m72(a0:Int):Option (Int×Unit) :=
 some (gP .i64 (-1) a0,())
def Zg:Cfg:=⟨fQ,bQ,[],[]⟩
theorem a7t(x:Int×Unit):gZ Zg x72 5 [.t 2] [(.int .i64)] [(.int .i64)] x=m72 x.1:=by kernel_rfl
def i72:PI:=⟨72,[(.int .i64)],[(.int .i64)],fun(x:Int×Unit)=>m72 x.1⟩
theorem K5:POk Tryd.prog (gx bQ) i72:=pok mixed (cu _ _:dG _ (Zg)) F72 (a7t)
def x82:XC:=xoF Tryd.f82 .o
theorem F82:Fn Tryd.prog 82 16 x82.er [.t 4]:=by unfold x82;exact fnX Tryd.func82 (by kernel_rfl) (by kernel_rfl) (by kernel_rfl) (by kernel_rfl)
def m82(a0:Int)(a1:Int):Option (Int×Unit) :=
 cond (or (iNe a0 0) (not (bEq (iLt 0 a0) true)))
 (cond (cond (iLt 0 a0) (iLt (yN .i64 17592186044416 a0) a1) false)
 (some (17592186044416,()))
 (some (DI .i64 a0 a1,()))) none
def Z6:Cfg:=⟨fQ,bQ,[],[]⟩
theorem a7j(x:Int×Int×Unit):gZ Z6 x82 16 [.t 4] [(.int .i64),(.int .i64)] [(.int .i64)] x=m82 x.1 x.2.1:=by kernel_rfl
def i82:PI:=⟨82,[(.int .i64),(.int .i64)],[(.int .i64)],fun(x:Int×Int×Unit)=>m82 x.1 x.2.1⟩
theorem Ym:POk Tryd.prog (gx bQ) i82:=pok mixed (cu _ _:dG _ (Z6)) F82 (a7j)
def x81:XC:=xoF Tryd.f81 (.d 1 (.s (.d 1 (.b (.l [] ⟨33,[(1,(.int .i64)),(17,(.list tS3)),(18,(.int .i64)),(19,(.int .i64))],[],[.box 84 [.d (.list tS1),.d (.list tS3),.d (.int .i64),.mp 1],.map 82 (.int .i64) (.int .i64)]⟩ .o))) .o))
theorem F81:Fn Tryd.prog 81 33 x81.er [.t 8]:=by unfold x81;exact fnX Tryd.func81 (by kernel_rfl) (by kernel_rfl) (by kernel_rfl) (by kernel_rfl)
def m81(a0:Int)(a1:Int)(a2:Int)(a3:List DS1)(a4:List DS3)(a5:Int)(a6:List DS3):Option (Int×(List DS1)×(List DS3)×Int×(List DS3)×Unit) :=
 cond (vw a1 a2 (List.length a4))
 (eZ (S:=Int×(List DS3)×Int×Int×(List DS1)×(List DS3)×Int×(List DS3)×Unit) (R:=Int×(List DS1)×(List DS3)×Int×(List DS3)×Unit) (λs91 =>
 cond (iLt s91.2.2.2.1 s91.2.2.1)
 (cond (bnd s91.2.2.2.1 (aG s91.2.1))
 ((m82 s91.1 (bZ .i64 (gP .i64 ((atI s91.2.1 s91.2.2.2.1 (0,0,())).2.1) ((atI s91.2.1 s91.2.2.2.1 (0,0,())).1)) 1)).bind λy92 =>
 some (.inl (y92.1,s91.2.1,s91.2.2.1,bZ .i64 s91.2.2.2.1 1,s91.2.2.2.2.1,s91.2.2.2.2.2.1,s91.2.2.2.2.2.2.1,s91.2.2.2.2.2.2.2.1,()))) none)
 (some (.inr (s91.1,s91.2.2.2.2.1,s91.2.2.2.2.2.1,s91.2.2.2.2.2.2.1,s91.2.2.2.2.2.2.2.1,()))))
 (a0,vJ a1 a2 a4,aG (vJ a1 a2 a4),0,a3,a4,a5,a6,())) none
def Z7:Cfg:=⟨fQ,bQ,[i82],[]⟩
def YC:Sh:=⟨4,[(1,(.int .i64)),(2,(.int .i64)),(3,(.int .i64))],[(0,.ptr 0 0 0)],[.box 84 [.d (.list tS1),.d (.list tS3),.d (.int .i64),.mp 1],.map 82 (.int .i64) (.int .i64)]⟩
def Ye:Sh:=⟨1,[(0,(.int .i64))],[],[.box 84 [.d (.list tS1),.d (.list tS3),.d (.int .i64),.mp 1],.map 82 (.int .i64) (.int .i64)]⟩
theorem a7k(x:Int×Int×Int×(List DS1)×(List DS3)×Int×(List DS3)×Unit):qd Z7 x81 33 [.t 8] [] YC Ye x=m81 x.1 x.2.1 x.2.2.1 x.2.2.2.1 x.2.2.2.2.1 x.2.2.2.2.2.1 x.2.2.2.2.2.2.1:=by kernel_rfl
def h81:HI:=⟨81,YC,Ye,fun(x:Int×Int×Int×(List DS1)×(List DS3)×Int×(List DS3)×Unit)=>m81 x.1 x.2.1 x.2.2.1 x.2.2.2.1 x.2.2.2.2.1 x.2.2.2.2.2.1 x.2.2.2.2.2.2.1,[]⟩
theorem a6z:HOk Tryd.prog (gx bQ) h81:=hok mixed (dA Ym (cu _ _):dG _ (Z7)) F81 (a7k)
def x51:XC:=xoF Tryd.f51 (.d 4 (.s (.d 1 (.c (.d 1 (.s (.d 1 (.b (.l [] ⟨113,[(1,(.int .i64)),(2,(.int .i64)),(8,(.int .i64)),(10,(.int .i64)),(59,(.list (.int .i64))),(60,(.int .i64)),(61,(.int .i64))],[(0,.ptr 0 0 0),(7,.ptr 2 0 0)],[.box 84 [.d (.list tS1),.d (.list tS3),.d (.int .i64),.mp 1],.map 82 (.int .i64) (.int .i64),.box 70 [.d (.int .i64),.d (.list (.int .i64)),.d (.list (.int .i64))]]⟩ .o))) .o)) .o)) .o))
theorem F51:Fn Tryd.prog 51 113 x51.er [.t 6]:=by unfold x51;exact fnX Tryd.func51 (by kernel_rfl) (by kernel_rfl) (by kernel_rfl) (by kernel_rfl)
def Ij(self:(Int×Int×(List DS1)×(List DS3)×Int×(List DS3)×Unit)->Option (Int×(List DS1)×(List DS3)×Int×(List DS3)×Unit))(a0:Int)(a1:Int)(a2:List DS1)(a3:List DS3)(a4:Int)(a5:List DS3):Option (Int×(List DS1)×(List DS3)×Int×(List DS3)×Unit) :=
 cond (iLt a0 0)
 ((m72 a0).bind λy101 =>
 cond (iNe y101.1 a4)
 (some (0,a2,a3,a4,a5,()))
 ((m81 1 a1 (aG a3) a2 a3 a4 a5).bind λy102 =>
 some (y102.1,y102.2.1,y102.2.2.1,y102.2.2.2.1,y102.2.2.2.2.1,())))
 (cond (bnd a0 (aG a2))
 (cond (not (yK iEq a0 a5))
 (cond (bnd ((atI a2 a0 (0,[],[],())).1) (aG a3))
 (eZ (S:=Int×Int×Int×Int×(List Int)×Int×Int×(List DS1)×(List DS3)×Int×(List DS3)×Int×(List Int)×(List Int)×Unit) (R:=Int×(List DS1)×(List DS3)×Int×(List DS3)×Unit) (λig =>
 cond (iLt ig.2.2.2.2.2.2.1 ig.2.2.2.2.2.1)
 (cond (bnd ig.2.2.2.2.2.2.1 (aG ig.2.2.2.2.1))
 (cond (bnd ig.2.2.2.2.2.2.2.2.2.2.2.1 (aG ig.2.2.2.2.2.2.2.2.1))
 (cond (iLt ig.2.2.2.2.2.2.1 (aG ig.2.2.2.2.2.2.2.2.2.2.2.2.1))
 (cond (bnd ig.2.2.2.2.2.2.1 (aG ig.2.2.2.2.2.2.2.2.2.2.2.2.1))
 ((self (atI ig.2.2.2.2.1 ig.2.2.2.2.2.2.1 0,bZ .i64 ig.2.2.2.2.2.2.2.2.2.2.2.1 1,ig.2.2.2.2.2.2.2.1,ig.2.2.2.2.2.2.2.2.1,ig.2.2.2.2.2.2.2.2.2.1,ig.2.2.2.2.2.2.2.2.2.2.1,())).bind λy104 =>
 (m82 y104.1 (gP .i64 (atI ig.2.2.2.2.2.2.2.2.2.2.2.2.1 ig.2.2.2.2.2.2.1 0) ig.2.2.2.1)).bind λUy =>
 some (.inl (ig.1,ig.2.1,qZ (bZ .i64 ig.2.2.1 Uy.1) 17592186044416,atI ig.2.2.2.2.2.2.2.2.2.2.2.2.1 ig.2.2.2.2.2.2.1 0,ig.2.2.2.2.1,ig.2.2.2.2.2.1,bZ .i64 ig.2.2.2.2.2.2.1 1,y104.2.1,y104.2.2.1,y104.2.2.2.1,y104.2.2.2.2.1,ig.2.2.2.2.2.2.2.2.2.2.2.1,ig.2.2.2.2.2.2.2.2.2.2.2.2.1,ig.2.2.2.2.2.2.2.2.2.2.2.2.2.1,()))) none)
 ((self (atI ig.2.2.2.2.1 ig.2.2.2.2.2.2.1 0,bZ .i64 ig.2.2.2.2.2.2.2.2.2.2.2.1 1,ig.2.2.2.2.2.2.2.1,ig.2.2.2.2.2.2.2.2.1,ig.2.2.2.2.2.2.2.2.2.1,ig.2.2.2.2.2.2.2.2.2.2.1,())).bind λKC =>
 (m82 KC.1 (gP .i64 (bZ .i64 ((atI ig.2.2.2.2.2.2.2.2.1 ig.2.2.2.2.2.2.2.2.2.2.2.1 (0,0,())).2.1) 1) ig.2.2.2.1)).bind λa9u =>
 some (.inl (ig.1,ig.2.1,qZ (bZ .i64 ig.2.2.1 a9u.1) 17592186044416,bZ .i64 ((atI ig.2.2.2.2.2.2.2.2.1 ig.2.2.2.2.2.2.2.2.2.2.2.1 (0,0,())).2.1) 1,ig.2.2.2.2.1,ig.2.2.2.2.2.1,bZ .i64 ig.2.2.2.2.2.2.1 1,KC.2.1,KC.2.2.1,KC.2.2.2.1,KC.2.2.2.2.1,ig.2.2.2.2.2.2.2.2.2.2.2.1,ig.2.2.2.2.2.2.2.2.2.2.2.2.1,ig.2.2.2.2.2.2.2.2.2.2.2.2.2.1,())))) none) none)
 (Option.map Sum.inr ((m81 ig.2.2.1 ig.2.1 ig.2.2.2.2.2.2.2.2.2.2.2.1 ig.2.2.2.2.2.2.2.1 ig.2.2.2.2.2.2.2.2.1 ig.2.2.2.2.2.2.2.2.2.1 (qx iEq ig.1 ig.2.2.1 ig.2.2.2.2.2.2.2.2.2.2.1)).bind λKA =>
 some (KA.1,KA.2.1,KA.2.2.1,KA.2.2.2.1,KA.2.2.2.2.1,()))))
 (a0,a1,pE iEq a0 a5 0,(atI a3 ((atI a2 a0 (0,[],[],())).1) (0,0,())).1,(atI a2 a0 (0,[],[],())).2.2.1,aG ((atI a2 a0 (0,[],[],())).2.2.1),0,a2,a3,a4,a5,(atI a2 a0 (0,[],[],())).1,(atI a2 a0 (0,[],[],())).2.1,(atI a2 a0 (0,[],[],())).2.2.1,())) none)
 ((m81 (pE iEq a0 a5 0) a1 ((atI a2 a0 (0,[],[],())).1) a2 a3 a4 a5).bind λKz =>
 some (Kz.1,Kz.2.1,Kz.2.2.1,Kz.2.2.2.1,Kz.2.2.2.2.1,()))) none)
def Kg:Sh:=⟨3,[(1,(.int .i64)),(2,(.int .i64))],[(0,.ptr 0 0 0)],[.box 84 [.d (.list tS1),.d (.list tS3),.d (.int .i64),.mp 1],.map 82 (.int .i64) (.int .i64)]⟩
def K4:Sh:=⟨1,[(0,(.int .i64))],[],[.box 84 [.d (.list tS1),.d (.list tS3),.d (.int .i64),.mp 1],.map 82 (.int .i64) (.int .i64)]⟩
def Zp(self:(Int×Int×(List DS1)×(List DS3)×Int×(List DS3)×Unit)->Option (Int×(List DS1)×(List DS3)×Int×(List DS3)×Unit)):Cfg:=⟨fQ,bQ,[i72,i82],[⟨51,Kg,K4,self,[]⟩,h81]⟩
theorem a7C(self:(Int×Int×(List DS1)×(List DS3)×Int×(List DS3)×Unit)->Option (Int×(List DS1)×(List DS3)×Int×(List DS3)×Unit))(x:Int×Int×(List DS1)×(List DS3)×Int×(List DS3)×Unit):qd (Zp self) x51 113 [.t 6] [] Kg K4 x=Ij self x.1 x.2.1 x.2.2.1 x.2.2.2.1 x.2.2.2.2.1 x.2.2.2.2.2.1:=by kernel_rfl
def m51(a0:Int)(a1:Int)(a2:List DS1)(a3:List DS3)(a4:Int)(a5:List DS3):Option (Int×(List DS1)×(List DS3)×Int×(List DS3)×Unit):=xL (λself (x:Int×Int×(List DS1)×(List DS3)×Int×(List DS3)×Unit)=>Ij self x.1 x.2.1 x.2.2.1 x.2.2.2.1 x.2.2.2.2.1 x.2.2.2.2.2.1) (a0,a1,a2,a3,a4,a5,())
def h51:HI:=⟨51,Kg,K4,fun(x:Int×Int×(List DS1)×(List DS3)×Int×(List DS3)×Unit)=>m51 x.1 x.2.1 x.2.2.1 x.2.2.2.1 x.2.2.2.2.1 x.2.2.2.2.2.1,[]⟩
theorem Yw:HOk Tryd.prog (gx bQ) h51:=BR (f:=51) (ish:=Kg) (osh:=K4) (G:=λself (x:Int×Int×(List DS1)×(List DS3)×Int×(List DS3)×Unit)=>Ij self x.1 x.2.1 x.2.2.1 x.2.2.2.1 x.2.2.2.2.1 x.2.2.2.2.2.1) F51.callable (λrun hr=>hok mixed (dA K5 (dA Ym (kI hr (kI a6z (cu _ _)))):dG _ (Zp run)) F51 (a7C run))
def x21:XC:=xoF Tryd.f21 (.d 6 (.s (.d 1 (.b (.l [] ⟨95,[(44,(.list tS3)),(45,(.int .i64)),(46,(.int .i64))],[(4,.ptr 0 0 0),(9,.ptr 1 0 0),(10,.row 2)],[.box 28 [.d (.list tS1),.d (.int .i64)],.box 84 [.d (.list tS1),.d (.list tS3),.d (.int .i64),.mp 3],.row 3 (.int .i64) false,.map 82 (.int .i64) (.int .i64)]⟩ .o))) (.d 1 (.s (.b (.l [] ⟨95,[(13,(.int .i64))],[(4,.ptr 0 0 0),(9,.ptr 1 0 0),(10,.row 2)],[.box 28 [.d (.list tS1),.d (.int .i64)],.box 84 [.d (.list tS1),.d (.list tS3),.d (.int .i64),.mp 3],.row 3 (.int .i64) false,.map 82 (.int .i64) (.int .i64)]⟩ (.d 1 (.b (.d 2 (.b (.l [] ⟨95,[(13,(.int .i64)),(67,(.list (.int .i64))),(68,(.int .i64)),(69,(.int .i64))],[(4,.ptr 0 0 0),(9,.ptr 1 0 0),(10,.row 2),(14,.ptr 3 0 0)],[.box 28 [.d (.list tS1),.d (.int .i64)],.box 84 [.d (.list tS1),.d (.list tS3),.d (.int .i64),.mp 4],.row 3 (.int .i64) false,.box 70 [.d (.int .i64),.d (.list (.int .i64)),.d (.list (.int .i64))],.map 82 (.int .i64) (.int .i64)]⟩ .o))))))) .o))))
theorem F21:Fn Tryd.prog 21 95 x21.er [.t 6,.t 7]:=by unfold x21;exact fnX Tryd.func21 (by kernel_rfl) (by kernel_rfl) (by kernel_rfl) (by kernel_rfl)
def m21(a0:DS5)(a1:DS2)(a2:Int):Option ((List Int)×Bool×Unit) :=
 cond (cond (iLt a2 0) true (iLt 255 a2))
 (some (([]:List Int),false,()))
 ((m31 (a0.1,()) (a1.1,a1.2.1,())).bind λy115 =>
 cond (not y115.1)
 (some (([]:List Int),false,()))
 ((m50 (a0.1,())).bind λKy =>
 (m51 a1.2.1 0 a1.1 Ky.1 a2 ([]:List DS3)).bind λKw =>
 cond (iEq Kw.1 0)
 (some (([]:List Int),false,()))
 (cond (tu (aG Ky.1) 8)
 (eZ (S:=(List DS3)×Int×Int×(List DS1)×Int×(List DS1)×(List DS3)×Int×(List Int)×(List DS3)×Unit) (R:=(List Int)×Bool×Unit) (λmX =>
 cond (iLt mX.2.2.1 mX.2.1)
 (cond (bnd mX.2.2.1 (aG mX.1))
 (cond (bnd mX.2.2.1 (aG mX.2.2.2.2.2.2.2.2.1))
 (cond (inB (Int.toNat mX.2.2.1) mX.2.2.2.2.2.2.2.2.1)
 (some (.inl (mX.1,mX.2.1,bZ .i64 mX.2.2.1 1,mX.2.2.2.1,mX.2.2.2.2.1,mX.2.2.2.2.2.1,mX.2.2.2.2.2.2.1,mX.2.2.2.2.2.2.2.1,List.set mX.2.2.2.2.2.2.2.2.1 (Int.toNat mX.2.2.1) ((atI mX.1 mX.2.2.1 (0,0,())).1),mX.2.2.2.2.2.2.2.2.2.1,()))) none) none) none)
 (Option.map Sum.inr (eZ (S:=Int×(List DS1)×Int×(List DS1)×(List DS3)×Int×(List Int)×(List DS3)×Unit) (R:=(List Int)×Bool×Unit) (λqw =>
 cond (iLe 0 qw.1)
 (cond (bnd qw.1 (aG qw.2.1))
 (eZ (S:=Int×(List Int)×Int×Int×(List DS1)×Int×(List DS1)×(List DS3)×Int×(List Int)×Int×(List Int)×(List Int)×(List DS3)×Unit) (R:=(Int×(List DS1)×Int×(List DS1)×(List DS3)×Int×(List Int)×(List DS3)×Unit)⊕((List Int)×Bool×Unit)) (λjc =>
 cond (iLt jc.2.2.2.1 jc.2.2.1)
 (cond (bnd jc.2.2.2.1 (aG jc.2.1))
 ((m51 (atI jc.2.1 jc.2.2.2.1 0) (bZ .i64 jc.2.2.2.2.2.2.2.2.2.2.1 1) jc.2.2.2.2.2.2.1 jc.2.2.2.2.2.2.2.1 jc.2.2.2.2.2.2.2.2.1 jc.2.2.2.2.2.2.2.2.2.2.2.2.2.1).bind λwZ =>
 cond (iEq wZ.1 0)
 (some (.inl (jc.1,jc.2.1,jc.2.2.1,bZ .i64 jc.2.2.2.1 1,jc.2.2.2.2.1,jc.2.2.2.2.2.1,wZ.2.1,wZ.2.2.1,wZ.2.2.2.1,jc.2.2.2.2.2.2.2.2.2.1,jc.2.2.2.2.2.2.2.2.2.2.1,jc.2.2.2.2.2.2.2.2.2.2.2.1,jc.2.2.2.2.2.2.2.2.2.2.2.2.1,wZ.2.2.2.2.1,())))
 (cond (iLt 0 jc.2.2.2.1)
 (cond (bnd (gP .i64 jc.2.2.2.1 1) (aG jc.2.2.2.2.2.2.2.2.2.2.2.1))
 (cond (bnd jc.2.2.2.2.2.2.2.2.2.2.1 (aG jc.2.2.2.2.2.2.2.2.2.1))
 (cond (inB (Int.toNat jc.2.2.2.2.2.2.2.2.2.2.1) jc.2.2.2.2.2.2.2.2.2.1)
 (some (.inr (.inl (atI jc.2.1 jc.2.2.2.1 0,jc.2.2.2.2.1,jc.2.2.2.2.2.1,wZ.2.1,wZ.2.2.1,wZ.2.2.2.1,List.set jc.2.2.2.2.2.2.2.2.2.1 (Int.toNat jc.2.2.2.2.2.2.2.2.2.2.1) (atI jc.2.2.2.2.2.2.2.2.2.2.2.1 (gP .i64 jc.2.2.2.1 1) 0),wZ.2.2.2.2.1,())))) none) none) none)
 (some (.inr (.inl (atI jc.2.1 jc.2.2.2.1 0,jc.2.2.2.2.1,jc.2.2.2.2.2.1,wZ.2.1,wZ.2.2.1,wZ.2.2.2.1,jc.2.2.2.2.2.2.2.2.2.1,wZ.2.2.2.2.1,())))))) none)
 (some (.inr (.inl (jc.1,jc.2.2.2.2.1,jc.2.2.2.2.2.1,jc.2.2.2.2.2.2.1,jc.2.2.2.2.2.2.2.1,jc.2.2.2.2.2.2.2.2.1,jc.2.2.2.2.2.2.2.2.2.1,jc.2.2.2.2.2.2.2.2.2.2.2.2.2.1,())))))
 (qw.1,(atI qw.2.1 qw.1 (0,[],[],())).2.2.1,aG ((atI qw.2.1 qw.1 (0,[],[],())).2.2.1),0,qw.2.1,qw.2.2.1,qw.2.2.2.1,qw.2.2.2.2.1,qw.2.2.2.2.2.1,qw.2.2.2.2.2.2.1,(atI qw.2.1 qw.1 (0,[],[],())).1,(atI qw.2.1 qw.1 (0,[],[],())).2.1,(atI qw.2.1 qw.1 (0,[],[],())).2.2.1,qw.2.2.2.2.2.2.2.1,())) none)
 (some (.inr (qw.2.2.2.2.2.2.1,true,()))))
 (mX.2.2.2.2.1,mX.2.2.2.1,mX.2.2.2.2.1,mX.2.2.2.2.2.1,mX.2.2.2.2.2.2.1,mX.2.2.2.2.2.2.2.1,mX.2.2.2.2.2.2.2.2.1,mX.2.2.2.2.2.2.2.2.2.1,()))))
 (Ky.1,aG Ky.1,0,a1.1,a1.2.1,Kw.2.1,Kw.2.2.1,Kw.2.2.2.1,(List.replicate (Int.toNat (aG Ky.1)) 0:List Int),Kw.2.2.2.2.1,())) none)))
def ZN:Cfg:=⟨fQ,bQ,[i31,i50],[h51]⟩
theorem a7Y(x:DS5×DS2×Int×Unit):gZ ZN x21 95 [.t 6,.t 7] [tS5,tS2,(.int .i64)] [(.list (.int .i64)),.bool] x=m21 x.1 x.2.1 x.2.2.1:=by kernel_rfl
def i21:PI:=⟨21,[tS5,tS2,(.int .i64)],[(.list (.int .i64)),.bool],fun(x:DS5×DS2×Int×Unit)=>m21 x.1 x.2.1 x.2.2.1⟩
theorem a6t:POk Tryd.prog (gx bQ) i21:=pok mixed (dA K6 (dA Qu (kI Yw (cu _ _))):dG _ (ZN)) F21 (a7Y)
def x26:XC:=xoF Tryd.f26 .o
theorem F26:Fn Tryd.prog 26 30 x26.er [.t 6]:=by unfold x26;exact fnX Tryd.func26 (by kernel_rfl) (by kernel_rfl) (by kernel_rfl) (by kernel_rfl)
def m26(a0:DS5)(a1:DS2)(a2:Int):Option (Int×Unit) :=
 cond (cond (iLt a2 0) true (iLt 255 a2))
 (some (0,()))
 ((m31 (a0.1,()) (a1.1,a1.2.1,())).bind λa9t =>
 cond (not a9t.1)
 (some (0,()))
 ((m50 (a0.1,())).bind λa9s =>
 (m51 a1.2.1 0 a1.1 a9s.1 a2 ([]:List DS3)).bind λa9r =>
 some (a9r.1,())))
def ZJ:Cfg:=⟨fQ,bQ,[i31,i50],[h51]⟩
theorem a7U(x:DS5×DS2×Int×Unit):gZ ZJ x26 30 [.t 6] [tS5,tS2,(.int .i64)] [(.int .i64)] x=m26 x.1 x.2.1 x.2.2.1:=by kernel_rfl
def i26:PI:=⟨26,[tS5,tS2,(.int .i64)],[(.int .i64)],fun(x:DS5×DS2×Int×Unit)=>m26 x.1 x.2.1 x.2.2.1⟩
theorem a6r:POk Tryd.prog (gx bQ) i26:=pok mixed (dA K6 (dA Qu (kI Yw (cu _ _))):dG _ (ZJ)) F26 (a7U)
def x11:XC:=xoF Tryd.f11 .o
theorem F11:Fn Tryd.prog 11 53 x11.er [.t 0]:=by unfold x11;exact fnX Tryd.func11 (by kernel_rfl) (by kernel_rfl) (by kernel_rfl) (by kernel_rfl)
def m11:Option (Bool×Unit) :=
 (m12 (([((bs [120]),2,([]:List ByteArray),1,9,())]:List DS0),()) 0 3 20).bind λy56 =>
 (m21 (([((bs [120]),2,([]:List ByteArray),1,9,())]:List DS0),()) (y56.1.1,y56.1.2.1,()) 1).bind λHw =>
 cond (or (bnd 0 (aG Hw.1)) (not (bEq (cond (cond (cond (cond (iEq y56.2.1 0) (iEq (aG y56.1.1) 1) false) (iEq y56.1.2.1 0) false) Hw.2.1 false) (iEq (aG Hw.1) 1) false) true)))
 (cond (cond (cond (cond (cond (cond (iEq y56.2.1 0) (iEq (aG y56.1.1) 1) false) (iEq y56.1.2.1 0) false) Hw.2.1 false) (iEq (aG Hw.1) 1) false) (iEq (atI Hw.1 0 0) 3) false)
 ((m26 (([((bs [120]),2,([]:List ByteArray),1,9,())]:List DS0),()) (y56.1.1,y56.1.2.1,()) 1).bind λa9q =>
 some (iEq a9q.1 7,()))
 (some (false,()))) none
def ZV:Cfg:=⟨fQ,bQ,[i12,i21,i26],[]⟩
theorem a8f(x:Unit):gZ ZV x11 53 [.t 0] [] [.bool] x=m11:=by kernel_rfl
def i11:PI:=⟨11,[],[.bool],fun(x:Unit)=>m11⟩
theorem a6x:POk Tryd.prog (gx bQ) i11:=pok mixed (dA a6w (dA a6t (dA a6r (cu _ _))):dG _ (ZV)) F11 (a8f)
def x16:XC:=xoF Tryd.f16 .o
theorem F16:Fn Tryd.prog 16 12 x16.er [.t 4]:=by unfold x16;exact fnX Tryd.func16 (by kernel_rfl) (by kernel_rfl) (by kernel_rfl) (by kernel_rfl)
def m16(a0:Int)(a1:Int):Option (Int×Unit) :=
 cond (iNe a1 0)
 (cond (iNe a1 0)
 (some (xJ (bZ .i64 (xJ a0 a1) a1) a1,())) none) none
def ZR:Cfg:=⟨fQ,bQ,[],[]⟩
theorem a8c(x:Int×Int×Unit):gZ ZR x16 12 [.t 4] [(.int .i64),(.int .i64)] [(.int .i64)] x=m16 x.1 x.2.1:=by kernel_rfl
def i16:PI:=⟨16,[(.int .i64),(.int .i64)],[(.int .i64)],fun(x:Int×Int×Unit)=>m16 x.1 x.2.1⟩
theorem Yv:POk Tryd.prog (gx bQ) i16:=pok mixed (cu _ _:dG _ (ZR)) F16 (a8c)
def x43:XC:=xoF Tryd.f43 .o
theorem F43:Fn Tryd.prog 43 3 x43.er [.c 0 5 true]:=by unfold x43;exact fnX Tryd.func43 (by kernel_rfl) (by kernel_rfl) (by kernel_rfl) (by kernel_rfl)
def m43:Option (DS0×Unit) :=
 some (((bs [112,101,114,105,108]),1,([(bs [102,105,114,101]),(bs [102,108,111,111,100]),(bs [119,105,110,100]),(bs [116,104,101,102,116])]:List ByteArray),0,0,()),())
def Zx:Cfg:=⟨fQ,bQ,[],[]⟩
theorem a7J(x:Unit):gZ Zx x43 3 [.c 0 5 true] [] [tS0] x=m43:=by kernel_rfl
def i43:PI:=⟨43,[],[tS0],fun(x:Unit)=>m43⟩
theorem a6l:POk Tryd.prog (gx bQ) i43:=pok mixed (cu _ _:dG _ (Zx)) F43 (a7J)
def x15:XC:=xoF Tryd.f15 .o
theorem F15:Fn Tryd.prog 15 43 x15.er [.c 2 1 true]:=by unfold x15;exact fnX Tryd.func15 (by kernel_rfl) (by kernel_rfl) (by kernel_rfl) (by kernel_rfl)
def m15(a0:Int):Option (DS5×Unit) :=
 (m16 a0 6).bind λKv =>
 cond (iEq Kv.1 0)
 ((m43).bind λa9p =>
 some ((([a9p.1,((bs [115,116,111,114,101,121,115]),2,([]:List ByteArray),1,9,()),((bs [97,108,97,114,109]),3,([]:List ByteArray),0,0,())]:List DS0),()),()))
 (cond (iEq Kv.1 1)
 (some ((([((bs [110]),2,([]:List ByteArray),(-5),20,())]:List DS0),()),()))
 (cond (iEq Kv.1 2)
 (some ((([((bs [97]),3,([]:List ByteArray),0,0,()),((bs [114,111,108,101]),1,([(bs [99,114,101,119]),(bs [103,117,101,115,116])]:List ByteArray),0,0,()),((bs [98]),3,([]:List ByteArray),0,0,())]:List DS0),()),()))
 (cond (iEq Kv.1 3)
 (some ((([((bs [110]),2,([]:List ByteArray),(-1000000000),1000000000,()),((bs [116]),3,([]:List ByteArray),0,0,())]:List DS0),()),()))
 (cond (iEq Kv.1 4)
 ((m43).bind λa9o =>
 some ((([((bs [111,110,101]),1,([(bs [111,110,108,121])]:List ByteArray),0,0,()),a9o.1,((bs [110]),2,([]:List ByteArray),0,6,()),((bs [116]),3,([]:List ByteArray),0,0,())]:List DS0),()),()))
 (some ((([((bs [116]),3,([]:List ByteArray),0,0,())]:List DS0),()),()))))))
def ZT:Cfg:=⟨fQ,bQ,[i16,i43],[]⟩
theorem a8d(x:Int×Unit):gZ ZT x15 43 [.c 2 1 true] [(.int .i64)] [tS5] x=m15 x.1:=by kernel_rfl
def i15:PI:=⟨15,[(.int .i64)],[tS5],fun(x:Int×Unit)=>m15 x.1⟩
theorem a6v:POk Tryd.prog (gx bQ) i15:=pok mixed (dA Yv (dA a6l (cu _ _)):dG _ (ZT)) F15 (a8d)
def x19:XC:=xoF Tryd.f19 .o
theorem F19:Fn Tryd.prog 19 6 x19.er [.t 2]:=by unfold x19;exact fnX Tryd.func19 (by kernel_rfl) (by kernel_rfl) (by kernel_rfl) (by kernel_rfl)
def m19(a0:List Int):Option ((List Int)×Int×Unit) :=
 some (a0,0,())
def ZO:Cfg:=⟨fQ,bQ,[],[]⟩
def YF:Sh:=⟨1,[(0,(.list (.int .i64)))],[],[]⟩
def Yh:Sh:=⟨1,[],[(0,.ptr 0 0 0)],[.box 78 [.d (.list (.int .i64)),.d (.int .i64)]]⟩
theorem a7Z(x:(List Int)×Unit):qd ZO x19 6 [.t 2] [] YF Yh x=m19 x.1:=by kernel_rfl
def h19:HI:=⟨19,YF,Yh,fun(x:(List Int)×Unit)=>m19 x.1,[]⟩
theorem a6D:HOk Tryd.prog (gx bQ) h19:=hok mixed (cu _ _:dG _ (ZO)) F19 (a7Z)
def x103:XC:=xoF Tryd.f103 .o
theorem a95:Fn Tryd.prog 103 9 x103.er [.t 2]:=by unfold x103;exact fnX Tryd.func103 (by kernel_rfl) (by kernel_rfl) (by kernel_rfl) (by kernel_rfl)
def Il(a0:Int):Option (Bool×Unit) :=
 some (cond (iLe 97 a0) (iLe a0 122) false,())
def Ue:Cfg:=⟨fQ,bQ,[],[]⟩
theorem a4M(x:Int×Unit):gZ Ue x103 9 [.t 2] [(.int .u8)] [.bool] x=Il x.1:=by kernel_rfl
def a4g:PI:=⟨103,[(.int .u8)],[.bool],fun(x:Int×Unit)=>Il x.1⟩
theorem a3o:POk Tryd.prog (gx bQ) a4g:=pok mixed (cu _ _:dG _ (Ue)) a95 (a4M)
def x104:XC:=xoF Tryd.f104 .o
theorem a94:Fn Tryd.prog 104 9 x104.er [.t 2]:=by unfold x104;exact fnX Tryd.func104 (by kernel_rfl) (by kernel_rfl) (by kernel_rfl) (by kernel_rfl)
def LY(a0:Int):Option (Bool×Unit) :=
 some (cond (iLe 48 a0) (iLe a0 57) false,())
def Ud:Cfg:=⟨fQ,bQ,[],[]⟩
theorem a4L(x:Int×Unit):gZ Ud x104 9 [.t 2] [(.int .u8)] [.bool] x=LY x.1:=by kernel_rfl
def a4f:PI:=⟨104,[(.int .u8)],[.bool],fun(x:Int×Unit)=>LY x.1⟩
theorem a3n:POk Tryd.prog (gx bQ) a4f:=pok mixed (cu _ _:dG _ (Ud)) a94 (a4L)
def x91:XC:=xoF Tryd.f91 (.d 2 (.s (.d 1 (.b (.l [] ⟨50,[(0,.str),(3,(.int .i64))],[],[]⟩ .o))) .o))
theorem F91:Fn Tryd.prog 91 50 x91.er [.t 2]:=by unfold x91;exact fnX Tryd.func91 (by kernel_rfl) (by kernel_rfl) (by kernel_rfl) (by kernel_rfl)
def m91(a0:ByteArray):Option (Bool×Unit) :=
 cond (or (bnd 0 (sLen a0)) (not (bEq (cond (iLt (sLen a0) 1) true (iLt 16 (sLen a0))) false)))
 (cond (cond (iLt (sLen a0) 1) true (iLt 16 (sLen a0)))
 (cond (or (bnd (gP .i64 (sLen a0) 1) (sLen a0)) (not (bEq true false)))
 (some (false,())) none)
 ((Il (sAt a0 0)).bind λa2x =>
 cond (or (bnd (gP .i64 (sLen a0) 1) (sLen a0)) (not (bEq (not a2x.1) false)))
 (cond (cond (not a2x.1) true (iEq (sAt a0 (gP .i64 (sLen a0) 1)) 45))
 (some (false,()))
 (eZ (S:=ByteArray×Int×Unit) (R:=Bool×Unit) (λrJ =>
 cond (iLt rJ.2.1 (sLen rJ.1))
 (cond (bnd rJ.2.1 (sLen rJ.1))
 ((Il (sAt rJ.1 rJ.2.1)).bind λa2w =>
 cond (or (bnd rJ.2.1 (sLen rJ.1)) (not (bEq (not a2w.1) true)))
 (cond (not a2w.1)
 ((LY (sAt rJ.1 rJ.2.1)).bind λa2v =>
 cond (or (bnd rJ.2.1 (sLen rJ.1)) (not (bEq (not a2v.1) true)))
 (cond (cond (not a2v.1) (iNe (sAt rJ.1 rJ.2.1) 45) false)
 (some (.inr (false,())))
 (some (.inl (rJ.1,bZ .i64 rJ.2.1 1,())))) none)
 (cond (or (bnd rJ.2.1 (sLen rJ.1)) (not (bEq false true)))
 (some (.inl (rJ.1,bZ .i64 rJ.2.1 1,()))) none)) none) none)
 (some (.inr (true,()))))
 (a0,0,()))) none)) none
def YW:Cfg:=⟨fQ,bQ,[a4g,a4f],[]⟩
theorem a7d(x:ByteArray×Unit):gZ YW x91 50 [.t 2] [.str] [.bool] x=m91 x.1:=by kernel_rfl
def i91:PI:=⟨91,[.str],[.bool],fun(x:ByteArray×Unit)=>m91 x.1⟩
theorem a5V:POk Tryd.prog (gx bQ) i91:=pok mixed (dA a3o (dA a3n (cu _ _)):dG _ (YW)) F91 (a7d)
def x92:XC:=xoF Tryd.f92 .o
theorem F92:Fn Tryd.prog 92 28 x92.er [.t 2]:=by unfold x92;exact fnX Tryd.func92 (by kernel_rfl) (by kernel_rfl) (by kernel_rfl) (by kernel_rfl)
def m92(a0:ByteArray):Option (Bool×Unit) :=
 cond (sEq a0 (bs [97,110,100]))
 (some (true,()))
 (cond (sEq a0 (bs [97,118,101,114,97,103,101]))
 (some (true,()))
 (cond (sEq a0 (bs [99,111,105,110,115,117,114,97,110,99,101]))
 (some (true,()))
 (cond (sEq a0 (bs [99,111,110,100,105,116,105,111,110]))
 (some (true,()))
 (cond (sEq a0 (bs [99,111,118,101,114]))
 (some (true,()))
 (cond (sEq a0 (bs [100,101,100,117,99,116,105,98,108,101]))
 (some (true,()))
 (cond (sEq a0 (bs [100,101,102,105,110,101]))
 (some (true,()))
 (cond (sEq a0 (bs [101,110,100]))
 (some (true,()))
 (cond (sEq a0 (bs [101,110,100,111,114,115,101]))
 (some (true,()))
 (cond (sEq a0 (bs [101,120,99,108,117,100,101]))
 (some (true,()))
 (cond (sEq a0 (bs [102,97,108,115,101]))
 (some (true,()))
 (cond (sEq a0 (bs [102,114,97,110,99,104,105,115,101]))
 (some (true,()))
 (cond (sEq a0 (bs [102,114,111,109]))
 (some (true,()))
 (cond (sEq a0 (bs [105,110]))
 (some (true,()))
 (cond (sEq a0 (bs [108,105,109,105,116]))
 (some (true,()))
 (cond (sEq a0 (bs [110,111,116]))
 (some (true,()))
 (cond (sEq a0 (bs [111,114]))
 (some (true,()))
 (cond (sEq a0 (bs [114,101,109,111,118,101]))
 (some (true,()))
 (cond (sEq a0 (bs [115,117,98,108,105,109,105,116]))
 (some (true,()))
 (cond (sEq a0 (bs [116,111]))
 (some (true,()))
 (cond (sEq a0 (bs [116,114,117,101]))
 (some (true,()))
 (cond (sEq a0 (bs [117,110,108,101,115,115]))
 (some (true,()))
 (cond (sEq a0 (bs [119,104,101,110]))
 (some (true,()))
 (some (false,()))))))))))))))))))))))))
def YV:Cfg:=⟨fQ,bQ,[],[]⟩
theorem a7c(x:ByteArray×Unit):gZ YV x92 28 [.t 2] [.str] [.bool] x=m92 x.1:=by kernel_rfl
def i92:PI:=⟨92,[.str],[.bool],fun(x:ByteArray×Unit)=>m92 x.1⟩
theorem a5U:POk Tryd.prog (gx bQ) i92:=pok mixed (cu _ _:dG _ (YV)) F92 (a7c)
def x77:XC:=xoF Tryd.f77 .o
theorem F77:Fn Tryd.prog 77 10 x77.er [.t 2]:=by unfold x77;exact fnX Tryd.func77 (by kernel_rfl) (by kernel_rfl) (by kernel_rfl) (by kernel_rfl)
def m77(a0:ByteArray):Option (Bool×Unit) :=
 (m91 a0).bind λa9n =>
 cond a9n.1
 ((m92 a0).bind λa9m =>
 some (not a9m.1,()))
 (some (false,()))
def Zb:Cfg:=⟨fQ,bQ,[i91,i92],[]⟩
theorem a7o(x:ByteArray×Unit):gZ Zb x77 10 [.t 2] [.str] [.bool] x=m77 x.1:=by kernel_rfl
def i77:PI:=⟨77,[.str],[.bool],fun(x:ByteArray×Unit)=>m77 x.1⟩
theorem Yn:POk Tryd.prog (gx bQ) i77:=pok mixed (dA a5V (dA a5U (cu _ _)):dG _ (Zb)) F77 (a7o)
def x93:XC:=xoF Tryd.f93 (.d 1 (.s (.d 1 (.b (.l [] ⟨16,[(0,(.list .str)),(3,(.int .i64))],[],[]⟩ .o))) .o))
theorem F93:Fn Tryd.prog 93 16 x93.er [.t 2]:=by unfold x93;exact fnX Tryd.func93 (by kernel_rfl) (by kernel_rfl) (by kernel_rfl) (by kernel_rfl)
def m93(a0:List ByteArray):Option (Bool×Unit) :=
 eZ (S:=(List ByteArray)×Int×Unit) (R:=Bool×Unit) (λDi =>
 cond (iLt Di.2.1 (aG Di.1))
 (cond (bnd Di.2.1 (aG Di.1))
 ((m77 (atI Di.1 Di.2.1 ByteArray.empty)).bind λy150 =>
 cond (not y150.1)
 (some (.inr (false,())))
 (some (.inl (Di.1,bZ .i64 Di.2.1 1,())))) none)
 (some (.inr (true,()))))
 (a0,0,())
def YU:Cfg:=⟨fQ,bQ,[i77],[]⟩
theorem a7b(x:(List ByteArray)×Unit):gZ YU x93 16 [.t 2] [(.list .str)] [.bool] x=m93 x.1:=by kernel_rfl
def i93:PI:=⟨93,[(.list .str)],[.bool],fun(x:(List ByteArray)×Unit)=>m93 x.1⟩
theorem a5T:POk Tryd.prog (gx bQ) i93:=pok mixed (dA Yn (cu _ _):dG _ (YU)) F93 (a7b)
def x94:XC:=xoF Tryd.f94 (.d 1 (.s (.d 1 (.b (.l [] ⟨25,[(0,(.list .str)),(3,(.int .i64))],[],[]⟩ (.d 1 (.s (.b (.d 1 (.b (.l [] ⟨25,[(0,(.list .str)),(3,(.int .i64)),(4,(.int .i64))],[],[]⟩ .o)))) .o))))) .o))
theorem F94:Fn Tryd.prog 94 25 x94.er [.t 2]:=by unfold x94;exact fnX Tryd.func94 (by kernel_rfl) (by kernel_rfl) (by kernel_rfl) (by kernel_rfl)
def m94(a0:List ByteArray):Option (Bool×Unit) :=
 eZ (S:=(List ByteArray)×Int×Unit) (R:=Bool×Unit) (λQd =>
 cond (iLt Qd.2.1 (aG Qd.1))
 (eZ (S:=(List ByteArray)×Int×Int×Unit) (R:=((List ByteArray)×Int×Unit)⊕(Bool×Unit)) (λvE =>
 cond (iLt vE.2.2.1 vE.2.1)
 (cond (bnd vE.2.1 (aG vE.1))
 (cond (bnd vE.2.2.1 (aG vE.1))
 (cond (sEq (atI vE.1 vE.2.1 ByteArray.empty) (atI vE.1 vE.2.2.1 ByteArray.empty))
 (some (.inr (.inr (false,()))))
 (some (.inl (vE.1,vE.2.1,bZ .i64 vE.2.2.1 1,())))) none) none)
 (some (.inr (.inl (vE.1,bZ .i64 vE.2.1 1,())))))
 (Qd.1,Qd.2.1,0,()))
 (some (.inr (true,()))))
 (a0,0,())
def YT:Cfg:=⟨fQ,bQ,[],[]⟩
theorem a7a(x:(List ByteArray)×Unit):gZ YT x94 25 [.t 2] [(.list .str)] [.bool] x=m94 x.1:=by kernel_rfl
def i94:PI:=⟨94,[(.list .str)],[.bool],fun(x:(List ByteArray)×Unit)=>m94 x.1⟩
theorem a5S:POk Tryd.prog (gx bQ) i94:=pok mixed (cu _ _:dG _ (YT)) F94 (a7a)
def x95:XC:=xoF Tryd.f95 .o
theorem F95:Fn Tryd.prog 95 9 x95.er [.t 2]:=by unfold x95;exact fnX Tryd.func95 (by kernel_rfl) (by kernel_rfl) (by kernel_rfl) (by kernel_rfl)
def m95(a0:Int):Option (Bool×Unit) :=
 some (cond (iLt 1000000000 a0) true (iLt a0 (-1000000000)),())
def YS:Cfg:=⟨fQ,bQ,[],[]⟩
theorem a6Z(x:Int×Unit):gZ YS x95 9 [.t 2] [(.int .i64)] [.bool] x=m95 x.1:=by kernel_rfl
def i95:PI:=⟨95,[(.int .i64)],[.bool],fun(x:Int×Unit)=>m95 x.1⟩
theorem a5R:POk Tryd.prog (gx bQ) i95:=pok mixed (cu _ _:dG _ (YS)) F95 (a6Z)
def x78:XC:=xoF Tryd.f78 .o
theorem F78:Fn Tryd.prog 78 73 x78.er [.t 2]:=by unfold x78;exact fnX Tryd.func78 (by kernel_rfl) (by kernel_rfl) (by kernel_rfl) (by kernel_rfl)
def m78(a0:DS0):Option (Int×Unit) :=
 cond (iEq a0.2.1 1)
 (cond (cond (iNe a0.2.2.2.1 0) true (iNe a0.2.2.2.2.1 0))
 (some (20,()))
 (cond (iEq (aG a0.2.2.1) 0)
 (some (19,()))
 (cond (iLt 12 (aG a0.2.2.1))
 (some (4,()))
 ((m93 a0.2.2.1).bind λy151 =>
 cond (not y151.1)
 (some (6,()))
 ((m94 a0.2.2.1).bind λa9l =>
 cond (not a9l.1)
 (some (8,()))
 (some (0,())))))))
 (cond (iEq a0.2.1 2)
 (cond (iLt 0 (aG a0.2.2.1))
 (some (20,()))
 (cond (iLt a0.2.2.2.2.1 a0.2.2.2.1)
 (some (1,()))
 ((m95 a0.2.2.2.1).bind λy157 =>
 cond y157.1
 (some (1,()))
 ((m95 a0.2.2.2.2.1).bind λy158 =>
 cond y158.1
 (some (1,()))
 (some (0,()))))))
 (cond (iEq a0.2.1 3)
 (cond (cond (cond (iLt 0 (aG a0.2.2.1)) true (iNe a0.2.2.2.1 0)) true (iNe a0.2.2.2.2.1 0))
 (some (20,()))
 (some (0,())))
 (some (11,()))))
def Za:Cfg:=⟨fQ,bQ,[i93,i94,i95],[]⟩
theorem a7n(x:DS0×Unit):gZ Za x78 73 [.t 2] [tS0] [(.int .i64)] x=m78 x.1:=by kernel_rfl
def i78:PI:=⟨78,[tS0],[(.int .i64)],fun(x:DS0×Unit)=>m78 x.1⟩
theorem a6a:POk Tryd.prog (gx bQ) i78:=pok mixed (dA a5T (dA a5S (dA a5R (cu _ _))):dG _ (Za)) F78 (a7n)
def x41:XC:=xoF Tryd.f41 (.d 3 (.s (.d 1 (.b (.l [] ⟨50,[(3,(.int .i64))],[(1,.ptr 0 0 0)],[.box 24 [.d (.list tS0)]]⟩ (.d 1 (.s (.b (.d 2 (.s (.d 1 (.b (.l [] ⟨50,[(3,(.int .i64)),(5,(.int .i64))],[(1,.ptr 0 0 0),(4,.ptr 1 0 0)],[.box 24 [.d (.list tS0)],.box 64 [.d .str,.d (.int .i64),.d (.list .str),.d (.int .i64),.d (.int .i64)]]⟩ .o))) .o))) .o))))) .o))
theorem F41:Fn Tryd.prog 41 50 x41.er [.t 2]:=by unfold x41;exact fnX Tryd.func41 (by kernel_rfl) (by kernel_rfl) (by kernel_rfl) (by kernel_rfl)
def m41(a0:DS5):Option (Int×Unit) :=
 cond (iEq (aG a0.1) 0)
 (some (19,()))
 (cond (iLt 6 (aG a0.1))
 (some (4,()))
 (eZ (S:=Int×(List DS0)×Unit) (R:=Int×Unit) (λsU =>
 cond (iLt sU.1 (aG sU.2.1))
 (cond (bnd sU.1 (aG sU.2.1))
 ((m77 ((atI sU.2.1 sU.1 (ByteArray.empty,0,[],0,0,())).1)).bind λa9k =>
 cond (not a9k.1)
 (some (.inr (6,())))
 (eZ (S:=Int×Int×(List DS0)×ByteArray×Int×(List ByteArray)×Int×Int×Unit) (R:=(Int×(List DS0)×Unit)⊕(Int×Unit)) (λqp =>
 cond (iLt qp.2.1 qp.1)
 (cond (bnd qp.2.1 (aG qp.2.2.1))
 (cond (sEq ((atI qp.2.2.1 qp.2.1 (ByteArray.empty,0,[],0,0,())).1) qp.2.2.2.1)
 (some (.inr (.inr (8,()))))
 (some (.inl (qp.1,bZ .i64 qp.2.1 1,qp.2.2.1,qp.2.2.2.1,qp.2.2.2.2.1,qp.2.2.2.2.2.1,qp.2.2.2.2.2.2.1,qp.2.2.2.2.2.2.2.1,())))) none)
 (Option.map Sum.inr ((m78 (qp.2.2.2.1,qp.2.2.2.2.1,qp.2.2.2.2.2.1,qp.2.2.2.2.2.2.1,qp.2.2.2.2.2.2.2.1,())).bind λa2u =>
 cond (iNe a2u.1 0)
 (some (.inr (a2u.1,())))
 (some (.inl (bZ .i64 qp.1 1,qp.2.2.1,()))))))
 (sU.1,0,sU.2.1,(atI sU.2.1 sU.1 (ByteArray.empty,0,[],0,0,())).1,(atI sU.2.1 sU.1 (ByteArray.empty,0,[],0,0,())).2.1,(atI sU.2.1 sU.1 (ByteArray.empty,0,[],0,0,())).2.2.1,(atI sU.2.1 sU.1 (ByteArray.empty,0,[],0,0,())).2.2.2.1,(atI sU.2.1 sU.1 (ByteArray.empty,0,[],0,0,())).2.2.2.2.1,()))) none)
 (some (.inr (0,()))))
 (0,a0.1,())))
def Zz:Cfg:=⟨fQ,bQ,[i77,i78],[]⟩
theorem a7L(x:DS5×Unit):gZ Zz x41 50 [.t 2] [tS5] [(.int .i64)] x=m41 x.1:=by kernel_rfl
def i41:PI:=⟨41,[tS5],[(.int .i64)],fun(x:DS5×Unit)=>m41 x.1⟩
theorem Qv:POk Tryd.prog (gx bQ) i41:=pok mixed (dA Yn (dA a6a (cu _ _)):dG _ (Zz)) F41 (a7L)
def x42:XC:=xoF Tryd.f42 .o
theorem F42:Fn Tryd.prog 42 40 x42.er [.t 4,.t 5]:=by unfold x42;exact fnX Tryd.func42 (by kernel_rfl) (by kernel_rfl) (by kernel_rfl) (by kernel_rfl)
def m42(a0:DS5)(a1:Int):Option (Int×Int×Unit) :=
 (m41 (a0.1,())).bind λa9j =>
 cond (cond (cond (iNe a9j.1 0) true (iLt a1 0)) true (iLe (aG a0.1) a1))
 (some (0,(-1),()))
 (cond (bnd a1 (aG a0.1))
 (cond (iEq ((atI a0.1 a1 (ByteArray.empty,0,[],0,0,())).2.1) 1)
 (some (0,gP .i64 (aG ((atI a0.1 a1 (ByteArray.empty,0,[],0,0,())).2.2.1)) 1,()))
 (cond (iEq ((atI a0.1 a1 (ByteArray.empty,0,[],0,0,())).2.1) 2)
 (some ((atI a0.1 a1 (ByteArray.empty,0,[],0,0,())).2.2.2.1,(atI a0.1 a1 (ByteArray.empty,0,[],0,0,())).2.2.2.2.1,()))
 (some (0,1,())))) none)
def Zy:Cfg:=⟨fQ,bQ,[i41],[]⟩
theorem a7K(x:DS5×Int×Unit):gZ Zy x42 40 [.t 4,.t 5] [tS5,(.int .i64)] [(.int .i64),(.int .i64)] x=m42 x.1 x.2.1:=by kernel_rfl
def i42:PI:=⟨42,[tS5,(.int .i64)],[(.int .i64),(.int .i64)],fun(x:DS5×Int×Unit)=>m42 x.1 x.2.1⟩
theorem Gi:POk Tryd.prog (gx bQ) i42:=pok mixed (dA Qv (cu _ _):dG _ (Zy)) F42 (a7K)
def x44:XC:=xoF Tryd.f44 (.d 2 (.s (.d 1 (.b (.l [.gh 3 37 (.list (.int .i64))] ⟨26,[(4,(.int .i64))],[(1,.ptr 0 0 0),(3,.row 1)],[.box 24 [.d (.list tS0)],.row 37 (.list (.int .i64)) false]⟩ .o))) .o))
theorem F44:Fn Tryd.prog 44 26 x44.er [.t 2]:=by unfold x44;exact fnX Tryd.func44 (by kernel_rfl) (by kernel_rfl) (by kernel_rfl) (by kernel_rfl)
def m44(a0:DS5):Option ((List (List Int))×Unit) :=
 eZ (S:=Int×(List DS0)×(List (List Int))×Unit) (R:=(List (List Int))×Unit) (λCm =>
 cond (iLt Cm.1 (aG Cm.2.1))
 ((m42 (Cm.2.1,()) Cm.1).bind λy167 =>
 cond (fits (List.length Cm.2.2.1+List.length ([([y167.1]:List Int)]:List (List Int))) 24)
 (some (.inl (bZ .i64 Cm.1 1,Cm.2.1,Cm.2.2.1++([([y167.1]:List Int)]:List (List Int)),()))) none)
 (some (.inr (Cm.2.2.1,()))))
 (0,a0.1,([]:List (List Int)),())
def Zw:Cfg:=⟨fQ,bQ,[i42],[]⟩
theorem a7I(x:DS5×Unit):gZ Zw x44 26 [.t 2] [tS5] [(.list (.list (.int .i64)))] x=m44 x.1:=by kernel_rfl
def i44:PI:=⟨44,[tS5],[(.list (.list (.int .i64)))],fun(x:DS5×Unit)=>m44 x.1⟩
theorem a6k:POk Tryd.prog (gx bQ) i44:=pok mixed (dA Gi (cu _ _):dG _ (Zw)) F44 (a7I)
def x45:XC:=xoF Tryd.f45 .o
theorem F45:Fn Tryd.prog 45 39 x45.er [.t 4]:=by unfold x45;exact fnX Tryd.func45 (by kernel_rfl) (by kernel_rfl) (by kernel_rfl) (by kernel_rfl)
def m45(a0:Int)(a1:List Int)(a2:Int):Option (Int×(List Int)×Int×Unit) :=
 cond (iLe (aG a1) a2)
 (some (0,a1,a2,()))
 (cond (bnd (gP .i64 (bZ .i64 a2 1) 1) (aG a1))
 (cond (iNe a0 0)
 (cond (iNe a0 0)
 (some (xJ (bZ .i64 (xJ (atI a1 (gP .i64 (bZ .i64 a2 1) 1) 0) a0) a0) a0,a1,bZ .i64 a2 1,())) none) none) none)
def Zv:Cfg:=⟨fQ,bQ,[],[]⟩
def YD:Sh:=⟨2,[(1,(.int .i64))],[(0,.ptr 0 0 0)],[.box 78 [.d (.list (.int .i64)),.d (.int .i64)]]⟩
def Yf:Sh:=⟨1,[(0,(.int .i64))],[],[.box 78 [.d (.list (.int .i64)),.d (.int .i64)]]⟩
theorem a7H(x:Int×(List Int)×Int×Unit):qd Zv x45 39 [.t 4] [] YD Yf x=m45 x.1 x.2.1 x.2.2.1:=by kernel_rfl
def h45:HI:=⟨45,YD,Yf,fun(x:Int×(List Int)×Int×Unit)=>m45 x.1 x.2.1 x.2.2.1,[]⟩
theorem Yx:HOk Tryd.prog (gx bQ) h45:=hok mixed (cu _ _:dG _ (Zv)) F45 (a7H)
def x24:XC:=xoF Tryd.f24 (.d 2 (.s (.d 1 (.b (.l [.gh 5 3 (.int .i64)] ⟨53,[(6,(.int .i64))],[(0,.ptr 0 0 0),(3,.ptr 1 0 0),(5,.row 2)],[.box 78 [.d (.list (.int .i64)),.d (.int .i64)],.box 24 [.d (.list tS0)],.row 3 (.int .i64) false]⟩ .o))) .o))
theorem F24:Fn Tryd.prog 24 53 x24.er [.t 4]:=by unfold x24;exact fnX Tryd.func24 (by kernel_rfl) (by kernel_rfl) (by kernel_rfl) (by kernel_rfl)
def m24(a0:DS5)(a1:List Int)(a2:Int):Option ((List Int)×Int×(List Int)×Unit) :=
 eZ (S:=Int×(List Int)×Int×(List DS0)×(List Int)×Unit) (R:=(List Int)×Int×(List Int)×Unit) (λoL =>
 cond (iLt oL.1 (aG oL.2.2.2.1))
 ((m42 (oL.2.2.2.1,()) oL.1).bind λyG =>
 (m45 (bZ .i64 (gP .i64 yG.2.1 yG.1) 1) oL.2.1 oL.2.2.1).bind λPo =>
 (m45 5 Po.2.1 Po.2.2.1).bind λzJ =>
 cond (iEq zJ.1 0)
 (cond (fits (List.length oL.2.2.2.2.1+List.length ([yG.1]:List Int)) 8)
 (some (.inl (bZ .i64 oL.1 1,zJ.2.1,zJ.2.2.1,oL.2.2.2.1,oL.2.2.2.2.1++([yG.1]:List Int),()))) none)
 (cond (iEq zJ.1 1)
 (cond (fits (List.length oL.2.2.2.2.1+List.length ([yG.2.1]:List Int)) 8)
 (some (.inl (bZ .i64 oL.1 1,zJ.2.1,zJ.2.2.1,oL.2.2.2.1,oL.2.2.2.2.1++([yG.2.1]:List Int),()))) none)
 (cond (iEq zJ.1 2)
 ((m45 12 zJ.2.1 zJ.2.2.1).bind λPn =>
 cond (fits (List.length oL.2.2.2.2.1+List.length ([qZ (vI (gP .i64 Pn.1 4) yG.1) yG.2.1]:List Int)) 8)
 (some (.inl (bZ .i64 oL.1 1,Pn.2.1,Pn.2.2.1,oL.2.2.2.1,oL.2.2.2.2.1++([qZ (vI (gP .i64 Pn.1 4) yG.1) yG.2.1]:List Int),()))) none)
 (cond (fits (List.length oL.2.2.2.2.1+List.length ([bZ .i64 yG.1 Po.1]:List Int)) 8)
 (some (.inl (bZ .i64 oL.1 1,zJ.2.1,zJ.2.2.1,oL.2.2.2.1,oL.2.2.2.2.1++([bZ .i64 yG.1 Po.1]:List Int),()))) none))))
 (some (.inr (oL.2.1,oL.2.2.1,oL.2.2.2.2.1,()))))
 (0,a1,a2,a0.1,([]:List Int),())
def ZL:Cfg:=⟨fQ,bQ,[i42],[h45]⟩
def YE:Sh:=⟨2,[(1,tS5)],[(0,.ptr 0 0 0)],[.box 78 [.d (.list (.int .i64)),.d (.int .i64)]]⟩
def Yg:Sh:=⟨1,[],[(0,.row 1)],[.box 78 [.d (.list (.int .i64)),.d (.int .i64)],.row 3 (.int .i64) false]⟩
theorem a7W(x:DS5×(List Int)×Int×Unit):qd ZL x24 53 [.t 4] [.gh 4 3 (.int .i64)] YE Yg x=m24 x.1 x.2.1 x.2.2.1:=by kernel_rfl
def h24:HI:=⟨24,YE,Yg,fun(x:DS5×(List Int)×Int×Unit)=>m24 x.1 x.2.1 x.2.2.1,[]⟩
theorem Yy:HOk Tryd.prog (gx bQ) h24:=hok mixed (dA Gi (kI Yx (cu _ _)):dG _ (ZL)) F24 (a7W)
def x96:XC:=xoF Tryd.f96 (.d 3 (.s (.d 1 (.b (.l [.gh 5 3 (.int .i64)] ⟨48,[(0,(.list (.int .i64))),(1,(.int .i64)),(6,.bool),(7,(.int .i64))],[(5,.row 0)],[.row 3 (.int .i64) false]⟩ .o))) .o))
theorem F96:Fn Tryd.prog 96 48 x96.er [.t 4]:=by unfold x96;exact fnX Tryd.func96 (by kernel_rfl) (by kernel_rfl) (by kernel_rfl) (by kernel_rfl)
def m96(a0:List Int)(a1:Int):Option ((List Int)×Unit) :=
 eZ (S:=(List Int)×Int×Bool×Int×(List Int)×Unit) (R:=(List Int)×Unit) (λiE =>
 cond (iLt iE.2.2.2.1 (aG iE.1))
 (cond (or (bnd iE.2.2.2.1 (aG iE.1)) (not (bEq (not iE.2.2.1) true)))
 (cond (cond (not iE.2.2.1) (iLe iE.2.1 (atI iE.1 iE.2.2.2.1 0)) false)
 (cond (bnd iE.2.2.2.1 (aG iE.1))
 (cond (iLt iE.2.1 (atI iE.1 iE.2.2.2.1 0))
 (cond (fits (List.length iE.2.2.2.2.1+List.length ([iE.2.1]:List Int)) 8)
 (cond (bnd iE.2.2.2.1 (aG iE.1))
 (cond (fits (List.length (iE.2.2.2.2.1++([iE.2.1]:List Int))+List.length ([atI iE.1 iE.2.2.2.1 0]:List Int)) 8)
 (some (.inl (iE.1,iE.2.1,true,bZ .i64 iE.2.2.2.1 1,(iE.2.2.2.2.1++([iE.2.1]:List Int))++([atI iE.1 iE.2.2.2.1 0]:List Int),()))) none) none) none)
 (cond (bnd iE.2.2.2.1 (aG iE.1))
 (cond (fits (List.length iE.2.2.2.2.1+List.length ([atI iE.1 iE.2.2.2.1 0]:List Int)) 8)
 (some (.inl (iE.1,iE.2.1,true,bZ .i64 iE.2.2.2.1 1,iE.2.2.2.2.1++([atI iE.1 iE.2.2.2.1 0]:List Int),()))) none) none)) none)
 (cond (bnd iE.2.2.2.1 (aG iE.1))
 (cond (fits (List.length iE.2.2.2.2.1+List.length ([atI iE.1 iE.2.2.2.1 0]:List Int)) 8)
 (some (.inl (iE.1,iE.2.1,iE.2.2.1,bZ .i64 iE.2.2.2.1 1,iE.2.2.2.2.1++([atI iE.1 iE.2.2.2.1 0]:List Int),()))) none) none)) none)
 (Option.map Sum.inr (cond (not iE.2.2.1)
 (cond (fits (List.length iE.2.2.2.2.1+List.length ([iE.2.1]:List Int)) 8)
 (some (iE.2.2.2.2.1++([iE.2.1]:List Int),())) none)
 (some (iE.2.2.2.2.1,())))))
 (a0,a1,false,0,([]:List Int),())
def YR:Cfg:=⟨fQ,bQ,[],[]⟩
theorem a6Y(x:(List Int)×Int×Unit):gZ YR x96 48 [.t 4] [(.list (.int .i64)),(.int .i64)] [(.list (.int .i64))] x=m96 x.1 x.2.1:=by kernel_rfl
def i96:PI:=⟨96,[(.list (.int .i64)),(.int .i64)],[(.list (.int .i64))],fun(x:(List Int)×Int×Unit)=>m96 x.1 x.2.1⟩
theorem a5Q:POk Tryd.prog (gx bQ) i96:=pok mixed (cu _ _:dG _ (YR)) F96 (a6Y)
def x79:XC:=xoF Tryd.f79 .o
theorem F79:Fn Tryd.prog 79 8 x79.er [.t 4]:=by unfold x79;exact fnX Tryd.func79 (by kernel_rfl) (by kernel_rfl) (by kernel_rfl) (by kernel_rfl)
def m79(a0:List Int)(a1:Int):Option ((List Int)×Unit) :=
 (m96 a0 a1).bind λa9i =>
 some (a9i.1,())
def Z9:Cfg:=⟨fQ,bQ,[i96],[]⟩
theorem a7m(x:(List Int)×Int×Unit):gZ Z9 x79 8 [.t 4] [(.list (.int .i64)),(.int .i64)] [(.list (.int .i64))] x=m79 x.1 x.2.1:=by kernel_rfl
def i79:PI:=⟨79,[(.list (.int .i64)),(.int .i64)],[(.list (.int .i64))],fun(x:(List Int)×Int×Unit)=>m79 x.1 x.2.1⟩
theorem a5Z:POk Tryd.prog (gx bQ) i79:=pok mixed (dA a5Q (cu _ _):dG _ (Z9)) F79 (a7m)
def x46:XC:=xoF Tryd.f46 .o
theorem F46:Fn Tryd.prog 46 40 x46.er [.t 8]:=by unfold x46;exact fnX Tryd.func46 (by kernel_rfl) (by kernel_rfl) (by kernel_rfl) (by kernel_rfl)
def m46(a0:DS5)(a1:List (List Int))(a2:Int)(a3:Int):Option ((List (List Int))×Unit) :=
 (m42 (a0.1,()) a2).bind λa2t =>
 cond (cond (iLe a3 a2t.1) true (iLt a2t.2.1 a3))
 (some (a1,()))
 (cond (fits (List.length ([]:List (List Int))+List.length a1) 24)
 (cond (bnd a2 (aG a1))
 ((m79 (atI a1 a2 []) a3).bind λa9h =>
 cond (bnd a2 (aG (([]:List (List Int))++a1)))
 (cond (inB (Int.toNat a2) (([]:List (List Int))++a1))
 (some (List.set (([]:List (List Int))++a1) (Int.toNat a2) a9h.1,())) none) none) none) none)
def Zu:Cfg:=⟨fQ,bQ,[i42,i79],[]⟩
theorem a7G(x:DS5×(List (List Int))×Int×Int×Unit):gZ Zu x46 40 [.t 8] [tS5,(.list (.list (.int .i64))),(.int .i64),(.int .i64)] [(.list (.list (.int .i64)))] x=m46 x.1 x.2.1 x.2.2.1 x.2.2.2.1:=by kernel_rfl
def i46:PI:=⟨46,[tS5,(.list (.list (.int .i64))),(.int .i64),(.int .i64)],[(.list (.list (.int .i64)))],fun(x:DS5×(List (List Int))×Int×Int×Unit)=>m46 x.1 x.2.1 x.2.2.1 x.2.2.2.1⟩
theorem a6j:POk Tryd.prog (gx bQ) i46:=pok mixed (dA Gi (dA a5Z (cu _ _)):dG _ (Zu)) F46 (a7G)
def x47:XC:=xoF Tryd.f47 (.d 2 (.s (.d 1 (.b (.l [] ⟨20,[(0,(.list (.list (.int .i64)))),(3,(.int .i64)),(4,(.int .i64))],[],[]⟩ .o))) .o))
theorem F47:Fn Tryd.prog 47 20 x47.er [.t 2]:=by unfold x47;exact fnX Tryd.func47 (by kernel_rfl) (by kernel_rfl) (by kernel_rfl) (by kernel_rfl)
def m47(a0:List (List Int)):Option (Int×Unit) :=
 eZ (S:=(List (List Int))×Int×Int×Unit) (R:=Int×Unit) (λBg =>
 cond (iLt Bg.2.2.1 (aG Bg.1))
 (cond (bnd Bg.2.2.1 (aG Bg.1))
 (some (.inl (Bg.1,qZ (DI .i64 Bg.2.1 (aG (atI Bg.1 Bg.2.2.1 []))) 8193,bZ .i64 Bg.2.2.1 1,()))) none)
 (some (.inr (Bg.2.1,()))))
 (a0,1,0,())
def Zt:Cfg:=⟨fQ,bQ,[],[]⟩
theorem a7F(x:(List (List Int))×Unit):gZ Zt x47 20 [.t 2] [(.list (.list (.int .i64)))] [(.int .i64)] x=m47 x.1:=by kernel_rfl
def i47:PI:=⟨47,[(.list (.list (.int .i64)))],[(.int .i64)],fun(x:(List (List Int))×Unit)=>m47 x.1⟩
theorem a6i:POk Tryd.prog (gx bQ) i47:=pok mixed (cu _ _:dG _ (Zt)) F47 (a7F)
def x23:XC:=xoF Tryd.f23 (.d 2 (.s (.d 1 (.b (.l [] ⟨26,[(0,(.list (.int .i64))),(1,(.list (.int .i64))),(5,(.int .i64))],[],[]⟩ .o))) .o))
theorem F23:Fn Tryd.prog 23 26 x23.er [.t 4]:=by unfold x23;exact fnX Tryd.func23 (by kernel_rfl) (by kernel_rfl) (by kernel_rfl) (by kernel_rfl)
def m23(a0:List Int)(a1:List Int):Option (Bool×Unit) :=
 cond (iNe (aG a0) (aG a1))
 (some (false,()))
 (eZ (S:=(List Int)×(List Int)×Int×Unit) (R:=Bool×Unit) (λxA =>
 cond (iLt xA.2.2.1 (aG xA.1))
 (cond (bnd xA.2.2.1 (aG xA.1))
 (cond (bnd xA.2.2.1 (aG xA.2.1))
 (cond (iNe (atI xA.1 xA.2.2.1 0) (atI xA.2.1 xA.2.2.1 0))
 (some (.inr (false,())))
 (some (.inl (xA.1,xA.2.1,bZ .i64 xA.2.2.1 1,())))) none) none)
 (some (.inr (true,()))))
 (a0,a1,0,()))
def ZM:Cfg:=⟨fQ,bQ,[],[]⟩
theorem a7X(x:(List Int)×(List Int)×Unit):gZ ZM x23 26 [.t 4] [(.list (.int .i64)),(.list (.int .i64))] [.bool] x=m23 x.1 x.2.1:=by kernel_rfl
def i23:PI:=⟨23,[(.list (.int .i64)),(.list (.int .i64))],[.bool],fun(x:(List Int)×(List Int)×Unit)=>m23 x.1 x.2.1⟩
theorem Yu:POk Tryd.prog (gx bQ) i23:=pok mixed (cu _ _:dG _ (ZM)) F23 (a7X)
def Px:XC:=xoF Tryd.f97 (.d 3 (.s (.d 1 (.b (.l [.gh 9 3 (.int .i64)] ⟨107,[(1,(.int .i64)),(2,(.list (.int .i64))),(11,(.int .i64))],[(0,.ptr 0 0 0),(3,.row 1),(9,.row 3),(10,.row 4)],[.box 93 [.d (.list (.list (.int .i64))),.d (.list (.int .i64)),.row 2],.row 3 (.int .i64) false,.row 70 tS1 false,.row 3 (.int .i64) false,.row 3 (.int .i64) false]⟩ (.d 1 (.s (.b (.d 1 (.c (.u [3]) .o))) .o))))) (.d 1 (.s (.d 1 (.b (.l [.gh 9 3 (.int .i64)] ⟨107,[(1,(.int .i64)),(12,(.int .i64))],[(0,.ptr 0 0 0),(9,.row 3),(10,.row 4)],[.box 93 [.d (.list (.list (.int .i64))),.d (.list (.int .i64)),.row 2],.row 3 (.int .i64) false,.row 70 tS1 false,.row 3 (.int .i64) false,.row 3 (.int .i64) false]⟩ .o))) .o))))
theorem a8v:Fn Tryd.prog 97 107 Px.er [.t 8]:=by unfold Px;exact fnX Tryd.func97 (by kernel_rfl) (by kernel_rfl) (by kernel_rfl) (by kernel_rfl)
def Ep(a0:Int)(a1:List Int)(a2:List (List Int))(a3:List Int)(a4:List Int)(a5:List DS1):Option (Int×(List (List Int))×(List Int)×(List Int)×(List DS1)×Unit) :=
 cond (bnd 0 (aG a4))
 (cond (inB (Int.toNat 0) a4)
 (eZ (S:=Int×(List Int)×Int×(List (List Int))×(List Int)×(List Int)×(List DS1)×(List Int)×(List Int)×Unit) (R:=Int×(List (List Int))×(List Int)×(List Int)×(List DS1)×Unit) (λgQ =>
 cond (iLt gQ.2.2.1 (aG gQ.2.2.2.2.2.1))
 (cond (bnd gQ.2.2.1 (aG gQ.2.2.2.2.2.1))
 (cond (inB (Int.toNat gQ.2.2.1) gQ.2.2.2.2.2.1)
 (cond (bnd (gP .i64 (aG gQ.2.2.2.2.2.2.2.2.1) 1) (aG gQ.2.2.2.2.2.2.2.2.1))
 (cond (inB (Int.toNat (gP .i64 (aG gQ.2.2.2.2.2.2.2.2.1) 1)) gQ.2.2.2.2.2.2.2.2.1)
 (cond (iNe (List.getD gQ.2.2.2.2.2.1 (Int.toNat gQ.2.2.1) 0) (List.getD gQ.2.2.2.2.2.2.2.2.1 (Int.toNat (gP .i64 (aG gQ.2.2.2.2.2.2.2.2.1) 1)) 0))
 (cond (bnd gQ.2.2.1 (aG gQ.2.1))
 (cond (fits (List.length gQ.2.2.2.2.2.2.2.1+List.length ([atI gQ.2.1 gQ.2.2.1 0]:List Int)) 8)
 (cond (bnd gQ.2.2.1 (aG gQ.2.2.2.2.2.1))
 (cond (inB (Int.toNat gQ.2.2.1) gQ.2.2.2.2.2.1)
 (cond (fits (List.length gQ.2.2.2.2.2.2.2.2.1+List.length ([List.getD gQ.2.2.2.2.2.1 (Int.toNat gQ.2.2.1) 0]:List Int)) 8)
 (some (.inl (gQ.1,gQ.2.1,bZ .i64 gQ.2.2.1 1,gQ.2.2.2.1,gQ.2.2.2.2.1,gQ.2.2.2.2.2.1,gQ.2.2.2.2.2.2.1,gQ.2.2.2.2.2.2.2.1++([atI gQ.2.1 gQ.2.2.1 0]:List Int),gQ.2.2.2.2.2.2.2.2.1++([List.getD gQ.2.2.2.2.2.1 (Int.toNat gQ.2.2.1) 0]:List Int),()))) none) none) none) none) none)
 (some (.inl (gQ.1,gQ.2.1,bZ .i64 gQ.2.2.1 1,gQ.2.2.2.1,gQ.2.2.2.2.1,gQ.2.2.2.2.2.1,gQ.2.2.2.2.2.2.1,gQ.2.2.2.2.2.2.2.1,gQ.2.2.2.2.2.2.2.2.1,())))) none) none) none) none)
 (Option.map Sum.inr (cond (iEq (aG gQ.2.2.2.2.2.2.2.2.1) 1)
 (cond (bnd 0 (aG gQ.2.2.2.2.2.2.2.2.1))
 (cond (inB (Int.toNat 0) gQ.2.2.2.2.2.2.2.2.1)
 (some (List.getD gQ.2.2.2.2.2.2.2.2.1 (Int.toNat 0) 0,gQ.2.2.2.1,gQ.2.2.2.2.1,gQ.2.2.2.2.2.1,gQ.2.2.2.2.2.2.1,())) none) none)
 (eZ (S:=Int×Int×(List (List Int))×(List Int)×(List Int)×(List DS1)×(List Int)×(List Int)×Unit) (R:=Int×(List (List Int))×(List Int)×(List Int)×(List DS1)×Unit) (λiB =>
 cond (iLt iB.2.1 (aG iB.2.2.2.2.2.1))
 (cond (bnd iB.2.1 (aG iB.2.2.2.2.2.1))
 (cond (inB (Int.toNat iB.2.1) iB.2.2.2.2.2.1)
 (cond (iEq ((List.getD iB.2.2.2.2.2.1 (Int.toNat iB.2.1) (0,[],[],())).1) iB.1)
 ((m23 ((List.getD iB.2.2.2.2.2.1 (Int.toNat iB.2.1) (0,[],[],())).2.1) iB.2.2.2.2.2.2.1).bind λa9g =>
 cond a9g.1
 ((m23 ((List.getD iB.2.2.2.2.2.1 (Int.toNat iB.2.1) (0,[],[],())).2.2.1) iB.2.2.2.2.2.2.2.1).bind λa9f =>
 cond a9f.1
 (some (.inr (iB.2.1,iB.2.2.1,iB.2.2.2.1,iB.2.2.2.2.1,iB.2.2.2.2.2.1,())))
 (some (.inl (iB.1,bZ .i64 iB.2.1 1,iB.2.2.1,iB.2.2.2.1,iB.2.2.2.2.1,iB.2.2.2.2.2.1,iB.2.2.2.2.2.2.1,iB.2.2.2.2.2.2.2.1,()))))
 (some (.inl (iB.1,bZ .i64 iB.2.1 1,iB.2.2.1,iB.2.2.2.1,iB.2.2.2.2.1,iB.2.2.2.2.2.1,iB.2.2.2.2.2.2.1,iB.2.2.2.2.2.2.2.1,()))))
 (some (.inl (iB.1,bZ .i64 iB.2.1 1,iB.2.2.1,iB.2.2.2.1,iB.2.2.2.2.1,iB.2.2.2.2.2.1,iB.2.2.2.2.2.2.1,iB.2.2.2.2.2.2.2.1,())))) none) none)
 (Option.map Sum.inr (cond (fits (List.length iB.2.2.2.2.2.1+List.length ([(iB.1,iB.2.2.2.2.2.2.1,iB.2.2.2.2.2.2.2.1,())]:List DS1)) 56)
 (some (gP .i64 (aG (iB.2.2.2.2.2.1++([(iB.1,iB.2.2.2.2.2.2.1,iB.2.2.2.2.2.2.2.1,())]:List DS1))) 1,iB.2.2.1,iB.2.2.2.1,iB.2.2.2.2.1,iB.2.2.2.2.2.1++([(iB.1,iB.2.2.2.2.2.2.1,iB.2.2.2.2.2.2.2.1,())]:List DS1),())) none)))
 (gQ.1,0,gQ.2.2.2.1,gQ.2.2.2.2.1,gQ.2.2.2.2.2.1,gQ.2.2.2.2.2.2.1,gQ.2.2.2.2.2.2.2.1,gQ.2.2.2.2.2.2.2.2.1,())))))
 (a0,a1,1,a2,a3,a4,a5,([]:List Int),([List.getD a4 (Int.toNat 0) 0]:List Int),())) none) none
def OU:Cfg:=⟨fQ,bQ,[i23],[]⟩
def Oq:Sh:=⟨4,[(1,(.int .i64)),(2,(.list (.int .i64)))],[(0,.ptr 0 0 0),(3,.row 1)],[.box 93 [.d (.list (.list (.int .i64))),.d (.list (.int .i64)),.row 2],.row 3 (.int .i64) false,.row 70 tS1 false]⟩
def NZ:Sh:=⟨1,[(0,(.int .i64))],[],[.box 93 [.d (.list (.list (.int .i64))),.d (.list (.int .i64)),.row 2],.row 3 (.int .i64) false,.row 70 tS1 false]⟩
theorem a1G(x:Int×(List Int)×(List (List Int))×(List Int)×(List Int)×(List DS1)×Unit):qd OU Px 107 [.t 8] [] Oq NZ x=Ep x.1 x.2.1 x.2.2.1 x.2.2.2.1 x.2.2.2.2.1 x.2.2.2.2.2.1:=by kernel_rfl
def QV:HI:=⟨97,Oq,NZ,fun(x:Int×(List Int)×(List (List Int))×(List Int)×(List Int)×(List DS1)×Unit)=>Ep x.1 x.2.1 x.2.2.1 x.2.2.2.1 x.2.2.2.2.1 x.2.2.2.2.2.1,[1]⟩
theorem Oa:HOk Tryd.prog (gx bQ) QV:=hok mixed (dA Yu (cu _ _):dG _ (OU)) a8v (a1G)
def x80:XC:=xoF Tryd.f80 (.d 4 (.s (.d 1 (.b (.l [.gh 10 3 (.int .i64)] ⟨73,[(1,(.int .i64)),(2,(.int .i64)),(9,(.int .i64)),(11,(.int .i64))],[(0,.ptr 0 0 0),(10,.row 2)],[.box 93 [.d (.list (.list (.int .i64))),.d (.list (.int .i64)),.row 1],.row 70 tS1 false,.row 3 (.int .i64) false]⟩ .o))) .o))
theorem F80:Fn Tryd.prog 80 73 x80.er [.t 8]:=by unfold x80;exact fnX Tryd.func80 (by kernel_rfl) (by kernel_rfl) (by kernel_rfl) (by kernel_rfl)
def Ie(self:(Int×Int×Int×(List (List Int))×(List Int)×(List DS1)×Unit)->Option (Int×(List (List Int))×(List Int)×(List DS1)×Unit))(a0:Int)(a1:Int)(a2:Int)(a3:List (List Int))(a4:List Int)(a5:List DS1):Option (Int×(List (List Int))×(List Int)×(List DS1)×Unit) :=
 cond (iEq a0 (aG a3))
 (cond (bnd a1 (aG a4))
 (some (gP .i64 (-1) (atI a4 a1 0),a3,a4,a5,())) none)
 (cond (bnd a0 (aG a3))
 (cond (iNe (aG (atI a3 a0 [])) 0)
 (eZ (S:=Int×Int×Int×Int×(List (List Int))×(List Int)×(List DS1)×(List Int)×Unit) (R:=Int×(List (List Int))×(List Int)×(List DS1)×Unit) (λmV =>
 cond (bnd mV.1 (aG mV.2.2.2.2.1))
 (cond (iLt mV.2.2.2.1 (aG (atI mV.2.2.2.2.1 mV.1 [])))
 ((self (bZ .i64 mV.1 1,bZ .i64 mV.2.1 (DI .i64 mV.2.2.2.1 mV.2.2.1),mV.2.2.1,mV.2.2.2.2.1,mV.2.2.2.2.2.1,mV.2.2.2.2.2.2.1,())).bind λKu =>
 cond (fits (List.length mV.2.2.2.2.2.2.2.1+List.length ([Ku.1]:List Int)) 8)
 (some (.inl (mV.1,mV.2.1,mV.2.2.1,bZ .i64 mV.2.2.2.1 1,Ku.2.1,Ku.2.2.1,Ku.2.2.2.1,mV.2.2.2.2.2.2.2.1++([Ku.1]:List Int),()))) none)
 (Option.map Sum.inr (cond (bnd mV.1 (aG mV.2.2.2.2.1))
 ((Ep mV.1 (atI mV.2.2.2.2.1 mV.1 []) mV.2.2.2.2.1 mV.2.2.2.2.2.1 mV.2.2.2.2.2.2.2.1 mV.2.2.2.2.2.2.1).bind λKt =>
 cond (and (Nat.beq (List.length mV.2.2.2.2.2.2.2.1) (List.length Kt.2.2.2.1)) true)
 (some (Kt.1,Kt.2.1,Kt.2.2.1,Kt.2.2.2.2.1,())) none) none))) none)
 (a0,a1,yN .i64 a2 (aG (atI a3 a0 [])),0,a3,a4,a5,([]:List Int),())) none) none)
def Ka:Sh:=⟨4,[(1,(.int .i64)),(2,(.int .i64)),(3,(.int .i64))],[(0,.ptr 0 0 0)],[.box 93 [.d (.list (.list (.int .i64))),.d (.list (.int .i64)),.row 1],.row 70 tS1 false]⟩
def JY:Sh:=⟨1,[(0,(.int .i64))],[],[.box 93 [.d (.list (.list (.int .i64))),.d (.list (.int .i64)),.row 1],.row 70 tS1 false]⟩
def Z8(self:(Int×Int×Int×(List (List Int))×(List Int)×(List DS1)×Unit)->Option (Int×(List (List Int))×(List Int)×(List DS1)×Unit)):Cfg:=⟨fQ,bQ,[],[⟨80,Ka,JY,self,[]⟩,QV]⟩
theorem a7l(self:(Int×Int×Int×(List (List Int))×(List Int)×(List DS1)×Unit)->Option (Int×(List (List Int))×(List Int)×(List DS1)×Unit))(x:Int×Int×Int×(List (List Int))×(List Int)×(List DS1)×Unit):qd (Z8 self) x80 73 [.t 8] [] Ka JY x=Ie self x.1 x.2.1 x.2.2.1 x.2.2.2.1 x.2.2.2.2.1 x.2.2.2.2.2.1:=by kernel_rfl
def m80(a0:Int)(a1:Int)(a2:Int)(a3:List (List Int))(a4:List Int)(a5:List DS1):Option (Int×(List (List Int))×(List Int)×(List DS1)×Unit):=xL (λself (x:Int×Int×Int×(List (List Int))×(List Int)×(List DS1)×Unit)=>Ie self x.1 x.2.1 x.2.2.1 x.2.2.2.1 x.2.2.2.2.1 x.2.2.2.2.2.1) (a0,a1,a2,a3,a4,a5,())
def h80:HI:=⟨80,Ka,JY,fun(x:Int×Int×Int×(List (List Int))×(List Int)×(List DS1)×Unit)=>m80 x.1 x.2.1 x.2.2.1 x.2.2.2.1 x.2.2.2.2.1 x.2.2.2.2.2.1,[]⟩
theorem a6A:HOk Tryd.prog (gx bQ) h80:=BR (f:=80) (ish:=Ka) (osh:=JY) (G:=λself (x:Int×Int×Int×(List (List Int))×(List Int)×(List DS1)×Unit)=>Ie self x.1 x.2.1 x.2.2.1 x.2.2.2.1 x.2.2.2.2.1 x.2.2.2.2.2.1) F80.callable (λrun hr=>hok mixed (kI hr (kI Oa (cu _ _)):dG _ (Z8 run)) F80 (a7l run))
def Pz:XC:=xoF Tryd.f80 (.d 4 (.s (.d 1 (.b (.l [.gh 10 3 (.int .i64),.ghc 0 2 70 tS1] ⟨73,[(1,(.int .i64)),(2,(.int .i64)),(9,(.int .i64)),(11,(.int .i64))],[(0,.ptr 0 0 0),(10,.row 1)],[.box 93 [.d (.list (.list (.int .i64))),.d (.list (.int .i64)),.row 2],.row 3 (.int .i64) false,.row 70 tS1 false]⟩ .o))) .o))
theorem a8x:Fn Tryd.prog 80 73 Pz.er [.t 8]:=by unfold Pz;exact fnX Tryd.func80 (by kernel_rfl) (by kernel_rfl) (by kernel_rfl) (by kernel_rfl)
def Gr(a0:Int)(a1:Int)(a2:Int)(a3:List (List Int))(a4:List Int):Option (Int×(List (List Int))×(List Int)×(List DS1)×Unit) :=
 cond (iEq a0 (aG a3))
 (cond (bnd a1 (aG a4))
 (some (gP .i64 (-1) (atI a4 a1 0),a3,a4,([]:List DS1),())) none)
 (cond (bnd a0 (aG a3))
 (cond (iNe (aG (atI a3 a0 [])) 0)
 (eZ (S:=Int×Int×Int×Int×(List (List Int))×(List Int)×(List Int)×(List DS1)×Unit) (R:=Int×(List (List Int))×(List Int)×(List DS1)×Unit) (λmW =>
 cond (bnd mW.1 (aG mW.2.2.2.2.1))
 (cond (iLt mW.2.2.2.1 (aG (atI mW.2.2.2.2.1 mW.1 [])))
 ((m80 (bZ .i64 mW.1 1) (bZ .i64 mW.2.1 (DI .i64 mW.2.2.2.1 mW.2.2.1)) mW.2.2.1 mW.2.2.2.2.1 mW.2.2.2.2.2.1 mW.2.2.2.2.2.2.2.1).bind λKr =>
 cond (fits (List.length mW.2.2.2.2.2.2.1+List.length ([Kr.1]:List Int)) 8)
 (some (.inl (mW.1,mW.2.1,mW.2.2.1,bZ .i64 mW.2.2.2.1 1,Kr.2.1,Kr.2.2.1,mW.2.2.2.2.2.2.1++([Kr.1]:List Int),Kr.2.2.2.1,()))) none)
 (Option.map Sum.inr (cond (bnd mW.1 (aG mW.2.2.2.2.1))
 ((Ep mW.1 (atI mW.2.2.2.2.1 mW.1 []) mW.2.2.2.2.1 mW.2.2.2.2.2.1 mW.2.2.2.2.2.2.1 mW.2.2.2.2.2.2.2.1).bind λKq =>
 cond (and (Nat.beq (List.length mW.2.2.2.2.2.2.1) (List.length Kq.2.2.2.1)) true)
 (some (Kq.1,Kq.2.1,Kq.2.2.1,Kq.2.2.2.2.1,())) none) none))) none)
 (a0,a1,yN .i64 a2 (aG (atI a3 a0 [])),0,a3,a4,([]:List Int),([]:List DS1),())) none) none)
def OW:Cfg:=⟨fQ,bQ,[],[h80,QV]⟩
def Ou:Sh:=⟨4,[(1,(.int .i64)),(2,(.int .i64)),(3,(.int .i64))],[(0,.ptr 0 0 0)],[.box 93 [.d (.list (.list (.int .i64))),.d (.list (.int .i64)),.nil]]⟩
def O5:Sh:=⟨1,[(0,(.int .i64))],[],[.box 93 [.d (.list (.list (.int .i64))),.d (.list (.int .i64)),.row 1],.row 70 tS1 false]⟩
theorem a1I(x:Int×Int×Int×(List (List Int))×(List Int)×Unit):qd OW Pz 73 [.t 8] [.ghc 0 2 70 tS1] Ou O5 x=Gr x.1 x.2.1 x.2.2.1 x.2.2.2.1 x.2.2.2.2.1:=by kernel_rfl
def YJ:HI:=⟨80,Ou,O5,fun(x:Int×Int×Int×(List (List Int))×(List Int)×Unit)=>Gr x.1 x.2.1 x.2.2.1 x.2.2.2.1 x.2.2.2.2.1,[]⟩
theorem a01:HOk Tryd.prog (gx bQ) YJ:=hok mixed (kI a6A (kI Oa (cu _ _)):dG _ (OW)) a8x (a1I)
def x58:XC:=xoF Tryd.f58 (.d 4 (.s (.d 1 (.b (.l [] ⟨64,[(3,(.int .i64)),(9,(.int .i64))],[(0,.ptr 0 0 0),(1,.row 1),(2,.row 2)],[.box 93 [.d (.list (.list (.int .i64))),.d (.list (.int .i64)),.row 3],.row 70 tS1 false,.row 3 (.int .i64) false,.row 70 tS1 false]⟩ .o))) .o))
theorem F58:Fn Tryd.prog 58 64 x58.er [.t 8]:=by unfold x58;exact fnX Tryd.func58 (by kernel_rfl) (by kernel_rfl) (by kernel_rfl) (by kernel_rfl)
def Ii(self:(Int×(List (List Int))×(List Int)×(List DS1)×(List Int)×(List DS1)×Unit)->Option ((List (List Int))×(List Int)×(List DS1)×(List Int)×(List DS1)×Unit))(a0:Int)(a1:List (List Int))(a2:List Int)(a3:List DS1)(a4:List Int)(a5:List DS1):Option ((List (List Int))×(List Int)×(List DS1)×(List Int)×(List DS1)×Unit) :=
 cond (or (bnd a0 (aG a4)) (not (bEq (iLt a0 0) false)))
 (cond (or (inB (Int.toNat a0) a4) (not (bEq (iLt a0 0) false)))
 (cond (cond (iLt a0 0) true (iLe 0 (List.getD a4 (Int.toNat a0) 0)))
 (some (a1,a2,a3,a4,a5,()))
 (cond (bnd a0 (aG a4))
 (cond (inB (Int.toNat a0) a4)
 (cond (bnd a0 (aG a5))
 (cond (inB (Int.toNat a0) a5)
 (cond (fits (List.length a3+List.length ([List.getD a5 (Int.toNat a0) (0,[],[],())]:List DS1)) 56)
 (eZ (S:=Int×Int×(List (List Int))×(List Int)×(List DS1)×(List Int)×(List DS1)×Unit) (R:=(List (List Int))×(List Int)×(List DS1)×(List Int)×(List DS1)×Unit) (λmO =>
 cond (bnd mO.1 (aG mO.2.2.2.2.2.2.1))
 (cond (inB (Int.toNat mO.1) mO.2.2.2.2.2.2.1)
 (cond (iLt mO.2.1 (aG ((List.getD mO.2.2.2.2.2.2.1 (Int.toNat mO.1) (0,[],[],())).2.2.1)))
 (cond (bnd mO.1 (aG mO.2.2.2.2.2.2.1))
 (cond (inB (Int.toNat mO.1) mO.2.2.2.2.2.2.1)
 (cond (bnd mO.2.1 (aG ((List.getD mO.2.2.2.2.2.2.1 (Int.toNat mO.1) (0,[],[],())).2.2.1)))
 ((self (atI ((List.getD mO.2.2.2.2.2.2.1 (Int.toNat mO.1) (0,[],[],())).2.2.1) mO.2.1 0,mO.2.2.1,mO.2.2.2.1,mO.2.2.2.2.1,mO.2.2.2.2.2.1,mO.2.2.2.2.2.2.1,())).bind λHu =>
 cond (and (Nat.beq (List.length mO.2.2.2.2.2.1) (List.length Hu.2.2.2.1)) true)
 (some (.inl (mO.1,bZ .i64 mO.2.1 1,Hu.1,Hu.2.1,Hu.2.2.1,Hu.2.2.2.1,Hu.2.2.2.2.1,()))) none) none) none) none)
 (some (.inr (mO.2.2.1,mO.2.2.2.1,mO.2.2.2.2.1,mO.2.2.2.2.2.1,mO.2.2.2.2.2.2.1,())))) none) none)
 (a0,0,a1,a2,a3++([List.getD a5 (Int.toNat a0) (0,[],[],())]:List DS1),List.set a4 (Int.toNat a0) (aG a3),a5,())) none) none) none) none) none)) none) none
def Ke:Sh:=⟨4,[(3,(.int .i64))],[(0,.ptr 0 0 0),(1,.row 1),(2,.row 2)],[.box 93 [.d (.list (.list (.int .i64))),.d (.list (.int .i64)),.row 3],.row 70 tS1 false,.row 3 (.int .i64) false,.row 70 tS1 false]⟩
def K3:Sh:=⟨1,[],[(0,.row 1)],[.box 93 [.d (.list (.list (.int .i64))),.d (.list (.int .i64)),.row 3],.row 70 tS1 false,.row 3 (.int .i64) false,.row 70 tS1 false]⟩
def Zm(self:(Int×(List (List Int))×(List Int)×(List DS1)×(List Int)×(List DS1)×Unit)->Option ((List (List Int))×(List Int)×(List DS1)×(List Int)×(List DS1)×Unit)):Cfg:=⟨fQ,bQ,[],[⟨58,Ke,K3,self,[2]⟩]⟩
theorem a7z(self:(Int×(List (List Int))×(List Int)×(List DS1)×(List Int)×(List DS1)×Unit)->Option ((List (List Int))×(List Int)×(List DS1)×(List Int)×(List DS1)×Unit))(x:Int×(List (List Int))×(List Int)×(List DS1)×(List Int)×(List DS1)×Unit):qd (Zm self) x58 64 [.t 8] [] Ke K3 x=Ii self x.1 x.2.1 x.2.2.1 x.2.2.2.1 x.2.2.2.2.1 x.2.2.2.2.2.1:=by kernel_rfl
def m58(a0:Int)(a1:List (List Int))(a2:List Int)(a3:List DS1)(a4:List Int)(a5:List DS1):Option ((List (List Int))×(List Int)×(List DS1)×(List Int)×(List DS1)×Unit):=xL (λself (x:Int×(List (List Int))×(List Int)×(List DS1)×(List Int)×(List DS1)×Unit)=>Ii self x.1 x.2.1 x.2.2.1 x.2.2.2.1 x.2.2.2.2.1 x.2.2.2.2.2.1) (a0,a1,a2,a3,a4,a5,())
def h58:HI:=⟨58,Ke,K3,fun(x:Int×(List (List Int))×(List Int)×(List DS1)×(List Int)×(List DS1)×Unit)=>m58 x.1 x.2.1 x.2.2.1 x.2.2.2.1 x.2.2.2.2.1 x.2.2.2.2.2.1,[2]⟩
theorem a6C:HOk Tryd.prog (gx bQ) h58:=BR (f:=58) (ish:=Ke) (osh:=K3) (G:=λself (x:Int×(List (List Int))×(List Int)×(List DS1)×(List Int)×(List DS1)×Unit)=>Ii self x.1 x.2.1 x.2.2.1 x.2.2.2.1 x.2.2.2.2.1 x.2.2.2.2.2.1) F58.callable (λrun hr=>hok mixed (kI hr (cu _ _):dG _ (Zm run)) F58 (a7z run))
def PL:XC:=xoF Tryd.f58 (.d 4 (.s (.d 1 (.b (.l [] ⟨64,[(3,(.int .i64)),(9,(.int .i64))],[(0,.ptr 0 0 0),(1,.row 3),(2,.row 1)],[.box 93 [.d (.list (.list (.int .i64))),.d (.list (.int .i64)),.row 2],.row 3 (.int .i64) false,.row 70 tS1 false,.row 70 tS1 false]⟩ .o))) .o))
theorem a8B:Fn Tryd.prog 58 64 PL.er [.t 8]:=by unfold PL;exact fnX Tryd.func58 (by kernel_rfl) (by kernel_rfl) (by kernel_rfl) (by kernel_rfl)
def Gt(a0:Int)(a1:List (List Int))(a2:List Int)(a3:List Int)(a4:List DS1):Option ((List (List Int))×(List Int)×(List Int)×(List DS1)×(List DS1)×Unit) :=
 cond (or (bnd a0 (aG a3)) (not (bEq (iLt a0 0) false)))
 (cond (or (inB (Int.toNat a0) a3) (not (bEq (iLt a0 0) false)))
 (cond (cond (iLt a0 0) true (iLe 0 (List.getD a3 (Int.toNat a0) 0)))
 (some (a1,a2,a3,a4,([]:List DS1),()))
 (cond (bnd a0 (aG a3))
 (cond (inB (Int.toNat a0) a3)
 (cond (bnd a0 (aG a4))
 (cond (inB (Int.toNat a0) a4)
 (cond (fits (List.length ([List.getD a4 (Int.toNat a0) (0,[],[],())]:List DS1)) 56)
 (eZ (S:=Int×Int×(List (List Int))×(List Int)×(List Int)×(List DS1)×(List DS1)×Unit) (R:=(List (List Int))×(List Int)×(List Int)×(List DS1)×(List DS1)×Unit) (λmM =>
 cond (bnd mM.1 (aG mM.2.2.2.2.2.1))
 (cond (inB (Int.toNat mM.1) mM.2.2.2.2.2.1)
 (cond (iLt mM.2.1 (aG ((List.getD mM.2.2.2.2.2.1 (Int.toNat mM.1) (0,[],[],())).2.2.1)))
 (cond (bnd mM.1 (aG mM.2.2.2.2.2.1))
 (cond (inB (Int.toNat mM.1) mM.2.2.2.2.2.1)
 (cond (bnd mM.2.1 (aG ((List.getD mM.2.2.2.2.2.1 (Int.toNat mM.1) (0,[],[],())).2.2.1)))
 ((m58 (atI ((List.getD mM.2.2.2.2.2.1 (Int.toNat mM.1) (0,[],[],())).2.2.1) mM.2.1 0) mM.2.2.1 mM.2.2.2.1 mM.2.2.2.2.2.2.1 mM.2.2.2.2.1 mM.2.2.2.2.2.1).bind λHt =>
 cond (and (Nat.beq (List.length mM.2.2.2.2.1) (List.length Ht.2.2.2.1)) true)
 (some (.inl (mM.1,bZ .i64 mM.2.1 1,Ht.1,Ht.2.1,Ht.2.2.2.1,Ht.2.2.2.2.1,Ht.2.2.1,()))) none) none) none) none)
 (some (.inr (mM.2.2.1,mM.2.2.2.1,mM.2.2.2.2.1,mM.2.2.2.2.2.1,mM.2.2.2.2.2.2.1,())))) none) none)
 (a0,0,a1,a2,List.set a3 (Int.toNat a0) 0,a4,([List.getD a4 (Int.toNat a0) (0,[],[],())]:List DS1),())) none) none) none) none) none)) none) none
def P6:Cfg:=⟨fQ,bQ,[],[h58]⟩
def Oy:Sh:=⟨4,[(3,(.int .i64))],[(0,.ptr 0 0 0),(1,.nil),(2,.row 1)],[.box 93 [.d (.list (.list (.int .i64))),.d (.list (.int .i64)),.row 2],.row 3 (.int .i64) false,.row 70 tS1 false]⟩
def O9:Sh:=⟨1,[],[(0,.row 3)],[.box 93 [.d (.list (.list (.int .i64))),.d (.list (.int .i64)),.row 2],.row 3 (.int .i64) false,.row 70 tS1 false,.row 70 tS1 false]⟩
theorem a1N(x:Int×(List (List Int))×(List Int)×(List Int)×(List DS1)×Unit):qd P6 PL 64 [.t 8] [.gh 8 70 tS1] Oy O9 x=Gt x.1 x.2.1 x.2.2.1 x.2.2.2.1 x.2.2.2.2.1:=by kernel_rfl
def YN:HI:=⟨58,Oy,O9,fun(x:Int×(List (List Int))×(List Int)×(List Int)×(List DS1)×Unit)=>Gt x.1 x.2.1 x.2.2.1 x.2.2.2.1 x.2.2.2.2.1,[1]⟩
theorem a05:HOk Tryd.prog (gx bQ) YN:=hok mixed (kI a6C (cu _ _):dG _ (P6)) a8B (a1N)
def x48:XC:=xoF Tryd.f48 (.d 5 (.s (.d 1 (.b (.l [] ⟨107,[(7,(.int .i64)),(9,(.int .i64))],[(4,.ptr 0 0 0),(6,.ptr 1 0 0),(8,.row 2)],[.box 28 [.nil,.d (.int .i64)],.box 93 [.d (.list (.list (.int .i64))),.d (.list (.int .i64)),.row 3],.row 3 (.int .i64) false,.row 70 tS1 false]⟩ .o))) (.d 1 (.s (.d 1 (.b (.l [] ⟨107,[(7,(.int .i64)),(11,(.int .i64))],[(4,.ptr 0 0 0),(8,.row 1),(10,.row 2)],[.box 28 [.nil,.d (.int .i64)],.row 3 (.int .i64) false,.row 70 tS1 false]⟩ (.d 1 (.s (.b (.d 1 (.s (.d 1 (.b (.l [.gh 12 3 (.int .i64)] ⟨107,[(7,(.int .i64)),(11,(.int .i64)),(13,(.int .i64))],[(4,.ptr 0 0 0),(8,.row 1),(10,.row 2),(12,.row 3)],[.box 28 [.nil,.d (.int .i64)],.row 3 (.int .i64) false,.row 70 tS1 false,.row 3 (.int .i64) false]⟩ .o))) .o))) .o))))) .o))))
theorem F48:Fn Tryd.prog 48 107 x48.er [.c 4 2 true,.t 5]:=by unfold x48;exact fnX Tryd.func48 (by kernel_rfl) (by kernel_rfl) (by kernel_rfl) (by kernel_rfl)
def m48(a0:List (List Int))(a1:List Int):Option (DS2×Int×Unit) :=
 (Gr 0 0 (aG a1) a0 a1).bind λEY =>
 cond (iLt 1000 (aG EY.2.2.2.1))
 (some ((([]:List DS1),0,()),4,()))
 (cond (tu (aG EY.2.2.2.1) 8)
 (eZ (S:=Int×Int×Int×(List (List Int))×(List Int)×(List Int)×(List DS1)×Unit) (R:=DS2×Int×Unit) (λqo =>
 cond (iLt qo.2.1 (aG qo.2.2.2.2.2.1))
 (cond (bnd qo.2.1 (aG qo.2.2.2.2.2.1))
 (cond (inB (Int.toNat qo.2.1) qo.2.2.2.2.2.1)
 (some (.inl (qo.1,bZ .i64 qo.2.1 1,qo.2.2.1,qo.2.2.2.1,qo.2.2.2.2.1,List.set qo.2.2.2.2.2.1 (Int.toNat qo.2.1) (-1),qo.2.2.2.2.2.2.1,()))) none) none)
 (Option.map Sum.inr ((Gt qo.1 qo.2.2.2.1 qo.2.2.2.2.1 qo.2.2.2.2.2.1 qo.2.2.2.2.2.2.1).bind λUx =>
 cond (and (Nat.beq (List.length qo.2.2.2.2.2.1) (List.length Ux.2.2.1)) true)
 (eZ (S:=Int×Int×Int×(List Int)×(List DS1)×Unit) (R:=DS2×Int×Unit) (λtQ =>
 cond (iLt tQ.2.1 (aG tQ.2.2.2.2.1))
 (eZ (S:=Int×Int×Int×Int×(List Int)×(List DS1)×(List Int)×Unit) (R:=(Int×Int×Int×(List Int)×(List DS1)×Unit)⊕(DS2×Int×Unit)) (λfK =>
 cond (bnd fK.2.1 (aG fK.2.2.2.2.2.1))
 (cond (inB (Int.toNat fK.2.1) fK.2.2.2.2.2.1)
 (cond (iLt fK.2.2.1 (aG ((List.getD fK.2.2.2.2.2.1 (Int.toNat fK.2.1) (0,[],[],())).2.2.1)))
 (cond (bnd fK.2.1 (aG fK.2.2.2.2.2.1))
 (cond (inB (Int.toNat fK.2.1) fK.2.2.2.2.2.1)
 (cond (bnd fK.2.2.1 (aG ((List.getD fK.2.2.2.2.2.1 (Int.toNat fK.2.1) (0,[],[],())).2.2.1)))
 (cond (iLe 0 (atI ((List.getD fK.2.2.2.2.2.1 (Int.toNat fK.2.1) (0,[],[],())).2.2.1) fK.2.2.1 0))
 (cond (bnd (atI ((List.getD fK.2.2.2.2.2.1 (Int.toNat fK.2.1) (0,[],[],())).2.2.1) fK.2.2.1 0) (aG fK.2.2.2.2.1))
 (cond (inB (Int.toNat (atI ((List.getD fK.2.2.2.2.2.1 (Int.toNat fK.2.1) (0,[],[],())).2.2.1) fK.2.2.1 0)) fK.2.2.2.2.1)
 (cond (fits (List.length fK.2.2.2.2.2.2.1+List.length ([List.getD fK.2.2.2.2.1 (Int.toNat (atI ((List.getD fK.2.2.2.2.2.1 (Int.toNat fK.2.1) (0,[],[],())).2.2.1) fK.2.2.1 0)) 0]:List Int)) 8)
 (some (.inl (fK.1,fK.2.1,bZ .i64 fK.2.2.1 1,fK.2.2.2.1,fK.2.2.2.2.1,fK.2.2.2.2.2.1,fK.2.2.2.2.2.2.1++([List.getD fK.2.2.2.2.1 (Int.toNat (atI ((List.getD fK.2.2.2.2.2.1 (Int.toNat fK.2.1) (0,[],[],())).2.2.1) fK.2.2.1 0)) 0]:List Int),()))) none) none) none)
 (cond (fits (List.length fK.2.2.2.2.2.2.1+List.length ([atI ((List.getD fK.2.2.2.2.2.1 (Int.toNat fK.2.1) (0,[],[],())).2.2.1) fK.2.2.1 0]:List Int)) 8)
 (some (.inl (fK.1,fK.2.1,bZ .i64 fK.2.2.1 1,fK.2.2.2.1,fK.2.2.2.2.1,fK.2.2.2.2.2.1,fK.2.2.2.2.2.2.1++([atI ((List.getD fK.2.2.2.2.2.1 (Int.toNat fK.2.1) (0,[],[],())).2.2.1) fK.2.2.1 0]:List Int),()))) none)) none) none) none)
 (Option.map Sum.inr (cond (bnd fK.2.1 (aG fK.2.2.2.2.2.1))
 (cond (inB (Int.toNat fK.2.1) fK.2.2.2.2.2.1)
 (cond (bnd fK.2.1 (aG fK.2.2.2.2.2.1))
 (cond (inB (Int.toNat fK.2.1) fK.2.2.2.2.2.1)
 (cond (bnd fK.2.1 (aG fK.2.2.2.2.2.1))
 (cond (inB (Int.toNat fK.2.1) fK.2.2.2.2.2.1)
 (some (.inl (fK.1,bZ .i64 fK.2.1 1,fK.2.2.2.1,fK.2.2.2.2.1,List.set fK.2.2.2.2.2.1 (Int.toNat fK.2.1) ((List.getD fK.2.2.2.2.2.1 (Int.toNat fK.2.1) (0,[],[],())).1,(List.getD fK.2.2.2.2.2.1 (Int.toNat fK.2.1) (0,[],[],())).2.1,fK.2.2.2.2.2.2.1,()),()))) none) none) none) none) none) none))) none) none)
 (tQ.1,tQ.2.1,0,tQ.2.2.1,tQ.2.2.2.1,tQ.2.2.2.2.1,([]:List Int),()))
 (Option.map Sum.inr (cond (iLe 0 tQ.1)
 (cond (bnd tQ.1 (aG tQ.2.2.2.1))
 (cond (inB (Int.toNat tQ.1) tQ.2.2.2.1)
 (some ((tQ.2.2.2.2.1,List.getD tQ.2.2.2.1 (Int.toNat tQ.1) 0,()),0,())) none) none)
 (some ((tQ.2.2.2.2.1,tQ.1,()),0,())))))
 (qo.1,0,qo.2.2.1,Ux.2.2.1,Ux.2.2.2.2.1,())) none)))
 (EY.1,0,0,EY.2.1,EY.2.2.1,(List.replicate (Int.toNat (aG EY.2.2.2.1)) 0:List Int),EY.2.2.2.1,())) none)
def Zr:Cfg:=⟨fQ,bQ,[],[YN,YJ]⟩
theorem a7E(x:(List (List Int))×(List Int)×Unit):gZ Zr x48 107 [.c 4 2 true,.t 5] [(.list (.list (.int .i64))),(.list (.int .i64))] [tS2,(.int .i64)] x=m48 x.1 x.2.1:=by kernel_rfl
def i48:PI:=⟨48,[(.list (.list (.int .i64))),(.list (.int .i64))],[tS2,(.int .i64)],fun(x:(List (List Int))×(List Int)×Unit)=>m48 x.1 x.2.1⟩
theorem a6h:POk Tryd.prog (gx bQ) i48:=pok mixed (kI a05 (kI a01 (cu _ _)):dG _ (Zr)) F48 (a7E)
def x18:XC:=xoF Tryd.f18 (.d 2 (.s (.d 1 (.b (.l [] ⟨58,[(2,(.int .i64)),(7,(.list (.list (.int .i64)))),(8,(.int .i64))],[(1,.ptr 0 0 0),(3,.ptr 1 0 0),(6,.ptr 2 0 0)],[.box 78 [.d (.list (.int .i64)),.d (.int .i64)],.box 24 [.d (.list tS0)],.box 28 [.nil,.d (.int .i64)]]⟩ .o))) (.d 1 (.s (.d 1 (.b (.l [.gh 11 3 (.int .i64)] ⟨58,[(2,(.int .i64)),(7,(.list (.list (.int .i64)))),(12,(.int .i64))],[(1,.ptr 0 0 0),(6,.ptr 1 0 0),(11,.row 2)],[.box 78 [.d (.list (.int .i64)),.d (.int .i64)],.box 28 [.nil,.d (.int .i64)],.row 3 (.int .i64) false]⟩ .o))) .o))))
theorem F18:Fn Tryd.prog 18 58 x18.er [.c 6 2 true]:=by unfold x18;exact fnX Tryd.func18 (by kernel_rfl) (by kernel_rfl) (by kernel_rfl) (by kernel_rfl)
def m18(a0:DS5)(a1:Int)(a2:List Int)(a3:Int):Option ((List DS1)×Int×(List Int)×Int×Unit) :=
 (m44 (a0.1,())).bind λa9e =>
 (m45 5 a2 a3).bind λUw =>
 eZ (S:=Int×(List (List Int))×Int×(List Int)×Int×(List DS0)×Int×Unit) (R:=(List DS1)×Int×(List Int)×Int×Unit) (λtO =>
 cond (iLt 0 tO.2.2.1)
 ((m45 (aG tO.2.2.2.2.2.1) tO.2.2.2.1 tO.2.2.2.2.1).bind λHr =>
 (m24 (tO.2.2.2.2.2.1,()) Hr.2.1 Hr.2.2.1).bind λKo =>
 cond (bnd Hr.1 (aG Ko.2.2.1))
 (cond (inB (Int.toNat Hr.1) Ko.2.2.1)
 ((m46 (tO.2.2.2.2.2.1,()) tO.2.1 Hr.1 (List.getD Ko.2.2.1 (Int.toNat Hr.1) 0)).bind λa9d =>
 some (.inl (tO.1,a9d.1,gP .i64 tO.2.2.1 1,Ko.1,Ko.2.1,tO.2.2.2.2.2.1,tO.2.2.2.2.2.2.1,()))) none) none)
 (Option.map Sum.inr ((m47 tO.2.1).bind λa9c =>
 eZ (S:=Int×(List (List Int))×Int×(List Int)×Int×Int×(List Int)×Unit) (R:=(List DS1)×Int×(List Int)×Int×Unit) (λwo =>
 cond (iLt 0 wo.2.2.1)
 ((m45 wo.1 wo.2.2.2.1 wo.2.2.2.2.1).bind λPm =>
 cond (fits (List.length wo.2.2.2.2.2.2.1+List.length ([Pm.1]:List Int)) 8)
 (some (.inl (wo.1,wo.2.1,gP .i64 wo.2.2.1 1,Pm.2.1,Pm.2.2.1,wo.2.2.2.2.2.1,wo.2.2.2.2.2.2.1++([Pm.1]:List Int),()))) none)
 (Option.map Sum.inr ((m48 wo.2.1 wo.2.2.2.2.2.2.1).bind λa2s =>
 some (a2s.1.1,a2s.1.2.1,wo.2.2.2.1,wo.2.2.2.2.1,()))))
 (tO.1,tO.2.1,a9c.1,tO.2.2.2.1,tO.2.2.2.2.1,tO.2.2.2.2.2.2.1,([]:List Int),()))))
 (a1,a9e.1,Uw.1,Uw.2.1,Uw.2.2.1,a0.1,0,())
def ZP:Cfg:=⟨fQ,bQ,[i44,i46,i47,i48],[h24,h45]⟩
def YG:Sh:=⟨3,[(0,tS5),(2,(.int .i64))],[(1,.ptr 0 0 0)],[.box 78 [.d (.list (.int .i64)),.d (.int .i64)]]⟩
def Yi:Sh:=⟨1,[],[(0,.agg [.d (.list tS1),.d (.int .i64)])],[.box 78 [.d (.list (.int .i64)),.d (.int .i64)]]⟩
theorem a8a(x:DS5×Int×(List Int)×Int×Unit):qd ZP x18 58 [.c 6 2 true] [] YG Yi x=m18 x.1 x.2.1 x.2.2.1 x.2.2.2.1:=by kernel_rfl
def h18:HI:=⟨18,YG,Yi,fun(x:DS5×Int×(List Int)×Int×Unit)=>m18 x.1 x.2.1 x.2.2.1 x.2.2.2.1,[]⟩
theorem a6E:HOk Tryd.prog (gx bQ) h18:=hok mixed (dA a6k (dA a6j (dA a6i (dA a6h (kI Yy (kI Yx (cu _ _)))))):dG _ (ZP)) F18 (a8a)
def x84:XC:=xoF Tryd.f84 .o
theorem F84:Fn Tryd.prog 84 27 x84.er [.t 6]:=by unfold x84;exact fnX Tryd.func84 (by kernel_rfl) (by kernel_rfl) (by kernel_rfl) (by kernel_rfl)
def m84(a0:Int)(a1:Int)(a2:Int):Option (Int×Unit) :=
 cond (iEq a2 1)
 (some (qZ a0 a1,()))
 (cond (iEq a2 2)
 (some (vI a0 a1,()))
 (cond (iEq a2 3)
 (cond (iNe a0 a1)
 (some (1,()))
 (some (0,())))
 (cond (iEq a0 0)
 (some (a1,()))
 (some (a0,())))))
def Z5:Cfg:=⟨fQ,bQ,[],[]⟩
theorem a7i(x:Int×Int×Int×Unit):gZ Z5 x84 27 [.t 6] [(.int .i64),(.int .i64),(.int .i64)] [(.int .i64)] x=m84 x.1 x.2.1 x.2.2.1:=by kernel_rfl
def i84:PI:=⟨84,[(.int .i64),(.int .i64),(.int .i64)],[(.int .i64)],fun(x:Int×Int×Int×Unit)=>m84 x.1 x.2.1 x.2.2.1⟩
theorem Yl:POk Tryd.prog (gx bQ) i84:=pok mixed (cu _ _:dG _ (Z5)) F84 (a7i)
def x85:XC:=xoF Tryd.f85 .o
theorem F85:Fn Tryd.prog 85 14 x85.er [.c 4 3 true]:=by unfold x85;exact fnX Tryd.func85 (by kernel_rfl) (by kernel_rfl) (by kernel_rfl) (by kernel_rfl)
def m85(a0:List DS1)(a1:Int):Option (DS1×Unit) :=
 cond (iLt a1 0)
 (some ((6,([]:List Int),([a1]:List Int),()),()))
 (cond (bnd a1 (aG a0))
 (some (((atI a0 a1 (0,[],[],())).1,(atI a0 a1 (0,[],[],())).2.1,(atI a0 a1 (0,[],[],())).2.2.1,()),())) none)
def Z4:Cfg:=⟨fQ,bQ,[],[]⟩
theorem a7h(x:(List DS1)×Int×Unit):gZ Z4 x85 14 [.c 4 3 true] [(.list tS1),(.int .i64)] [tS1] x=m85 x.1 x.2.1:=by kernel_rfl
def i85:PI:=⟨85,[(.list tS1),(.int .i64)],[tS1],fun(x:(List DS1)×Int×Unit)=>m85 x.1 x.2.1⟩
theorem Yk:POk Tryd.prog (gx bQ) i85:=pok mixed (cu _ _:dG _ (Z4)) F85 (a7h)
def PD:XC:=xoF Tryd.f67 .o
theorem a8y:Fn Tryd.prog 67 9 PD.er [.t 2]:=by unfold PD;exact fnX Tryd.func67 (by kernel_rfl) (by kernel_rfl) (by kernel_rfl) (by kernel_rfl)
def Az(a0:List DS1)(a1:List DS1)(a2:Int)(a3:List DS6)(a4:List DS1)(a5:List DS7):Option (Bool×(List DS1)×(List DS1)×Int×(List DS6)×(List DS1)×(List DS7)×Unit) :=
 some (iLt 1000 (aG a4),a0,a1,a2,a3,a4,a5,())
def OX:Cfg:=⟨fQ,bQ,[],[]⟩
def Ov:Sh:=⟨1,[],[(0,.ptr 0 0 4)],[.box 107 [.d (.list tS1),.d (.list tS1),.d (.int .i64),.mp 1,.row 2,.mp 3],.map 102 tS3 (.int .i64),.row 70 tS1 false,.map 103 .str (.int .i64)]⟩
def O6:Sh:=⟨1,[(0,.bool)],[],[.box 107 [.d (.list tS1),.d (.list tS1),.d (.int .i64),.mp 1,.row 2,.mp 3],.map 102 tS3 (.int .i64),.row 70 tS1 false,.map 103 .str (.int .i64)]⟩
theorem a1J(x:(List DS1)×(List DS1)×Int×(List DS6)×(List DS1)×(List DS7)×Unit):qd OX PD 9 [.t 2] [] Ov O6 x=Az x.1 x.2.1 x.2.2.1 x.2.2.2.1 x.2.2.2.2.1 x.2.2.2.2.2.1:=by kernel_rfl
def Kk:HI:=⟨67,Ov,O6,fun(x:(List DS1)×(List DS1)×Int×(List DS6)×(List DS1)×(List DS7)×Unit)=>Az x.1 x.2.1 x.2.2.1 x.2.2.2.1 x.2.2.2.2.1 x.2.2.2.2.2.1,[]⟩
theorem I9:HOk Tryd.prog (gx bQ) Kk:=hok mixed (cu _ _:dG _ (OX)) a8y (a1J)
def Py:XC:=xoF Tryd.f86 (.d 3 (.s (.d 1 (.b (.l [.fz 28 (.list (.int .i64))] ⟨101,[(1,(.int .i64)),(28,(.list (.int .i64))),(29,(.int .i64)),(30,(.int .i64))],[(0,.ptr 0 0 4),(2,.row 1),(9,.row 6),(10,.row 7)],[.box 107 [.d (.list tS1),.d (.list tS1),.d (.int .i64),.mp 3,.row 4,.mp 5],.row 3 (.int .i64) false,.row 3 (.int .i64) true,.map 102 tS3 (.int .i64),.row 70 tS1 false,.map 103 .str (.int .i64),.row 3 (.int .i64) false,.row 3 (.int .i64) false]⟩ .o))) .o))
theorem a8w:Fn Tryd.prog 86 101 Py.er [.t 8]:=by unfold Py;exact fnX Tryd.func86 (by kernel_rfl) (by kernel_rfl) (by kernel_rfl) (by kernel_rfl)
def Er(a0:Int)(a1:List DS1)(a2:List DS1)(a3:Int)(a4:List Int)(a5:List Int)(a6:List DS6)(a7:List DS1)(a8:List DS7):Option (Int×(List DS1)×(List DS1)×Int×(List Int)×(List Int)×(List DS6)×(List DS1)×(List DS7)×Unit) :=
 cond (and (and (iLe 0 0) (iLe 0 (aG a4))) (tu (aG a4) 8))
 (cond (and (and (iLe 0 1) (iLe 1 (aG a5))) (tu (aG a5) 8))
 (cond (bnd 0 (aG a5))
 (cond (inB (Int.toNat 0) a5)
 (cond (bnd 0 (aG (List.replicate (Int.toNat 1) 0:List Int)))
 (cond (inB (Int.toNat 0) (List.replicate (Int.toNat 1) 0:List Int))
 (cond (vw 1 ((List.length a5:Nat):Int) (List.length a5))
 (eZ (S:=Int×(List Int)×Int×Int×(List DS1)×(List DS1)×Int×(List Int)×(List Int)×(List DS6)×(List DS1)×(List DS7)×(List Int)×(List Int)×Unit) (R:=Int×(List DS1)×(List DS1)×Int×(List Int)×(List Int)×(List DS6)×(List DS1)×(List DS7)×Unit) (λdZ =>
 cond (iLt dZ.2.2.2.1 dZ.2.2.1)
 (cond (bnd dZ.2.2.2.1 (aG dZ.2.1))
 (cond (bnd (gP .i64 (aG dZ.2.2.2.2.2.2.2.2.2.2.2.2.2.1) 1) (aG dZ.2.2.2.2.2.2.2.2.2.2.2.2.2.1))
 (cond (inB (Int.toNat (gP .i64 (aG dZ.2.2.2.2.2.2.2.2.2.2.2.2.2.1) 1)) dZ.2.2.2.2.2.2.2.2.2.2.2.2.2.1)
 (cond (iNe (atI dZ.2.1 dZ.2.2.2.1 0) (List.getD dZ.2.2.2.2.2.2.2.2.2.2.2.2.2.1 (Int.toNat (gP .i64 (aG dZ.2.2.2.2.2.2.2.2.2.2.2.2.2.1) 1)) 0))
 (cond (bnd dZ.2.2.2.1 (aG dZ.2.2.2.2.2.2.2.1))
 (cond (inB (Int.toNat dZ.2.2.2.1) dZ.2.2.2.2.2.2.2.1)
 (cond (fits (List.length dZ.2.2.2.2.2.2.2.2.2.2.2.2.1+List.length ([List.getD dZ.2.2.2.2.2.2.2.1 (Int.toNat dZ.2.2.2.1) 0]:List Int)) 8)
 (cond (fits (List.length dZ.2.2.2.2.2.2.2.2.2.2.2.2.2.1+List.length ([atI dZ.2.1 dZ.2.2.2.1 0]:List Int)) 8)
 (some (.inl (dZ.1,dZ.2.1,dZ.2.2.1,bZ .i64 dZ.2.2.2.1 1,dZ.2.2.2.2.1,dZ.2.2.2.2.2.1,dZ.2.2.2.2.2.2.1,dZ.2.2.2.2.2.2.2.1,dZ.2.2.2.2.2.2.2.2.1,dZ.2.2.2.2.2.2.2.2.2.1,dZ.2.2.2.2.2.2.2.2.2.2.1,dZ.2.2.2.2.2.2.2.2.2.2.2.1,dZ.2.2.2.2.2.2.2.2.2.2.2.2.1++([List.getD dZ.2.2.2.2.2.2.2.1 (Int.toNat dZ.2.2.2.1) 0]:List Int),dZ.2.2.2.2.2.2.2.2.2.2.2.2.2.1++([atI dZ.2.1 dZ.2.2.2.1 0]:List Int),()))) none) none) none) none)
 (some (.inl (dZ.1,dZ.2.1,dZ.2.2.1,bZ .i64 dZ.2.2.2.1 1,dZ.2.2.2.2.1,dZ.2.2.2.2.2.1,dZ.2.2.2.2.2.2.1,dZ.2.2.2.2.2.2.2.1,dZ.2.2.2.2.2.2.2.2.1,dZ.2.2.2.2.2.2.2.2.2.1,dZ.2.2.2.2.2.2.2.2.2.2.1,dZ.2.2.2.2.2.2.2.2.2.2.2.1,dZ.2.2.2.2.2.2.2.2.2.2.2.2.1,dZ.2.2.2.2.2.2.2.2.2.2.2.2.2.1,())))) none) none) none)
 (Option.map Sum.inr (cond (iEq (aG dZ.2.2.2.2.2.2.2.2.2.2.2.2.1) 0)
 (cond (bnd 0 (aG dZ.2.2.2.2.2.2.2.2.2.2.2.2.2.1))
 (cond (inB (Int.toNat 0) dZ.2.2.2.2.2.2.2.2.2.2.2.2.2.1)
 (some (List.getD dZ.2.2.2.2.2.2.2.2.2.2.2.2.2.1 (Int.toNat 0) 0,dZ.2.2.2.2.1,dZ.2.2.2.2.2.1,dZ.2.2.2.2.2.2.1,dZ.2.2.2.2.2.2.2.1,dZ.2.2.2.2.2.2.2.2.1,dZ.2.2.2.2.2.2.2.2.2.1,dZ.2.2.2.2.2.2.2.2.2.2.1,dZ.2.2.2.2.2.2.2.2.2.2.2.1,())) none) none)
 ((Fu dZ.1 dZ.2.2.2.2.2.2.2.2.2.2.2.2.1 dZ.2.2.2.2.2.2.2.2.2.2.2.2.2.1).bind λUv =>
 cond (not (yK sEq Uv.1 dZ.2.2.2.2.2.2.2.2.2.2.2.1))
 (cond (fits (List.length dZ.2.2.2.2.2.2.2.2.2.2.1+List.length ([(dZ.1,dZ.2.2.2.2.2.2.2.2.2.2.2.2.1,dZ.2.2.2.2.2.2.2.2.2.2.2.2.2.1,())]:List DS1)) 56)
 (some (aG dZ.2.2.2.2.2.2.2.2.2.2.1,dZ.2.2.2.2.1,dZ.2.2.2.2.2.1,dZ.2.2.2.2.2.2.1,dZ.2.2.2.2.2.2.2.1,dZ.2.2.2.2.2.2.2.2.1,dZ.2.2.2.2.2.2.2.2.2.1,dZ.2.2.2.2.2.2.2.2.2.2.1++([(dZ.1,dZ.2.2.2.2.2.2.2.2.2.2.2.2.1,dZ.2.2.2.2.2.2.2.2.2.2.2.2.2.1,())]:List DS1),qx sEq Uv.1 (aG dZ.2.2.2.2.2.2.2.2.2.2.1) dZ.2.2.2.2.2.2.2.2.2.2.2.1,())) none)
 (some (pE sEq Uv.1 dZ.2.2.2.2.2.2.2.2.2.2.2.1 0,dZ.2.2.2.2.1,dZ.2.2.2.2.2.1,dZ.2.2.2.2.2.2.1,dZ.2.2.2.2.2.2.2.1,dZ.2.2.2.2.2.2.2.2.1,dZ.2.2.2.2.2.2.2.2.2.1,dZ.2.2.2.2.2.2.2.2.2.2.1,dZ.2.2.2.2.2.2.2.2.2.2.2.1,()))))))
 (a0,List.take (Int.toNat (((List.length a5:Nat):Int)-1)) (List.drop (Int.toNat 1) a5),(((Int.toNat (((List.length a5:Nat):Int)-1)):Nat):Int),0,a1,a2,a3,a4,a5,a6,a7,a8,(List.replicate (Int.toNat 0) 0:List Int),List.set (List.replicate (Int.toNat 1) 0:List Int) (Int.toNat 0) (List.getD a5 (Int.toNat 0) 0),())) none) none) none) none) none) none) none
def OV:Cfg:=⟨fQ,bQ,[QJ],[]⟩
def Ot:Sh:=⟨4,[(1,(.int .i64))],[(0,.ptr 0 0 4),(2,.row 1),(3,.row 2)],[.box 107 [.d (.list tS1),.d (.list tS1),.d (.int .i64),.mp 3,.row 4,.mp 5],.row 3 (.int .i64) false,.row 3 (.int .i64) false,.map 102 tS3 (.int .i64),.row 70 tS1 false,.map 103 .str (.int .i64)]⟩
def O4:Sh:=⟨1,[(0,(.int .i64))],[],[.box 107 [.d (.list tS1),.d (.list tS1),.d (.int .i64),.mp 3,.row 4,.mp 5],.row 3 (.int .i64) false,.row 3 (.int .i64) true,.map 102 tS3 (.int .i64),.row 70 tS1 false,.map 103 .str (.int .i64)]⟩
theorem a1H(x:Int×(List DS1)×(List DS1)×Int×(List Int)×(List Int)×(List DS6)×(List DS1)×(List DS7)×Unit):qd OV Py 101 [.t 8] [] Ot O4 x=Er x.1 x.2.1 x.2.2.1 x.2.2.2.1 x.2.2.2.2.1 x.2.2.2.2.2.1 x.2.2.2.2.2.2.1 x.2.2.2.2.2.2.2.1 x.2.2.2.2.2.2.2.2.1:=by kernel_rfl
def QW:HI:=⟨86,Ot,O4,fun(x:Int×(List DS1)×(List DS1)×Int×(List Int)×(List Int)×(List DS6)×(List DS1)×(List DS7)×Unit)=>Er x.1 x.2.1 x.2.2.1 x.2.2.2.1 x.2.2.2.2.1 x.2.2.2.2.2.1 x.2.2.2.2.2.2.1 x.2.2.2.2.2.2.2.1 x.2.2.2.2.2.2.2.2.1,[1,2]⟩
theorem Ob:HOk Tryd.prog (gx bQ) QW:=hok mixed (dA SV (cu _ _):dG _ (OV)) a8w (a1H)
def x66:XC:=xoF Tryd.f66 (.d 4 (.j [] ⟨197,[],[(0,.ptr 0 0 0),(3,.ptr 4 0 0),(7,.ptr 5 0 0),(8,.ptr 6 0 0)],[.box 107 [.d (.list tS1),.d (.list tS1),.d (.int .i64),.mp 1,.row 2,.mp 3],.map 102 tS3 (.int .i64),.row 70 tS1 false,.map 103 .str (.int .i64),.row 109 tS3 true,.box 70 [.d (.int .i64),.d (.list (.int .i64)),.d (.list (.int .i64))],.box 70 [.d (.int .i64),.d (.list (.int .i64)),.d (.list (.int .i64))]]⟩ .o (.d 2 (.s (.b (.l [.gh 9 3 (.int .i64),.gh 10 3 (.int .i64)] ⟨197,[(11,(.int .i64)),(12,(.int .i64))],[(0,.ptr 0 0 0),(3,.ptr 4 0 0),(7,.ptr 5 0 0),(8,.ptr 6 0 0),(9,.row 7),(10,.row 8)],[.box 107 [.d (.list tS1),.d (.list tS1),.d (.int .i64),.mp 1,.row 2,.mp 3],.map 102 tS3 (.int .i64),.row 70 tS1 false,.map 103 .str (.int .i64),.row 109 tS3 true,.box 70 [.d (.int .i64),.d (.list (.int .i64)),.d (.list (.int .i64))],.box 70 [.d (.int .i64),.d (.list (.int .i64)),.d (.list (.int .i64))],.row 3 (.int .i64) false,.row 3 (.int .i64) false]⟩ (.b (.s (.u [0,1,2,3]) .o)))) (.s (.u [0,1,2,3,7,8]) .o)))))
theorem F66:Fn Tryd.prog 66 197 x66.er [.t 4]:=by unfold x66;exact fnX Tryd.func66 (by kernel_rfl) (by kernel_rfl) (by kernel_rfl) (by kernel_rfl)
def Ig(self:(DS3×(List DS1)×(List DS1)×Int×(List DS6)×(List DS1)×(List DS7)×Unit)->Option (Int×(List DS1)×(List DS1)×Int×(List DS6)×(List DS1)×(List DS7)×Unit))(a0:DS3)(a1:List DS1)(a2:List DS1)(a3:Int)(a4:List DS6)(a5:List DS1)(a6:List DS7):Option (Int×(List DS1)×(List DS1)×Int×(List DS6)×(List DS1)×(List DS7)×Unit) :=
 cond (cond (iLt a0.1 0) (iLt a0.2.1 0) false)
 ((m72 a0.1).bind λa88 =>
 (m72 a0.2.1).bind λa81 =>
 (m84 a88.1 a81.1 a3).bind λa8Z =>
 (m40 a8Z.1).bind λa8Y =>
 some (a8Y.1,a1,a2,a3,a4,a5,a6,()))
 (cond (yK (eqT tS3) a0 a4)
 (some (pE (eqT tS3) a0 a4 0,a1,a2,a3,a4,a5,a6,()))
 ((m85 a1 a0.1).bind λCc =>
 (m85 a2 a0.2.1).bind λCb =>
 AA (S:=(List DS1)×(List DS1)×Int×(List DS6)×(List DS1)×(List DS7)×(List DS3)×Int×(List Int)×(List Int)×Int×(List Int)×(List Int)×Unit) (R:=Int×(List DS1)×(List DS1)×Int×(List DS6)×(List DS1)×(List DS7)×Unit)
 (cond (iLt Cc.1.1 Cb.1.1)
 (some (.inl (a1,a2,a3,a4,a5,a6,([a0]:List DS3),Cc.1.1,Cc.1.2.1,Cc.1.2.2.1,Cc.1.1,([]:List Int),([a0.2.1]:List Int),())))
 (cond (iLt Cb.1.1 Cc.1.1)
 (some (.inl (a1,a2,a3,a4,a5,a6,([a0]:List DS3),Cb.1.1,([]:List Int),([a0.1]:List Int),Cb.1.1,Cb.1.2.1,Cb.1.2.2.1,())))
 (some (.inl (a1,a2,a3,a4,a5,a6,([a0]:List DS3),Cc.1.1,Cc.1.2.1,Cc.1.2.2.1,Cb.1.1,Cb.1.2.1,Cb.1.2.2.1,())))))
 (λxI =>
 eZ (S:=Int×Int×(List DS1)×(List DS1)×Int×(List DS6)×(List DS1)×(List DS7)×(List DS3)×Int×(List Int)×(List Int)×Int×(List Int)×(List Int)×(List Int)×(List Int)×Unit) (R:=Int×(List DS1)×(List DS1)×Int×(List DS6)×(List DS1)×(List DS7)×Unit) (λaP =>
 cond (bnd aP.1 (aG aP.2.2.2.2.2.2.2.2.2.2.2.1))
 (cond (bnd aP.2.1 (aG aP.2.2.2.2.2.2.2.2.2.2.2.2.2.2.1))
 ((self ((atI aP.2.2.2.2.2.2.2.2.2.2.2.1 aP.1 0,atI aP.2.2.2.2.2.2.2.2.2.2.2.2.2.2.1 aP.2.1 0,()),aP.2.2.1,aP.2.2.2.1,aP.2.2.2.2.1,aP.2.2.2.2.2.1,aP.2.2.2.2.2.2.1,aP.2.2.2.2.2.2.2.1,())).bind λqW =>
 cond (fits (List.length aP.2.2.2.2.2.2.2.2.2.2.2.2.2.2.2.2.1+List.length ([qW.1]:List Int)) 8)
 ((Az qW.2.1 qW.2.2.1 qW.2.2.2.1 qW.2.2.2.2.1 qW.2.2.2.2.2.1 qW.2.2.2.2.2.2.1).bind λfB =>
 cond fB.1
 ((m40 0).bind λa8X =>
 some (.inr (a8X.1,fB.2.1,fB.2.2.1,fB.2.2.2.1,fB.2.2.2.2.1,fB.2.2.2.2.2.1,fB.2.2.2.2.2.2.1,())))
 (cond (cond (iEq aP.1 (aG aP.2.2.2.2.2.2.2.2.2.2.1)) (iEq aP.2.1 (aG aP.2.2.2.2.2.2.2.2.2.2.2.2.2.1)) false)
 (Option.map Sum.inr ((Er aP.2.2.2.2.2.2.2.2.2.1 fB.2.1 fB.2.2.1 fB.2.2.2.1 aP.2.2.2.2.2.2.2.2.2.2.2.2.2.2.2.1 (aP.2.2.2.2.2.2.2.2.2.2.2.2.2.2.2.2.1++([qW.1]:List Int)) fB.2.2.2.2.1 fB.2.2.2.2.2.1 fB.2.2.2.2.2.2.1).bind λBc =>
 cond (and (Nat.beq (List.length aP.2.2.2.2.2.2.2.2.2.2.2.2.2.2.2.1) (List.length Bc.2.2.2.2.1)) (and (Nat.beq (List.length (aP.2.2.2.2.2.2.2.2.2.2.2.2.2.2.2.2.1++([qW.1]:List Int))) (List.length Bc.2.2.2.2.2.1)) true))
 (cond (inB 0 aP.2.2.2.2.2.2.2.2.1)
 (some (Bc.1,Bc.2.1,Bc.2.2.1,Bc.2.2.2.1,qx (eqT tS3) (List.getD aP.2.2.2.2.2.2.2.2.1 0 (0,0,())) Bc.1 Bc.2.2.2.2.2.2.1,Bc.2.2.2.2.2.2.2.1,Bc.2.2.2.2.2.2.2.2.1,())) none) none))
 (cond (iEq aP.2.1 (aG aP.2.2.2.2.2.2.2.2.2.2.2.2.2.1))
 (cond (bnd aP.1 (aG aP.2.2.2.2.2.2.2.2.2.2.1))
 (cond (fits (List.length aP.2.2.2.2.2.2.2.2.2.2.2.2.2.2.2.1+List.length ([atI aP.2.2.2.2.2.2.2.2.2.2.1 aP.1 0]:List Int)) 8)
 (cond (or (bnd aP.1 (aG aP.2.2.2.2.2.2.2.2.2.2.1)) (not (bEq (iLt aP.1 (aG aP.2.2.2.2.2.2.2.2.2.2.1)) true)))
 (cond (cond (iLt aP.1 (aG aP.2.2.2.2.2.2.2.2.2.2.1)) (iEq (atI aP.2.2.2.2.2.2.2.2.2.2.1 aP.1 0) (atI aP.2.2.2.2.2.2.2.2.2.2.1 aP.1 0)) false)
 (cond (or (bnd aP.2.1 (aG aP.2.2.2.2.2.2.2.2.2.2.2.2.2.1)) (not (bEq (iLt aP.2.1 (aG aP.2.2.2.2.2.2.2.2.2.2.2.2.2.1)) true)))
 (cond (cond (iLt aP.2.1 (aG aP.2.2.2.2.2.2.2.2.2.2.2.2.2.1)) (iEq (atI aP.2.2.2.2.2.2.2.2.2.2.2.2.2.1 aP.2.1 0) (atI aP.2.2.2.2.2.2.2.2.2.2.1 aP.1 0)) false)
 (some (.inl (bZ .i64 aP.1 1,bZ .i64 aP.2.1 1,fB.2.1,fB.2.2.1,fB.2.2.2.1,fB.2.2.2.2.1,fB.2.2.2.2.2.1,fB.2.2.2.2.2.2.1,aP.2.2.2.2.2.2.2.2.1,aP.2.2.2.2.2.2.2.2.2.1,aP.2.2.2.2.2.2.2.2.2.2.1,aP.2.2.2.2.2.2.2.2.2.2.2.1,aP.2.2.2.2.2.2.2.2.2.2.2.2.1,aP.2.2.2.2.2.2.2.2.2.2.2.2.2.1,aP.2.2.2.2.2.2.2.2.2.2.2.2.2.2.1,aP.2.2.2.2.2.2.2.2.2.2.2.2.2.2.2.1++([atI aP.2.2.2.2.2.2.2.2.2.2.1 aP.1 0]:List Int),aP.2.2.2.2.2.2.2.2.2.2.2.2.2.2.2.2.1++([qW.1]:List Int),())))
 (some (.inl (bZ .i64 aP.1 1,aP.2.1,fB.2.1,fB.2.2.1,fB.2.2.2.1,fB.2.2.2.2.1,fB.2.2.2.2.2.1,fB.2.2.2.2.2.2.1,aP.2.2.2.2.2.2.2.2.1,aP.2.2.2.2.2.2.2.2.2.1,aP.2.2.2.2.2.2.2.2.2.2.1,aP.2.2.2.2.2.2.2.2.2.2.2.1,aP.2.2.2.2.2.2.2.2.2.2.2.2.1,aP.2.2.2.2.2.2.2.2.2.2.2.2.2.1,aP.2.2.2.2.2.2.2.2.2.2.2.2.2.2.1,aP.2.2.2.2.2.2.2.2.2.2.2.2.2.2.2.1++([atI aP.2.2.2.2.2.2.2.2.2.2.1 aP.1 0]:List Int),aP.2.2.2.2.2.2.2.2.2.2.2.2.2.2.2.2.1++([qW.1]:List Int),())))) none)
 (cond (or (bnd aP.2.1 (aG aP.2.2.2.2.2.2.2.2.2.2.2.2.2.1)) (not (bEq (iLt aP.2.1 (aG aP.2.2.2.2.2.2.2.2.2.2.2.2.2.1)) true)))
 (cond (cond (iLt aP.2.1 (aG aP.2.2.2.2.2.2.2.2.2.2.2.2.2.1)) (iEq (atI aP.2.2.2.2.2.2.2.2.2.2.2.2.2.1 aP.2.1 0) (atI aP.2.2.2.2.2.2.2.2.2.2.1 aP.1 0)) false)
 (some (.inl (aP.1,bZ .i64 aP.2.1 1,fB.2.1,fB.2.2.1,fB.2.2.2.1,fB.2.2.2.2.1,fB.2.2.2.2.2.1,fB.2.2.2.2.2.2.1,aP.2.2.2.2.2.2.2.2.1,aP.2.2.2.2.2.2.2.2.2.1,aP.2.2.2.2.2.2.2.2.2.2.1,aP.2.2.2.2.2.2.2.2.2.2.2.1,aP.2.2.2.2.2.2.2.2.2.2.2.2.1,aP.2.2.2.2.2.2.2.2.2.2.2.2.2.1,aP.2.2.2.2.2.2.2.2.2.2.2.2.2.2.1,aP.2.2.2.2.2.2.2.2.2.2.2.2.2.2.2.1++([atI aP.2.2.2.2.2.2.2.2.2.2.1 aP.1 0]:List Int),aP.2.2.2.2.2.2.2.2.2.2.2.2.2.2.2.2.1++([qW.1]:List Int),())))
 (some (.inl (aP.1,aP.2.1,fB.2.1,fB.2.2.1,fB.2.2.2.1,fB.2.2.2.2.1,fB.2.2.2.2.2.1,fB.2.2.2.2.2.2.1,aP.2.2.2.2.2.2.2.2.1,aP.2.2.2.2.2.2.2.2.2.1,aP.2.2.2.2.2.2.2.2.2.2.1,aP.2.2.2.2.2.2.2.2.2.2.2.1,aP.2.2.2.2.2.2.2.2.2.2.2.2.1,aP.2.2.2.2.2.2.2.2.2.2.2.2.2.1,aP.2.2.2.2.2.2.2.2.2.2.2.2.2.2.1,aP.2.2.2.2.2.2.2.2.2.2.2.2.2.2.2.1++([atI aP.2.2.2.2.2.2.2.2.2.2.1 aP.1 0]:List Int),aP.2.2.2.2.2.2.2.2.2.2.2.2.2.2.2.2.1++([qW.1]:List Int),())))) none)) none) none) none)
 (cond (or (bnd aP.1 (aG aP.2.2.2.2.2.2.2.2.2.2.1)) (not (bEq (iLt aP.1 (aG aP.2.2.2.2.2.2.2.2.2.2.1)) true)))
 (cond (or (bnd aP.2.1 (aG aP.2.2.2.2.2.2.2.2.2.2.2.2.2.1)) (not (bEq (iLt aP.1 (aG aP.2.2.2.2.2.2.2.2.2.2.1)) true)))
 (cond (cond (iLt aP.1 (aG aP.2.2.2.2.2.2.2.2.2.2.1)) (iLe (atI aP.2.2.2.2.2.2.2.2.2.2.1 aP.1 0) (atI aP.2.2.2.2.2.2.2.2.2.2.2.2.2.1 aP.2.1 0)) false)
 (cond (bnd aP.1 (aG aP.2.2.2.2.2.2.2.2.2.2.1))
 (cond (fits (List.length aP.2.2.2.2.2.2.2.2.2.2.2.2.2.2.2.1+List.length ([atI aP.2.2.2.2.2.2.2.2.2.2.1 aP.1 0]:List Int)) 8)
 (cond (or (bnd aP.1 (aG aP.2.2.2.2.2.2.2.2.2.2.1)) (not (bEq (iLt aP.1 (aG aP.2.2.2.2.2.2.2.2.2.2.1)) true)))
 (cond (cond (iLt aP.1 (aG aP.2.2.2.2.2.2.2.2.2.2.1)) (iEq (atI aP.2.2.2.2.2.2.2.2.2.2.1 aP.1 0) (atI aP.2.2.2.2.2.2.2.2.2.2.1 aP.1 0)) false)
 (cond (or (bnd aP.2.1 (aG aP.2.2.2.2.2.2.2.2.2.2.2.2.2.1)) (not (bEq (iLt aP.2.1 (aG aP.2.2.2.2.2.2.2.2.2.2.2.2.2.1)) true)))
 (cond (cond (iLt aP.2.1 (aG aP.2.2.2.2.2.2.2.2.2.2.2.2.2.1)) (iEq (atI aP.2.2.2.2.2.2.2.2.2.2.2.2.2.1 aP.2.1 0) (atI aP.2.2.2.2.2.2.2.2.2.2.1 aP.1 0)) false)
 (some (.inl (bZ .i64 aP.1 1,bZ .i64 aP.2.1 1,fB.2.1,fB.2.2.1,fB.2.2.2.1,fB.2.2.2.2.1,fB.2.2.2.2.2.1,fB.2.2.2.2.2.2.1,aP.2.2.2.2.2.2.2.2.1,aP.2.2.2.2.2.2.2.2.2.1,aP.2.2.2.2.2.2.2.2.2.2.1,aP.2.2.2.2.2.2.2.2.2.2.2.1,aP.2.2.2.2.2.2.2.2.2.2.2.2.1,aP.2.2.2.2.2.2.2.2.2.2.2.2.2.1,aP.2.2.2.2.2.2.2.2.2.2.2.2.2.2.1,aP.2.2.2.2.2.2.2.2.2.2.2.2.2.2.2.1++([atI aP.2.2.2.2.2.2.2.2.2.2.1 aP.1 0]:List Int),aP.2.2.2.2.2.2.2.2.2.2.2.2.2.2.2.2.1++([qW.1]:List Int),())))
 (some (.inl (bZ .i64 aP.1 1,aP.2.1,fB.2.1,fB.2.2.1,fB.2.2.2.1,fB.2.2.2.2.1,fB.2.2.2.2.2.1,fB.2.2.2.2.2.2.1,aP.2.2.2.2.2.2.2.2.1,aP.2.2.2.2.2.2.2.2.2.1,aP.2.2.2.2.2.2.2.2.2.2.1,aP.2.2.2.2.2.2.2.2.2.2.2.1,aP.2.2.2.2.2.2.2.2.2.2.2.2.1,aP.2.2.2.2.2.2.2.2.2.2.2.2.2.1,aP.2.2.2.2.2.2.2.2.2.2.2.2.2.2.1,aP.2.2.2.2.2.2.2.2.2.2.2.2.2.2.2.1++([atI aP.2.2.2.2.2.2.2.2.2.2.1 aP.1 0]:List Int),aP.2.2.2.2.2.2.2.2.2.2.2.2.2.2.2.2.1++([qW.1]:List Int),())))) none)
 (cond (or (bnd aP.2.1 (aG aP.2.2.2.2.2.2.2.2.2.2.2.2.2.1)) (not (bEq (iLt aP.2.1 (aG aP.2.2.2.2.2.2.2.2.2.2.2.2.2.1)) true)))
 (cond (cond (iLt aP.2.1 (aG aP.2.2.2.2.2.2.2.2.2.2.2.2.2.1)) (iEq (atI aP.2.2.2.2.2.2.2.2.2.2.2.2.2.1 aP.2.1 0) (atI aP.2.2.2.2.2.2.2.2.2.2.1 aP.1 0)) false)
 (some (.inl (aP.1,bZ .i64 aP.2.1 1,fB.2.1,fB.2.2.1,fB.2.2.2.1,fB.2.2.2.2.1,fB.2.2.2.2.2.1,fB.2.2.2.2.2.2.1,aP.2.2.2.2.2.2.2.2.1,aP.2.2.2.2.2.2.2.2.2.1,aP.2.2.2.2.2.2.2.2.2.2.1,aP.2.2.2.2.2.2.2.2.2.2.2.1,aP.2.2.2.2.2.2.2.2.2.2.2.2.1,aP.2.2.2.2.2.2.2.2.2.2.2.2.2.1,aP.2.2.2.2.2.2.2.2.2.2.2.2.2.2.1,aP.2.2.2.2.2.2.2.2.2.2.2.2.2.2.2.1++([atI aP.2.2.2.2.2.2.2.2.2.2.1 aP.1 0]:List Int),aP.2.2.2.2.2.2.2.2.2.2.2.2.2.2.2.2.1++([qW.1]:List Int),())))
 (some (.inl (aP.1,aP.2.1,fB.2.1,fB.2.2.1,fB.2.2.2.1,fB.2.2.2.2.1,fB.2.2.2.2.2.1,fB.2.2.2.2.2.2.1,aP.2.2.2.2.2.2.2.2.1,aP.2.2.2.2.2.2.2.2.2.1,aP.2.2.2.2.2.2.2.2.2.2.1,aP.2.2.2.2.2.2.2.2.2.2.2.1,aP.2.2.2.2.2.2.2.2.2.2.2.2.1,aP.2.2.2.2.2.2.2.2.2.2.2.2.2.1,aP.2.2.2.2.2.2.2.2.2.2.2.2.2.2.1,aP.2.2.2.2.2.2.2.2.2.2.2.2.2.2.2.1++([atI aP.2.2.2.2.2.2.2.2.2.2.1 aP.1 0]:List Int),aP.2.2.2.2.2.2.2.2.2.2.2.2.2.2.2.2.1++([qW.1]:List Int),())))) none)) none) none) none)
 (cond (bnd aP.2.1 (aG aP.2.2.2.2.2.2.2.2.2.2.2.2.2.1))
 (cond (fits (List.length aP.2.2.2.2.2.2.2.2.2.2.2.2.2.2.2.1+List.length ([atI aP.2.2.2.2.2.2.2.2.2.2.2.2.2.1 aP.2.1 0]:List Int)) 8)
 (cond (or (bnd aP.1 (aG aP.2.2.2.2.2.2.2.2.2.2.1)) (not (bEq (iLt aP.1 (aG aP.2.2.2.2.2.2.2.2.2.2.1)) true)))
 (cond (cond (iLt aP.1 (aG aP.2.2.2.2.2.2.2.2.2.2.1)) (iEq (atI aP.2.2.2.2.2.2.2.2.2.2.1 aP.1 0) (atI aP.2.2.2.2.2.2.2.2.2.2.2.2.2.1 aP.2.1 0)) false)
 (cond (or (bnd aP.2.1 (aG aP.2.2.2.2.2.2.2.2.2.2.2.2.2.1)) (not (bEq (iLt aP.2.1 (aG aP.2.2.2.2.2.2.2.2.2.2.2.2.2.1)) true)))
 (cond (cond (iLt aP.2.1 (aG aP.2.2.2.2.2.2.2.2.2.2.2.2.2.1)) (iEq (atI aP.2.2.2.2.2.2.2.2.2.2.2.2.2.1 aP.2.1 0) (atI aP.2.2.2.2.2.2.2.2.2.2.2.2.2.1 aP.2.1 0)) false)
 (some (.inl (bZ .i64 aP.1 1,bZ .i64 aP.2.1 1,fB.2.1,fB.2.2.1,fB.2.2.2.1,fB.2.2.2.2.1,fB.2.2.2.2.2.1,fB.2.2.2.2.2.2.1,aP.2.2.2.2.2.2.2.2.1,aP.2.2.2.2.2.2.2.2.2.1,aP.2.2.2.2.2.2.2.2.2.2.1,aP.2.2.2.2.2.2.2.2.2.2.2.1,aP.2.2.2.2.2.2.2.2.2.2.2.2.1,aP.2.2.2.2.2.2.2.2.2.2.2.2.2.1,aP.2.2.2.2.2.2.2.2.2.2.2.2.2.2.1,aP.2.2.2.2.2.2.2.2.2.2.2.2.2.2.2.1++([atI aP.2.2.2.2.2.2.2.2.2.2.2.2.2.1 aP.2.1 0]:List Int),aP.2.2.2.2.2.2.2.2.2.2.2.2.2.2.2.2.1++([qW.1]:List Int),())))
 (some (.inl (bZ .i64 aP.1 1,aP.2.1,fB.2.1,fB.2.2.1,fB.2.2.2.1,fB.2.2.2.2.1,fB.2.2.2.2.2.1,fB.2.2.2.2.2.2.1,aP.2.2.2.2.2.2.2.2.1,aP.2.2.2.2.2.2.2.2.2.1,aP.2.2.2.2.2.2.2.2.2.2.1,aP.2.2.2.2.2.2.2.2.2.2.2.1,aP.2.2.2.2.2.2.2.2.2.2.2.2.1,aP.2.2.2.2.2.2.2.2.2.2.2.2.2.1,aP.2.2.2.2.2.2.2.2.2.2.2.2.2.2.1,aP.2.2.2.2.2.2.2.2.2.2.2.2.2.2.2.1++([atI aP.2.2.2.2.2.2.2.2.2.2.2.2.2.1 aP.2.1 0]:List Int),aP.2.2.2.2.2.2.2.2.2.2.2.2.2.2.2.2.1++([qW.1]:List Int),())))) none)
 (cond (or (bnd aP.2.1 (aG aP.2.2.2.2.2.2.2.2.2.2.2.2.2.1)) (not (bEq (iLt aP.2.1 (aG aP.2.2.2.2.2.2.2.2.2.2.2.2.2.1)) true)))
 (cond (cond (iLt aP.2.1 (aG aP.2.2.2.2.2.2.2.2.2.2.2.2.2.1)) (iEq (atI aP.2.2.2.2.2.2.2.2.2.2.2.2.2.1 aP.2.1 0) (atI aP.2.2.2.2.2.2.2.2.2.2.2.2.2.1 aP.2.1 0)) false)
 (some (.inl (aP.1,bZ .i64 aP.2.1 1,fB.2.1,fB.2.2.1,fB.2.2.2.1,fB.2.2.2.2.1,fB.2.2.2.2.2.1,fB.2.2.2.2.2.2.1,aP.2.2.2.2.2.2.2.2.1,aP.2.2.2.2.2.2.2.2.2.1,aP.2.2.2.2.2.2.2.2.2.2.1,aP.2.2.2.2.2.2.2.2.2.2.2.1,aP.2.2.2.2.2.2.2.2.2.2.2.2.1,aP.2.2.2.2.2.2.2.2.2.2.2.2.2.1,aP.2.2.2.2.2.2.2.2.2.2.2.2.2.2.1,aP.2.2.2.2.2.2.2.2.2.2.2.2.2.2.2.1++([atI aP.2.2.2.2.2.2.2.2.2.2.2.2.2.1 aP.2.1 0]:List Int),aP.2.2.2.2.2.2.2.2.2.2.2.2.2.2.2.2.1++([qW.1]:List Int),())))
 (some (.inl (aP.1,aP.2.1,fB.2.1,fB.2.2.1,fB.2.2.2.1,fB.2.2.2.2.1,fB.2.2.2.2.2.1,fB.2.2.2.2.2.2.1,aP.2.2.2.2.2.2.2.2.1,aP.2.2.2.2.2.2.2.2.2.1,aP.2.2.2.2.2.2.2.2.2.2.1,aP.2.2.2.2.2.2.2.2.2.2.2.1,aP.2.2.2.2.2.2.2.2.2.2.2.2.1,aP.2.2.2.2.2.2.2.2.2.2.2.2.2.1,aP.2.2.2.2.2.2.2.2.2.2.2.2.2.2.1,aP.2.2.2.2.2.2.2.2.2.2.2.2.2.2.2.1++([atI aP.2.2.2.2.2.2.2.2.2.2.2.2.2.1 aP.2.1 0]:List Int),aP.2.2.2.2.2.2.2.2.2.2.2.2.2.2.2.2.1++([qW.1]:List Int),())))) none)) none) none) none)) none) none)))) none) none) none)
 (0,0,xI.1,xI.2.1,xI.2.2.1,xI.2.2.2.1,xI.2.2.2.2.1,xI.2.2.2.2.2.1,xI.2.2.2.2.2.2.1,xI.2.2.2.2.2.2.2.1,xI.2.2.2.2.2.2.2.2.1,xI.2.2.2.2.2.2.2.2.2.1,xI.2.2.2.2.2.2.2.2.2.2.1,xI.2.2.2.2.2.2.2.2.2.2.2.1,xI.2.2.2.2.2.2.2.2.2.2.2.2.1,([]:List Int),([]:List Int),()))))
def Kc:Sh:=⟨2,[(1,tS3)],[(0,.ptr 0 0 0)],[.box 107 [.d (.list tS1),.d (.list tS1),.d (.int .i64),.mp 1,.row 2,.mp 3],.map 102 tS3 (.int .i64),.row 70 tS1 false,.map 103 .str (.int .i64)]⟩
def JZ:Sh:=⟨1,[(0,(.int .i64))],[],[.box 107 [.d (.list tS1),.d (.list tS1),.d (.int .i64),.mp 1,.row 2,.mp 3],.map 102 tS3 (.int .i64),.row 70 tS1 false,.map 103 .str (.int .i64)]⟩
def Zi(self:(DS3×(List DS1)×(List DS1)×Int×(List DS6)×(List DS1)×(List DS7)×Unit)->Option (Int×(List DS1)×(List DS1)×Int×(List DS6)×(List DS1)×(List DS7)×Unit)):Cfg:=⟨fQ,bQ,[i40,i72,i84,i85],[⟨66,Kc,JZ,self,[]⟩,Kk,QW]⟩
theorem a7v(self:(DS3×(List DS1)×(List DS1)×Int×(List DS6)×(List DS1)×(List DS7)×Unit)->Option (Int×(List DS1)×(List DS1)×Int×(List DS6)×(List DS1)×(List DS7)×Unit))(x:DS3×(List DS1)×(List DS1)×Int×(List DS6)×(List DS1)×(List DS7)×Unit):qd (Zi self) x66 197 [.t 4] [] Kc JZ x=Ig self x.1 x.2.1 x.2.2.1 x.2.2.2.1 x.2.2.2.2.1 x.2.2.2.2.2.1 x.2.2.2.2.2.2.1:=by kernel_rfl
def m66(a0:DS3)(a1:List DS1)(a2:List DS1)(a3:Int)(a4:List DS6)(a5:List DS1)(a6:List DS7):Option (Int×(List DS1)×(List DS1)×Int×(List DS6)×(List DS1)×(List DS7)×Unit):=xL (λself (x:DS3×(List DS1)×(List DS1)×Int×(List DS6)×(List DS1)×(List DS7)×Unit)=>Ig self x.1 x.2.1 x.2.2.1 x.2.2.2.1 x.2.2.2.2.1 x.2.2.2.2.2.1 x.2.2.2.2.2.2.1) (a0,a1,a2,a3,a4,a5,a6,())
def h66:HI:=⟨66,Kc,JZ,fun(x:DS3×(List DS1)×(List DS1)×Int×(List DS6)×(List DS1)×(List DS7)×Unit)=>m66 x.1 x.2.1 x.2.2.1 x.2.2.2.1 x.2.2.2.2.1 x.2.2.2.2.2.1 x.2.2.2.2.2.2.1,[]⟩
theorem a6B:HOk Tryd.prog (gx bQ) h66:=BR (f:=66) (ish:=Kc) (osh:=JZ) (G:=λself (x:DS3×(List DS1)×(List DS1)×Int×(List DS6)×(List DS1)×(List DS7)×Unit)=>Ig self x.1 x.2.1 x.2.2.1 x.2.2.2.1 x.2.2.2.2.1 x.2.2.2.2.2.1 x.2.2.2.2.2.2.1) F66.callable (λrun hr=>hok mixed (dA Gj (dA K5 (dA Yl (dA Yk (kI hr (kI I9 (kI Ob (cu _ _))))))):dG _ (Zi run)) F66 (a7v run))
def PE:XC:=xoF Tryd.f66 (.d 4 (.j [] ⟨197,[],[(0,.ptr 0 0 0),(3,.ptr 3 0 0),(7,.ptr 4 0 0),(8,.ptr 5 0 0)],[.box 107 [.d (.list tS1),.d (.list tS1),.d (.int .i64),.mp 1,.nil,.mp 2],.map 102 tS3 (.int .i64),.map 103 .str (.int .i64),.row 109 tS3 true,.box 70 [.d (.int .i64),.d (.list (.int .i64)),.d (.list (.int .i64))],.box 70 [.d (.int .i64),.d (.list (.int .i64)),.d (.list (.int .i64))]]⟩ .o (.d 2 (.s (.b (.l [.gh 9 3 (.int .i64),.gh 10 3 (.int .i64),.ghc 0 4 70 tS1] ⟨197,[(11,(.int .i64)),(12,(.int .i64))],[(0,.ptr 0 0 0),(3,.ptr 3 0 0),(7,.ptr 4 0 0),(8,.ptr 5 0 0),(9,.row 6),(10,.row 7)],[.box 107 [.d (.list tS1),.d (.list tS1),.d (.int .i64),.mp 1,.row 8,.mp 2],.map 102 tS3 (.int .i64),.map 103 .str (.int .i64),.row 109 tS3 true,.box 70 [.d (.int .i64),.d (.list (.int .i64)),.d (.list (.int .i64))],.box 70 [.d (.int .i64),.d (.list (.int .i64)),.d (.list (.int .i64))],.row 3 (.int .i64) false,.row 3 (.int .i64) false,.row 70 tS1 false]⟩ (.b (.s (.u [0,1,2,8]) .o)))) (.s (.u [0,1,2,6,7,8]) .o)))))
theorem a8z:Fn Tryd.prog 66 197 PE.er [.t 4]:=by unfold PE;exact fnX Tryd.func66 (by kernel_rfl) (by kernel_rfl) (by kernel_rfl) (by kernel_rfl)
def Es(a0:DS3)(a1:List DS1)(a2:List DS1)(a3:Int)(a4:List DS6)(a5:List DS7):Option (Int×(List DS1)×(List DS1)×Int×(List DS6)×(List DS7)×(List DS1)×Unit) :=
 cond (cond (iLt a0.1 0) (iLt a0.2.1 0) false)
 ((m72 a0.1).bind λa8W =>
 (m72 a0.2.1).bind λa8V =>
 (m84 a8W.1 a8V.1 a3).bind λa8U =>
 (m40 a8U.1).bind λa8T =>
 some (a8T.1,a1,a2,a3,a4,a5,([]:List DS1),()))
 (cond (yK (eqT tS3) a0 a4)
 (some (pE (eqT tS3) a0 a4 0,a1,a2,a3,a4,a5,([]:List DS1),()))
 ((m85 a1 a0.1).bind λCa =>
 (m85 a2 a0.2.1).bind λC9 =>
 AA (S:=(List DS1)×(List DS1)×Int×(List DS6)×(List DS7)×(List DS3)×Int×(List Int)×(List Int)×Int×(List Int)×(List Int)×Unit) (R:=Int×(List DS1)×(List DS1)×Int×(List DS6)×(List DS7)×(List DS1)×Unit)
 (cond (iLt Ca.1.1 C9.1.1)
 (some (.inl (a1,a2,a3,a4,a5,([a0]:List DS3),Ca.1.1,Ca.1.2.1,Ca.1.2.2.1,Ca.1.1,([]:List Int),([a0.2.1]:List Int),())))
 (cond (iLt C9.1.1 Ca.1.1)
 (some (.inl (a1,a2,a3,a4,a5,([a0]:List DS3),C9.1.1,([]:List Int),([a0.1]:List Int),C9.1.1,C9.1.2.1,C9.1.2.2.1,())))
 (some (.inl (a1,a2,a3,a4,a5,([a0]:List DS3),Ca.1.1,Ca.1.2.1,Ca.1.2.2.1,C9.1.1,C9.1.2.1,C9.1.2.2.1,())))))
 (λyM =>
 eZ (S:=Int×Int×(List DS1)×(List DS1)×Int×(List DS6)×(List DS7)×(List DS3)×Int×(List Int)×(List Int)×Int×(List Int)×(List Int)×(List Int)×(List Int)×(List DS1)×Unit) (R:=Int×(List DS1)×(List DS1)×Int×(List DS6)×(List DS7)×(List DS1)×Unit) (λaO =>
 cond (bnd aO.1 (aG aO.2.2.2.2.2.2.2.2.2.2.1))
 (cond (bnd aO.2.1 (aG aO.2.2.2.2.2.2.2.2.2.2.2.2.2.1))
 ((m66 (atI aO.2.2.2.2.2.2.2.2.2.2.1 aO.1 0,atI aO.2.2.2.2.2.2.2.2.2.2.2.2.2.1 aO.2.1 0,()) aO.2.2.1 aO.2.2.2.1 aO.2.2.2.2.1 aO.2.2.2.2.2.1 aO.2.2.2.2.2.2.2.2.2.2.2.2.2.2.2.2.1 aO.2.2.2.2.2.2.1).bind λqV =>
 cond (fits (List.length aO.2.2.2.2.2.2.2.2.2.2.2.2.2.2.2.1+List.length ([qV.1]:List Int)) 8)
 ((Az qV.2.1 qV.2.2.1 qV.2.2.2.1 qV.2.2.2.2.1 qV.2.2.2.2.2.1 qV.2.2.2.2.2.2.1).bind λfA =>
 cond fA.1
 ((m40 0).bind λa8S =>
 some (.inr (a8S.1,fA.2.1,fA.2.2.1,fA.2.2.2.1,fA.2.2.2.2.1,fA.2.2.2.2.2.2.1,fA.2.2.2.2.2.1,())))
 (cond (cond (iEq aO.1 (aG aO.2.2.2.2.2.2.2.2.2.1)) (iEq aO.2.1 (aG aO.2.2.2.2.2.2.2.2.2.2.2.2.1)) false)
 (Option.map Sum.inr ((Er aO.2.2.2.2.2.2.2.2.1 fA.2.1 fA.2.2.1 fA.2.2.2.1 aO.2.2.2.2.2.2.2.2.2.2.2.2.2.2.1 (aO.2.2.2.2.2.2.2.2.2.2.2.2.2.2.2.1++([qV.1]:List Int)) fA.2.2.2.2.1 fA.2.2.2.2.2.1 fA.2.2.2.2.2.2.1).bind λBb =>
 cond (and (Nat.beq (List.length aO.2.2.2.2.2.2.2.2.2.2.2.2.2.2.1) (List.length Bb.2.2.2.2.1)) (and (Nat.beq (List.length (aO.2.2.2.2.2.2.2.2.2.2.2.2.2.2.2.1++([qV.1]:List Int))) (List.length Bb.2.2.2.2.2.1)) true))
 (cond (inB 0 aO.2.2.2.2.2.2.2.1)
 (some (Bb.1,Bb.2.1,Bb.2.2.1,Bb.2.2.2.1,qx (eqT tS3) (List.getD aO.2.2.2.2.2.2.2.1 0 (0,0,())) Bb.1 Bb.2.2.2.2.2.2.1,Bb.2.2.2.2.2.2.2.2.1,Bb.2.2.2.2.2.2.2.1,())) none) none))
 (cond (iEq aO.2.1 (aG aO.2.2.2.2.2.2.2.2.2.2.2.2.1))
 (cond (bnd aO.1 (aG aO.2.2.2.2.2.2.2.2.2.1))
 (cond (fits (List.length aO.2.2.2.2.2.2.2.2.2.2.2.2.2.2.1+List.length ([atI aO.2.2.2.2.2.2.2.2.2.1 aO.1 0]:List Int)) 8)
 (cond (or (bnd aO.1 (aG aO.2.2.2.2.2.2.2.2.2.1)) (not (bEq (iLt aO.1 (aG aO.2.2.2.2.2.2.2.2.2.1)) true)))
 (cond (cond (iLt aO.1 (aG aO.2.2.2.2.2.2.2.2.2.1)) (iEq (atI aO.2.2.2.2.2.2.2.2.2.1 aO.1 0) (atI aO.2.2.2.2.2.2.2.2.2.1 aO.1 0)) false)
 (cond (or (bnd aO.2.1 (aG aO.2.2.2.2.2.2.2.2.2.2.2.2.1)) (not (bEq (iLt aO.2.1 (aG aO.2.2.2.2.2.2.2.2.2.2.2.2.1)) true)))
 (cond (cond (iLt aO.2.1 (aG aO.2.2.2.2.2.2.2.2.2.2.2.2.1)) (iEq (atI aO.2.2.2.2.2.2.2.2.2.2.2.2.1 aO.2.1 0) (atI aO.2.2.2.2.2.2.2.2.2.1 aO.1 0)) false)
 (some (.inl (bZ .i64 aO.1 1,bZ .i64 aO.2.1 1,fA.2.1,fA.2.2.1,fA.2.2.2.1,fA.2.2.2.2.1,fA.2.2.2.2.2.2.1,aO.2.2.2.2.2.2.2.1,aO.2.2.2.2.2.2.2.2.1,aO.2.2.2.2.2.2.2.2.2.1,aO.2.2.2.2.2.2.2.2.2.2.1,aO.2.2.2.2.2.2.2.2.2.2.2.1,aO.2.2.2.2.2.2.2.2.2.2.2.2.1,aO.2.2.2.2.2.2.2.2.2.2.2.2.2.1,aO.2.2.2.2.2.2.2.2.2.2.2.2.2.2.1++([atI aO.2.2.2.2.2.2.2.2.2.1 aO.1 0]:List Int),aO.2.2.2.2.2.2.2.2.2.2.2.2.2.2.2.1++([qV.1]:List Int),fA.2.2.2.2.2.1,())))
 (some (.inl (bZ .i64 aO.1 1,aO.2.1,fA.2.1,fA.2.2.1,fA.2.2.2.1,fA.2.2.2.2.1,fA.2.2.2.2.2.2.1,aO.2.2.2.2.2.2.2.1,aO.2.2.2.2.2.2.2.2.1,aO.2.2.2.2.2.2.2.2.2.1,aO.2.2.2.2.2.2.2.2.2.2.1,aO.2.2.2.2.2.2.2.2.2.2.2.1,aO.2.2.2.2.2.2.2.2.2.2.2.2.1,aO.2.2.2.2.2.2.2.2.2.2.2.2.2.1,aO.2.2.2.2.2.2.2.2.2.2.2.2.2.2.1++([atI aO.2.2.2.2.2.2.2.2.2.1 aO.1 0]:List Int),aO.2.2.2.2.2.2.2.2.2.2.2.2.2.2.2.1++([qV.1]:List Int),fA.2.2.2.2.2.1,())))) none)
 (cond (or (bnd aO.2.1 (aG aO.2.2.2.2.2.2.2.2.2.2.2.2.1)) (not (bEq (iLt aO.2.1 (aG aO.2.2.2.2.2.2.2.2.2.2.2.2.1)) true)))
 (cond (cond (iLt aO.2.1 (aG aO.2.2.2.2.2.2.2.2.2.2.2.2.1)) (iEq (atI aO.2.2.2.2.2.2.2.2.2.2.2.2.1 aO.2.1 0) (atI aO.2.2.2.2.2.2.2.2.2.1 aO.1 0)) false)
 (some (.inl (aO.1,bZ .i64 aO.2.1 1,fA.2.1,fA.2.2.1,fA.2.2.2.1,fA.2.2.2.2.1,fA.2.2.2.2.2.2.1,aO.2.2.2.2.2.2.2.1,aO.2.2.2.2.2.2.2.2.1,aO.2.2.2.2.2.2.2.2.2.1,aO.2.2.2.2.2.2.2.2.2.2.1,aO.2.2.2.2.2.2.2.2.2.2.2.1,aO.2.2.2.2.2.2.2.2.2.2.2.2.1,aO.2.2.2.2.2.2.2.2.2.2.2.2.2.1,aO.2.2.2.2.2.2.2.2.2.2.2.2.2.2.1++([atI aO.2.2.2.2.2.2.2.2.2.1 aO.1 0]:List Int),aO.2.2.2.2.2.2.2.2.2.2.2.2.2.2.2.1++([qV.1]:List Int),fA.2.2.2.2.2.1,())))
 (some (.inl (aO.1,aO.2.1,fA.2.1,fA.2.2.1,fA.2.2.2.1,fA.2.2.2.2.1,fA.2.2.2.2.2.2.1,aO.2.2.2.2.2.2.2.1,aO.2.2.2.2.2.2.2.2.1,aO.2.2.2.2.2.2.2.2.2.1,aO.2.2.2.2.2.2.2.2.2.2.1,aO.2.2.2.2.2.2.2.2.2.2.2.1,aO.2.2.2.2.2.2.2.2.2.2.2.2.1,aO.2.2.2.2.2.2.2.2.2.2.2.2.2.1,aO.2.2.2.2.2.2.2.2.2.2.2.2.2.2.1++([atI aO.2.2.2.2.2.2.2.2.2.1 aO.1 0]:List Int),aO.2.2.2.2.2.2.2.2.2.2.2.2.2.2.2.1++([qV.1]:List Int),fA.2.2.2.2.2.1,())))) none)) none) none) none)
 (cond (or (bnd aO.1 (aG aO.2.2.2.2.2.2.2.2.2.1)) (not (bEq (iLt aO.1 (aG aO.2.2.2.2.2.2.2.2.2.1)) true)))
 (cond (or (bnd aO.2.1 (aG aO.2.2.2.2.2.2.2.2.2.2.2.2.1)) (not (bEq (iLt aO.1 (aG aO.2.2.2.2.2.2.2.2.2.1)) true)))
 (cond (cond (iLt aO.1 (aG aO.2.2.2.2.2.2.2.2.2.1)) (iLe (atI aO.2.2.2.2.2.2.2.2.2.1 aO.1 0) (atI aO.2.2.2.2.2.2.2.2.2.2.2.2.1 aO.2.1 0)) false)
 (cond (bnd aO.1 (aG aO.2.2.2.2.2.2.2.2.2.1))
 (cond (fits (List.length aO.2.2.2.2.2.2.2.2.2.2.2.2.2.2.1+List.length ([atI aO.2.2.2.2.2.2.2.2.2.1 aO.1 0]:List Int)) 8)
 (cond (or (bnd aO.1 (aG aO.2.2.2.2.2.2.2.2.2.1)) (not (bEq (iLt aO.1 (aG aO.2.2.2.2.2.2.2.2.2.1)) true)))
 (cond (cond (iLt aO.1 (aG aO.2.2.2.2.2.2.2.2.2.1)) (iEq (atI aO.2.2.2.2.2.2.2.2.2.1 aO.1 0) (atI aO.2.2.2.2.2.2.2.2.2.1 aO.1 0)) false)
 (cond (or (bnd aO.2.1 (aG aO.2.2.2.2.2.2.2.2.2.2.2.2.1)) (not (bEq (iLt aO.2.1 (aG aO.2.2.2.2.2.2.2.2.2.2.2.2.1)) true)))
 (cond (cond (iLt aO.2.1 (aG aO.2.2.2.2.2.2.2.2.2.2.2.2.1)) (iEq (atI aO.2.2.2.2.2.2.2.2.2.2.2.2.1 aO.2.1 0) (atI aO.2.2.2.2.2.2.2.2.2.1 aO.1 0)) false)
 (some (.inl (bZ .i64 aO.1 1,bZ .i64 aO.2.1 1,fA.2.1,fA.2.2.1,fA.2.2.2.1,fA.2.2.2.2.1,fA.2.2.2.2.2.2.1,aO.2.2.2.2.2.2.2.1,aO.2.2.2.2.2.2.2.2.1,aO.2.2.2.2.2.2.2.2.2.1,aO.2.2.2.2.2.2.2.2.2.2.1,aO.2.2.2.2.2.2.2.2.2.2.2.1,aO.2.2.2.2.2.2.2.2.2.2.2.2.1,aO.2.2.2.2.2.2.2.2.2.2.2.2.2.1,aO.2.2.2.2.2.2.2.2.2.2.2.2.2.2.1++([atI aO.2.2.2.2.2.2.2.2.2.1 aO.1 0]:List Int),aO.2.2.2.2.2.2.2.2.2.2.2.2.2.2.2.1++([qV.1]:List Int),fA.2.2.2.2.2.1,())))
 (some (.inl (bZ .i64 aO.1 1,aO.2.1,fA.2.1,fA.2.2.1,fA.2.2.2.1,fA.2.2.2.2.1,fA.2.2.2.2.2.2.1,aO.2.2.2.2.2.2.2.1,aO.2.2.2.2.2.2.2.2.1,aO.2.2.2.2.2.2.2.2.2.1,aO.2.2.2.2.2.2.2.2.2.2.1,aO.2.2.2.2.2.2.2.2.2.2.2.1,aO.2.2.2.2.2.2.2.2.2.2.2.2.1,aO.2.2.2.2.2.2.2.2.2.2.2.2.2.1,aO.2.2.2.2.2.2.2.2.2.2.2.2.2.2.1++([atI aO.2.2.2.2.2.2.2.2.2.1 aO.1 0]:List Int),aO.2.2.2.2.2.2.2.2.2.2.2.2.2.2.2.1++([qV.1]:List Int),fA.2.2.2.2.2.1,())))) none)
 (cond (or (bnd aO.2.1 (aG aO.2.2.2.2.2.2.2.2.2.2.2.2.1)) (not (bEq (iLt aO.2.1 (aG aO.2.2.2.2.2.2.2.2.2.2.2.2.1)) true)))
 (cond (cond (iLt aO.2.1 (aG aO.2.2.2.2.2.2.2.2.2.2.2.2.1)) (iEq (atI aO.2.2.2.2.2.2.2.2.2.2.2.2.1 aO.2.1 0) (atI aO.2.2.2.2.2.2.2.2.2.1 aO.1 0)) false)
 (some (.inl (aO.1,bZ .i64 aO.2.1 1,fA.2.1,fA.2.2.1,fA.2.2.2.1,fA.2.2.2.2.1,fA.2.2.2.2.2.2.1,aO.2.2.2.2.2.2.2.1,aO.2.2.2.2.2.2.2.2.1,aO.2.2.2.2.2.2.2.2.2.1,aO.2.2.2.2.2.2.2.2.2.2.1,aO.2.2.2.2.2.2.2.2.2.2.2.1,aO.2.2.2.2.2.2.2.2.2.2.2.2.1,aO.2.2.2.2.2.2.2.2.2.2.2.2.2.1,aO.2.2.2.2.2.2.2.2.2.2.2.2.2.2.1++([atI aO.2.2.2.2.2.2.2.2.2.1 aO.1 0]:List Int),aO.2.2.2.2.2.2.2.2.2.2.2.2.2.2.2.1++([qV.1]:List Int),fA.2.2.2.2.2.1,())))
 (some (.inl (aO.1,aO.2.1,fA.2.1,fA.2.2.1,fA.2.2.2.1,fA.2.2.2.2.1,fA.2.2.2.2.2.2.1,aO.2.2.2.2.2.2.2.1,aO.2.2.2.2.2.2.2.2.1,aO.2.2.2.2.2.2.2.2.2.1,aO.2.2.2.2.2.2.2.2.2.2.1,aO.2.2.2.2.2.2.2.2.2.2.2.1,aO.2.2.2.2.2.2.2.2.2.2.2.2.1,aO.2.2.2.2.2.2.2.2.2.2.2.2.2.1,aO.2.2.2.2.2.2.2.2.2.2.2.2.2.2.1++([atI aO.2.2.2.2.2.2.2.2.2.1 aO.1 0]:List Int),aO.2.2.2.2.2.2.2.2.2.2.2.2.2.2.2.1++([qV.1]:List Int),fA.2.2.2.2.2.1,())))) none)) none) none) none)
 (cond (bnd aO.2.1 (aG aO.2.2.2.2.2.2.2.2.2.2.2.2.1))
 (cond (fits (List.length aO.2.2.2.2.2.2.2.2.2.2.2.2.2.2.1+List.length ([atI aO.2.2.2.2.2.2.2.2.2.2.2.2.1 aO.2.1 0]:List Int)) 8)
 (cond (or (bnd aO.1 (aG aO.2.2.2.2.2.2.2.2.2.1)) (not (bEq (iLt aO.1 (aG aO.2.2.2.2.2.2.2.2.2.1)) true)))
 (cond (cond (iLt aO.1 (aG aO.2.2.2.2.2.2.2.2.2.1)) (iEq (atI aO.2.2.2.2.2.2.2.2.2.1 aO.1 0) (atI aO.2.2.2.2.2.2.2.2.2.2.2.2.1 aO.2.1 0)) false)
 (cond (or (bnd aO.2.1 (aG aO.2.2.2.2.2.2.2.2.2.2.2.2.1)) (not (bEq (iLt aO.2.1 (aG aO.2.2.2.2.2.2.2.2.2.2.2.2.1)) true)))
 (cond (cond (iLt aO.2.1 (aG aO.2.2.2.2.2.2.2.2.2.2.2.2.1)) (iEq (atI aO.2.2.2.2.2.2.2.2.2.2.2.2.1 aO.2.1 0) (atI aO.2.2.2.2.2.2.2.2.2.2.2.2.1 aO.2.1 0)) false)
 (some (.inl (bZ .i64 aO.1 1,bZ .i64 aO.2.1 1,fA.2.1,fA.2.2.1,fA.2.2.2.1,fA.2.2.2.2.1,fA.2.2.2.2.2.2.1,aO.2.2.2.2.2.2.2.1,aO.2.2.2.2.2.2.2.2.1,aO.2.2.2.2.2.2.2.2.2.1,aO.2.2.2.2.2.2.2.2.2.2.1,aO.2.2.2.2.2.2.2.2.2.2.2.1,aO.2.2.2.2.2.2.2.2.2.2.2.2.1,aO.2.2.2.2.2.2.2.2.2.2.2.2.2.1,aO.2.2.2.2.2.2.2.2.2.2.2.2.2.2.1++([atI aO.2.2.2.2.2.2.2.2.2.2.2.2.1 aO.2.1 0]:List Int),aO.2.2.2.2.2.2.2.2.2.2.2.2.2.2.2.1++([qV.1]:List Int),fA.2.2.2.2.2.1,())))
 (some (.inl (bZ .i64 aO.1 1,aO.2.1,fA.2.1,fA.2.2.1,fA.2.2.2.1,fA.2.2.2.2.1,fA.2.2.2.2.2.2.1,aO.2.2.2.2.2.2.2.1,aO.2.2.2.2.2.2.2.2.1,aO.2.2.2.2.2.2.2.2.2.1,aO.2.2.2.2.2.2.2.2.2.2.1,aO.2.2.2.2.2.2.2.2.2.2.2.1,aO.2.2.2.2.2.2.2.2.2.2.2.2.1,aO.2.2.2.2.2.2.2.2.2.2.2.2.2.1,aO.2.2.2.2.2.2.2.2.2.2.2.2.2.2.1++([atI aO.2.2.2.2.2.2.2.2.2.2.2.2.1 aO.2.1 0]:List Int),aO.2.2.2.2.2.2.2.2.2.2.2.2.2.2.2.1++([qV.1]:List Int),fA.2.2.2.2.2.1,())))) none)
 (cond (or (bnd aO.2.1 (aG aO.2.2.2.2.2.2.2.2.2.2.2.2.1)) (not (bEq (iLt aO.2.1 (aG aO.2.2.2.2.2.2.2.2.2.2.2.2.1)) true)))
 (cond (cond (iLt aO.2.1 (aG aO.2.2.2.2.2.2.2.2.2.2.2.2.1)) (iEq (atI aO.2.2.2.2.2.2.2.2.2.2.2.2.1 aO.2.1 0) (atI aO.2.2.2.2.2.2.2.2.2.2.2.2.1 aO.2.1 0)) false)
 (some (.inl (aO.1,bZ .i64 aO.2.1 1,fA.2.1,fA.2.2.1,fA.2.2.2.1,fA.2.2.2.2.1,fA.2.2.2.2.2.2.1,aO.2.2.2.2.2.2.2.1,aO.2.2.2.2.2.2.2.2.1,aO.2.2.2.2.2.2.2.2.2.1,aO.2.2.2.2.2.2.2.2.2.2.1,aO.2.2.2.2.2.2.2.2.2.2.2.1,aO.2.2.2.2.2.2.2.2.2.2.2.2.1,aO.2.2.2.2.2.2.2.2.2.2.2.2.2.1,aO.2.2.2.2.2.2.2.2.2.2.2.2.2.2.1++([atI aO.2.2.2.2.2.2.2.2.2.2.2.2.1 aO.2.1 0]:List Int),aO.2.2.2.2.2.2.2.2.2.2.2.2.2.2.2.1++([qV.1]:List Int),fA.2.2.2.2.2.1,())))
 (some (.inl (aO.1,aO.2.1,fA.2.1,fA.2.2.1,fA.2.2.2.1,fA.2.2.2.2.1,fA.2.2.2.2.2.2.1,aO.2.2.2.2.2.2.2.1,aO.2.2.2.2.2.2.2.2.1,aO.2.2.2.2.2.2.2.2.2.1,aO.2.2.2.2.2.2.2.2.2.2.1,aO.2.2.2.2.2.2.2.2.2.2.2.1,aO.2.2.2.2.2.2.2.2.2.2.2.2.1,aO.2.2.2.2.2.2.2.2.2.2.2.2.2.1,aO.2.2.2.2.2.2.2.2.2.2.2.2.2.2.1++([atI aO.2.2.2.2.2.2.2.2.2.2.2.2.1 aO.2.1 0]:List Int),aO.2.2.2.2.2.2.2.2.2.2.2.2.2.2.2.1++([qV.1]:List Int),fA.2.2.2.2.2.1,())))) none)) none) none) none)) none) none)))) none) none) none)
 (0,0,yM.1,yM.2.1,yM.2.2.1,yM.2.2.2.1,yM.2.2.2.2.1,yM.2.2.2.2.2.1,yM.2.2.2.2.2.2.1,yM.2.2.2.2.2.2.2.1,yM.2.2.2.2.2.2.2.2.1,yM.2.2.2.2.2.2.2.2.2.1,yM.2.2.2.2.2.2.2.2.2.2.1,yM.2.2.2.2.2.2.2.2.2.2.2.1,([]:List Int),([]:List Int),([]:List DS1),()))))
def OY:Cfg:=⟨fQ,bQ,[i40,i72,i84,i85],[h66,Kk,QW]⟩
def Ow:Sh:=⟨2,[(1,tS3)],[(0,.ptr 0 0 0)],[.box 107 [.d (.list tS1),.d (.list tS1),.d (.int .i64),.mp 1,.nil,.mp 2],.map 102 tS3 (.int .i64),.map 103 .str (.int .i64)]⟩
def O7:Sh:=⟨1,[(0,(.int .i64))],[],[.box 107 [.d (.list tS1),.d (.list tS1),.d (.int .i64),.mp 1,.row 3,.mp 2],.map 102 tS3 (.int .i64),.map 103 .str (.int .i64),.row 70 tS1 false]⟩
theorem a1K(x:DS3×(List DS1)×(List DS1)×Int×(List DS6)×(List DS7)×Unit):qd OY PE 197 [.t 4] [.ghc 0 4 70 tS1] Ow O7 x=Es x.1 x.2.1 x.2.2.1 x.2.2.2.1 x.2.2.2.2.1 x.2.2.2.2.2.1:=by kernel_rfl
def YK:HI:=⟨66,Ow,O7,fun(x:DS3×(List DS1)×(List DS1)×Int×(List DS6)×(List DS7)×Unit)=>Es x.1 x.2.1 x.2.2.1 x.2.2.2.1 x.2.2.2.2.1 x.2.2.2.2.2.1,[]⟩
theorem a02:HOk Tryd.prog (gx bQ) YK:=hok mixed (dA Gj (dA K5 (dA Yl (dA Yk (kI a6B (kI I9 (kI Ob (cu _ _))))))):dG _ (OY)) a8z (a1K)
def x33:XC:=xoF Tryd.f33 .o
theorem F33:Fn Tryd.prog 33 58 x33.er [.c 8 2 true,.t 9]:=by unfold x33;exact fnX Tryd.func33 (by kernel_rfl) (by kernel_rfl) (by kernel_rfl) (by kernel_rfl)
def m33(a0:DS5)(a1:DS2)(a2:DS2)(a3:Int):Option (DS2×Int×Unit) :=
 (m38 (a0.1,())).bind λa2r =>
 cond (iNe a2r.1 0)
 (some ((([]:List DS1),0,()),a2r.1,()))
 ((m31 (a0.1,()) (a1.1,a1.2.1,())).bind λa9b =>
 cond (not a9b.1)
 (some ((([]:List DS1),0,()),21,()))
 ((m31 (a0.1,()) (a2.1,a2.2.1,())).bind λa9a =>
 cond (not a9a.1)
 (some ((([]:List DS1),0,()),21,()))
 (cond (cond (iLt a3 1) true (iLt 4 a3))
 (some ((([]:List DS1),0,()),11,()))
 ((Es (a1.2.1,a2.2.1,()) a1.1 a2.1 a3 ([]:List DS6) ([]:List DS7)).bind λEX =>
 (Az EX.2.1 EX.2.2.1 EX.2.2.2.1 EX.2.2.2.2.1 EX.2.2.2.2.2.2.1 EX.2.2.2.2.2.1).bind λEW =>
 cond EW.1
 (some ((([]:List DS1),0,()),4,()))
 ((LW EX.1 EW.2.1 EW.2.2.1 EW.2.2.2.1 EW.2.2.2.2.1 EW.2.2.2.2.2.1 EW.2.2.2.2.2.2.1).bind λa2q =>
 some ((a2q.1.1,a2q.1.2.1,()),0,()))))))
def ZG:Cfg:=⟨fQ,bQ,[i31,i38],[YK,Kk,a4F]⟩
theorem a7R(x:DS5×DS2×DS2×Int×Unit):gZ ZG x33 58 [.c 8 2 true,.t 9] [tS5,tS2,tS2,(.int .i64)] [tS2,(.int .i64)] x=m33 x.1 x.2.1 x.2.2.1 x.2.2.2.1:=by kernel_rfl
def i33:PI:=⟨33,[tS5,tS2,tS2,(.int .i64)],[tS2,(.int .i64)],fun(x:DS5×DS2×DS2×Int×Unit)=>m33 x.1 x.2.1 x.2.2.1 x.2.2.2.1⟩
theorem a6p:POk Tryd.prog (gx bQ) i33:=pok mixed (dA K6 (dA Em (kI a02 (kI I9 (kI a3t (cu _ _))))):dG _ (ZG)) F33 (a7R)
def x69:XC:=xoF Tryd.f69 (.d 2 (.s (.d 1 (.b (.l [] ⟨45,[(20,(.list (.int .i64))),(21,(.int .i64)),(22,(.int .i64))],[(2,.ptr 0 0 0)],[.box 24 [.d (.list tS0)]]⟩ .o))) .o))
theorem F69:Fn Tryd.prog 69 45 x69.er [.t 4]:=by unfold x69;exact fnX Tryd.func69 (by kernel_rfl) (by kernel_rfl) (by kernel_rfl) (by kernel_rfl)
def m69(a0:DS5)(a1:List Int):Option (Bool×Unit) :=
 (m38 (a0.1,())).bind λa8R =>
 cond (cond (iNe a8R.1 0) true (iNe (aG a1) (aG a0.1)))
 (some (false,()))
 (eZ (S:=(List Int)×Int×Int×(List DS0)×Unit) (R:=Bool×Unit) (λuG =>
 cond (iLt uG.2.2.1 uG.2.1)
 (cond (bnd uG.2.2.1 (aG uG.1))
 (cond (bnd uG.2.2.1 (aG uG.2.2.2.1))
 ((m76 (atI uG.2.2.2.1 uG.2.2.1 (ByteArray.empty,0,[],0,0,()))).bind λa2p =>
 cond (cond (iLt (atI uG.1 uG.2.2.1 0) a2p.1) true (iLt a2p.2.1 (atI uG.1 uG.2.2.1 0)))
 (some (.inr (false,())))
 (some (.inl (uG.1,uG.2.1,bZ .i64 uG.2.2.1 1,uG.2.2.2.1,())))) none) none)
 (some (.inr (true,()))))
 (a1,aG a1,0,a0.1,()))
def Zh:Cfg:=⟨fQ,bQ,[i38,i76],[]⟩
theorem a7u(x:DS5×(List Int)×Unit):gZ Zh x69 45 [.t 4] [tS5,(.list (.int .i64))] [.bool] x=m69 x.1 x.2.1:=by kernel_rfl
def i69:PI:=⟨69,[tS5,(.list (.int .i64))],[.bool],fun(x:DS5×(List Int)×Unit)=>m69 x.1 x.2.1⟩
theorem a6d:POk Tryd.prog (gx bQ) i69:=pok mixed (dA Em (dA Yo (cu _ _)):dG _ (Zh)) F69 (a7u)
def m35(a0:DS5)(a1:DS2)(a2:List Int):Option (Int×Int×Unit):=Gq (λx=>m38 x) (λx y=>m31 x y) (λx y=>m69 x y) a0 a1 a2
def i35:PI:=⟨35,[tS5,tS2,.list (.int .i64)],[.int .i64,.int .i64],fun(x:DS5×DS2×(List Int)×Unit)=>m35 x.1 x.2.1 x.2.2.1⟩
theorem a6o:POk Tryd.prog (gx bQ) i35:=a3L Em K6 a6d K5
def x56:XC:=xoF Tryd.f56 .o
theorem F56:Fn Tryd.prog 56 14 x56.er [.t 4]:=by unfold x56;exact fnX Tryd.func56 (by kernel_rfl) (by kernel_rfl) (by kernel_rfl) (by kernel_rfl)
def m56(a0:DS2)(a1:Int):Option (Bool×Unit) :=
 cond (iLt a1 0)
 (some (iLe (-256) a1,()))
 (some (iLt a1 (aG a0.1),()))
def Zo:Cfg:=⟨fQ,bQ,[],[]⟩
theorem a7B(x:DS2×Int×Unit):gZ Zo x56 14 [.t 4] [tS2,(.int .i64)] [.bool] x=m56 x.1 x.2.1:=by kernel_rfl
def i56:PI:=⟨56,[tS2,(.int .i64)],[.bool],fun(x:DS2×Int×Unit)=>m56 x.1 x.2.1⟩
theorem Yr:POk Tryd.prog (gx bQ) i56:=pok mixed (cu _ _:dG _ (Zo)) F56 (a7B)
def x57:XC:=xoF Tryd.f57 (.d 3 (.s (.d 1 (.b (.l [] ⟨132,[(7,(.int .i64)),(8,(.int .i64)),(9,(.int .i64))],[(4,.ptr 0 0 0),(5,.ptr 1 0 0)],[.box 28 [.d (.list tS1),.d (.int .i64)],.box 70 [.d (.int .i64),.d (.list (.int .i64)),.d (.list (.int .i64))]]⟩ .o))) (.s (.d 1 (.b (.l [] ⟨132,[(10,(.int .i64))],[(4,.ptr 0 0 0),(5,.ptr 1 0 0)],[.box 28 [.d (.list tS1),.d (.int .i64)],.box 70 [.d (.int .i64),.d (.list (.int .i64)),.d (.list (.int .i64))]]⟩ .o))) .o)))
theorem F57:Fn Tryd.prog 57 132 x57.er [.t 6]:=by unfold x57;exact fnX Tryd.func57 (by kernel_rfl) (by kernel_rfl) (by kernel_rfl) (by kernel_rfl)
def m57(a0:DS5)(a1:DS2)(a2:DS1):Option (Bool×Unit) :=
 cond (cond (cond (cond (iLt a2.1 0) true (iLe (aG a0.1) a2.1)) true (iLt (aG a2.2.1) 1)) true (iNe (gP .i64 (aG a2.2.2.1) 1) (aG a2.2.1)))
 (some (false,()))
 ((m42 (a0.1,()) a2.1).bind λa2o =>
 eZ (S:=Int×Int×Int×(List DS1)×Int×Int×(List Int)×(List Int)×Unit) (R:=Bool×Unit) (λjY =>
 cond (iLt jY.2.2.1 (aG jY.2.2.2.2.2.2.1))
 (cond (bnd jY.2.2.1 (aG jY.2.2.2.2.2.2.1))
 (cond (or (bnd jY.2.2.1 (aG jY.2.2.2.2.2.2.1)) (not (bEq (iLe (atI jY.2.2.2.2.2.2.1 jY.2.2.1 0) jY.1) false)))
 (cond (cond (iLe (atI jY.2.2.2.2.2.2.1 jY.2.2.1 0) jY.1) true (iLt jY.2.1 (atI jY.2.2.2.2.2.2.1 jY.2.2.1 0)))
 (some (.inr (false,())))
 (cond (or (bnd jY.2.2.1 (aG jY.2.2.2.2.2.2.1)) (not (bEq (iLt 0 jY.2.2.1) true)))
 (cond (or (bnd (gP .i64 jY.2.2.1 1) (aG jY.2.2.2.2.2.2.1)) (not (bEq (iLt 0 jY.2.2.1) true)))
 (cond (cond (iLt 0 jY.2.2.1) (iLe (atI jY.2.2.2.2.2.2.1 jY.2.2.1 0) (atI jY.2.2.2.2.2.2.1 (gP .i64 jY.2.2.1 1) 0)) false)
 (some (.inr (false,())))
 (some (.inl (jY.1,jY.2.1,bZ .i64 jY.2.2.1 1,jY.2.2.2.1,jY.2.2.2.2.1,jY.2.2.2.2.2.1,jY.2.2.2.2.2.2.1,jY.2.2.2.2.2.2.2.1,())))) none) none)) none) none)
 (Option.map Sum.inr (eZ (S:=Int×(List DS1)×Int×Int×(List Int)×(List Int)×Unit) (R:=Bool×Unit) (λlD =>
 cond (iLt lD.1 (aG lD.2.2.2.2.2.1))
 (cond (bnd lD.1 (aG lD.2.2.2.2.2.1))
 ((m56 (lD.2.1,lD.2.2.1,()) (atI lD.2.2.2.2.2.1 lD.1 0)).bind λa8Q =>
 cond (not a8Q.1)
 (some (.inr (false,())))
 (cond (or (bnd (gP .i64 lD.1 1) (aG lD.2.2.2.2.2.1)) (not (bEq (iLt 0 lD.1) true)))
 (cond (cond (iLt 0 lD.1) (iEq (atI lD.2.2.2.2.2.1 lD.1 0) (atI lD.2.2.2.2.2.1 (gP .i64 lD.1 1) 0)) false)
 (some (.inr (false,())))
 (cond (or (bnd (atI lD.2.2.2.2.2.1 lD.1 0) (aG lD.2.1)) (not (bEq (iLe 0 (atI lD.2.2.2.2.2.1 lD.1 0)) true)))
 (cond (cond (iLe 0 (atI lD.2.2.2.2.2.1 lD.1 0)) (iLe ((atI lD.2.1 (atI lD.2.2.2.2.2.1 lD.1 0) (0,[],[],())).1) lD.2.2.2.1) false)
 (some (.inr (false,())))
 (some (.inl (bZ .i64 lD.1 1,lD.2.1,lD.2.2.1,lD.2.2.2.1,lD.2.2.2.2.1,lD.2.2.2.2.2.1,())))) none)) none)) none)
 (some (.inr (true,()))))
 (0,jY.2.2.2.1,jY.2.2.2.2.1,jY.2.2.2.2.2.1,jY.2.2.2.2.2.2.1,jY.2.2.2.2.2.2.2.1,()))))
 (a2o.1,a2o.2.1,0,a1.1,a1.2.1,a2.1,a2.2.1,a2.2.2.1,()))
def Zn:Cfg:=⟨fQ,bQ,[i42,i56],[]⟩
theorem a7A(x:DS5×DS2×DS1×Unit):gZ Zn x57 132 [.t 6] [tS5,tS2,tS1] [.bool] x=m57 x.1 x.2.1 x.2.2.1:=by kernel_rfl
def i57:PI:=⟨57,[tS5,tS2,tS1],[.bool],fun(x:DS5×DS2×DS1×Unit)=>m57 x.1 x.2.1 x.2.2.1⟩
theorem a6g:POk Tryd.prog (gx bQ) i57:=pok mixed (dA Gi (dA Yr (cu _ _)):dG _ (Zn)) F57 (a7A)
def PK:XC:=xoF Tryd.f58 (.d 4 (.s (.d 1 (.b (.l [] ⟨64,[(3,(.int .i64)),(9,(.int .i64))],[(0,.ptr 0 0 0),(1,.row 1),(2,.row 2)],[.box 93 [.nil,.nil,.d (.list tS1)],.row 70 tS1 false,.row 3 (.int .i64) false]⟩ .o))) .o))
theorem a0a:Fn Tryd.prog 58 64 PK.er [.t 8]:=by unfold PK;exact fnX Tryd.func58 (by kernel_rfl) (by kernel_rfl) (by kernel_rfl) (by kernel_rfl)
def BM(self:(Int×(List DS1)×(List DS1)×(List Int)×Unit)->Option ((List DS1)×(List DS1)×(List Int)×Unit))(a0:Int)(a1:List DS1)(a2:List DS1)(a3:List Int):Option ((List DS1)×(List DS1)×(List Int)×Unit) :=
 cond (or (bnd a0 (aG a3)) (not (bEq (iLt a0 0) false)))
 (cond (or (inB (Int.toNat a0) a3) (not (bEq (iLt a0 0) false)))
 (cond (cond (iLt a0 0) true (iLe 0 (List.getD a3 (Int.toNat a0) 0)))
 (some (a1,a2,a3,()))
 (cond (bnd a0 (aG a3))
 (cond (inB (Int.toNat a0) a3)
 (cond (bnd a0 (aG a1))
 (cond (fits (List.length a2+List.length ([atI a1 a0 (0,[],[],())]:List DS1)) 56)
 (eZ (S:=Int×Int×(List DS1)×(List DS1)×(List Int)×Unit) (R:=(List DS1)×(List DS1)×(List Int)×Unit) (λqm =>
 cond (bnd qm.1 (aG qm.2.2.1))
 (cond (iLt qm.2.1 (aG ((atI qm.2.2.1 qm.1 (0,[],[],())).2.2.1)))
 (cond (bnd qm.1 (aG qm.2.2.1))
 (cond (bnd qm.2.1 (aG ((atI qm.2.2.1 qm.1 (0,[],[],())).2.2.1)))
 ((self (atI ((atI qm.2.2.1 qm.1 (0,[],[],())).2.2.1) qm.2.1 0,qm.2.2.1,qm.2.2.2.1,qm.2.2.2.2.1,())).bind λPk =>
 cond (and (Nat.beq (List.length qm.2.2.2.2.1) (List.length Pk.2.2.1)) true)
 (some (.inl (qm.1,bZ .i64 qm.2.1 1,Pk.1,Pk.2.1,Pk.2.2.1,()))) none) none) none)
 (some (.inr (qm.2.2.1,qm.2.2.2.1,qm.2.2.2.2.1,())))) none)
 (a0,0,a1,a2++([atI a1 a0 (0,[],[],())]:List DS1),List.set a3 (Int.toNat a0) (aG a2),())) none) none) none) none)) none) none
def Ew:Sh:=⟨4,[(3,(.int .i64))],[(0,.ptr 0 0 0),(1,.row 1),(2,.row 2)],[.box 93 [.nil,.nil,.d (.list tS1)],.row 70 tS1 false,.row 3 (.int .i64) false]⟩
def El:Sh:=⟨1,[],[(0,.row 1)],[.box 93 [.nil,.nil,.d (.list tS1)],.row 70 tS1 false,.row 3 (.int .i64) false]⟩
def P5(self:(Int×(List DS1)×(List DS1)×(List Int)×Unit)->Option ((List DS1)×(List DS1)×(List Int)×Unit)):Cfg:=⟨fQ,bQ,[],[⟨58,Ew,El,self,[2]⟩]⟩
theorem a1M(self:(Int×(List DS1)×(List DS1)×(List Int)×Unit)->Option ((List DS1)×(List DS1)×(List Int)×Unit))(x:Int×(List DS1)×(List DS1)×(List Int)×Unit):qd (P5 self) PK 64 [.t 8] [] Ew El x=BM self x.1 x.2.1 x.2.2.1 x.2.2.2.1:=by kernel_rfl
def K9(a0:Int)(a1:List DS1)(a2:List DS1)(a3:List Int):Option ((List DS1)×(List DS1)×(List Int)×Unit):=xL (λself (x:Int×(List DS1)×(List DS1)×(List Int)×Unit)=>BM self x.1 x.2.1 x.2.2.1 x.2.2.2.1) (a0,a1,a2,a3,())
def YM:HI:=⟨58,Ew,El,fun(x:Int×(List DS1)×(List DS1)×(List Int)×Unit)=>K9 x.1 x.2.1 x.2.2.1 x.2.2.2.1,[2]⟩
theorem a04:HOk Tryd.prog (gx bQ) YM:=BR (f:=58) (ish:=Ew) (osh:=El) (G:=λself (x:Int×(List DS1)×(List DS1)×(List Int)×Unit)=>BM self x.1 x.2.1 x.2.2.1 x.2.2.2.1) a0a.callable (λrun hr=>hok mixed (kI hr (cu _ _):dG _ (P5 run)) a0a (a1M run))
def PG:XC:=xoF Tryd.f58 (.d 4 (.s (.d 1 (.b (.l [] ⟨64,[(3,(.int .i64)),(9,(.int .i64))],[(0,.ptr 0 0 0),(1,.row 2),(2,.row 1)],[.box 93 [.nil,.nil,.d (.list tS1)],.row 3 (.int .i64) false,.row 70 tS1 false]⟩ .o))) .o))
theorem a8A:Fn Tryd.prog 58 64 PG.er [.t 8]:=by unfold PG;exact fnX Tryd.func58 (by kernel_rfl) (by kernel_rfl) (by kernel_rfl) (by kernel_rfl)
def Gs(a0:Int)(a1:List DS1)(a2:List Int):Option ((List DS1)×(List Int)×(List DS1)×Unit) :=
 cond (or (bnd a0 (aG a2)) (not (bEq (iLt a0 0) false)))
 (cond (or (inB (Int.toNat a0) a2) (not (bEq (iLt a0 0) false)))
 (cond (cond (iLt a0 0) true (iLe 0 (List.getD a2 (Int.toNat a0) 0)))
 (some (a1,a2,([]:List DS1),()))
 (cond (bnd a0 (aG a2))
 (cond (inB (Int.toNat a0) a2)
 (cond (bnd a0 (aG a1))
 (cond (fits (List.length ([atI a1 a0 (0,[],[],())]:List DS1)) 56)
 (eZ (S:=Int×Int×(List DS1)×(List Int)×(List DS1)×Unit) (R:=(List DS1)×(List Int)×(List DS1)×Unit) (λql =>
 cond (bnd ql.1 (aG ql.2.2.1))
 (cond (iLt ql.2.1 (aG ((atI ql.2.2.1 ql.1 (0,[],[],())).2.2.1)))
 (cond (bnd ql.1 (aG ql.2.2.1))
 (cond (bnd ql.2.1 (aG ((atI ql.2.2.1 ql.1 (0,[],[],())).2.2.1)))
 ((K9 (atI ((atI ql.2.2.1 ql.1 (0,[],[],())).2.2.1) ql.2.1 0) ql.2.2.1 ql.2.2.2.2.1 ql.2.2.2.1).bind λPj =>
 cond (and (Nat.beq (List.length ql.2.2.2.1) (List.length Pj.2.2.1)) true)
 (some (.inl (ql.1,bZ .i64 ql.2.1 1,Pj.1,Pj.2.2.1,Pj.2.1,()))) none) none) none)
 (some (.inr (ql.2.2.1,ql.2.2.2.1,ql.2.2.2.2.1,())))) none)
 (a0,0,a1,List.set a2 (Int.toNat a0) 0,([atI a1 a0 (0,[],[],())]:List DS1),())) none) none) none) none)) none) none
def OZ:Cfg:=⟨fQ,bQ,[],[YM]⟩
def Ox:Sh:=⟨4,[(3,(.int .i64))],[(0,.ptr 0 0 0),(1,.nil),(2,.row 1)],[.box 93 [.nil,.nil,.d (.list tS1)],.row 3 (.int .i64) false]⟩
def O8:Sh:=⟨1,[],[(0,.row 2)],[.box 93 [.nil,.nil,.d (.list tS1)],.row 3 (.int .i64) false,.row 70 tS1 false]⟩
theorem a1L(x:Int×(List DS1)×(List Int)×Unit):qd OZ PG 64 [.t 8] [.gh 8 70 tS1] Ox O8 x=Gs x.1 x.2.1 x.2.2.1:=by kernel_rfl
def YL:HI:=⟨58,Ox,O8,fun(x:Int×(List DS1)×(List Int)×Unit)=>Gs x.1 x.2.1 x.2.2.1,[1]⟩
theorem a03:HOk Tryd.prog (gx bQ) YL:=hok mixed (kI a04 (cu _ _):dG _ (OZ)) a8A (a1L)
def x30:XC:=xoF Tryd.f30 (.d 2 (.s (.d 1 (.b (.l [] ⟨109,[(5,(.int .i64))],[(2,.ptr 0 0 0),(3,.ptr 1 0 0)],[.box 24 [.d (.list tS0)],.box 28 [.d (.list tS1),.d (.int .i64)]]⟩ (.d 1 (.s (.b (.d 3 (.b (.l [] ⟨109,[(5,(.int .i64)),(7,(.int .i64))],[(2,.ptr 0 0 0),(3,.ptr 1 0 0),(6,.ptr 2 0 0)],[.box 24 [.d (.list tS0)],.box 28 [.d (.list tS1),.d (.int .i64)],.box 70 [.d (.int .i64),.d (.list (.int .i64)),.d (.list (.int .i64))]]⟩ .o)))) .o))))) (.d 2 (.s (.d 1 (.b (.l [] ⟨109,[(11,(.int .i64))],[(3,.ptr 0 0 0),(9,.ptr 1 0 0),(10,.row 2)],[.box 28 [.d (.list tS1),.d (.int .i64)],.box 93 [.nil,.nil,.d (.list tS1)],.row 3 (.int .i64) false]⟩ .o))) (.d 1 (.s (.d 1 (.b (.l [] ⟨109,[(12,(.int .i64))],[(10,.row 0)],[.row 3 (.int .i64) false]⟩ .o))) .o))))))
theorem F30:Fn Tryd.prog 30 109 x30.er [.t 4]:=by unfold x30;exact fnX Tryd.func30 (by kernel_rfl) (by kernel_rfl) (by kernel_rfl) (by kernel_rfl)
def m30(a0:DS5)(a1:DS2):Option (Bool×Unit) :=
 (m41 (a0.1,())).bind λa8P =>
 cond (cond (iNe a8P.1 0) true (iLt 1000 (aG a1.1)))
 (some (false,()))
 ((m56 (a1.1,a1.2.1,()) a1.2.1).bind λa8O =>
 cond (not a8O.1)
 (some (false,()))
 (eZ (S:=Int×(List DS0)×(List DS1)×Int×Unit) (R:=Bool×Unit) (λnG =>
 cond (iLt nG.1 (aG nG.2.2.1))
 (cond (bnd nG.1 (aG nG.2.2.1))
 ((m57 (nG.2.1,()) (nG.2.2.1,nG.2.2.2.1,()) ((atI nG.2.2.1 nG.1 (0,[],[],())).1,(atI nG.2.2.1 nG.1 (0,[],[],())).2.1,(atI nG.2.2.1 nG.1 (0,[],[],())).2.2.1,())).bind λa8N =>
 cond (not a8N.1)
 (some (.inr (false,())))
 (eZ (S:=Int×Int×(List DS0)×(List DS1)×Int×Int×(List Int)×(List Int)×Unit) (R:=(Int×(List DS0)×(List DS1)×Int×Unit)⊕(Bool×Unit)) (λjN =>
 cond (iLt jN.2.1 jN.1)
 (cond (bnd jN.2.1 (aG jN.2.2.2.1))
 (cond (iEq ((atI jN.2.2.2.1 jN.2.1 (0,[],[],())).1) jN.2.2.2.2.2.1)
 ((m23 ((atI jN.2.2.2.1 jN.2.1 (0,[],[],())).2.1) jN.2.2.2.2.2.2.1).bind λa8M =>
 cond a8M.1
 ((m23 ((atI jN.2.2.2.1 jN.2.1 (0,[],[],())).2.2.1) jN.2.2.2.2.2.2.2.1).bind λa8L =>
 cond a8L.1
 (some (.inr (.inr (false,()))))
 (some (.inl (jN.1,bZ .i64 jN.2.1 1,jN.2.2.1,jN.2.2.2.1,jN.2.2.2.2.1,jN.2.2.2.2.2.1,jN.2.2.2.2.2.2.1,jN.2.2.2.2.2.2.2.1,()))))
 (some (.inl (jN.1,bZ .i64 jN.2.1 1,jN.2.2.1,jN.2.2.2.1,jN.2.2.2.2.1,jN.2.2.2.2.2.1,jN.2.2.2.2.2.2.1,jN.2.2.2.2.2.2.2.1,()))))
 (some (.inl (jN.1,bZ .i64 jN.2.1 1,jN.2.2.1,jN.2.2.2.1,jN.2.2.2.2.1,jN.2.2.2.2.2.1,jN.2.2.2.2.2.2.1,jN.2.2.2.2.2.2.2.1,())))) none)
 (some (.inr (.inl (bZ .i64 jN.1 1,jN.2.2.1,jN.2.2.2.1,jN.2.2.2.2.1,())))))
 (nG.1,0,nG.2.1,nG.2.2.1,nG.2.2.2.1,(atI nG.2.2.1 nG.1 (0,[],[],())).1,(atI nG.2.2.1 nG.1 (0,[],[],())).2.1,(atI nG.2.2.1 nG.1 (0,[],[],())).2.2.1,()))) none)
 (Option.map Sum.inr (cond (tu (aG nG.2.2.1) 8)
 (eZ (S:=Int×(List DS1)×Int×(List DS1)×(List Int)×Unit) (R:=Bool×Unit) (λuF =>
 cond (iLt uF.1 (aG uF.2.2.2.2.1))
 (cond (bnd uF.1 (aG uF.2.2.2.2.1))
 (cond (inB (Int.toNat uF.1) uF.2.2.2.2.1)
 (some (.inl (bZ .i64 uF.1 1,uF.2.1,uF.2.2.1,uF.2.2.2.1,List.set uF.2.2.2.2.1 (Int.toNat uF.1) (-1),()))) none) none)
 (Option.map Sum.inr ((Gs uF.2.2.1 uF.2.2.2.1 uF.2.2.2.2.1).bind λa2n =>
 cond (and (Nat.beq (List.length uF.2.2.2.2.1) (List.length a2n.2.1)) true)
 (eZ (S:=Int×(List Int)×Unit) (R:=Bool×Unit) (λzP =>
 cond (iLt zP.1 (aG zP.2.1))
 (cond (bnd zP.1 (aG zP.2.1))
 (cond (inB (Int.toNat zP.1) zP.2.1)
 (cond (iNe (List.getD zP.2.1 (Int.toNat zP.1) 0) zP.1)
 (some (.inr (false,())))
 (some (.inl (bZ .i64 zP.1 1,zP.2.1,())))) none) none)
 (some (.inr (true,()))))
 (0,a2n.2.1,())) none)))
 (0,nG.2.2.1,nG.2.2.2.1,nG.2.2.1,(List.replicate (Int.toNat (aG nG.2.2.1)) 0:List Int),())) none)))
 (0,a0.1,a1.1,a1.2.1,())))
def ZI:Cfg:=⟨fQ,bQ,[i23,i41,i56,i57],[YL]⟩
theorem a7T(x:DS5×DS2×Unit):gZ ZI x30 109 [.t 4] [tS5,tS2] [.bool] x=m30 x.1 x.2.1:=by kernel_rfl
def i30:PI:=⟨30,[tS5,tS2],[.bool],fun(x:DS5×DS2×Unit)=>m30 x.1 x.2.1⟩
theorem a6q:POk Tryd.prog (gx bQ) i30:=pok mixed (dA Yu (dA Qv (dA Yr (dA a6g (kI a03 (cu _ _))))):dG _ (ZI)) F30 (a7T)
def x36:XC:=xoF Tryd.f36 (.d 2 (.s (.d 1 (.b (.l [] ⟨45,[(1,(.list (.int .i64))),(5,(.int .i64))],[(2,.ptr 0 0 0)],[.box 24 [.d (.list tS0)]]⟩ .o))) .o))
theorem F36:Fn Tryd.prog 36 45 x36.er [.t 4]:=by unfold x36;exact fnX Tryd.func36 (by kernel_rfl) (by kernel_rfl) (by kernel_rfl) (by kernel_rfl)
def m36(a0:DS5)(a1:List Int):Option (Bool×Unit) :=
 (m41 (a0.1,())).bind λa8K =>
 cond (cond (iNe a8K.1 0) true (iNe (aG a1) (aG a0.1)))
 (some (false,()))
 (eZ (S:=(List Int)×Int×(List DS0)×Unit) (R:=Bool×Unit) (λtL =>
 cond (iLt tL.2.1 (aG tL.1))
 ((m42 (tL.2.2.1,()) tL.2.1).bind λUu =>
 cond (bnd tL.2.1 (aG tL.1))
 (cond (or (bnd tL.2.1 (aG tL.1)) (not (bEq (iLt (atI tL.1 tL.2.1 0) Uu.1) false)))
 (cond (cond (iLt (atI tL.1 tL.2.1 0) Uu.1) true (iLt Uu.2.1 (atI tL.1 tL.2.1 0)))
 (some (.inr (false,())))
 (some (.inl (tL.1,bZ .i64 tL.2.1 1,tL.2.2.1,())))) none) none)
 (some (.inr (true,()))))
 (a1,0,a0.1,()))
def ZF:Cfg:=⟨fQ,bQ,[i41,i42],[]⟩
theorem a7Q(x:DS5×(List Int)×Unit):gZ ZF x36 45 [.t 4] [tS5,(.list (.int .i64))] [.bool] x=m36 x.1 x.2.1:=by kernel_rfl
def i36:PI:=⟨36,[tS5,(.list (.int .i64))],[.bool],fun(x:DS5×(List Int)×Unit)=>m36 x.1 x.2.1⟩
theorem a6n:POk Tryd.prog (gx bQ) i36:=pok mixed (dA Qv (dA Gi (cu _ _)):dG _ (ZF)) F36 (a7Q)
def x25:XC:=xoF Tryd.f25 (.d 2 (.s (.b (.l [] ⟨44,[(1,(.list (.int .i64))),(5,(.int .i64))],[(2,.ptr 0 0 0)],[.box 28 [.d (.list tS1),.d (.int .i64)]]⟩ (.d 1 (.b (.d 2 (.s (.b (.l [] ⟨44,[(1,(.list (.int .i64))),(7,(.int .i64))],[(2,.ptr 0 0 0),(6,.ptr 1 0 0)],[.box 28 [.d (.list tS1),.d (.int .i64)],.box 70 [.d (.int .i64),.d (.list (.int .i64)),.d (.list (.int .i64))]]⟩ .o)) .o)))))) .o))
theorem F25:Fn Tryd.prog 25 44 x25.er [.t 4]:=by unfold x25;exact fnX Tryd.func25 (by kernel_rfl) (by kernel_rfl) (by kernel_rfl) (by kernel_rfl)
def m25(a0:DS2)(a1:List Int):Option (Int×Unit) :=
 eZ (S:=(List Int)×Int×(List DS1)×Int×Unit) (R:=Int×Unit) (λxw =>
 cond (iLe 0 xw.2.1)
 (cond (bnd xw.2.1 (aG xw.2.2.1))
 (eZ (S:=(List Int)×Int×(List DS1)×Int×Int×(List Int)×(List Int)×Unit) (R:=((List Int)×Int×(List DS1)×Int×Unit)⊕(Int×Unit)) (λnE =>
 cond (or (bnd nE.2.2.2.2.1 (aG nE.1)) (not (bEq (iLt nE.2.1 (aG nE.2.2.2.2.2.1)) true)))
 (cond (or (bnd nE.2.1 (aG nE.2.2.2.2.2.1)) (not (bEq (iLt nE.2.1 (aG nE.2.2.2.2.2.1)) true)))
 (cond (cond (iLt nE.2.1 (aG nE.2.2.2.2.2.1)) (iLe (atI nE.2.2.2.2.2.1 nE.2.1 0) (atI nE.1 nE.2.2.2.2.1 0)) false)
 (some (.inl (nE.1,bZ .i64 nE.2.1 1,nE.2.2.1,nE.2.2.2.1,nE.2.2.2.2.1,nE.2.2.2.2.2.1,nE.2.2.2.2.2.2.1,())))
 (Option.map Sum.inr (cond (bnd nE.2.1 (aG nE.2.2.2.2.2.2.1))
 (some (.inl (nE.1,atI nE.2.2.2.2.2.2.1 nE.2.1 0,nE.2.2.1,nE.2.2.2.1,()))) none))) none) none)
 (xw.1,0,xw.2.2.1,xw.2.2.2.1,(atI xw.2.2.1 xw.2.1 (0,[],[],())).1,(atI xw.2.2.1 xw.2.1 (0,[],[],())).2.1,(atI xw.2.2.1 xw.2.1 (0,[],[],())).2.2.1,())) none)
 (some (.inr (gP .i64 (-1) xw.2.1,()))))
 (a1,a0.2.1,a0.1,a0.2.1,())
def ZK:Cfg:=⟨fQ,bQ,[],[]⟩
theorem a7V(x:DS2×(List Int)×Unit):gZ ZK x25 44 [.t 4] [tS2,(.list (.int .i64))] [(.int .i64)] x=m25 x.1 x.2.1:=by kernel_rfl
def i25:PI:=⟨25,[tS2,(.list (.int .i64))],[(.int .i64)],fun(x:DS2×(List Int)×Unit)=>m25 x.1 x.2.1⟩
theorem a6s:POk Tryd.prog (gx bQ) i25:=pok mixed (cu _ _:dG _ (ZK)) F25 (a7V)
def x37:XC:=xoF Tryd.f37 .o
theorem F37:Fn Tryd.prog 37 27 x37.er [.t 6]:=by unfold x37;exact fnX Tryd.func37 (by kernel_rfl) (by kernel_rfl) (by kernel_rfl) (by kernel_rfl)
def m37(a0:Int)(a1:Int)(a2:Int):Option (Int×Unit) :=
 cond (iEq a2 1)
 (some (qZ a0 a1,()))
 (cond (iEq a2 2)
 (some (vI a0 a1,()))
 (cond (iEq a2 3)
 (cond (iEq a0 a1)
 (some (0,()))
 (some (1,())))
 (cond (iEq a0 0)
 (some (a1,()))
 (some (a0,())))))
def ZE:Cfg:=⟨fQ,bQ,[],[]⟩
theorem a7P(x:Int×Int×Int×Unit):gZ ZE x37 27 [.t 6] [(.int .i64),(.int .i64),(.int .i64)] [(.int .i64)] x=m37 x.1 x.2.1 x.2.2.1:=by kernel_rfl
def i37:PI:=⟨37,[(.int .i64),(.int .i64),(.int .i64)],[(.int .i64)],fun(x:Int×Int×Int×Unit)=>m37 x.1 x.2.1 x.2.2.1⟩
theorem a6m:POk Tryd.prog (gx bQ) i37:=pok mixed (cu _ _:dG _ (ZE)) F37 (a7P)
def x10:XC:=xoF Tryd.f10 (.d 4 (.s (.u [2]) (.d 9 (.j [] ⟨140,[(3,(.int .i64)),(20,(.int .i64)),(21,(.int .i64)),(22,(.int .i64)),(23,(.int .i64)),(24,(.int .i64)),(25,(.int .i64)),(27,(.int .i64)),(28,(.int .i64))],[(15,.ptr 0 0 0),(19,.row 1)],[.box 28 [.d (.list tS1),.d (.int .i64)],.row 3 (.int .i64) false]⟩ .o .o))))
theorem F10:Fn Tryd.prog 10 140 x10.er [.t 12]:=by unfold x10;exact fnX Tryd.func10 (by kernel_rfl) (by kernel_rfl) (by kernel_rfl) (by kernel_rfl)
def m10(a0:Int)(a1:List Int)(a2:List Int)(a3:Int)(a4:DS2)(a5:List Int):Option (Bool×Unit) :=
 cond (cond (iLt 60 (aG a4.1)) true (iLt 50 (aG a5)))
 ((m11).bind λa8J =>
 some (a8J.1,()))
 ((m15 a0).bind λBa =>
 (m19 a1).bind λa2m =>
 (m18 (Ba.1.1,()) 4 a2m.1 a2m.2.1).bind λyF =>
 (m18 (Ba.1.1,()) 4 yF.2.2.1 yF.2.2.2.1).bind λPh =>
 (m16 a3 4).bind λPg =>
 (m33 (Ba.1.1,()) (yF.1,yF.2.1,()) (Ph.1,Ph.2.1,()) (bZ .i64 1 Pg.1)).bind λPf =>
 (m19 a2).bind λa2l =>
 (m24 (Ba.1.1,()) a2l.1 a2l.2.1).bind λHq =>
 (m35 (Ba.1.1,()) (yF.1,yF.2.1,()) Hq.2.2.1).bind λHo =>
 (m35 (Ba.1.1,()) (Ph.1,Ph.2.1,()) Hq.2.2.1).bind λHl =>
 (m35 (Ba.1.1,()) (Pf.1.1,Pf.1.2.1,()) Hq.2.2.1).bind λHg =>
 cond (iNe Pf.2.1 0)
 (cond (iEq Pf.2.1 4)
 ((m11).bind λa8I =>
 some (a8I.1,()))
 (some (false,())))
 ((m35 (Ba.1.1,()) (a4.1,a4.2.1,()) a5).bind λUt =>
 AA (S:=Int×Int×Int×Int×Int×Int×Int×Int×Int×(List DS1)×Int×(List Int)×Unit) (R:=Bool×Unit)
 ((m30 (Ba.1.1,()) (a4.1,a4.2.1,())).bind λa8H =>
 cond (not a8H.1)
 (some (.inl (bZ .i64 1 Pg.1,Ho.1,Ho.2.1,Hl.1,Hl.2.1,Hg.1,Hg.2.1,Ut.2.1,21,yF.1,yF.2.1,Hq.2.2.1,())))
 ((m36 (Ba.1.1,()) a5).bind λa8G =>
 cond (not a8G.1)
 (some (.inl (bZ .i64 1 Pg.1,Ho.1,Ho.2.1,Hl.1,Hl.2.1,Hg.1,Hg.2.1,Ut.2.1,16,yF.1,yF.2.1,Hq.2.2.1,())))
 (some (.inl (bZ .i64 1 Pg.1,Ho.1,Ho.2.1,Hl.1,Hl.2.1,Hg.1,Hg.2.1,Ut.2.1,0,yF.1,yF.2.1,Hq.2.2.1,())))))
 (λxH =>
 cond (cond (cond (iEq xH.2.2.1 0) (iEq xH.2.2.2.2.1 0) false) (iEq xH.2.2.2.2.2.2.1 0) false)
 ((m25 (xH.2.2.2.2.2.2.2.2.2.1,xH.2.2.2.2.2.2.2.2.2.2.1,()) xH.2.2.2.2.2.2.2.2.2.2.2.1).bind λa8F =>
 cond (iEq xH.2.1 a8F.1)
 ((m37 xH.2.1 xH.2.2.2.1 xH.1).bind λa8E =>
 cond (cond (iEq xH.2.2.2.2.2.1 a8E.1) (iEq xH.2.2.2.2.2.2.2.1 xH.2.2.2.2.2.2.2.2.1) false)
 ((m11).bind λa8D =>
 some (a8D.1,()))
 (some (false,())))
 (some (false,())))
 (some (false,())))))
def ZW:Cfg:=⟨fQ,bQ,[i11,i15,i16,i25,i30,i33,i35,i36,i37],[h18,h19,h24]⟩
theorem a8g(x:Int×(List Int)×(List Int)×Int×DS2×(List Int)×Unit):gZ ZW x10 140 [.t 12] [(.int .i64),(.list (.int .i64)),(.list (.int .i64)),(.int .i64),tS2,(.list (.int .i64))] [.bool] x=m10 x.1 x.2.1 x.2.2.1 x.2.2.2.1 x.2.2.2.2.1 x.2.2.2.2.2.1:=by kernel_rfl
def i10:PI:=⟨10,[(.int .i64),(.list (.int .i64)),(.list (.int .i64)),(.int .i64),tS2,(.list (.int .i64))],[.bool],fun(x:Int×(List Int)×(List Int)×Int×DS2×(List Int)×Unit)=>m10 x.1 x.2.1 x.2.2.1 x.2.2.2.1 x.2.2.2.2.1 x.2.2.2.2.2.1⟩
theorem a6y:POk Tryd.prog (gx bQ) i10:=pok mixed (dA a6x (dA a6v (dA Yv (dA a6s (dA a6q (dA a6p (dA a6o (dA a6n (dA a6m (kI a6E (kI a6D (kI Yy (cu _ _)))))))))))):dG _ (ZW)) F10 (a8g)
end
end Abs
end Go.Proofs.YtgfnhpadmifiiaaDoor
