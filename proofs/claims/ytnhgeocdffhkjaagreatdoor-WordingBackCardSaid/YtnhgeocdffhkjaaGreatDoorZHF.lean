/- Merged and trimmed by a program: ModelsA. -/
import Derived.Test.YtnhgeocdffhkjaaGreatDoorZHE
import Derived.Test.YtnhgeocdffhkjaaGreatDoorProg
import Derived.KernelRfl
set_option linter.unusedVariables false
set_option linter.unusedSimpArgs false
set_option linter.defProp false
namespace Go.Proofs.YtnhgeocdffhkjaaGreatDoor
namespace Abs
noncomputable section
set_option maxRecDepth 100000
theorem mixed:Tryz.prog.follows .mixedOrders=true:=by kernel_rfl
abbrev tS0:Ty:=.tup [(.int .i64),.str,(.list .str),(.int .i64),(.int .i64),(.rl 34 6)]
abbrev DS0:Type:=Int×ByteArray×(List ByteArray)×Int×Int×(List AV)×Unit
def ou(x:List DS0):List AV:=MS tS0 x
def aQ(x:AV):DS0:=Km tS0 x
def qy(x:AV):Bool:=okD tS0 x
abbrev tS1:Ty:=.tup [(.int .i64),.str,tS0,(.rl 63 8),(.int .i64)]
abbrev DS1:Type:=Int×ByteArray×DS0×(List AV)×Int×Unit
def zS1:DS1:=(0,ByteArray.empty,(0,ByteArray.empty,[],0,0,[],()),[],0,())
abbrev tS2:Ty:=.tup [(.int .i64),(.int .i64)]
abbrev DS2:Type:=Int×Int×Unit
abbrev tS3:Ty:=.tup [tS2,(.list .str),(.list tS1)]
abbrev DS3:Type:=DS2×(List ByteArray)×(List DS1)×Unit
def zS3:DS3:=((0,0,()),[],[],())
abbrev tS4:Ty:=.tup [(.list tS1),(.list tS3)]
abbrev DS4:Type:=(List DS1)×(List DS3)×Unit
abbrev tS5:Ty:=.tup [.str,(.int .i64),(.list .str),(.int .i64),(.int .i64)]
abbrev DS5:Type:=ByteArray×Int×(List ByteArray)×Int×Int×Unit
def zS5:DS5:=(ByteArray.empty,0,[],0,0,())
abbrev tS6:Ty:=.tup [(.list tS5)]
abbrev DS6:Type:=(List DS5)×Unit
abbrev tS7:Ty:=.tup [.str,tS0,(.rl 63 8)]
abbrev DS7:Type:=ByteArray×DS0×(List AV)×Unit
def nA(x:List DS7):List AV:=MS tS7 x
def aM(x:AV):DS7:=Km tS7 x
def lN(x:AV):Bool:=okD tS7 x
abbrev tS8:Ty:=.tup [.str,.bool,(.int .i64),(.int .i64),(.int .i64)]
abbrev DS8:Type:=ByteArray×Bool×Int×Int×Int×Unit
abbrev tS9:Ty:=.tup [tS8,tS8,tS8,tS8,tS8,tS8,tS8,tS8,tS8]
abbrev DS9:Type:=DS8×DS8×DS8×DS8×DS8×DS8×DS8×DS8×DS8×Unit
abbrev bR:Ty:=.tup [(.int .i64),.str,(.int .i64),(.int .i64)]
abbrev ay:Type:=Int×ByteArray×Int×Int×Unit
def iU:ay:=(0,ByteArray.empty,0,0,())
abbrev pG:Ty:=.tup [tS0,(.int .i64),(.int .i64)]
abbrev cK:Type:=DS0×Int×Int×Unit
def sH:cK:=((0,ByteArray.empty,[],0,0,[],()),0,0,())
abbrev a9s:Ty:=.tup [(.int .i64),(.int .i64),(.int .i64)]
abbrev QO:Type:=Int×Int×Int×Unit
abbrev b9n:Ty:=.tup [(.int .i64),(.int .i64),(.int .i64),(.int .i64),(.int .i64),(.int .i64),(.int .i64),(.int .i64),(.int .i64),(.int .i64),(.int .i64),(.int .i64)]
abbrev c1n:Type:=Int×Int×Int×Int×Int×Int×Int×Int×Int×Int×Int×Int×Unit
abbrev b9m:Ty:=.tup [(.int .u64),(.int .u64),(.int .u64),(.int .u64),(.int .u64),(.int .u64),(.int .u64),(.int .u64),(.int .u64),(.int .u64),(.int .u64),(.int .u64),(.int .u64),(.int .u64),(.int .u64),(.int .u64),(.int .u64),(.int .u64),(.int .u64),(.int .u64)]
abbrev c1m:Type:=Int×Int×Int×Int×Int×Int×Int×Int×Int×Int×Int×Int×Int×Int×Int×Int×Int×Int×Int×Int×Unit
def opsL:List DS8:=[((bs []),false,0,0,0,()),((bs [116,114,117,101]),false,0,0,0,()),((bs [102,97,108,115,101]),false,0,0,0,()),((bs []),true,0,0,0,()),((bs [105,110]),true,0,0,0,()),((bs [102,114,111,109]),true,0,0,0,()),((bs [110,111,116]),false,1,1,3,()),((bs [97,110,100]),false,2,300,2,()),((bs [111,114]),false,2,300,1,())]
instance (n:Nat):OfNat Opd n:=⟨.t n⟩
@[reducible] def qI (d:Nat) (i:I):Ins:=⟨some d,none,i⟩
@[reducible] def qF (d g:Nat) (i:I):Ins:=⟨some d,some (g,false),i⟩
@[reducible] def qN (i:I):Ins:=⟨none,none,i⟩
@[reducible] def kN:Opd:=.k (.slice none 0 0)
@[reducible] def kI (n:Int):Opd:=.k (.int .i64 n)
def TJ:Nat->Option Ty:=λn=>if Nat.beq n 3=true then some (.int .i64) else if Nat.beq n 4=true then some .bool else if Nat.beq n 5=true then some (.int .u8) else if Nat.beq n 9=true then some .str else if Nat.beq n 34=true then some tS0 else if Nat.beq n 37=true then some tS1 else if Nat.beq n 55=true then some tS3 else if Nat.beq n 63=true then some tS7 else if Nat.beq n 97=true then some bR else if Nat.beq n 106=true then some tS5 else if Nat.beq n 212=true then some pG else none
def fA:GXT:=λn=>if Nat.beq n 0=true then some ⟨tS9,(show DS9 from(((bs []),false,0,0,0,()),((bs [116,114,117,101]),false,0,0,0,()),((bs [102,97,108,115,101]),false,0,0,0,()),((bs []),true,0,0,0,()),((bs [105,110]),true,0,0,0,()),((bs [102,114,111,109]),true,0,0,0,()),((bs [110,111,116]),false,1,1,3,()),((bs [97,110,100]),false,2,300,2,()),((bs [111,114]),false,2,300,1,()),()))⟩ else if Nat.beq n 1=true then some ⟨b9n,(show c1n from(31,28,31,30,31,30,31,31,30,31,30,31,()))⟩ else if Nat.beq n 2=true then some ⟨b9m,(show c1m from(1,10,100,1000,10000,100000,1000000,10000000,100000000,1000000000,10000000000,100000000000,1000000000000,10000000000000,100000000000000,1000000000000000,10000000000000000,100000000000000000,1000000000000000000,10000000000000000000,()))⟩ else none
def hcl:List Nat:=[13,14,22,24,37,38,39,40,41,42,47,48,49,66,67,69,70,71,75,81,82,83,84,85,87,88,90,94,108,111,112,123,124,125,126,127,128,129,130,131,132,133,145,151,160,161,162,163,164,175,191,200,201,202,203,204,205,206,215,216,217,218,219,225,234,235,236,237,238,241]
def xoF(f:Func)(a:AT):XC:=xo Tryz.prog hcl f a
def rvF(f:Func):List RV:=(sj Tryz.prog f.results.toList).getD []
def okF(i:Nat)(f:Func):Bool:=(f.body.bind (cC Tryz.prog hcl)).isSome&&(sj Tryz.prog f.results.toList).isSome&&callable Tryz.prog i
theorem fnY{i:Nat}{f:Func}{a:AT}(h1:Tryz.prog.funcs[i]?=some f)(h:okF i f=true):Fn Tryz.prog i f.ntmps (xoF f a).er (rvF f):=by
  unfold okF at h
  simp only[aB]at h
  obtain⟨⟨h2,h3⟩,h4⟩:=h
  refine⟨f,hcl,h1,b4c h2,?_,rfl,h4⟩
  unfold rvF
  cases q:sj Tryz.prog f.results.toList with
  |none=>rw[q]at h3;cases h3
  |some r=>rfl
abbrev PK(p:PI):Prop:=POk Tryz.prog (gx fA) p
abbrev HK(p:HI):Prop:=HOk Tryz.prog (gx fA) p
abbrev CK(pis:List PI)(his:List HI):Prop:=pF Tryz.prog ⟨TJ,fA,pis,his⟩
theorem c0:CK [] []:=a7b _ _
theorem cP{p:PI}{pis:List PI}{his:List HI}(h:PK p)(hc:CK pis his):CK (p::pis) his:=b6J h hc
theorem cH{p:HI}{pis:List PI}{his:List HI}(h:HK p)(hc:CK pis his):CK pis (p::his):=b6K h hc
section
variable{i:Nat}{ps rs:List Ty}{f:Func}{pis:List PI}{his:List HI}{ish osh:Sh}{kp:List Nat}
theorem pk{run:Ty.bO ps->Option (Ty.bO rs)}(a:AT)(hf:Tryz.prog.funcs[i]?=some f)(hc:CK pis his)(h:okF i f=true)(he:∀x,a8N ⟨TJ,fA,pis,his⟩ (xoF f a) f.ntmps (rvF f) ps rs x=run x):PK ⟨i,ps,rs,run⟩:=pok mixed hc (fnY hf h) he
theorem hk{run:Ty.bO ish.tys->Option (Ty.bO osh.tys)}(a:AT)(pre:List Pre)(hf:Tryz.prog.funcs[i]?=some f)(hc:CK pis his)(h:okF i f=true)(he:∀x,a3F ⟨TJ,fA,pis,his⟩ (xoF f a) f.ntmps (rvF f) pre ish osh x=run x):HK ⟨i,ish,osh,run,kp⟩:=hok mixed hc (fnY hf h) he
theorem hkz{run:Ty.bO ish.tys->Option (Ty.bO osh.tys)}(a:AT)(pre:List Pre)(T:Ty)(hf:Tryz.prog.funcs[i]?=some f)(hc:CK pis his)(h:okF i f=true)(he:∀x,VX ⟨TJ,fA,pis,his⟩ (xoF f a) f.ntmps (rvF f) pre T ish osh x=run x):HK ⟨i,ish,osh,run,kp⟩:=c0s mixed hc (fnY hf h) he
theorem mK{i:Nat}{f:Func}(h:okF i f=true):callable Tryz.prog i=true:=by
  unfold okF at h
  simp only[aB]at h
  exact h.2
end
def uJ(a0:Int)(a1:ByteArray)(a2:List ay)(a3:Int)(a4:List AV):Option (Bool×(List ay)×Int×(List AV)×Unit) :=
 cond (or (bnd a3 (aA a2)) (not (bEq (iEq a3 (aA a2)) false)))
 (cond (or (bnd a3 (aA a2)) (not (bEq (cond (iEq a3 (aA a2)) true (iNe ((atI a2 a3 iU).1) a0)) false)))
 (cond (cond (cond (iEq a3 (aA a2)) true (iNe ((atI a2 a3 iU).1) a0)) true (not (sEq ((atI a2 a3 iU).2.1) a1)))
 (some (false,a2,a3,a4,()))
 (some (true,a2,aR .i64 a3 1,a4,()))) none) none
def b2e:Sh:=⟨3,[(1,(.int .i64)),(2,.str)],[(0,.ptr 0 0 0)],[.box 210 [.d (.list bR),.d (.int .i64),.raw]]⟩
def a92:Sh:=⟨1,[(0,.bool)],[],[.box 210 [.d (.list bR),.d (.int .i64),.raw]]⟩
def c0H:HI:=⟨206,b2e,a92,fun(x:Int×ByteArray×(List ay)×Int×(List AV)×Unit)=>uJ x.1 x.2.1 x.2.2.1 x.2.2.2.1 x.2.2.2.2.1,[]⟩
theorem Io:HK c0H:=hk .o [] Tryz.func206 c0 (by kernel_rfl) λx=>by kernel_rfl
def m80(a0:Int):Option (Bool×Unit) :=
 some (cond (iLe 97 a0) (iLe a0 122) false,())
def i80:PI:=⟨80,[(.int .u8)],[.bool],fun(x:Int×Unit)=>m80 x.1⟩
theorem Mk:PK i80:=pk .o Tryz.func80 c0 (by kernel_rfl) λx=>by kernel_rfl
def zR(a0:Int):Option (Bool×Unit) :=
 some (cond (iLe 48 a0) (iLe a0 57) false,())
def c0d:PI:=⟨118,[(.int .u8)],[.bool],fun(x:Int×Unit)=>zR x.1⟩
theorem Il:PK c0d:=pk .o Tryz.func118 c0 (by kernel_rfl) λx=>by kernel_rfl
def Pt(a0:Int):Option (Bool×Unit) :=
 (m80 a0).bind λy5 =>
 cond y5.1
 (some (true,()))
 ((zR a0).bind λy6 =>
 some (cond y6.1 true (iEq a0 45),()))
def i117:PI:=⟨117,[(.int .u8)],[.bool],fun(x:Int×Unit)=>Pt x.1⟩
theorem b0Y:PK i117:=pk .o Tryz.func117 (cP Il (cP Mk c0)) (by kernel_rfl) λx=>by kernel_rfl
def m77(a0:ByteArray)(a1:Int)(a2:Unit):Option (Int×Unit) :=
 bK (S:=ByteArray×Int×Unit×Unit) (R:=Int×Unit) (λs8 =>
 cond (or (bnd s8.2.1 (sLen s8.1)) (not (bEq (iLt s8.2.1 (sLen s8.1)) true)))
 (cond (iLt s8.2.1 (sLen s8.1))
 ((Pt (sAt s8.1 s8.2.1)).bind λy9 =>
 cond y9.1
 (some (.inl (s8.1,aR .i64 s8.2.1 1,s8.2.2.1,())))
 (some (.inr (s8.2.1,()))))
 (some (.inr (s8.2.1,())))) none)
 (a0,a1,(),())
def i77:PI:=⟨77,[.str,(.int .i64),(.fnc 117)],[(.int .i64)],fun(x:ByteArray×Int×Unit×Unit)=>m77 x.1 x.2.1 x.2.2.1⟩
theorem a4c:PK i77:=pk (.d 1 (.s (.b (.l [] ⟨21,[(0,.str),(1,(.int .i64)),(2,(.fnc 117))],[],[]⟩ .o)) .o)) Tryz.func77 (cP b0Y c0) (by kernel_rfl) λx=>by kernel_rfl
def m95(a0:ByteArray):Option (Bool×Unit) :=
 cond (or (bnd 0 (sLen a0)) (not (bEq (cond (iEq (sLen a0) 0) true (iLt 16 (sLen a0))) false)))
 (cond (cond (iEq (sLen a0) 0) true (iLt 16 (sLen a0)))
 (cond (or (bnd (dQ .i64 (sLen a0) 1) (sLen a0)) (not (bEq true false)))
 (some (false,())) none)
 ((m80 (sAt a0 0)).bind λy3 =>
 cond (or (bnd (dQ .i64 (sLen a0) 1) (sLen a0)) (not (bEq (not y3.1) false)))
 (cond (cond (not y3.1) true (iEq (sAt a0 (dQ .i64 (sLen a0) 1)) 45))
 (some (false,()))
 ((m77 a0 0 ()).bind λy10 =>
 some (iEq y10.1 (sLen a0),()))) none)) none
def i95:PI:=⟨95,[.str],[.bool],fun(x:ByteArray×Unit)=>m95 x.1⟩
theorem U8:PK i95:=pk .o Tryz.func95 (cP a4c (cP Mk c0)) (by kernel_rfl) λx=>by kernel_rfl
def m96(a0:ByteArray):Option (Bool×Unit) :=
 cond (sEq a0 (bs [97,110,100]))
 (some (true,()))
 (cond (sEq a0 (bs [97,118,101,114,97,103,101]))
 (some (true,()))
 (cond (sEq a0 (bs [99,111,105,110,115,117,114,97,110,99,101]))
 (some (true,()))
 (cond (sEq a0 (bs [99,111,110,100,105,116,105,111,110]))
 (some (true,()))
 (cond (sEq a0 (bs [99,111,118,101,114]))
 (some (true,()))
 (cond (sEq a0 (bs [100,101,100,117,99,116,105,98,108,101]))
 (some (true,()))
 (cond (sEq a0 (bs [100,101,102,105,110,101]))
 (some (true,()))
 (cond (sEq a0 (bs [101,110,100]))
 (some (true,()))
 (cond (sEq a0 (bs [101,110,100,111,114,115,101]))
 (some (true,()))
 (cond (sEq a0 (bs [101,120,99,108,117,100,101]))
 (some (true,()))
 (cond (sEq a0 (bs [102,97,108,115,101]))
 (some (true,()))
 (cond (sEq a0 (bs [102,114,97,110,99,104,105,115,101]))
 (some (true,()))
 (cond (sEq a0 (bs [102,114,111,109]))
 (some (true,()))
 (cond (sEq a0 (bs [105,110]))
 (some (true,()))
 (cond (sEq a0 (bs [108,105,109,105,116]))
 (some (true,()))
 (cond (sEq a0 (bs [110,111,116]))
 (some (true,()))
 (cond (sEq a0 (bs [111,114]))
 (some (true,()))
 (cond (sEq a0 (bs [114,101,109,111,118,101]))
 (some (true,()))
 (cond (sEq a0 (bs [115,117,98,108,105,109,105,116]))
 (some (true,()))
 (cond (sEq a0 (bs [116,111]))
 (some (true,()))
 (cond (sEq a0 (bs [116,114,117,101]))
 (some (true,()))
 (cond (sEq a0 (bs [117,110,108,101,115,115]))
 (some (true,()))
 (cond (sEq a0 (bs [119,104,101,110]))
 (some (true,()))
 (some (false,()))))))))))))))))))))))))
def i96:PI:=⟨96,[.str],[.bool],fun(x:ByteArray×Unit)=>m96 x.1⟩
theorem b46:PK i96:=pk .o Tryz.func96 c0 (by kernel_rfl) λx=>by kernel_rfl
def m54(a0:ByteArray):Option (Bool×Unit) :=
 (m95 a0).bind λy11 =>
 cond y11.1
 ((m96 a0).bind λy12 =>
 some (not y12.1,()))
 (some (false,()))
def i54:PI:=⟨54,[.str],[.bool],fun(x:ByteArray×Unit)=>m54 x.1⟩
theorem Cu:PK i54:=pk .o Tryz.func54 (cP U8 (cP b46 c0)) (by kernel_rfl) λx=>by kernel_rfl
def P7(a0:List ay)(a1:Int)(a2:List AV):Option (Bool×(List ay)×Int×(List AV)×Unit) :=
 cond (or (bnd a1 (aA a0)) (not (bEq (iLt a1 (aA a0)) true)))
 (cond (or (bnd a1 (aA a0)) (not (bEq (cond (iLt a1 (aA a0)) (iEq ((atI a0 a1 iU).1) 1) false) true)))
 (cond (cond (iLt a1 (aA a0)) (iEq ((atI a0 a1 iU).1) 1) false)
 ((m54 ((atI a0 a1 iU).2.1)).bind λy14 =>
 some (y14.1,a0,a1,a2,()))
 (some (false,a0,a1,a2,()))) none) none
def b2d:Sh:=⟨1,[],[(0,.ptr 0 0 0)],[.box 210 [.d (.list bR),.d (.int .i64),.raw]]⟩
def a90:Sh:=⟨1,[(0,.bool)],[],[.box 210 [.d (.list bR),.d (.int .i64),.raw]]⟩
def c0G:HI:=⟨217,b2d,a90,fun(x:(List ay)×Int×(List AV)×Unit)=>P7 x.1 x.2.1 x.2.2.1,[]⟩
theorem Yg:HK c0G:=hk .o [] Tryz.func217 (cP Cu c0) (by kernel_rfl) λx=>by kernel_rfl
def m97(a0:List ByteArray)(a1:ByteArray):Option (Int×Unit) :=
 bK (S:=(List ByteArray)×ByteArray×Int×Int×Unit) (R:=Int×Unit) (λs21 =>
 cond (iLt s21.2.2.2.1 s21.2.2.1)
 (cond (bnd s21.2.2.2.1 (aA s21.1))
 (cond (sEq s21.2.1 (atI s21.1 s21.2.2.2.1 ByteArray.empty))
 (some (.inr (s21.2.2.2.1,())))
 (some (.inl (s21.1,s21.2.1,s21.2.2.1,aR .i64 s21.2.2.2.1 1,())))) none)
 (some (.inr ((-1),()))))
 (a0,a1,aA a0,0,())
def i97:PI:=⟨97,[(.list .str),.str],[(.int .i64)],fun(x:(List ByteArray)×ByteArray×Unit)=>m97 x.1 x.2.1⟩
theorem b44:PK i97:=pk (.d 1 (.s (.d 1 (.b (.l [] ⟨19,[(0,(.list .str)),(1,.str),(7,(.int .i64)),(8,(.int .i64))],[],[]⟩ .o))) .o)) Tryz.func97 c0 (by kernel_rfl) λx=>by kernel_rfl
def m55(a0:List ByteArray)(a1:ByteArray):Option (Bool×Unit) :=
 (m97 a0 a1).bind λy22 =>
 some (iLe 0 y22.1,())
def i55:PI:=⟨55,[(.list .str),.str],[.bool],fun(x:(List ByteArray)×ByteArray×Unit)=>m55 x.1 x.2.1⟩
theorem Mq:PK i55:=pk .o Tryz.func55 (cP b44 c0) (by kernel_rfl) λx=>by kernel_rfl
def Us(a0:List ay)(a1:Int)(a2:List AV):Option (Int×(List ay)×Int×(List AV)×(List ByteArray)×Unit) :=
 (uJ 4 (bs [40]) a0 a1 a2).bind λy26 =>
 cond (not y26.1)
 (some (5,y26.2.1,y26.2.2.1,y26.2.2.2.1,([]:List ByteArray),()))
 (bK (S:=(List ay)×Int×(List AV)×(List ByteArray)×Unit) (R:=Int×(List ay)×Int×(List AV)×(List ByteArray)×Unit) (λs27 =>
 (P7 s27.1 s27.2.1 s27.2.2.1).bind λy28 =>
 cond (not y28.1)
 (some (.inr (5,y28.2.1,y28.2.2.1,y28.2.2.2.1,([]:List ByteArray),())))
 (cond (bnd y28.2.2.1 (aA y28.2.1))
 (cond (iEq (aA s27.2.2.2.1) 12)
 (some (.inr (4,y28.2.1,y28.2.2.1,y28.2.2.2.1,([]:List ByteArray),())))
 ((m55 s27.2.2.2.1 ((atI y28.2.1 y28.2.2.1 iU).2.1)).bind λy29 =>
 cond y29.1
 (some (.inr (8,y28.2.1,y28.2.2.1,y28.2.2.2.1,([]:List ByteArray),())))
 (cond (fits (List.length s27.2.2.2.1+List.length ([(atI y28.2.1 y28.2.2.1 iU).2.1]:List ByteArray)) 16)
 ((uJ 4 (bs [44]) y28.2.1 (aR .i64 y28.2.2.1 1) y28.2.2.2.1).bind λy30 =>
 cond y30.1
 (some (.inl (y30.2.1,y30.2.2.1,y30.2.2.2.1,s27.2.2.2.1++([(atI y28.2.1 y28.2.2.1 iU).2.1]:List ByteArray),())))
 ((uJ 4 (bs [41]) y30.2.1 y30.2.2.1 y30.2.2.2.1).bind λy31 =>
 cond y31.1
 (some (.inr (0,y31.2.1,y31.2.2.1,y31.2.2.2.1,s27.2.2.2.1++([(atI y28.2.1 y28.2.2.1 iU).2.1]:List ByteArray),())))
 (some (.inr (5,y31.2.1,y31.2.2.1,y31.2.2.2.1,([]:List ByteArray),()))))) none))) none))
 (y26.2.1,y26.2.2.1,y26.2.2.2.1,([]:List ByteArray),()))
def b2c:Sh:=⟨1,[],[(0,.ptr 0 0 0)],[.box 210 [.d (.list bR),.d (.int .i64),.raw]]⟩
def a9Z:Sh:=⟨2,[(1,(.int .i64))],[(0,.row 1)],[.box 210 [.d (.list bR),.d (.int .i64),.raw],.row 9 .str false]⟩
def c0F:HI:=⟨218,b2c,a9Z,fun(x:(List ay)×Int×(List AV)×Unit)=>Us x.1 x.2.1 x.2.2.1,[]⟩
theorem b1b:HK c0F:=hk (.d 3 (.b (.l [.gh 4 9 .str] ⟨45,[],[(0,.ptr 0 0 0),(4,.row 1)],[.box 210 [.d (.list bR),.d (.int .i64),.raw],.row 9 .str false]⟩ .o))) [.gh 2 9 .str] Tryz.func218 (cP Mq (cH Io (cH Yg c0))) (by kernel_rfl) λx=>by kernel_rfl
def Bb(a0:Int):Option (Bool×Unit) :=
 some (cond (iLe (-1000000000) a0) (iLe a0 1000000000) false,())
def b9I:PI:=⟨186,[(.int .i64)],[.bool],fun(x:Int×Unit)=>Bb x.1⟩
theorem Y5:PK b9I:=pk .o Tryz.func186 c0 (by kernel_rfl) λx=>by kernel_rfl
def P6(a0:Int)(a1:List ay)(a2:Int)(a3:List AV):Option (Int×Int×(List ay)×Int×(List AV)×Unit) :=
 cond (or (bnd a2 (aA a1)) (not (bEq (iEq a2 (aA a1)) false)))
 (cond (cond (iEq a2 (aA a1)) true (iNe ((atI a1 a2 iU).1) 2))
 (some (0,5,a1,a2,a3,()))
 (cond (bnd a2 (aA a1))
 ((Bb ((atI a1 a2 iU).2.2.1)).bind λy35 =>
 cond (cond (not y35.1) true (iLt ((atI a1 a2 iU).2.2.1) a0))
 (some (0,1,a1,a2,a3,()))
 (some ((atI a1 a2 iU).2.2.1,0,a1,aR .i64 a2 1,a3,()))) none)) none
def b2a:Sh:=⟨2,[(1,(.int .i64))],[(0,.ptr 0 0 0)],[.box 210 [.d (.list bR),.d (.int .i64),.raw]]⟩
def a9X:Sh:=⟨2,[(0,(.int .i64)),(1,(.int .i64))],[],[.box 210 [.d (.list bR),.d (.int .i64),.raw]]⟩
def c0D:HI:=⟨225,b2a,a9X,fun(x:Int×(List ay)×Int×(List AV)×Unit)=>P6 x.1 x.2.1 x.2.2.1 x.2.2.2.1,[]⟩
theorem b09:HK c0D:=hk .o [] Tryz.func225 (cP Y5 c0) (by kernel_rfl) λx=>by kernel_rfl
def Ur(a0:List ay)(a1:Int)(a2:List AV):Option (Int×Int×Int×(List ay)×Int×(List AV)×Unit) :=
 (P6 (-1000000000) a0 a1 a2).bind λy39 =>
 cond (iNe y39.2.1 0)
 (some (0,0,y39.2.1,y39.2.2.1,y39.2.2.2.1,y39.2.2.2.2.1,()))
 ((uJ 1 (bs [116,111]) y39.2.2.1 y39.2.2.2.1 y39.2.2.2.2.1).bind λy40 =>
 cond (not y40.1)
 (some (0,0,5,y40.2.1,y40.2.2.1,y40.2.2.2.1,()))
 ((P6 y39.1 y40.2.1 y40.2.2.1 y40.2.2.2.1).bind λy41 =>
 some (y39.1,y41.1,y41.2.1,y41.2.2.1,y41.2.2.2.1,y41.2.2.2.2.1,())))
def b2b:Sh:=⟨1,[],[(0,.ptr 0 0 0)],[.box 210 [.d (.list bR),.d (.int .i64),.raw]]⟩
def a9Y:Sh:=⟨3,[(0,(.int .i64)),(1,(.int .i64)),(2,(.int .i64))],[],[.box 210 [.d (.list bR),.d (.int .i64),.raw]]⟩
def c0E:HI:=⟨219,b2b,a9Y,fun(x:(List ay)×Int×(List AV)×Unit)=>Ur x.1 x.2.1 x.2.2.1,[]⟩
theorem b1a:HK c0E:=hk .o [] Tryz.func219 (cH Io (cH b09 c0)) (by kernel_rfl) λx=>by kernel_rfl
def JM(a0:List ay)(a1:Int)(a2:List AV):Option (Int×Int×ByteArray×(List ByteArray)×Int×Int×(List AV)×Int×Int×(List ay)×Int×(List AV)×Unit) :=
 cond (bnd 1 ((9:Nat):Int))
 ((uJ 1 ((atI opsL 1 (ByteArray.empty,false,0,0,0,())).1) a0 a1 a2).bind λy43 =>
 cond y43.1
 (some (0,1,(bs []),([]:List ByteArray),0,0,([]:List AV),1,1,y43.2.1,y43.2.2.1,y43.2.2.2.1,()))
 (cond (bnd 2 ((9:Nat):Int))
 ((uJ 1 ((atI opsL 2 (ByteArray.empty,false,0,0,0,())).1) y43.2.1 y43.2.2.1 y43.2.2.2.1).bind λy44 =>
 cond y44.1
 (some (0,2,(bs []),([]:List ByteArray),0,0,([]:List AV),1,1,y44.2.1,y44.2.2.1,y44.2.2.2.1,()))
 ((P7 y44.2.1 y44.2.2.1 y44.2.2.2.1).bind λy45 =>
 cond (not y45.1)
 (some (5,0,(bs []),([]:List ByteArray),0,0,([]:List AV),0,0,y45.2.1,y45.2.2.1,y45.2.2.2.1,()))
 (cond (bnd y45.2.2.1 (aA y45.2.1))
 (cond (bnd 4 ((9:Nat):Int))
 ((uJ 1 ((atI opsL 4 (ByteArray.empty,false,0,0,0,())).1) y45.2.1 (aR .i64 y45.2.2.1 1) y45.2.2.2.1).bind λy46 =>
 cond y46.1
 ((Us y46.2.1 y46.2.2.1 y46.2.2.2.1).bind λy47 =>
 some (y47.1,4,(atI y45.2.1 y45.2.2.1 iU).2.1,y47.2.2.2.2.1,0,0,([]:List AV),1,1,y47.2.1,y47.2.2.1,y47.2.2.2.1,()))
 (cond (bnd 5 ((9:Nat):Int))
 ((uJ 1 ((atI opsL 5 (ByteArray.empty,false,0,0,0,())).1) y46.2.1 y46.2.2.1 y46.2.2.2.1).bind λy48 =>
 cond y48.1
 ((Ur y48.2.1 y48.2.2.1 y48.2.2.2.1).bind λy49 =>
 some (y49.2.2.1,5,(atI y45.2.1 y45.2.2.1 iU).2.1,([]:List ByteArray),y49.1,y49.2.1,([]:List AV),1,1,y49.2.2.2.1,y49.2.2.2.2.1,y49.2.2.2.2.2.1,()))
 (some (0,3,(atI y45.2.1 y45.2.2.1 iU).2.1,([]:List ByteArray),0,0,([]:List AV),1,1,y48.2.1,y48.2.2.1,y48.2.2.2.1,()))) none)) none) none))) none)) none
def b2f:Sh:=⟨1,[],[(0,.ptr 0 0 0)],[.box 210 [.d (.list bR),.d (.int .i64),.raw]]⟩
def a94:Sh:=⟨2,[(1,(.int .i64))],[(0,.agg [.d (.int .i64),.d .str,.d (.list .str),.d (.int .i64),.d (.int .i64),.d (.rl 34 6),.d (.int .i64),.d (.int .i64)])],[.box 210 [.d (.list bR),.d (.int .i64),.raw]]⟩
def c0I:HI:=⟨202,b2f,a94,fun(x:(List ay)×Int×(List AV)×Unit)=>JM x.1 x.2.1 x.2.2.1,[]⟩
theorem b1c:HK c0I:=hk .o [.fzc 2 2 (.list .str),.fzc 2 5 (.rl 34 6)] Tryz.func202 (cH Io (cH Yg (cH b1b (cH b1a c0)))) (by kernel_rfl) λx=>by kernel_rfl
def m64(a0:Int):Option (ByteArray×Unit) :=
 cond (iEq a0 1)
 (some ((bs [100,101,102,105,110,101]),()))
 (cond (iEq a0 2)
 (some ((bs [99,111,118,101,114]),()))
 (cond (iEq a0 3)
 (some ((bs [101,120,99,108,117,100,101]),()))
 (cond (iEq a0 4)
 (some ((bs [99,111,110,100,105,116,105,111,110]),()))
 (cond (iEq a0 5)
 (some ((bs [108,105,109,105,116]),()))
 (cond (iEq a0 6)
 (some ((bs [100,101,100,117,99,116,105,98,108,101]),()))
 (cond (iEq a0 7)
 (some ((bs [102,114,97,110,99,104,105,115,101]),()))
 (cond (iEq a0 8)
 (some ((bs [99,111,105,110,115,117,114,97,110,99,101]),()))
 (cond (iEq a0 9)
 (some ((bs [97,118,101,114,97,103,101]),()))
 (cond (iEq a0 10)
 (some ((bs [115,117,98,108,105,109,105,116]),()))
 (some ((bs []),())))))))))))
def i64:PI:=⟨64,[(.int .i64)],[.str],fun(x:Int×Unit)=>m64 x.1⟩
theorem Ua:PK i64:=pk .o Tryz.func64 c0 (by kernel_rfl) λx=>by kernel_rfl
def El(a0:List ay)(a1:Int):Option (Int×ByteArray×Int×Int×(List ay)×Int×Unit) :=
 cond (iLt a1 (aA a0))
 (cond (bnd a1 (aA a0))
 (some ((atI a0 a1 iU).1,(atI a0 a1 iU).2.1,(atI a0 a1 iU).2.2.1,(atI a0 a1 iU).2.2.2.1,a0,a1,())) none)
 (some (0,(bs []),0,0,a0,a1,()))
def b2r:Sh:=⟨1,[],[(0,.ptr 0 0 0)],[.box 99 [.d (.list bR),.d (.int .i64)]]⟩
def b0g:Sh:=⟨1,[],[(0,.agg [.d (.int .i64),.d .str,.d (.int .i64),.d (.int .i64)])],[.box 99 [.d (.list bR),.d (.int .i64)]]⟩
def c0X:HI:=⟨125,b2r,b0g,fun(x:(List ay)×Int×Unit)=>El x.1 x.2.1,[]⟩
theorem Ir:HK c0X:=hk .o [] Tryz.func125 c0 (by kernel_rfl) λx=>by kernel_rfl
def m82(a0:Int)(a1:ByteArray)(a2:List ay)(a3:Int):Option (Bool×(List ay)×Int×Unit) :=
 (El a2 a3).bind λy54 =>
 some (cond (iEq y54.1 a0) (sEq y54.2.1 a1) false,y54.2.2.2.2.1,y54.2.2.2.2.2.1,())
def b5X:Sh:=⟨3,[(1,(.int .i64)),(2,.str)],[(0,.ptr 0 0 0)],[.box 99 [.d (.list bR),.d (.int .i64)]]⟩
def b4G:Sh:=⟨1,[(0,.bool)],[],[.box 99 [.d (.list bR),.d (.int .i64)]]⟩
def h82:HI:=⟨82,b5X,b4G,fun(x:Int×ByteArray×(List ay)×Int×Unit)=>m82 x.1 x.2.1 x.2.2.1 x.2.2.2.1,[]⟩
theorem Mr:HK h82:=hk .o [] Tryz.func82 (cH Ir c0) (by kernel_rfl) λx=>by kernel_rfl
def Bg(a0:List ay)(a1:Int):Option (Int×(List ay)×Int×Unit) :=
 bK (S:=Int×(List ay)×Int×Unit) (R:=Int×(List ay)×Int×Unit) (λs56 =>
 cond (iLe s56.1 10)
 ((m64 s56.1).bind λy57 =>
 (m82 1 y57.1 s56.2.1 s56.2.2.1).bind λy58 =>
 cond y58.1
 (some (.inr (s56.1,y58.2.1,y58.2.2.1,())))
 (some (.inl (aR .i64 s56.1 1,y58.2.1,y58.2.2.1,()))))
 (some (.inr (0,s56.2.1,s56.2.2.1,()))))
 (1,a0,a1,())
def b2u:Sh:=⟨1,[],[(0,.ptr 0 0 0)],[.box 99 [.d (.list bR),.d (.int .i64)]]⟩
def b0i:Sh:=⟨1,[(0,(.int .i64))],[],[.box 99 [.d (.list bR),.d (.int .i64)]]⟩
def c0Z:HI:=⟨123,b2u,b0i,fun(x:(List ay)×Int×Unit)=>Bg x.1 x.2.1,[]⟩
theorem Yk:HK c0Z:=hk (.d 1 (.s (.d 1 (.b (.l [] ⟨13,[(3,(.int .i64))],[(0,.ptr 0 0 0)],[.box 99 [.d (.list bR),.d (.int .i64)]]⟩ .o))) .o)) [] Tryz.func123 (cP Ua (cH Mr c0)) (by kernel_rfl) λx=>by kernel_rfl
def m83(a0:Int)(a1:List ay)(a2:Int):Option ((List ay)×Int×Unit):=none
def b5W:Sh:=⟨2,[(1,(.int .i64))],[(0,.ptr 0 0 0)],[.box 99 [.d (.list bR),.d (.int .i64)]]⟩
def b4F:Sh:=⟨0,[],[],[.box 99 [.d (.list bR),.d (.int .i64)]]⟩
def h83:HI:=⟨83,b5W,b4F,fun(x:Int×(List ay)×Int×Unit)=>m83 x.1 x.2.1 x.2.2.1,[]⟩
theorem xY:HK h83:=⟨by kernel_rfl,λx y h=>by cases h⟩
def zP(a0:List ay)(a1:Int):Option (ByteArray×(List ay)×Int×Unit) :=
 (El a0 a1).bind λy64 =>
 cond (iNe y64.1 1)
 ((m83 5 y64.2.2.2.2.1 y64.2.2.2.2.2.1).bind λy65 =>
 some (y64.2.1,y65.1,y65.2.1,()))
 ((m54 y64.2.1).bind λy66 =>
 cond (not y66.1)
 ((m83 5 y64.2.2.2.2.1 y64.2.2.2.2.2.1).bind λy67 =>
 some (y64.2.1,y67.1,y67.2.1,()))
 (some (y64.2.1,y64.2.2.2.2.1,y64.2.2.2.2.2.1,())))
def b2k:Sh:=⟨1,[],[(0,.ptr 0 0 0)],[.box 99 [.d (.list bR),.d (.int .i64)]]⟩
def a99:Sh:=⟨1,[(0,.str)],[],[.box 99 [.d (.list bR),.d (.int .i64)]]⟩
def c0O:HI:=⟨160,b2k,a99,fun(x:(List ay)×Int×Unit)=>zP x.1 x.2.1,[]⟩
theorem Ip:HK c0O:=hk .o [] Tryz.func160 (cP Cu (cH Ir (cH xY c0))) (by kernel_rfl) λx=>by kernel_rfl
def pR(a0:Int)(a1:ByteArray)(a2:List ay)(a3:Int):Option (Bool×(List ay)×Int×Unit) :=
 (m82 a0 a1 a2 a3).bind λy70 =>
 cond (not y70.1)
 (some (false,y70.2.1,y70.2.2.1,()))
 (some (true,y70.2.1,aR .i64 y70.2.2.1 1,()))
def b2n:Sh:=⟨3,[(1,(.int .i64)),(2,.str)],[(0,.ptr 0 0 0)],[.box 99 [.d (.list bR),.d (.int .i64)]]⟩
def b0c:Sh:=⟨1,[(0,.bool)],[],[.box 99 [.d (.list bR),.d (.int .i64)]]⟩
def c0V:HI:=⟨129,b2n,b0c,fun(x:Int×ByteArray×(List ay)×Int×Unit)=>pR x.1 x.2.1 x.2.2.1 x.2.2.2.1,[]⟩
theorem zM:HK c0V:=hk .o [] Tryz.func129 (cH Mr c0) (by kernel_rfl) λx=>by kernel_rfl
def qz(a0:ByteArray)(a1:List ay)(a2:Int):Option ((List ay)×Int×Unit) :=
 (pR 4 a0 a1 a2).bind λy73 =>
 cond (not y73.1)
 ((m83 5 y73.2.1 y73.2.2.1).bind λy74 =>
 some (y74.1,y74.2.1,()))
 (some (y73.2.1,y73.2.2.1,()))
def b2o:Sh:=⟨2,[(1,.str)],[(0,.ptr 0 0 0)],[.box 99 [.d (.list bR),.d (.int .i64)]]⟩
def b0d:Sh:=⟨0,[],[],[.box 99 [.d (.list bR),.d (.int .i64)]]⟩
def h128:HI:=⟨128,b2o,b0d,fun(x:ByteArray×(List ay)×Int×Unit)=>qz x.1 x.2.1 x.2.2.1,[]⟩
theorem Iq:HK h128:=hk .o [] Tryz.func128 (cH zM (cH xY c0)) (by kernel_rfl) λx=>by kernel_rfl
def m65(a0:Int):Option (Int×Unit) :=
 cond (iEq a0 5)
 (some (1073741824,()))
 (cond (iEq a0 6)
 (some (1073741824,()))
 (cond (iEq a0 7)
 (some (1073741824,()))
 (cond (iEq a0 10)
 (some (1073741824,()))
 (cond (iEq a0 8)
 (some (1000000,()))
 (some (0,()))))))
def i65:PI:=⟨65,[(.int .i64)],[(.int .i64)],fun(x:Int×Unit)=>m65 x.1⟩
theorem Ml:PK i65:=pk .o Tryz.func65 c0 (by kernel_rfl) λx=>by kernel_rfl
def UA(a0:Int)(a1:List ay)(a2:Int):Option (Int×(List ay)×Int×Unit) :=
 (El a1 a2).bind λy81 =>
 cond (iNe y81.1 2)
 ((m83 5 y81.2.2.2.2.1 y81.2.2.2.2.2.1).bind λy82 =>
 cond (cond (iLt y81.2.2.1 1) true (iLt a0 y81.2.2.1))
 ((m83 1 y82.1 y82.2.1).bind λy83 =>
 some (y81.2.2.1,y83.1,aR .i64 y83.2.1 1,()))
 (some (y81.2.2.1,y82.1,aR .i64 y82.2.1 1,())))
 (cond (cond (iLt y81.2.2.1 1) true (iLt a0 y81.2.2.1))
 ((m83 1 y81.2.2.2.2.1 y81.2.2.2.2.2.1).bind λy84 =>
 some (y81.2.2.1,y84.1,aR .i64 y84.2.1 1,()))
 (some (y81.2.2.1,y81.2.2.2.2.1,aR .i64 y81.2.2.2.2.2.1 1,())))
def b2j:Sh:=⟨2,[(1,(.int .i64))],[(0,.ptr 0 0 0)],[.box 99 [.d (.list bR),.d (.int .i64)]]⟩
def a98:Sh:=⟨1,[(0,(.int .i64))],[],[.box 99 [.d (.list bR),.d (.int .i64)]]⟩
def c0N:HI:=⟨161,b2j,a98,fun(x:Int×(List ay)×Int×Unit)=>UA x.1 x.2.1 x.2.2.1,[]⟩
theorem b1g:HK c0N:=hk .o [] Tryz.func161 (cH Ir (cH xY c0)) (by kernel_rfl) λx=>by kernel_rfl
def Pm(a0:ByteArray)(a1:List ay)(a2:Int):Option ((List ay)×Int×Unit) :=
 (pR 1 a0 a1 a2).bind λy88 =>
 cond (not y88.1)
 ((m83 5 y88.2.1 y88.2.2.1).bind λy89 =>
 some (y89.1,y89.2.1,()))
 (some (y88.2.1,y88.2.2.1,()))
def b2p:Sh:=⟨2,[(1,.str)],[(0,.ptr 0 0 0)],[.box 99 [.d (.list bR),.d (.int .i64)]]⟩
def b0e:Sh:=⟨0,[],[],[.box 99 [.d (.list bR),.d (.int .i64)]]⟩
def h127:HI:=⟨127,b2p,b0e,fun(x:ByteArray×(List ay)×Int×Unit)=>Pm x.1 x.2.1 x.2.2.1,[]⟩
theorem Yj:HK h127:=hk .o [] Tryz.func127 (cH zM (cH xY c0)) (by kernel_rfl) λx=>by kernel_rfl
def b1L(a0:cK):Option (Bool×Unit) :=
 some (cond (iLt 300 a0.2.1) true (iLt 16 a0.2.2.1),())
def b9G:PI:=⟨192,[pG],[.bool],fun(x:cK×Unit)=>b1L x.1⟩
theorem Y4:PK b9G:=pk .o Tryz.func192 c0 (by kernel_rfl) λx=>by kernel_rfl
def Gq(a0:Int)(a1:List cK):Option (cK×Unit) :=
 bK (S:=Int×(List cK)×(List cK)×Int×Int×Int×ByteArray×Int×Int×Int×Int×Int×ByteArray×Int×Int×Int×Int×Unit) (R:=cK×Unit) (λs95 =>
 cond (iLt s95.2.2.2.2.1 s95.2.2.2.1)
 (cond (bnd s95.2.2.2.2.1 (aA s95.2.2.1))
 (some (.inl (s95.1,s95.2.1,s95.2.2.1,s95.2.2.2.1,aR .i64 s95.2.2.2.2.1 1,s95.2.2.2.2.2.1,s95.2.2.2.2.2.2.1,s95.2.2.2.2.2.2.2.1,s95.2.2.2.2.2.2.2.2.1,s95.2.2.2.2.2.2.2.2.2.1,s95.2.2.2.2.2.2.2.2.2.2.1,s95.2.2.2.2.2.2.2.2.2.2.2.1,s95.2.2.2.2.2.2.2.2.2.2.2.2.1,s95.2.2.2.2.2.2.2.2.2.2.2.2.2.1,s95.2.2.2.2.2.2.2.2.2.2.2.2.2.2.1,aR .i64 s95.2.2.2.2.2.2.2.2.2.2.2.2.2.2.2.1 ((atI s95.2.2.1 s95.2.2.2.2.1 sH).2.1),tu s95.2.2.2.2.2.2.2.2.2.2.2.2.2.2.2.2.1 ((atI s95.2.2.1 s95.2.2.2.2.1 sH).2.2.1),()))) none)
 (Option.map Sum.inr ((b1L ((s95.2.2.2.2.2.2.2.2.2.2.2.1,s95.2.2.2.2.2.2.2.2.2.2.2.2.1,([]:List ByteArray),s95.2.2.2.2.2.2.2.2.2.2.2.2.2.1,s95.2.2.2.2.2.2.2.2.2.2.2.2.2.2.1,([]:List AV),()),s95.2.2.2.2.2.2.2.2.2.2.2.2.2.2.2.1,aR .i64 s95.2.2.2.2.2.2.2.2.2.2.2.2.2.2.2.2.1 1,())).bind λy96 =>
 cond y96.1
 (some (((s95.2.2.2.2.2.2.2.2.2.2.2.1,s95.2.2.2.2.2.2.2.2.2.2.2.2.1,([]:List ByteArray),s95.2.2.2.2.2.2.2.2.2.2.2.2.2.1,s95.2.2.2.2.2.2.2.2.2.2.2.2.2.2.1,([]:List AV),()),s95.2.2.2.2.2.2.2.2.2.2.2.2.2.2.2.1,aR .i64 s95.2.2.2.2.2.2.2.2.2.2.2.2.2.2.2.2.1 1,()),()))
 (cond (ze (aA s95.2.1) 88)
 (bK (S:=(List cK)×Int×Int×Int×ByteArray×Int×Int×Int×Int×Int×ByteArray×Int×Int×Int×Int×(List DS0)×Unit) (R:=cK×Unit) (λs97 =>
 cond (iLt s97.2.2.1 s97.2.1)
 (cond (bnd s97.2.2.1 (aA s97.1))
 (cond (bnd s97.2.2.1 (aA s97.2.2.2.2.2.2.2.2.2.2.2.2.2.2.2.1))
 (cond (inB (Int.toNat s97.2.2.1) s97.2.2.2.2.2.2.2.2.2.2.2.2.2.2.2.1)
 (some (.inl (s97.1,s97.2.1,aR .i64 s97.2.2.1 1,s97.2.2.2.1,s97.2.2.2.2.1,s97.2.2.2.2.2.1,s97.2.2.2.2.2.2.1,s97.2.2.2.2.2.2.2.1,s97.2.2.2.2.2.2.2.2.1,s97.2.2.2.2.2.2.2.2.2.1,s97.2.2.2.2.2.2.2.2.2.2.1,s97.2.2.2.2.2.2.2.2.2.2.2.1,s97.2.2.2.2.2.2.2.2.2.2.2.2.1,s97.2.2.2.2.2.2.2.2.2.2.2.2.2.1,s97.2.2.2.2.2.2.2.2.2.2.2.2.2.2.1,List.set s97.2.2.2.2.2.2.2.2.2.2.2.2.2.2.2.1 (Int.toNat s97.2.2.1) (((atI s97.1 s97.2.2.1 sH).1).1,((atI s97.1 s97.2.2.1 sH).1).2.1,((atI s97.1 s97.2.2.1 sH).1).2.2.1,((atI s97.1 s97.2.2.1 sH).1).2.2.2.1,((atI s97.1 s97.2.2.1 sH).1).2.2.2.2.1,((atI s97.1 s97.2.2.1 sH).1).2.2.2.2.2.1,()),()))) none) none) none)
 (some (.inr (((s97.2.2.2.2.2.2.2.2.2.1,s97.2.2.2.2.2.2.2.2.2.2.1,([]:List ByteArray),s97.2.2.2.2.2.2.2.2.2.2.2.1,s97.2.2.2.2.2.2.2.2.2.2.2.2.1,ou s97.2.2.2.2.2.2.2.2.2.2.2.2.2.2.2.1,()),s97.2.2.2.2.2.2.2.2.2.2.2.2.2.1,s97.2.2.2.2.2.2.2.2.2.2.2.2.2.2.1,()),()))))
 (s95.2.1,aA s95.2.1,0,s95.2.2.2.2.2.1,s95.2.2.2.2.2.2.1,s95.2.2.2.2.2.2.2.1,s95.2.2.2.2.2.2.2.2.1,s95.2.2.2.2.2.2.2.2.2.1,s95.2.2.2.2.2.2.2.2.2.2.1,s95.1,(bs []),0,0,s95.2.2.2.2.2.2.2.2.2.2.2.2.2.2.2.1,aR .i64 s95.2.2.2.2.2.2.2.2.2.2.2.2.2.2.2.2.1 1,(List.replicate (Int.toNat (aA s95.2.1)) (0,(bs []),([]:List ByteArray),0,0,([]:List AV),()):List DS0),())) none))))
 (a0,a1,a1,aA a1,0,0,(bs []),0,0,0,0,0,(bs []),0,0,1,0,())
def b9F:PI:=⟨220,[(.int .i64),(.list pG)],[pG],fun(x:Int×(List cK)×Unit)=>Gq x.1 x.2.1⟩
theorem Y3:PK b9F:=pk (.d 2 (.s (.d 1 (.b (.l [] ⟨59,[(0,(.int .i64)),(1,(.list pG)),(11,(.list pG)),(12,(.int .i64)),(13,(.int .i64))],[(4,.ptr 0 0 0),(5,.ptr 1 0 0)],[.box 212 [.d (.int .i64),.d .str,.nil,.d (.int .i64),.d (.int .i64),.nil,.d (.int .i64),.d (.int .i64)],.box 212 [.d (.int .i64),.d .str,.nil,.d (.int .i64),.d (.int .i64),.nil,.d (.int .i64),.d (.int .i64)]]⟩ .o))) (.d 3 (.s (.d 1 (.b (.l [] ⟨59,[(43,(.list pG)),(44,(.int .i64)),(45,(.int .i64))],[(4,.ptr 0 0 0),(5,.ptr 1 0 0)],[.box 212 [.d (.int .i64),.d .str,.nil,.d (.int .i64),.d (.int .i64),.nil,.d (.int .i64),.d (.int .i64)],.box 212 [.d (.int .i64),.d .str,.nil,.d (.int .i64),.d (.int .i64),.row 2,.d (.int .i64),.d (.int .i64)],.row 34 tS0 false]⟩ .o))) .o)))) Tryz.func220 (cP Y4 c0) (by kernel_rfl) λx=>by kernel_rfl
def oO(a0:Int)(a1:List cK):Option (cK×Unit) :=
 cond (iEq (aA a1) 1)
 (cond (bnd 0 (aA a1))
 (some (((((atI a1 0 sH).1).1,((atI a1 0 sH).1).2.1,((atI a1 0 sH).1).2.2.1,((atI a1 0 sH).1).2.2.2.1,((atI a1 0 sH).1).2.2.2.2.1,((atI a1 0 sH).1).2.2.2.2.2.1,()),(atI a1 0 sH).2.1,(atI a1 0 sH).2.2.1,()),())) none)
 ((Gq a0 a1).bind λy98 =>
 some (((y98.1.1.1,y98.1.1.2.1,y98.1.1.2.2.1,y98.1.1.2.2.2.1,y98.1.1.2.2.2.2.1,y98.1.1.2.2.2.2.2.1,()),y98.1.2.1,y98.1.2.2.1,()),()))
def b9E:PI:=⟨221,[(.int .i64),(.list pG)],[pG],fun(x:Int×(List cK)×Unit)=>oO x.1 x.2.1⟩
theorem b0p:PK b9E:=pk .o Tryz.func221 (cP Y3 c0) (by kernel_rfl) λx=>by kernel_rfl
end
end Abs
end Go.Proofs.YtnhgeocdffhkjaaGreatDoor
