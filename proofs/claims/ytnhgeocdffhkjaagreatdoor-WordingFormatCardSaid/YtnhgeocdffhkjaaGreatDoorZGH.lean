/- Merged and trimmed by a program: ModelsA. -/
import Derived.Test.YtnhgeocdffhkjaaGreatDoorZGG
import Derived.Test.YtnhgeocdffhkjaaGreatDoorProg
import Derived.KernelRfl
set_option linter.unusedVariables false
set_option linter.unusedSimpArgs false
set_option linter.defProp false
namespace Go.Proofs.YtnhgeocdffhkjaaGreatDoor
namespace Abs
noncomputable section
set_option maxRecDepth 100000
theorem mixed:Tryz.prog.follows .mixedOrders=true:=by kernel_rfl
abbrev tS0:Ty:=.tup [(.int .i64),.str,(.list .str),(.int .i64),(.int .i64),(.rl 34 6)]
abbrev DS0:Type:=Int×ByteArray×(List ByteArray)×Int×Int×(List AV)×Unit
def wD(x:List DS0):List AV:=Fp tS0 x
def aV(x:AV):DS0:=Kq tS0 x
def qj(x:AV):Bool:=okD tS0 x
abbrev tS1:Ty:=.tup [(.int .i64),.str,tS0,(.rl 63 8),(.int .i64)]
abbrev DS1:Type:=Int×ByteArray×DS0×(List AV)×Int×Unit
def zS1:DS1:=(0,ByteArray.empty,(0,ByteArray.empty,[],0,0,[],()),[],0,())
abbrev tS2:Ty:=.tup [(.int .i64),(.int .i64)]
abbrev DS2:Type:=Int×Int×Unit
abbrev tS3:Ty:=.tup [tS2,(.list .str),(.list tS1)]
abbrev DS3:Type:=DS2×(List ByteArray)×(List DS1)×Unit
def zS3:DS3:=((0,0,()),[],[],())
abbrev tS4:Ty:=.tup [(.list tS1),(.list tS3)]
abbrev DS4:Type:=(List DS1)×(List DS3)×Unit
abbrev tS5:Ty:=.tup [.str,(.int .i64),(.list .str),(.int .i64),(.int .i64)]
abbrev DS5:Type:=ByteArray×Int×(List ByteArray)×Int×Int×Unit
def zS5:DS5:=(ByteArray.empty,0,[],0,0,())
abbrev tS6:Ty:=.tup [(.list tS5)]
abbrev DS6:Type:=(List DS5)×Unit
abbrev tS7:Ty:=.tup [.str,tS0,(.rl 63 8)]
abbrev DS7:Type:=ByteArray×DS0×(List AV)×Unit
def Fj(x:List DS7):List AV:=Fp tS7 x
def bG(x:AV):DS7:=Kq tS7 x
def mY(x:AV):Bool:=okD tS7 x
def yw(x:List AV):List DS7:=J3 tS7 x
def a3F(x:List AV):Bool:=a1D tS7 x
abbrev tS8:Ty:=.tup [.str,.bool,(.int .i64),(.int .i64),(.int .i64)]
abbrev DS8:Type:=ByteArray×Bool×Int×Int×Int×Unit
abbrev tS9:Ty:=.tup [tS8,tS8,tS8,tS8,tS8,tS8,tS8,tS8,tS8]
abbrev DS9:Type:=DS8×DS8×DS8×DS8×DS8×DS8×DS8×DS8×DS8×Unit
abbrev dS:Ty:=.tup [(.int .i64),.str,(.int .i64),(.int .i64)]
abbrev aB:Type:=Int×ByteArray×Int×Int×Unit
def wS:aB:=(0,ByteArray.empty,0,0,())
abbrev a0B:Ty:=.tup [(.int .i64),(.int .i64),(.int .i64)]
abbrev H8:Type:=Int×Int×Int×Unit
abbrev b7d:Ty:=.tup [(.int .i64),(.int .i64),(.int .i64),(.int .i64),(.int .i64),(.int .i64),(.int .i64),(.int .i64),(.int .i64),(.int .i64),(.int .i64),(.int .i64)]
abbrev b8S:Type:=Int×Int×Int×Int×Int×Int×Int×Int×Int×Int×Int×Int×Unit
abbrev b7c:Ty:=.tup [(.int .u64),(.int .u64),(.int .u64),(.int .u64),(.int .u64),(.int .u64),(.int .u64),(.int .u64),(.int .u64),(.int .u64),(.int .u64),(.int .u64),(.int .u64),(.int .u64),(.int .u64),(.int .u64),(.int .u64),(.int .u64),(.int .u64),(.int .u64)]
abbrev b8R:Type:=Int×Int×Int×Int×Int×Int×Int×Int×Int×Int×Int×Int×Int×Int×Int×Int×Int×Int×Int×Int×Unit
def opsL:List DS8:=[((bs []),false,0,0,0,()),((bs [116,114,117,101]),false,0,0,0,()),((bs [102,97,108,115,101]),false,0,0,0,()),((bs []),true,0,0,0,()),((bs [105,110]),true,0,0,0,()),((bs [102,114,111,109]),true,0,0,0,()),((bs [110,111,116]),false,1,1,3,()),((bs [97,110,100]),false,2,300,2,()),((bs [111,114]),false,2,300,1,())]
instance (n:Nat):OfNat Opd n:=⟨.t n⟩
def Tj:Nat->Option Ty:=λn=>if Nat.beq n 3=true then some (.int .i64) else if Nat.beq n 4=true then some .bool else if Nat.beq n 5=true then some (.int .u8) else if Nat.beq n 9=true then some .str else if Nat.beq n 34=true then some tS0 else if Nat.beq n 37=true then some tS1 else if Nat.beq n 55=true then some tS3 else if Nat.beq n 63=true then some tS7 else if Nat.beq n 80=true then some (.list dS) else if Nat.beq n 97=true then some dS else if Nat.beq n 106=true then some tS5 else none
def uZ:GXT:=λn=>if Nat.beq n 0=true then some ⟨tS9,(show DS9 from(((bs []),false,0,0,0,()),((bs [116,114,117,101]),false,0,0,0,()),((bs [102,97,108,115,101]),false,0,0,0,()),((bs []),true,0,0,0,()),((bs [105,110]),true,0,0,0,()),((bs [102,114,111,109]),true,0,0,0,()),((bs [110,111,116]),false,1,1,3,()),((bs [97,110,100]),false,2,300,2,()),((bs [111,114]),false,2,300,1,()),()))⟩ else if Nat.beq n 1=true then some ⟨b7d,(show b8S from(31,28,31,30,31,30,31,31,30,31,30,31,()))⟩ else if Nat.beq n 2=true then some ⟨b7c,(show b8R from(1,10,100,1000,10000,100000,1000000,10000000,100000000,1000000000,10000000000,100000000000,1000000000000,10000000000000,100000000000000,1000000000000000,10000000000000000,100000000000000000,1000000000000000000,10000000000000000000,()))⟩ else none
def hcl:List Nat:=[13,14,22,24,37,38,39,40,41,42,47,48,49,66,67,69,70,71,75,81,82,83,84,85,87,88,90,94,108,111,112,123,124,125,126,127,128,129,130,131,132,133,145,151,160,161,162,163,164,175,191,200,201,202,203,204,205,206,215,216,217,218,219,225,234,235,236,237,238,241]
def xoF(f:Func)(a:AT):XC:=xo Tryz.prog hcl f a
def rvF(f:Func):List RV:=(pJ Tryz.prog f.results.toList).getD []
def okF(i:Nat)(f:Func):Bool:=(f.body.bind (cC Tryz.prog hcl)).isSome&&(pJ Tryz.prog f.results.toList).isSome&&callable Tryz.prog i
theorem fnY {i:Nat} {f:Func} {a:AT} (h1:Tryz.prog.funcs[i]?=some f) (h:okF i f=true):Fn Tryz.prog i f.ntmps (xoF f a).er (rvF f):=by
  unfold okF at h
  simp only[au]at h
  obtain⟨⟨h2,h3⟩,h4⟩:=h
  refine⟨f,hcl,h1,b2u h2,?_,rfl,h4⟩
  unfold rvF
  cases q:pJ Tryz.prog f.results.toList with
  |none=>rw[q]at h3;cases h3
  |some r=>rfl
abbrev PK(p:PI):Prop:=POk Tryz.prog (gx uZ) p
abbrev HK(p:HI):Prop:=HOk Tryz.prog (gx uZ) p
abbrev CK(pis:List PI)(his:List HI):Prop:=oO Tryz.prog ⟨Tj,uZ,pis,his⟩
theorem c0:CK [] []:=a6x _ _
theorem cP{p:PI}{pis:List PI}{his:List HI}(h:PK p)(hc:CK pis his):CK (p::pis) his:=b4N h hc
theorem cH{p:HI}{pis:List PI}{his:List HI}(h:HK p)(hc:CK pis his):CK pis (p::his):=b4O h hc
section
variable{i:Nat}{ps rs:List Ty}{f:Func}{pis:List PI}{his:List HI}{ish osh:Sh}{kp:List Nat}
theorem pk{run:Ty.bP ps->Option (Ty.bP rs)}(a:AT)(hf:Tryz.prog.funcs[i]?=some f)(hc:CK pis his)(h:okF i f=true)(he:∀x,a8y ⟨Tj,uZ,pis,his⟩ (xoF f a) f.ntmps (rvF f) ps rs x=run x):PK ⟨i,ps,rs,run⟩:=pok mixed hc (fnY hf h) he
theorem hk{run:Ty.bP ish.tys->Option (Ty.bP osh.tys)}(a:AT)(pre:List Pre)(hf:Tryz.prog.funcs[i]?=some f)(hc:CK pis his)(h:okF i f=true)(he:∀x,a3b ⟨Tj,uZ,pis,his⟩ (xoF f a) f.ntmps (rvF f) pre ish osh x=run x):HK ⟨i,ish,osh,run,kp⟩:=hok mixed hc (fnY hf h) he
theorem hkz{run:Ty.bP ish.tys->Option (Ty.bP osh.tys)}(a:AT)(pre:List Pre)(T:Ty)(hf:Tryz.prog.funcs[i]?=some f)(hc:CK pis his)(h:okF i f=true)(he:∀x,VU ⟨Tj,uZ,pis,his⟩ (xoF f a) f.ntmps (rvF f) pre T ish osh x=run x):HK ⟨i,ish,osh,run,kp⟩:=b8v mixed hc (fnY hf h) he
theorem mU {i:Nat} {f:Func} (h:okF i f=true):callable Tryz.prog i=true:=by
  unfold okF at h
  simp only[au]at h
  exact h.2
end
def m12(a0:DS4):Option (Bool×Unit) :=
 some (cond (iLe (aD a0.1) 60) (iLe (aD a0.2.1) 20) false,())
def i12:PI:=⟨12,[tS4],[.bool],fun(x:DS4×Unit)=>m12 x.1⟩
theorem b3y:PK i12:=pk .o Tryz.func12 c0 (by kernel_rfl) λx=>by kernel_rfl
theorem b7j:PK i7:=b1U (by kernel_rfl) (by kernel_rfl)
def m64(a0:Int):Option (ByteArray×Unit) :=
 cond (iEq a0 1)
 (some ((bs [100,101,102,105,110,101]),()))
 (cond (iEq a0 2)
 (some ((bs [99,111,118,101,114]),()))
 (cond (iEq a0 3)
 (some ((bs [101,120,99,108,117,100,101]),()))
 (cond (iEq a0 4)
 (some ((bs [99,111,110,100,105,116,105,111,110]),()))
 (cond (iEq a0 5)
 (some ((bs [108,105,109,105,116]),()))
 (cond (iEq a0 6)
 (some ((bs [100,101,100,117,99,116,105,98,108,101]),()))
 (cond (iEq a0 7)
 (some ((bs [102,114,97,110,99,104,105,115,101]),()))
 (cond (iEq a0 8)
 (some ((bs [99,111,105,110,115,117,114,97,110,99,101]),()))
 (cond (iEq a0 9)
 (some ((bs [97,118,101,114,97,103,101]),()))
 (cond (iEq a0 10)
 (some ((bs [115,117,98,108,105,109,105,116]),()))
 (some ((bs []),())))))))))))
def i64:PI:=⟨64,[(.int .i64)],[.str],fun(x:Int×Unit)=>m64 x.1⟩
theorem a3v:PK i64:=pk .o Tryz.func64 c0 (by kernel_rfl) λx=>by kernel_rfl
def m80(a0:Int):Option (Bool×Unit) :=
 some (cond (iLe 97 a0) (iLe a0 122) false,())
def i80:PI:=⟨80,[(.int .u8)],[.bool],fun(x:Int×Unit)=>m80 x.1⟩
theorem Mf:PK i80:=pk .o Tryz.func80 c0 (by kernel_rfl) λx=>by kernel_rfl
def Co(a0:Int):Option (Bool×Unit) :=
 some (cond (iLe 48 a0) (iLe a0 57) false,())
def b8c:PI:=⟨118,[(.int .u8)],[.bool],fun(x:Int×Unit)=>Co x.1⟩
theorem Ij:PK b8c:=pk .o Tryz.func118 c0 (by kernel_rfl) λx=>by kernel_rfl
def OT(a0:Int):Option (Bool×Unit) :=
 (m80 a0).bind λy8 =>
 cond y8.1
 (some (true,()))
 ((Co a0).bind λy9 =>
 some (cond y9.1 true (iEq a0 45),()))
def i117:PI:=⟨117,[(.int .u8)],[.bool],fun(x:Int×Unit)=>OT x.1⟩
theorem a94:PK i117:=pk .o Tryz.func117 (cP Ij (cP Mf c0)) (by kernel_rfl) λx=>by kernel_rfl
def m77(a0:ByteArray)(a1:Int)(a2:Unit):Option (Int×Unit) :=
 bH (S:=ByteArray×Int×Unit×Unit) (R:=Int×Unit) (λs11 =>
 cond (or (bnd s11.2.1 (sLen s11.1)) (not (bEq (iLt s11.2.1 (sLen s11.1)) true)))
 (cond (iLt s11.2.1 (sLen s11.1))
 ((OT (sAt s11.1 s11.2.1)).bind λy12 =>
 cond y12.1
 (some (.inl (s11.1,aN .i64 s11.2.1 1,s11.2.2.1,())))
 (some (.inr (s11.2.1,()))))
 (some (.inr (s11.2.1,())))) none)
 (a0,a1,(),())
def i77:PI:=⟨77,[.str,(.int .i64),(.fnc 117)],[(.int .i64)],fun(x:ByteArray×Int×Unit×Unit)=>m77 x.1 x.2.1 x.2.2.1⟩
theorem a3s:PK i77:=pk (.d 1 (.s (.b (.l [] ⟨21,[(0,.str),(1,(.int .i64)),(2,(.fnc 117))],[],[]⟩ .o)) .o)) Tryz.func77 (cP a94 c0) (by kernel_rfl) λx=>by kernel_rfl
def m95(a0:ByteArray):Option (Bool×Unit) :=
 cond (or (bnd 0 (sLen a0)) (not (bEq (cond (iEq (sLen a0) 0) true (iLt 16 (sLen a0))) false)))
 (cond (cond (iEq (sLen a0) 0) true (iLt 16 (sLen a0)))
 (cond (or (bnd (dz .i64 (sLen a0) 1) (sLen a0)) (not (bEq true false)))
 (some (false,())) none)
 ((m80 (sAt a0 0)).bind λy6 =>
 cond (or (bnd (dz .i64 (sLen a0) 1) (sLen a0)) (not (bEq (not y6.1) false)))
 (cond (cond (not y6.1) true (iEq (sAt a0 (dz .i64 (sLen a0) 1)) 45))
 (some (false,()))
 ((m77 a0 0 ()).bind λy13 =>
 some (iEq y13.1 (sLen a0),()))) none)) none
def i95:PI:=⟨95,[.str],[.bool],fun(x:ByteArray×Unit)=>m95 x.1⟩
theorem U8:PK i95:=pk .o Tryz.func95 (cP a3s (cP Mf c0)) (by kernel_rfl) λx=>by kernel_rfl
def m96(a0:ByteArray):Option (Bool×Unit) :=
 cond (sEq a0 (bs [97,110,100]))
 (some (true,()))
 (cond (sEq a0 (bs [97,118,101,114,97,103,101]))
 (some (true,()))
 (cond (sEq a0 (bs [99,111,105,110,115,117,114,97,110,99,101]))
 (some (true,()))
 (cond (sEq a0 (bs [99,111,110,100,105,116,105,111,110]))
 (some (true,()))
 (cond (sEq a0 (bs [99,111,118,101,114]))
 (some (true,()))
 (cond (sEq a0 (bs [100,101,100,117,99,116,105,98,108,101]))
 (some (true,()))
 (cond (sEq a0 (bs [100,101,102,105,110,101]))
 (some (true,()))
 (cond (sEq a0 (bs [101,110,100]))
 (some (true,()))
 (cond (sEq a0 (bs [101,110,100,111,114,115,101]))
 (some (true,()))
 (cond (sEq a0 (bs [101,120,99,108,117,100,101]))
 (some (true,()))
 (cond (sEq a0 (bs [102,97,108,115,101]))
 (some (true,()))
 (cond (sEq a0 (bs [102,114,97,110,99,104,105,115,101]))
 (some (true,()))
 (cond (sEq a0 (bs [102,114,111,109]))
 (some (true,()))
 (cond (sEq a0 (bs [105,110]))
 (some (true,()))
 (cond (sEq a0 (bs [108,105,109,105,116]))
 (some (true,()))
 (cond (sEq a0 (bs [110,111,116]))
 (some (true,()))
 (cond (sEq a0 (bs [111,114]))
 (some (true,()))
 (cond (sEq a0 (bs [114,101,109,111,118,101]))
 (some (true,()))
 (cond (sEq a0 (bs [115,117,98,108,105,109,105,116]))
 (some (true,()))
 (cond (sEq a0 (bs [116,111]))
 (some (true,()))
 (cond (sEq a0 (bs [116,114,117,101]))
 (some (true,()))
 (cond (sEq a0 (bs [117,110,108,101,115,115]))
 (some (true,()))
 (cond (sEq a0 (bs [119,104,101,110]))
 (some (true,()))
 (some (false,()))))))))))))))))))))))))
def i96:PI:=⟨96,[.str],[.bool],fun(x:ByteArray×Unit)=>m96 x.1⟩
theorem b3d:PK i96:=pk .o Tryz.func96 c0 (by kernel_rfl) λx=>by kernel_rfl
def m54(a0:ByteArray):Option (Bool×Unit) :=
 (m95 a0).bind λy14 =>
 cond y14.1
 ((m96 a0).bind λy15 =>
 some (not y15.1,()))
 (some (false,()))
def i54:PI:=⟨54,[.str],[.bool],fun(x:ByteArray×Unit)=>m54 x.1⟩
theorem Ii:PK i54:=pk .o Tryz.func54 (cP U8 (cP b3d c0)) (by kernel_rfl) λx=>by kernel_rfl
def m97(a0:List ByteArray)(a1:ByteArray):Option (Int×Unit) :=
 bH (S:=(List ByteArray)×ByteArray×Int×Int×Unit) (R:=Int×Unit) (λs21 =>
 cond (iLt s21.2.2.2.1 s21.2.2.1)
 (cond (bnd s21.2.2.2.1 (aD s21.1))
 (cond (sEq s21.2.1 (atI s21.1 s21.2.2.2.1 ByteArray.empty))
 (some (.inr (s21.2.2.2.1,())))
 (some (.inl (s21.1,s21.2.1,s21.2.2.1,aN .i64 s21.2.2.2.1 1,())))) none)
 (some (.inr ((-1),()))))
 (a0,a1,aD a0,0,())
def i97:PI:=⟨97,[(.list .str),.str],[(.int .i64)],fun(x:(List ByteArray)×ByteArray×Unit)=>m97 x.1 x.2.1⟩
theorem b3c:PK i97:=pk (.d 1 (.s (.d 1 (.b (.l [] ⟨19,[(0,(.list .str)),(1,.str),(7,(.int .i64)),(8,(.int .i64))],[],[]⟩ .o))) .o)) Tryz.func97 c0 (by kernel_rfl) λx=>by kernel_rfl
def m55(a0:List ByteArray)(a1:ByteArray):Option (Bool×Unit) :=
 (m97 a0 a1).bind λy22 =>
 some (iLe 0 y22.1,())
def i55:PI:=⟨55,[(.list .str),.str],[.bool],fun(x:(List ByteArray)×ByteArray×Unit)=>m55 x.1 x.2.1⟩
theorem a3x:PK i55:=pk .o Tryz.func55 (cP b3c c0) (by kernel_rfl) λx=>by kernel_rfl
def JO(a0:List ByteArray):Option (Bool×Unit) :=
 cond (cond (iEq (aD a0) 0) true (iLt 12 (aD a0)))
 (some (false,()))
 (bH (S:=(List ByteArray)×(List ByteArray)×Int×Int×Unit) (R:=Bool×Unit) (λs24 =>
 cond (iLt s24.2.2.2.1 s24.2.2.1)
 (cond (bnd s24.2.2.2.1 (aD s24.2.1))
 ((m54 (atI s24.2.1 s24.2.2.2.1 ByteArray.empty)).bind λy25 =>
 cond (or (nI 0 s24.2.2.2.1 (List.length s24.1)) (not (bEq (not y25.1) false)))
 (cond (not y25.1)
 (some (.inr (false,())))
 ((m55 (qM 0 s24.2.2.2.1 s24.1) (atI s24.2.1 s24.2.2.2.1 ByteArray.empty)).bind λy26 =>
 cond y26.1
 (some (.inr (false,())))
 (some (.inl (s24.1,s24.2.1,s24.2.2.1,aN .i64 s24.2.2.2.1 1,()))))) none) none)
 (some (.inr (true,()))))
 (a0,a0,aD a0,0,()))
def b7H:PI:=⟨185,[(.list .str)],[.bool],fun(x:(List ByteArray)×Unit)=>JO x.1⟩
theorem a9w:PK b7H:=pk (.d 2 (.s (.d 1 (.b (.l [] ⟨31,[(0,(.list .str)),(13,(.list .str)),(14,(.int .i64)),(15,(.int .i64))],[],[]⟩ .o))) .o)) Tryz.func185 (cP Ii (cP a3x c0)) (by kernel_rfl) λx=>by kernel_rfl
def DR(a0:Int):Option (Bool×Unit) :=
 some (cond (iLe (-1000000000) a0) (iLe a0 1000000000) false,())
def b7G:PI:=⟨186,[(.int .i64)],[.bool],fun(x:Int×Unit)=>DR x.1⟩
theorem a9v:PK b7G:=pk .o Tryz.func186 c0 (by kernel_rfl) λx=>by kernel_rfl
def OH(a0:DS0):Option (Bool×Unit) :=
 cond (cond (iLt a0.1 1) true (iLt 8 a0.1))
 (some (false,()))
 (cond (bnd a0.1 ((9:Nat):Int))
 (cond (cond (iLt (aD a0.2.2.2.2.2.1) ((atI opsL a0.1 (ByteArray.empty,false,0,0,0,())).2.2.1)) true (iLt ((atI opsL a0.1 (ByteArray.empty,false,0,0,0,())).2.2.2.1) (aD a0.2.2.2.2.2.1)))
 (some (false,()))
 (cond ((atI opsL a0.1 (ByteArray.empty,false,0,0,0,())).2.1)
 ((m54 a0.2.1).bind λy35 =>
 cond (not y35.1)
 (some (false,()))
 (cond (cond (not ((atI opsL a0.1 (ByteArray.empty,false,0,0,0,())).2.1)) (not (sEq a0.2.1 (bs []))) false)
 (some (false,()))
 (jZ (S:=Int×ByteArray×(List ByteArray)×Int×Int×(List AV)×Unit) (R:=Bool×Unit)
 (cond (iEq a0.1 4)
 ((JO a0.2.2.1).bind λy36 =>
 cond (not y36.1)
 (some (.inr (false,())))
 (some (.inl (a0.1,a0.2.1,a0.2.2.1,a0.2.2.2.1,a0.2.2.2.2.1,a0.2.2.2.2.2.1,()))))
 (cond (iLt 0 (aD a0.2.2.1))
 (some (.inr (false,())))
 (some (.inl (a0.1,a0.2.1,a0.2.2.1,a0.2.2.2.1,a0.2.2.2.2.1,a0.2.2.2.2.2.1,())))))
 (λj37 =>
 cond (iEq j37.1 5)
 ((DR j37.2.2.2.1).bind λy38 =>
 cond y38.1
 ((DR j37.2.2.2.2.1).bind λy39 =>
 some (cond y39.1 (iLe j37.2.2.2.1 j37.2.2.2.2.1) false,()))
 (some (false,())))
 (some (cond (iEq j37.2.2.2.1 0) (iEq j37.2.2.2.2.1 0) false,()))))))
 (cond (cond (not ((atI opsL a0.1 (ByteArray.empty,false,0,0,0,())).2.1)) (not (sEq a0.2.1 (bs []))) false)
 (some (false,()))
 (jZ (S:=Int×ByteArray×(List ByteArray)×Int×Int×(List AV)×Unit) (R:=Bool×Unit)
 (cond (iEq a0.1 4)
 ((JO a0.2.2.1).bind λy40 =>
 cond (not y40.1)
 (some (.inr (false,())))
 (some (.inl (a0.1,a0.2.1,a0.2.2.1,a0.2.2.2.1,a0.2.2.2.2.1,a0.2.2.2.2.2.1,()))))
 (cond (iLt 0 (aD a0.2.2.1))
 (some (.inr (false,())))
 (some (.inl (a0.1,a0.2.1,a0.2.2.1,a0.2.2.2.1,a0.2.2.2.2.1,a0.2.2.2.2.2.1,())))))
 (λj41 =>
 cond (iEq j41.1 5)
 ((DR j41.2.2.2.1).bind λy42 =>
 cond y42.1
 ((DR j41.2.2.2.2.1).bind λy43 =>
 some (cond y43.1 (iLe j41.2.2.2.1 j41.2.2.2.2.1) false,()))
 (some (false,())))
 (some (cond (iEq j41.2.2.2.1 0) (iEq j41.2.2.2.2.1 0) false,()))))))) none)
def b7Q:PI:=⟨170,[tS0],[.bool],fun(x:DS0×Unit)=>OH x.1⟩
theorem a9E:PK b7Q:=pk (.d 5 (.j [] ⟨85,[],[(1,.ptr 0 0 0)],[.box 34 [.d (.int .i64),.d .str,.d (.list .str),.d (.int .i64),.d (.int .i64),.d (.rl 34 6)]]⟩ .o .o)) Tryz.func170 (cP a9w (cP a9v (cP Ii c0))) (by kernel_rfl) λx=>by kernel_rfl
def Mr(self:(DS0×Int×Int×Unit)->Option (Bool×Int×Unit))(a0:DS0)(a1:Int)(a2:Int):Option (Bool×Int×Unit) :=
 cond (cond (iLt 300 (aN .i64 a2 1)) true (iLt 16 a1))
 (some (false,aN .i64 a2 1,()))
 ((OH (a0.1,a0.2.1,a0.2.2.1,a0.2.2.2.1,a0.2.2.2.2.1,a0.2.2.2.2.2.1,())).bind λy47 =>
 cond (not y47.1)
 (some (false,aN .i64 a2 1,()))
 (bH (S:=Int×(List AV)×Int×Int×Int×Unit) (R:=Bool×Int×Unit) (λs48 =>
 cond (iLt s48.2.2.2.1 s48.2.2.1)
 (cond (and (bnd s48.2.2.2.1 (aD s48.2.1)) (qj (atI s48.2.1 s48.2.2.2.1 AV.any)))
 ((self (((aV (atI s48.2.1 s48.2.2.2.1 AV.any)).1,(aV (atI s48.2.1 s48.2.2.2.1 AV.any)).2.1,(aV (atI s48.2.1 s48.2.2.2.1 AV.any)).2.2.1,(aV (atI s48.2.1 s48.2.2.2.1 AV.any)).2.2.2.1,(aV (atI s48.2.1 s48.2.2.2.1 AV.any)).2.2.2.2.1,(aV (atI s48.2.1 s48.2.2.2.1 AV.any)).2.2.2.2.2.1,()),aN .i64 s48.1 1,s48.2.2.2.2.1,())).bind λy49 =>
 cond (not y49.1)
 (some (.inr (false,y49.2.1,())))
 (some (.inl (s48.1,s48.2.1,s48.2.2.1,aN .i64 s48.2.2.2.1 1,y49.2.1,())))) none)
 (some (.inr (true,s48.2.2.2.2.1,()))))
 (a1,a0.2.2.2.2.2.1,aD a0.2.2.2.2.2.1,0,aN .i64 a2 1,())))
def b0T(a0:DS0)(a1:Int)(a2:Int):Option (Bool×Int×Unit):=eT (λself (x:DS0×Int×Int×Unit)=>Mr self x.1 x.2.1 x.2.2.1) 10000 (a0,a1,a2,())
def Yc:Sh:=⟨3,[(0,tS0),(1,(.int .i64))],[(2,.ptr 0 0 0)],[.box 3 [.d (.int .i64)]]⟩
def Xi:Sh:=⟨1,[(0,.bool)],[],[.box 3 [.d (.int .i64)]]⟩
def b8H:HI:=⟨145,Yc,Xi,fun(x:DS0×Int×Int×Unit)=>b0T x.1 x.2.1 x.2.2.1,[]⟩
theorem b0j:HK b8H:=pG 10000 (ish:=Yc) (osh:=Xi) (G:=λself (x:DS0×Int×Int×Unit)=>Mr self x.1 x.2.1 x.2.2.1) (mU (f:=Tryz.f145) (by kernel_rfl)) λself hr=>hk (.d 3 (.s (.d 1 (.b (.l [] ⟨41,[(1,(.int .i64)),(28,(.rl 34 6)),(29,(.int .i64)),(30,(.int .i64))],[(2,.ptr 0 0 0)],[.box 3 [.d (.int .i64)]]⟩ .o))) .o)) [] Tryz.func145 (cH hr (cP a9E c0)) (by kernel_rfl) λx=>by kernel_rfl
def m93(a0:DS0):Option (Bool×Unit) :=
 (b0T (a0.1,a0.2.1,a0.2.2.1,a0.2.2.2.1,a0.2.2.2.2.1,a0.2.2.2.2.2.1,()) 1 0).bind λy50 =>
 some (y50.1,())
def i93:PI:=⟨93,[tS0],[.bool],fun(x:DS0×Unit)=>m93 x.1⟩
theorem U9:PK i93:=pk .o Tryz.func93 (cH b0j c0) (by kernel_rfl) λx=>by kernel_rfl
def m65(a0:Int):Option (Int×Unit) :=
 cond (iEq a0 5)
 (some (1073741824,()))
 (cond (iEq a0 6)
 (some (1073741824,()))
 (cond (iEq a0 7)
 (some (1073741824,()))
 (cond (iEq a0 10)
 (some (1073741824,()))
 (cond (iEq a0 8)
 (some (1000000,()))
 (some (0,()))))))
def i65:PI:=⟨65,[(.int .i64)],[(.int .i64)],fun(x:Int×Unit)=>m65 x.1⟩
theorem a3u:PK i65:=pk .o Tryz.func65 c0 (by kernel_rfl) λx=>by kernel_rfl
def Ug(self:((List AV)×Int×Int×Unit)->Option (Bool×Int×Unit))(a0:List AV)(a1:Int)(a2:Int):Option (Bool×Int×Unit) :=
 bH (S:=Int×(List AV)×Int×Int×Int×Unit) (R:=Bool×Int×Unit) (λs57 =>
 cond (iLt s57.2.2.2.1 s57.2.2.1)
 (cond (and (bnd s57.2.2.2.1 (aD s57.2.1)) (mY (atI s57.2.1 s57.2.2.2.1 AV.any)))
 (cond (cond (iLt 16 s57.1) true (iLt 40 (aN .i64 s57.2.2.2.2.1 1)))
 (some (.inr (false,aN .i64 s57.2.2.2.2.1 1,())))
 ((m54 ((bG (atI s57.2.1 s57.2.2.2.1 AV.any)).1)).bind λy58 =>
 cond (not y58.1)
 (some (.inr (false,aN .i64 s57.2.2.2.2.1 1,())))
 ((m93 (((bG (atI s57.2.1 s57.2.2.2.1 AV.any)).2.1).1,((bG (atI s57.2.1 s57.2.2.2.1 AV.any)).2.1).2.1,((bG (atI s57.2.1 s57.2.2.2.1 AV.any)).2.1).2.2.1,((bG (atI s57.2.1 s57.2.2.2.1 AV.any)).2.1).2.2.2.1,((bG (atI s57.2.1 s57.2.2.2.1 AV.any)).2.1).2.2.2.2.1,((bG (atI s57.2.1 s57.2.2.2.1 AV.any)).2.1).2.2.2.2.2.1,())).bind λy59 =>
 cond (not y59.1)
 (some (.inr (false,aN .i64 s57.2.2.2.2.1 1,())))
 ((self ((bG (atI s57.2.1 s57.2.2.2.1 AV.any)).2.2.1,aN .i64 s57.1 1,aN .i64 s57.2.2.2.2.1 1,())).bind λy60 =>
 cond (not y60.1)
 (some (.inr (false,y60.2.1,())))
 (some (.inl (s57.1,s57.2.1,s57.2.2.1,aN .i64 s57.2.2.2.1 1,y60.2.1,()))))))) none)
 (some (.inr (true,s57.2.2.2.2.1,()))))
 (a1,a0,aD a0,0,a2,())
def m94(a0:List AV)(a1:Int)(a2:Int):Option (Bool×Int×Unit):=eT (λself (x:(List AV)×Int×Int×Unit)=>Ug self x.1 x.2.1 x.2.2.1) 10000 (a0,a1,a2,())
def a3R:Sh:=⟨3,[(0,(.rl 63 8)),(1,(.int .i64))],[(2,.ptr 0 0 0)],[.box 3 [.d (.int .i64)]]⟩
def a3o:Sh:=⟨1,[(0,.bool)],[],[.box 3 [.d (.int .i64)]]⟩
def h94:HI:=⟨94,a3R,a3o,fun(x:(List AV)×Int×Int×Unit)=>m94 x.1 x.2.1 x.2.2.1,[]⟩
theorem b3B:HK h94:=pG 10000 (ish:=a3R) (osh:=a3o) (G:=λself (x:(List AV)×Int×Int×Unit)=>Ug self x.1 x.2.1 x.2.2.1) (mU (f:=Tryz.f94) (by kernel_rfl)) λself hr=>hk (.d 1 (.s (.d 1 (.b (.l [] ⟨48,[(1,(.int .i64)),(9,(.rl 63 8)),(10,(.int .i64)),(11,(.int .i64))],[(2,.ptr 0 0 0)],[.box 3 [.d (.int .i64)]]⟩ .o))) .o)) [] Tryz.func94 (cH hr (cP Ii (cP U9 c0))) (by kernel_rfl) λx=>by kernel_rfl
def m52(a0:DS1):Option (Bool×Unit) :=
 (m64 a0.1).bind λy5 =>
 cond (sEq y5.1 (bs []))
 (some (false,()))
 ((m54 a0.2.1).bind λy16 =>
 cond (not y16.1)
 (some (false,()))
 ((m93 (a0.2.2.1.1,a0.2.2.1.2.1,a0.2.2.1.2.2.1,a0.2.2.1.2.2.2.1,a0.2.2.1.2.2.2.2.1,a0.2.2.1.2.2.2.2.2.1,())).bind λy51 =>
 cond (not y51.1)
 (some (false,()))
 (cond (cond (iNe a0.1 3) (iLt 0 (aD a0.2.2.2.1)) false)
 (some (false,()))
 ((m65 a0.1).bind λy52 =>
 cond (cond (iLt a0.2.2.2.2.1 (jC 1 y52.1)) true (iLt y52.1 a0.2.2.2.2.1))
 (some (false,()))
 ((m94 a0.2.2.2.1 1 0).bind λy61 =>
 some (y61.1,()))))))
def i52:PI:=⟨52,[tS1],[.bool],fun(x:DS1×Unit)=>m52 x.1⟩
theorem b3m:PK i52:=pk .o Tryz.func52 (cP Ii (cP a3v (cP a3u (cP U9 (cH b3B c0))))) (by kernel_rfl) λx=>by kernel_rfl
def m25(a0:List DS1):Option (Bool×Unit) :=
 cond (iLt 40 (aD a0))
 (some (false,()))
 (bH (S:=(List DS1)×Int×Int×Unit) (R:=Bool×Unit) (λs63 =>
 cond (iLt s63.2.2.1 s63.2.1)
 (cond (bnd s63.2.2.1 (aD s63.1))
 ((m52 ((atI s63.1 s63.2.2.1 zS1).1,(atI s63.1 s63.2.2.1 zS1).2.1,(((atI s63.1 s63.2.2.1 zS1).2.2.1).1,((atI s63.1 s63.2.2.1 zS1).2.2.1).2.1,((atI s63.1 s63.2.2.1 zS1).2.2.1).2.2.1,((atI s63.1 s63.2.2.1 zS1).2.2.1).2.2.2.1,((atI s63.1 s63.2.2.1 zS1).2.2.1).2.2.2.2.1,((atI s63.1 s63.2.2.1 zS1).2.2.1).2.2.2.2.2.1,()),(atI s63.1 s63.2.2.1 zS1).2.2.2.1,(atI s63.1 s63.2.2.1 zS1).2.2.2.2.1,())).bind λy64 =>
 cond (not y64.1)
 (some (.inr (false,())))
 (some (.inl (s63.1,s63.2.1,aN .i64 s63.2.2.1 1,())))) none)
 (some (.inr (true,()))))
 (a0,aD a0,0,()))
def i25:PI:=⟨25,[(.list tS1)],[.bool],fun(x:(List DS1)×Unit)=>m25 x.1⟩
theorem a3z:PK i25:=pk (.d 2 (.s (.d 1 (.b (.l [] ⟨18,[(8,(.list tS1)),(9,(.int .i64)),(10,(.int .i64))],[],[]⟩ .o))) .o)) Tryz.func25 (cP b3m c0) (by kernel_rfl) λx=>by kernel_rfl
def m53(a0:DS2):Option (Bool×Unit) :=
 some (cond (cond (iLe 0 a0.1) (iLt a0.1 a0.2.1) false) (iLe a0.2.1 876600) false,())
def i53:PI:=⟨53,[tS2],[.bool],fun(x:DS2×Unit)=>m53 x.1⟩
theorem b3l:PK i53:=pk .o Tryz.func53 c0 (by kernel_rfl) λx=>by kernel_rfl
def m26(a0:DS3):Option (Bool×Unit) :=
 (m53 (a0.1.1,a0.1.2.1,())).bind λy72 =>
 cond (cond (cond (not y72.1) true (iLt 876599 a0.1.2.1)) true (iLt 40 (aD a0.2.1)))
 (some (false,()))
 (bH (S:=(List ByteArray)×Int×Int×Int×Int×(List ByteArray)×(List DS1)×Unit) (R:=Bool×Unit) (λs73 =>
 cond (iLt s73.2.2.1 s73.2.1)
 (cond (bnd s73.2.2.1 (aD s73.1))
 ((m54 (atI s73.1 s73.2.2.1 ByteArray.empty)).bind λy74 =>
 cond (or (nI 0 s73.2.2.1 (List.length s73.2.2.2.2.2.1)) (not (bEq (not y74.1) false)))
 (cond (not y74.1)
 (some (.inr (false,())))
 ((m55 (qM 0 s73.2.2.1 s73.2.2.2.2.2.1) (atI s73.1 s73.2.2.1 ByteArray.empty)).bind λy75 =>
 cond y75.1
 (some (.inr (false,())))
 (some (.inl (s73.1,s73.2.1,aN .i64 s73.2.2.1 1,s73.2.2.2.1,s73.2.2.2.2.1,s73.2.2.2.2.2.1,s73.2.2.2.2.2.2.1,()))))) none) none)
 (Option.map Sum.inr ((m25 s73.2.2.2.2.2.2.1).bind λy76 =>
 some (y76.1,()))))
 (a0.2.1,aD a0.2.1,0,a0.1.1,a0.1.2.1,a0.2.1,a0.2.2.1,()))
def i26:PI:=⟨26,[tS3],[.bool],fun(x:DS3×Unit)=>m26 x.1⟩
theorem b3t:PK i26:=pk (.d 2 (.s (.d 1 (.b (.l [] ⟨44,[(22,(.list .str)),(23,(.int .i64)),(24,(.int .i64))],[(1,.ptr 0 0 0)],[.box 55 [.d (.int .i64),.d (.int .i64),.d (.list .str),.d (.list tS1)]]⟩ .o))) .o)) Tryz.func26 (cP a3z (cP b3l (cP Ii (cP a3x c0)))) (by kernel_rfl) λx=>by kernel_rfl
def m15(a0:DS4):Option (Bool×Unit) :=
 cond (iLt 12 (aD a0.2.1))
 (some (false,()))
 ((m25 a0.1).bind λy78 =>
 cond (not y78.1)
 (some (false,()))
 (bH (S:=(List DS3)×Int×Int×Unit) (R:=Bool×Unit) (λs79 =>
 cond (iLt s79.2.2.1 s79.2.1)
 (cond (bnd s79.2.2.1 (aD s79.1))
 ((m26 ((((atI s79.1 s79.2.2.1 zS3).1).1,((atI s79.1 s79.2.2.1 zS3).1).2.1,()),(atI s79.1 s79.2.2.1 zS3).2.1,(atI s79.1 s79.2.2.1 zS3).2.2.1,())).bind λy80 =>
 cond (not y80.1)
 (some (.inr (false,())))
 (some (.inl (s79.1,s79.2.1,aN .i64 s79.2.2.1 1,())))) none)
 (some (.inr (true,()))))
 (a0.2.1,aD a0.2.1,0,())))
def i15:PI:=⟨15,[tS4],[.bool],fun(x:DS4×Unit)=>m15 x.1⟩
theorem b3x:PK i15:=pk (.d 2 (.s (.d 1 (.b (.l [] ⟨26,[(16,(.list tS3)),(17,(.int .i64)),(18,(.int .i64))],[],[]⟩ .o))) .o)) Tryz.func15 (cP a3z (cP b3t c0)) (by kernel_rfl) λx=>by kernel_rfl
def m38(a0:Int)(a1:Int)(a2:List ByteArray)(a3:List Int):Option (Int×Int×(List ByteArray)×(List Int)×(List aB)×Unit) :=
 bH (S:=Int×Int×Int×Int×(List ByteArray)×(List Int)×(List aB)×Unit) (R:=Int×Int×(List ByteArray)×(List Int)×(List aB)×Unit) (λs87 =>
 cond (iLt s87.2.1 s87.1)
 (cond (bnd s87.2.1 (aD s87.2.2.2.2.1))
 (cond (inB (Int.toNat s87.2.1) s87.2.2.2.2.1)
 (cond (fits (List.length s87.2.2.2.2.2.2.1+List.length ([(1,List.getD s87.2.2.2.2.1 (Int.toNat s87.2.1) ByteArray.empty,0,0,())]:List aB)) 40)
 (some (.inl (s87.1,aN .i64 s87.2.1 1,s87.2.2.1,s87.2.2.2.1,s87.2.2.2.2.1,s87.2.2.2.2.2.1,s87.2.2.2.2.2.2.1++([(1,List.getD s87.2.2.2.2.1 (Int.toNat s87.2.1) ByteArray.empty,0,0,())]:List aB),()))) none) none) none)
 (some (.inr (s87.2.2.1,s87.2.2.2.1,s87.2.2.2.2.1,s87.2.2.2.2.2.1,s87.2.2.2.2.2.2.1,()))))
 (aD a2,0,a0,a1,a2,a3,([]:List aB),())
def b4j:Sh:=⟨2,[],[(0,.ptr 0 0 0),(1,.row 1)],[.box 82 [.me 0,.row 2,.d (.int .i64),.nil,.d (.int .i64)],.row 9 .str false,.row 5 (.int .u8) false]⟩
def b22:Sh:=⟨0,[],[],[.box 82 [.me 0,.row 2,.d (.int .i64),.row 3,.d (.int .i64)],.row 9 .str false,.row 5 (.int .u8) false,.row 97 dS false]⟩
def h38:HI:=⟨38,b4j,b22,fun(x:Int×Int×(List ByteArray)×(List Int)×Unit)=>m38 x.1 x.2.1 x.2.2.1 x.2.2.2.1,[1]⟩
theorem a3D:HK h38:=hk (.d 1 (.b (.l [.ghc 0 3 97 dS] ⟨24,[(7,(.int .i64)),(8,(.int .i64))],[(0,.ptr 0 0 0),(6,.row 1)],[.box 82 [.me 0,.row 2,.d (.int .i64),.row 3,.d (.int .i64)],.row 9 .str false,.row 5 (.int .u8) false,.row 97 dS false]⟩ .o))) [.ghc 0 3 97 dS] Tryz.func38 c0 (by kernel_rfl) λx=>by kernel_rfl
def m40(a0:ByteArray)(a1:Int)(a2:Int)(a3:List Int)(a4:List aB):Option (Int×Int×(List Int)×(List aB)×Unit) :=
 cond (fits (List.length a4+List.length ([(4,a0,0,0,())]:List aB)) 40)
 (some (a1,a2,a3,a4++([(4,a0,0,0,())]:List aB),())) none
def b4h:Sh:=⟨2,[(1,.str)],[(0,.ptr 0 0 0)],[.box 82 [.me 0,.row 1,.d (.int .i64),.row 2,.d (.int .i64)],.row 5 (.int .u8) false,.row 97 dS false]⟩
def b2Y:Sh:=⟨0,[],[],[.box 82 [.me 0,.row 1,.d (.int .i64),.row 2,.d (.int .i64)],.row 5 (.int .u8) false,.row 97 dS false]⟩
def h40:HI:=⟨40,b4h,b2Y,fun(x:ByteArray×Int×Int×(List Int)×(List aB)×Unit)=>m40 x.1 x.2.1 x.2.2.1 x.2.2.2.1 x.2.2.2.2.1,[]⟩
theorem Uc:HK h40:=hk .o [] Tryz.func40 c0 (by kernel_rfl) λx=>by kernel_rfl
def vZ(a0:Int)(a1:Int)(a2:List ByteArray)(a3:List Int)(a4:List aB):Option (Int×Int×(List ByteArray)×(List Int)×(List aB)×Unit) :=
 bH (S:=Int×Int×Int×Int×(List ByteArray)×(List Int)×(List aB)×Unit) (R:=Int×Int×(List ByteArray)×(List Int)×(List aB)×Unit) (λs92 =>
 cond (iLt s92.2.1 s92.1)
 (cond (bnd s92.2.1 (aD s92.2.2.2.2.1))
 (cond (inB (Int.toNat s92.2.1) s92.2.2.2.2.1)
 (cond (fits (List.length s92.2.2.2.2.2.2.1+List.length ([(1,List.getD s92.2.2.2.2.1 (Int.toNat s92.2.1) ByteArray.empty,0,0,())]:List aB)) 40)
 (some (.inl (s92.1,aN .i64 s92.2.1 1,s92.2.2.1,s92.2.2.2.1,s92.2.2.2.2.1,s92.2.2.2.2.2.1,s92.2.2.2.2.2.2.1++([(1,List.getD s92.2.2.2.2.1 (Int.toNat s92.2.1) ByteArray.empty,0,0,())]:List aB),()))) none) none) none)
 (some (.inr (s92.2.2.1,s92.2.2.2.1,s92.2.2.2.2.1,s92.2.2.2.2.2.1,s92.2.2.2.2.2.2.1,()))))
 (aD a2,0,a0,a1,a2,a3,a4,())
def a5U:Sh:=⟨2,[],[(0,.ptr 0 0 0),(1,.row 1)],[.box 82 [.me 0,.row 2,.d (.int .i64),.row 3,.d (.int .i64)],.row 9 .str false,.row 5 (.int .u8) false,.row 97 dS false]⟩
def a5m:Sh:=⟨0,[],[],[.box 82 [.me 0,.row 2,.d (.int .i64),.row 3,.d (.int .i64)],.row 9 .str false,.row 5 (.int .u8) false,.row 97 dS false]⟩
def b4B:HI:=⟨38,a5U,a5m,fun(x:Int×Int×(List ByteArray)×(List Int)×(List aB)×Unit)=>vZ x.1 x.2.1 x.2.2.1 x.2.2.2.1 x.2.2.2.2.1,[1]⟩
theorem JE:HK b4B:=hk (.d 1 (.b (.l [] ⟨24,[(7,(.int .i64)),(8,(.int .i64))],[(0,.ptr 0 0 0),(6,.row 1)],[.box 82 [.me 0,.row 2,.d (.int .i64),.row 3,.d (.int .i64)],.row 9 .str false,.row 5 (.int .u8) false,.row 97 dS false]⟩ .o))) [] Tryz.func38 c0 (by kernel_rfl) λx=>by kernel_rfl
def uq(a0:ByteArray):Option (aB×Unit) :=
 some ((1,a0,0,0,()),())
def b7P:PI:=⟨172,[.str],[dS],fun(x:ByteArray×Unit)=>uq x.1⟩
theorem a9C:PK b7P:=pk .o Tryz.func172 c0 (by kernel_rfl) λx=>by kernel_rfl
def Ba(a0:ByteArray):Option (aB×Unit) :=
 some ((4,a0,0,0,()),())
def i173:PI:=⟨173,[.str],[dS],fun(x:ByteArray×Unit)=>Ba x.1⟩
theorem Xt:PK i173:=pk .o Tryz.func173 c0 (by kernel_rfl) λx=>by kernel_rfl
def a1N(a0:Int):Option (aB×Unit) :=
 some ((2,(bs []),a0,0,()),())
def b7O:PI:=⟨174,[(.int .i64)],[dS],fun(x:Int×Unit)=>a1N x.1⟩
theorem a9B:PK b7O:=pk .o Tryz.func174 c0 (by kernel_rfl) λx=>by kernel_rfl
def JU(self:(DS0×(List aB)×Unit)->Option ((List aB)×Unit))(a0:Int)(a1:DS0)(a2:List aB):Option ((List aB)×Unit) :=
 cond (or (bnd a1.1 ((9:Nat):Int)) (not (bEq (cond (iEq a1.1 7) true (iEq a1.1 8)) true)))
 (cond (or (bnd a0 ((9:Nat):Int)) (not (bEq (cond (iEq a1.1 7) true (iEq a1.1 8)) true)))
 (cond (cond (cond (iEq a1.1 7) true (iEq a1.1 8)) (iLe ((atI opsL a1.1 (ByteArray.empty,false,0,0,0,())).2.2.2.2.1) ((atI opsL a0 (ByteArray.empty,false,0,0,0,())).2.2.2.2.1)) false)
 ((Ba (bs [40])).bind λa8h =>
 cond (fits (List.length a2+List.length ([a8h.1]:List aB)) 40)
 ((self ((a1.1,a1.2.1,a1.2.2.1,a1.2.2.2.1,a1.2.2.2.2.1,a1.2.2.2.2.2.1,()),a2++([a8h.1]:List aB),())).bind λy150 =>
 (Ba (bs [41])).bind λy151 =>
 cond (fits (List.length y150.1+List.length ([y151.1]:List aB)) 40)
 (some (y150.1++([y151.1]:List aB),())) none) none)
 ((self ((a1.1,a1.2.1,a1.2.2.1,a1.2.2.2.1,a1.2.2.2.2.1,a1.2.2.2.2.2.1,()),a2,())).bind λy152 =>
 some (y152.1,()))) none) none
def b07:Sh:=⟨3,[(1,(.int .i64)),(2,tS0)],[(0,.row 0)],[.row 97 dS false]⟩
def a9k:Sh:=⟨1,[],[(0,.row 0)],[.row 97 dS false]⟩
def b8E(self:(DS0×(List aB)×Unit)->Option ((List aB)×Unit)):HI:=⟨175,b07,a9k,fun(x:Int×DS0×(List aB)×Unit)=>JU self x.1 x.2.1 x.2.2.1,[]⟩
theorem b0g(self:(DS0×(List aB)×Unit)->Option ((List aB)×Unit))(hr:HK ⟨151,⟨2,[(1,tS0)],[(0,.row 0)],[.row 97 dS false]⟩,⟨1,[],[(0,.row 0)],[.row 97 dS false]⟩,self,[]⟩):HK (b8E self):=hk (.d 1 (.s (.d 1 (.c (.s (.u [0]) .o) .o)) .o)) [] Tryz.func175 (cH hr (cP Xt c0)) (by kernel_rfl) λx=>by kernel_rfl
def Mj(self:(DS0×(List aB)×Unit)->Option ((List aB)×Unit))(a0:DS0)(a1:List aB):Option ((List aB)×Unit) :=
 cond (bnd a0.1 ((9:Nat):Int))
 (cond (iEq a0.1 1)
 ((uq ((atI opsL a0.1 (ByteArray.empty,false,0,0,0,())).1)).bind λa8w =>
 cond (fits (List.length a1+List.length ([a8w.1]:List aB)) 40)
 (some (a1++([a8w.1]:List aB),())) none)
 (cond (iEq a0.1 2)
 ((uq ((atI opsL a0.1 (ByteArray.empty,false,0,0,0,())).1)).bind λa8v =>
 cond (fits (List.length a1+List.length ([a8v.1]:List aB)) 40)
 (some (a1++([a8v.1]:List aB),())) none)
 (cond (iEq a0.1 3)
 ((uq a0.2.1).bind λa8u =>
 cond (fits (List.length a1+List.length ([a8u.1]:List aB)) 40)
 (some (a1++([a8u.1]:List aB),())) none)
 (cond (iEq a0.1 4)
 ((uq a0.2.1).bind λa8t =>
 (uq ((atI opsL a0.1 (ByteArray.empty,false,0,0,0,())).1)).bind λa8s =>
 (Ba (bs [40])).bind λa8r =>
 cond (fits (List.length a1+List.length ([a8t.1,a8s.1,a8r.1]:List aB)) 40)
 (bH (S:=(List ByteArray)×Int×Int×(List aB)×Unit) (R:=(List aB)×Unit) (λou =>
 cond (iLt ou.2.2.1 ou.2.1)
 (cond (bnd ou.2.2.1 (aD ou.1))
 (cond (iLt 0 ou.2.2.1)
 ((Ba (bs [44])).bind λa0n =>
 cond (fits (List.length ou.2.2.2.1+List.length ([a0n.1]:List aB)) 40)
 ((uq (atI ou.1 ou.2.2.1 ByteArray.empty)).bind λa8q =>
 cond (fits (List.length (ou.2.2.2.1++([a0n.1]:List aB))+List.length ([a8q.1]:List aB)) 40)
 (some (.inl (ou.1,ou.2.1,aN .i64 ou.2.2.1 1,(ou.2.2.2.1++([a0n.1]:List aB))++([a8q.1]:List aB),()))) none) none)
 ((uq (atI ou.1 ou.2.2.1 ByteArray.empty)).bind λa8p =>
 cond (fits (List.length ou.2.2.2.1+List.length ([a8p.1]:List aB)) 40)
 (some (.inl (ou.1,ou.2.1,aN .i64 ou.2.2.1 1,ou.2.2.2.1++([a8p.1]:List aB),()))) none)) none)
 (Option.map Sum.inr ((Ba (bs [41])).bind λa8o =>
 cond (fits (List.length ou.2.2.2.1+List.length ([a8o.1]:List aB)) 40)
 (some (ou.2.2.2.1++([a8o.1]:List aB),())) none)))
 (a0.2.2.1,aD a0.2.2.1,0,a1++([a8t.1,a8s.1,a8r.1]:List aB),())) none)
 (cond (iEq a0.1 5)
 ((uq a0.2.1).bind λa8n =>
 (uq ((atI opsL a0.1 (ByteArray.empty,false,0,0,0,())).1)).bind λa8m =>
 (a1N a0.2.2.2.1).bind λa8l =>
 (uq (bs [116,111])).bind λa8k =>
 (a1N a0.2.2.2.2.1).bind λa8j =>
 cond (fits (List.length a1+List.length ([a8n.1,a8m.1,a8l.1,a8k.1,a8j.1]:List aB)) 40)
 (some (a1++([a8n.1,a8m.1,a8l.1,a8k.1,a8j.1]:List aB),())) none)
 (cond (iEq a0.1 6)
 ((uq ((atI opsL a0.1 (ByteArray.empty,false,0,0,0,())).1)).bind λa8i =>
 cond (fits (List.length a1+List.length ([a8i.1]:List aB)) 40)
 (cond (and (bnd 0 (aD a0.2.2.2.2.2.1)) (qj (atI a0.2.2.2.2.2.1 0 AV.any)))
 ((JU self a0.1 (aV (atI a0.2.2.2.2.2.1 0 AV.any)) (a1++([a8i.1]:List aB))).bind λy153 =>
 some (y153.1,())) none) none)
 (bH (S:=(List AV)×Int×Int×(List aB)×Int×ByteArray×(List ByteArray)×Int×Int×(List AV)×ByteArray×Bool×Int×Int×Int×Unit) (R:=(List aB)×Unit) (λeG =>
 cond (iLt eG.2.2.1 eG.2.1)
 (cond (and (bnd eG.2.2.1 (aD eG.1)) (qj (atI eG.1 eG.2.2.1 AV.any)))
 (cond (iLt 0 eG.2.2.1)
 ((uq eG.2.2.2.2.2.2.2.2.2.2.1).bind λa8g =>
 cond (fits (List.length eG.2.2.2.1+List.length ([a8g.1]:List aB)) 40)
 ((JU self eG.2.2.2.2.1 ((aV (atI eG.1 eG.2.2.1 AV.any)).1,(aV (atI eG.1 eG.2.2.1 AV.any)).2.1,(aV (atI eG.1 eG.2.2.1 AV.any)).2.2.1,(aV (atI eG.1 eG.2.2.1 AV.any)).2.2.2.1,(aV (atI eG.1 eG.2.2.1 AV.any)).2.2.2.2.1,(aV (atI eG.1 eG.2.2.1 AV.any)).2.2.2.2.2.1,()) (eG.2.2.2.1++([a8g.1]:List aB))).bind λb67 =>
 some (.inl (eG.1,eG.2.1,aN .i64 eG.2.2.1 1,b67.1,eG.2.2.2.2.1,eG.2.2.2.2.2.1,eG.2.2.2.2.2.2.1,eG.2.2.2.2.2.2.2.1,eG.2.2.2.2.2.2.2.2.1,eG.2.2.2.2.2.2.2.2.2.1,eG.2.2.2.2.2.2.2.2.2.2.1,eG.2.2.2.2.2.2.2.2.2.2.2.1,eG.2.2.2.2.2.2.2.2.2.2.2.2.1,eG.2.2.2.2.2.2.2.2.2.2.2.2.2.1,eG.2.2.2.2.2.2.2.2.2.2.2.2.2.2.1,()))) none)
 ((JU self eG.2.2.2.2.1 ((aV (atI eG.1 eG.2.2.1 AV.any)).1,(aV (atI eG.1 eG.2.2.1 AV.any)).2.1,(aV (atI eG.1 eG.2.2.1 AV.any)).2.2.1,(aV (atI eG.1 eG.2.2.1 AV.any)).2.2.2.1,(aV (atI eG.1 eG.2.2.1 AV.any)).2.2.2.2.1,(aV (atI eG.1 eG.2.2.1 AV.any)).2.2.2.2.2.1,()) eG.2.2.2.1).bind λy157 =>
 some (.inl (eG.1,eG.2.1,aN .i64 eG.2.2.1 1,y157.1,eG.2.2.2.2.1,eG.2.2.2.2.2.1,eG.2.2.2.2.2.2.1,eG.2.2.2.2.2.2.2.1,eG.2.2.2.2.2.2.2.2.1,eG.2.2.2.2.2.2.2.2.2.1,eG.2.2.2.2.2.2.2.2.2.2.1,eG.2.2.2.2.2.2.2.2.2.2.2.1,eG.2.2.2.2.2.2.2.2.2.2.2.2.1,eG.2.2.2.2.2.2.2.2.2.2.2.2.2.1,eG.2.2.2.2.2.2.2.2.2.2.2.2.2.2.1,())))) none)
 (some (.inr (eG.2.2.2.1,()))))
 (a0.2.2.2.2.2.1,aD a0.2.2.2.2.2.1,0,a1,a0.1,a0.2.1,a0.2.2.1,a0.2.2.2.1,a0.2.2.2.2.1,a0.2.2.2.2.2.1,(atI opsL a0.1 (ByteArray.empty,false,0,0,0,())).1,(atI opsL a0.1 (ByteArray.empty,false,0,0,0,())).2.1,(atI opsL a0.1 (ByteArray.empty,false,0,0,0,())).2.2.1,(atI opsL a0.1 (ByteArray.empty,false,0,0,0,())).2.2.2.1,(atI opsL a0.1 (ByteArray.empty,false,0,0,0,())).2.2.2.2.1,())))))))) none
def a1O(a0:DS0)(a1:List aB):Option ((List aB)×Unit):=eT (λself (x:DS0×(List aB)×Unit)=>Mj self x.1 x.2.1) 10000 (a0,a1,())
def Yb:Sh:=⟨2,[(1,tS0)],[(0,.row 0)],[.row 97 dS false]⟩
def Ol:Sh:=⟨1,[],[(0,.row 0)],[.row 97 dS false]⟩
def b8G:HI:=⟨151,Yb,Ol,fun(x:DS0×(List aB)×Unit)=>a1O x.1 x.2.1,[]⟩
theorem b0i:HK b8G:=pG 10000 (ish:=Yb) (osh:=Ol) (G:=λself (x:DS0×(List aB)×Unit)=>Mj self x.1 x.2.1) (mU (f:=Tryz.f151) (by kernel_rfl)) λself hr=>hk (.d 2 (.s (.d 1 (.b (.d 1 (.c .o (.d 1 (.c .o (.d 1 (.c (.d 1 (.s (.d 1 (.b (.l [] ⟨125,[(46,(.list .str)),(47,(.int .i64)),(48,(.int .i64))],[(0,.row 0)],[.row 97 dS false]⟩ .o))) .o)) (.d 1 (.c .o (.d 1 (.c (.s (.u [0]) .o) .o)))))))))))) (.s (.d 1 (.b (.l [] ⟨125,[(103,(.rl 34 6)),(104,(.int .i64)),(105,(.int .i64))],[(0,.row 0),(3,.ptr 1 0 0),(5,.ptr 2 0 0)],[.row 97 dS false,.box 34 [.d (.int .i64),.d .str,.d (.list .str),.d (.int .i64),.d (.int .i64),.d (.rl 34 6)],.box 197 [.d .str,.d .bool,.d (.int .i64),.d (.int .i64),.d (.int .i64)]]⟩ .o))) .o))) [] Tryz.func151 (cH hr (cP a9C (cP Xt (cP a9B (cH (b0g self hr) c0))))) (by kernel_rfl) λx=>by kernel_rfl
def MF(a0:DS0):Option ((List aB)×Unit):=a1O a0 ([]:List aB)
def b4C:HI:=⟨151,⟨2,[(1,tS0)],[(0,.nil)],[]⟩,Ol,fun(x:DS0×Unit)=>MF x.1,[]⟩
theorem a5w:HK b4C:=a5V (by decide) b0i
theorem QV:PK a3T:=a5r (by rfl)
def a1L(a0:Int):Option (Bool×Unit) :=
 some (cond (iLe 0 a0) (iLe a0 876599) false,())
def b7F:PI:=⟨188,[(.int .i64)],[.bool],fun(x:Int×Unit)=>a1L x.1⟩
theorem a9u:PK b7F:=pk .o Tryz.func188 c0 (by kernel_rfl) λx=>by kernel_rfl
def JR(a0:Int):Option (Int×Unit) :=
 cond (iNe 4 0)
 (cond (iEq (iE a0 4) 0)
 (some (366,()))
 (some (365,()))) none
def b7J:PI:=⟨181,[(.int .i64)],[(.int .i64)],fun(x:Int×Unit)=>JR x.1⟩
theorem Xq:PK b7J:=pk .o Tryz.func181 c0 (by kernel_rfl) λx=>by kernel_rfl
def Gq(a0:Int)(a1:Int):Option (Int×Unit) :=
 cond (or (iNe 4 0) (not (bEq (iEq a1 2) true)))
 (cond (cond (iEq a1 2) (iEq (iE a0 4) 0) false)
 (some (29,()))
 (cond (bnd (dz .i64 a1 1) ((12:Nat):Int))
 (some (atI ([31,28,31,30,31,30,31,31,30,31,30,31]:List Int) (dz .i64 a1 1) 0,())) none)) none
def b7K:PI:=⟨180,[(.int .i64),(.int .i64)],[(.int .i64)],fun(x:Int×Int×Unit)=>Gq x.1 x.2.1⟩
theorem Xr:PK b7K:=pk .o Tryz.func180 c0 (by kernel_rfl) λx=>by kernel_rfl
def Uo(a0:Int):Option (H8×Int×Int×Unit) :=
 (a1L a0).bind λb65 =>
 cond (not b65.1)
 (some ((0,0,0,()),0,1,()))
 (cond (iNe 24 0)
 ((JR 2000).bind λb63 =>
 bH (S:=Int×Int×Int×Int×Int×Int×Int×Int×Unit) (R:=H8×Int×Int×Unit) (λqb =>
 cond (iLe qb.2.2.2.2.1 qb.2.1)
 ((JR (aN .i64 qb.2.2.1 1)).bind λb62 =>
 some (.inl (qb.1,dz .i64 qb.2.1 qb.2.2.2.2.1,aN .i64 qb.2.2.1 1,qb.2.2.2.1,b62.1,qb.2.2.2.2.2.1,qb.2.2.2.2.2.2.1,qb.2.2.2.2.2.2.2.1,())))
 (Option.map Sum.inr ((Gq qb.2.2.1 qb.2.2.2.1).bind λb61 =>
 bH (S:=Int×Int×Int×Int×Int×Int×Int×Int×Unit) (R:=H8×Int×Int×Unit) (λuh =>
 cond (iLe uh.2.2.2.2.1 uh.2.1)
 ((Gq uh.2.2.1 (aN .i64 uh.2.2.2.1 1)).bind λb60 =>
 some (.inl (uh.1,dz .i64 uh.2.1 uh.2.2.2.2.1,uh.2.2.1,aN .i64 uh.2.2.2.1 1,b60.1,uh.2.2.2.2.2.1,uh.2.2.2.2.2.2.1,uh.2.2.2.2.2.2.2.1,())))
 (Option.map Sum.inr (cond (iNe 24 0)
 (some ((uh.2.2.1,uh.2.2.2.1,aN .i64 uh.2.1 1,()),iE uh.1 24,0,())) none)))
 (qb.1,qb.2.1,qb.2.2.1,qb.2.2.2.1,b61.1,qb.2.2.2.2.2.1,qb.2.2.2.2.2.2.1,qb.2.2.2.2.2.2.2.1,()))))
 (a0,yU .i64 a0 24,2000,1,b63.1,0,0,0,())) none)
def b7N:PI:=⟨177,[(.int .i64)],[a0B,(.int .i64),(.int .i64)],fun(x:Int×Unit)=>Uo x.1⟩
theorem a9A:PK b7N:=pk (.d 3 (.s (.d 1 (.b (.l [] ⟨49,[(0,(.int .i64)),(5,(.int .i64)),(6,(.int .i64)),(7,(.int .i64)),(8,(.int .i64))],[(2,.ptr 0 0 0)],[.box 183 [.d (.int .i64),.d (.int .i64),.d (.int .i64)]]⟩ .o))) (.s (.d 1 (.b (.l [] ⟨49,[(0,(.int .i64)),(5,(.int .i64)),(6,(.int .i64)),(7,(.int .i64)),(9,(.int .i64))],[(2,.ptr 0 0 0)],[.box 183 [.d (.int .i64),.d (.int .i64),.d (.int .i64)]]⟩ .o))) .o))) Tryz.func177 (cP Xr (cP Xq (cP a9u c0))) (by kernel_rfl) λx=>by kernel_rfl
theorem a9q:PK b1d:=b0f
def yT(a0:Int)(a1:Int):Option (ByteArray×Unit) :=
 (yc a0).bind λa0m =>
 (JN (bs [48]) (xQ 0 (dz .i64 a1 (sLen a0m.1)))).bind λa8f =>
 cond (iK a8f.1 a0m.1)
 (some (dx a8f.1 a0m.1,())) none
def b7M:PI:=⟨178,[(.int .i64),(.int .i64)],[.str],fun(x:Int×Int×Unit)=>yT x.1 x.2.1⟩
theorem a9z:PK b7M:=pk .o Tryz.func178 (cP QV (cP a9q c0)) (by kernel_rfl) λx=>by kernel_rfl
def Gr(a0:Int):Option (ByteArray×Int×Unit) :=
 (Uo a0).bind λFX =>
 cond (iNe FX.2.2.1 0)
 (some ((bs []),FX.2.2.1,()))
 ((yT FX.1.1 4).bind λFW =>
 cond (iK FW.1 (bs [45]))
 ((yT FX.1.2.1 2).bind λJm =>
 cond (iK (dx FW.1 (bs [45])) Jm.1)
 (cond (iK (dx (dx FW.1 (bs [45])) Jm.1) (bs [45]))
 ((yT FX.1.2.2.1 2).bind λSI =>
 cond (iK (dx (dx (dx FW.1 (bs [45])) Jm.1) (bs [45])) SI.1)
 (cond (iNe FX.2.1 0)
 ((yT FX.2.1 2).bind λa0l =>
 cond (iK (bs [84]) a0l.1)
 (cond (iK (dx (dx (dx (dx FW.1 (bs [45])) Jm.1) (bs [45])) SI.1) (dx (bs [84]) a0l.1))
 (some (dx (dx (dx (dx (dx FW.1 (bs [45])) Jm.1) (bs [45])) SI.1) (dx (bs [84]) a0l.1),0,())) none) none)
 (some (dx (dx (dx (dx FW.1 (bs [45])) Jm.1) (bs [45])) SI.1,0,()))) none) none) none) none)
def b7X:PI:=⟨153,[(.int .i64)],[.str,(.int .i64)],fun(x:Int×Unit)=>Gr x.1⟩
theorem a9N:PK b7X:=pk .o Tryz.func153 (cP a9A (cP a9z c0)) (by kernel_rfl) λx=>by kernel_rfl
def DV(a0:Int):Option (Bool×Unit) :=
 cond (iEq a0 59)
 (some (true,()))
 (cond (iEq a0 58)
 (some (true,()))
 (cond (iEq a0 44)
 (some (true,()))
 (cond (iEq a0 40)
 (some (true,()))
 (cond (iEq a0 41)
 (some (true,()))
 (some (false,()))))))
def b78:PI:=⟨122,[(.int .u8)],[.bool],fun(x:Int×Unit)=>DV x.1⟩
theorem XD:PK b78:=pk .o Tryz.func122 c0 (by kernel_rfl) λx=>by kernel_rfl
def DW(a0:aB):Option (ByteArray×Int×Unit) :=
 cond (iEq a0.1 1)
 (cond (iNe a0.2.2.1 0)
 (some ((bs []),20,()))
 (cond (iEq a0.1 1)
 ((m95 a0.2.1).bind λy160 =>
 cond (not y160.1)
 (some ((bs []),6,()))
 (some (a0.2.1,0,())))
 (cond (iEq a0.1 2)
 (cond (cond (iLt a0.2.2.1 (-17592186044416)) true (iLt 17592186044416 a0.2.2.1))
 (some ((bs []),1,()))
 ((yc a0.2.2.1).bind λb66 =>
 some (b66.1,0,())))
 (cond (iEq a0.1 3)
 ((Gr a0.2.2.1).bind λSH =>
 cond (iNe SH.2.1 0)
 (some ((bs []),SH.2.1,()))
 (cond (iK (bs [64]) SH.1)
 (some (dx (bs [64]) SH.1,0,())) none))
 (cond (or (bnd 0 (sLen a0.2.1)) (not (bEq (iNe (sLen a0.2.1) 1) false)))
 (cond (iNe (sLen a0.2.1) 1)
 (some ((bs []),5,()))
 ((DV (sAt a0.2.1 0)).bind λb6Z =>
 cond (not b6Z.1)
 (some ((bs []),5,()))
 (some (a0.2.1,0,())))) none)))))
 (cond (iEq a0.1 4)
 (cond (iNe a0.2.2.1 0)
 (some ((bs []),20,()))
 (cond (iEq a0.1 1)
 ((m95 a0.2.1).bind λb6Y =>
 cond (not b6Y.1)
 (some ((bs []),6,()))
 (some (a0.2.1,0,())))
 (cond (iEq a0.1 2)
 (cond (cond (iLt a0.2.2.1 (-17592186044416)) true (iLt 17592186044416 a0.2.2.1))
 (some ((bs []),1,()))
 ((yc a0.2.2.1).bind λb6X =>
 some (b6X.1,0,())))
 (cond (iEq a0.1 3)
 ((Gr a0.2.2.1).bind λSG =>
 cond (iNe SG.2.1 0)
 (some ((bs []),SG.2.1,()))
 (cond (iK (bs [64]) SG.1)
 (some (dx (bs [64]) SG.1,0,())) none))
 (cond (or (bnd 0 (sLen a0.2.1)) (not (bEq (iNe (sLen a0.2.1) 1) false)))
 (cond (iNe (sLen a0.2.1) 1)
 (some ((bs []),5,()))
 ((DV (sAt a0.2.1 0)).bind λb6W =>
 cond (not b6W.1)
 (some ((bs []),5,()))
 (some (a0.2.1,0,())))) none)))))
 (cond (iEq a0.1 2)
 (cond (not (sEq a0.2.1 (bs [])))
 (some ((bs []),20,()))
 (cond (iEq a0.1 1)
 ((m95 a0.2.1).bind λb6V =>
 cond (not b6V.1)
 (some ((bs []),6,()))
 (some (a0.2.1,0,())))
 (cond (iEq a0.1 2)
 (cond (cond (iLt a0.2.2.1 (-17592186044416)) true (iLt 17592186044416 a0.2.2.1))
 (some ((bs []),1,()))
 ((yc a0.2.2.1).bind λb6U =>
 some (b6U.1,0,())))
 (cond (iEq a0.1 3)
 ((Gr a0.2.2.1).bind λSF =>
 cond (iNe SF.2.1 0)
 (some ((bs []),SF.2.1,()))
 (cond (iK (bs [64]) SF.1)
 (some (dx (bs [64]) SF.1,0,())) none))
 (cond (or (bnd 0 (sLen a0.2.1)) (not (bEq (iNe (sLen a0.2.1) 1) false)))
 (cond (iNe (sLen a0.2.1) 1)
 (some ((bs []),5,()))
 ((DV (sAt a0.2.1 0)).bind λb6T =>
 cond (not b6T.1)
 (some ((bs []),5,()))
 (some (a0.2.1,0,())))) none)))))
 (cond (iEq a0.1 3)
 (cond (not (sEq a0.2.1 (bs [])))
 (some ((bs []),20,()))
 (cond (iEq a0.1 1)
 ((m95 a0.2.1).bind λb6S =>
 cond (not b6S.1)
 (some ((bs []),6,()))
 (some (a0.2.1,0,())))
 (cond (iEq a0.1 2)
 (cond (cond (iLt a0.2.2.1 (-17592186044416)) true (iLt 17592186044416 a0.2.2.1))
 (some ((bs []),1,()))
 ((yc a0.2.2.1).bind λb6R =>
 some (b6R.1,0,())))
 (cond (iEq a0.1 3)
 ((Gr a0.2.2.1).bind λSE =>
 cond (iNe SE.2.1 0)
 (some ((bs []),SE.2.1,()))
 (cond (iK (bs [64]) SE.1)
 (some (dx (bs [64]) SE.1,0,())) none))
 (cond (or (bnd 0 (sLen a0.2.1)) (not (bEq (iNe (sLen a0.2.1) 1) false)))
 (cond (iNe (sLen a0.2.1) 1)
 (some ((bs []),5,()))
 ((DV (sAt a0.2.1 0)).bind λb6Q =>
 cond (not b6Q.1)
 (some ((bs []),5,()))
 (some (a0.2.1,0,())))) none)))))
 (some ((bs []),11,())))))
def b8i:PI:=⟨106,[dS],[.str,(.int .i64)],fun(x:aB×Unit)=>DW x.1⟩
theorem b0b:PK b8i:=pk .o Tryz.func106 (cP XD (cP a9N (cP U8 (cP QV c0)))) (by kernel_rfl) λx=>by kernel_rfl
def UH(a0:aB)(a1:aB):Option (Bool×Unit) :=
 cond (cond (iEq a0.1 4) (sEq a0.2.1 (bs [40])) false)
 (some (false,()))
 (some (cond (iNe a1.1 4) true (sEq a1.2.1 (bs [40])),()))
def i107:PI:=⟨107,[dS,dS],[.bool],fun(x:aB×aB×Unit)=>UH x.1 x.2.1⟩
theorem b0a:PK i107:=pk .o Tryz.func107 c0 (by kernel_rfl) λx=>by kernel_rfl
def EZ(a0:List Int):Option ((List Int)×Unit):=some (a0,())
def a5X:HI:=V6 79 []
theorem KY:HK a5X:=QW 79 [] (by kernel_rfl)
def m70(a0:Int)(a1:List Int):Option ((List Int)×Unit) :=
 (EZ a1).bind λa8e =>
 cond (fits (List.length a8e.1+List.length ([a0]:List Int)) 1)
 (some (a8e.1++([a0]:List Int),())) none
def b4b:Sh:=⟨2,[(1,(.int .u8))],[(0,.ptr 0 0 0)],[.box 79 [.me 0,.row 1],.row 5 (.int .u8) false]⟩
def b2S:Sh:=⟨1,[],[],[.box 79 [.me 0,.row 1],.row 5 (.int .u8) false]⟩
def h70:HI:=⟨70,b4b,b2S,fun(x:Int×(List Int)×Unit)=>m70 x.1 x.2.1,[]⟩
theorem b3G:HK h70:=hk .o [] Tryz.func70 (cH KY c0) (by kernel_rfl) λx=>by kernel_rfl
def m69(a0:ByteArray)(a1:List Int):Option (Int×(List Int)×Unit) :=
 (EZ a1).bind λa8d =>
 cond (fits (List.length a8d.1+List.length (bS a0)) 1)
 (some (sLen a0,a8d.1++(bS a0),())) none
def b4c:Sh:=⟨2,[(1,.str)],[(0,.ptr 0 0 0)],[.box 79 [.me 0,.row 1],.row 5 (.int .u8) false]⟩
def b2T:Sh:=⟨2,[(0,(.int .i64))],[],[.box 79 [.me 0,.row 1],.row 5 (.int .u8) false]⟩
def h69:HI:=⟨69,b4c,b2T,fun(x:ByteArray×(List Int)×Unit)=>m69 x.1 x.2.1,[]⟩
theorem b3H:HK h69:=hk .o [] Tryz.func69 (cH KY c0) (by kernel_rfl) λx=>by kernel_rfl
def m71(a0:List Int):Option (Int×(List Int)×Unit) :=
 some (aD a0,a0,())
def b4a:Sh:=⟨1,[],[(0,.ptr 0 0 0)],[.box 79 [.me 0,.row 1],.row 5 (.int .u8) false]⟩
def b2R:Sh:=⟨1,[(0,(.int .i64))],[],[.box 79 [.me 0,.row 1],.row 5 (.int .u8) false]⟩
def h71:HI:=⟨71,b4a,b2R,fun(x:(List Int)×Unit)=>m71 x.1,[]⟩
theorem b3F:HK h71:=hk .o [] Tryz.func71 c0 (by kernel_rfl) λx=>by kernel_rfl
def Y2(a0:List Int):Option (ByteArray×(List Int)×Unit):=some (bsI a0,a0,())
def b1v:HI:=a14 79 []
theorem a1s:HK b1v:=XH 79 []
def m68(a0:List aB):Option (ByteArray×Int×Unit) :=
 cond (iLt 4000 (aD a0))
 (some ((bs []),4,()))
 (bH (S:=(List aB)×(List aB)×Int×Int×(List Int)×Unit) (R:=ByteArray×Int×Unit) (λiV =>
 cond (iLt iV.2.2.2.1 iV.2.2.1)
 (cond (bnd iV.2.2.2.1 (aD iV.2.1))
 ((DW ((atI iV.2.1 iV.2.2.2.1 wS).1,(atI iV.2.1 iV.2.2.2.1 wS).2.1,(atI iV.2.1 iV.2.2.2.1 wS).2.2.1,(atI iV.2.1 iV.2.2.2.1 wS).2.2.2.1,())).bind λNu =>
 cond (iNe Nu.2.1 0)
 (some (.inr ((bs []),Nu.2.1,())))
 (cond (or (bnd (dz .i64 iV.2.2.2.1 1) (aD iV.1)) (not (bEq (iLt 0 iV.2.2.2.1) true)))
 (cond (iLt 0 iV.2.2.2.1)
 ((UH (atI iV.1 (dz .i64 iV.2.2.2.1 1) wS) ((atI iV.2.1 iV.2.2.2.1 wS).1,(atI iV.2.1 iV.2.2.2.1 wS).2.1,(atI iV.2.1 iV.2.2.2.1 wS).2.2.1,(atI iV.2.1 iV.2.2.2.1 wS).2.2.2.1,())).bind λb6P =>
 cond b6P.1
 ((m70 32 iV.2.2.2.2.1).bind λb6O =>
 (m69 Nu.1 b6O.1).bind λb6N =>
 some (.inl (iV.1,iV.2.1,iV.2.2.1,aN .i64 iV.2.2.2.1 1,b6N.2.1,())))
 ((m69 Nu.1 iV.2.2.2.2.1).bind λb6M =>
 some (.inl (iV.1,iV.2.1,iV.2.2.1,aN .i64 iV.2.2.2.1 1,b6M.2.1,()))))
 ((m69 Nu.1 iV.2.2.2.2.1).bind λb6L =>
 some (.inl (iV.1,iV.2.1,iV.2.2.1,aN .i64 iV.2.2.2.1 1,b6L.2.1,())))) none)) none)
 (Option.map Sum.inr ((m71 iV.2.2.2.2.1).bind λa8c =>
 cond (iLt 16384 a8c.1)
 (some ((bs []),4,()))
 ((Y2 a8c.2.1).bind λb6K =>
 some (b6K.1,0,())))))
 (a0,a0,aD a0,0,([]:List Int),()))
def i68:PI:=⟨68,[(.list dS)],[.str,(.int .i64)],fun(x:(List aB)×Unit)=>m68 x.1⟩
theorem a3t:PK i68:=pk (.d 3 (.s (.d 1 (.b (.l [.ghc 4 1 5 (.int .u8)] ⟨45,[(0,(.list dS)),(12,(.list dS)),(13,(.int .i64)),(14,(.int .i64))],[(4,.ptr 0 0 0)],[.box 79 [.me 0,.row 1],.row 5 (.int .u8) false]⟩ .o))) .o)) Tryz.func68 (cP b0b (cP b0a (cH b3H (cH b3G (cH b3F (cH a1s c0)))))) (by kernel_rfl) λx=>by kernel_rfl
def UJ(a0:DS0):Option (ByteArray×Int×Unit) :=
 (m93 (a0.1,a0.2.1,a0.2.2.1,a0.2.2.2.1,a0.2.2.2.2.1,a0.2.2.2.2.2.1,())).bind λy95 =>
 cond (not y95.1)
 (some ((bs []),5,()))
 ((MF (a0.1,a0.2.1,a0.2.2.1,a0.2.2.2.1,a0.2.2.2.2.1,a0.2.2.2.2.2.1,())).bind λy158 =>
 (m68 y158.1).bind λa8b =>
 some (a8b.1,a8b.2.1,()))
def i105:PI:=⟨105,[tS0],[.str,(.int .i64)],fun(x:DS0×Unit)=>UJ x.1⟩
theorem b0c:PK i105:=pk .o Tryz.func105 (cP a3t (cP U9 (cH a5w c0))) (by kernel_rfl) λx=>by kernel_rfl
def m78(a0:Int):Option (Bool×Unit) :=
 some (iNe a0 10,())
def i78:PI:=⟨78,[(.int .u8)],[.bool],fun(x:Int×Unit)=>m78 x.1⟩
theorem b3i:PK i78:=pk .o Tryz.func78 c0 (by kernel_rfl) λx=>by kernel_rfl
def a3K(a0:ByteArray)(a1:Int)(a2:Unit):Option (Int×Unit) :=
 bH (S:=ByteArray×Int×Unit×Unit) (R:=Int×Unit) (λxA =>
 cond (or (bnd xA.2.1 (sLen xA.1)) (not (bEq (iLt xA.2.1 (sLen xA.1)) true)))
 (cond (iLt xA.2.1 (sLen xA.1))
 ((m78 (sAt xA.1 xA.2.1)).bind λb6J =>
 cond b6J.1
 (some (.inl (xA.1,aN .i64 xA.2.1 1,xA.2.2.1,())))
 (some (.inr (xA.2.1,()))))
 (some (.inr (xA.2.1,())))) none)
 (a0,a1,(),())
def b4t:PI:=⟨77,[.str,(.int .i64),(.fnc 78)],[(.int .i64)],fun(x:ByteArray×Int×Unit×Unit)=>a3K x.1 x.2.1 x.2.2.1⟩
theorem a5q:PK b4t:=pk (.d 1 (.s (.b (.l [] ⟨21,[(0,.str),(1,(.int .i64)),(2,(.fnc 78))],[],[]⟩ .o)) .o)) Tryz.func77 (cP b3i c0) (by kernel_rfl) λx=>by kernel_rfl
def a3J(a0:ByteArray)(a1:Int)(a2:Unit):Option (Int×Unit) :=
 bH (S:=ByteArray×Int×Unit×Unit) (R:=Int×Unit) (λxw =>
 cond (or (bnd xw.2.1 (sLen xw.1)) (not (bEq (iLt xw.2.1 (sLen xw.1)) true)))
 (cond (iLt xw.2.1 (sLen xw.1))
 ((Co (sAt xw.1 xw.2.1)).bind λb6F =>
 cond b6F.1
 (some (.inl (xw.1,aN .i64 xw.2.1 1,xw.2.2.1,())))
 (some (.inr (xw.2.1,()))))
 (some (.inr (xw.2.1,())))) none)
 (a0,a1,(),())
def b4s:PI:=⟨77,[.str,(.int .i64),(.fnc 118)],[(.int .i64)],fun(x:ByteArray×Int×Unit×Unit)=>a3J x.1 x.2.1 x.2.2.1⟩
theorem a5p:PK b4s:=pk (.d 1 (.s (.b (.l [] ⟨21,[(0,.str),(1,(.int .i64)),(2,(.fnc 118))],[],[]⟩ .o)) .o)) Tryz.func77 (cP Ij c0) (by kernel_rfl) λx=>by kernel_rfl
def UC(a0:ByteArray):Option (Int×Int×Unit) :=
 cond (bnd 0 (sLen a0))
 (cond (iEq (sAt a0 0) 45)
 (cond (nI 1 ((ByteArray.size a0:Nat):Int) (ByteArray.size a0))
 (cond (or (bnd 0 (sLen (lW 1 ((ByteArray.size a0:Nat):Int) a0))) (not (bEq (sEq (lW 1 ((ByteArray.size a0:Nat):Int) a0) (bs [])) false)))
 (cond (sEq (lW 1 ((ByteArray.size a0:Nat):Int) a0) (bs []))
 (some (0,5,()))
 (cond (iEq (sAt (lW 1 ((ByteArray.size a0:Nat):Int) a0) 0) 48)
 (cond (cond (iEq (sAt a0 0) 45) true (iLt 1 (sLen (lW 1 ((ByteArray.size a0:Nat):Int) a0))))
 (some (0,5,()))
 (bH (S:=Bool×ByteArray×Int×Int×Int×Unit) (R:=Int×Int×Unit) (λsK =>
 cond (iLt sK.2.2.2.2.1 sK.2.2.2.1)
 (cond (bnd sK.2.2.2.2.1 (sLen sK.2.1))
 (cond (iLt 17592186044416 (aN .i64 (uY .i64 sK.2.2.1 10) (IntKind.wrap .i64 (dz .u8 (sAt sK.2.1 sK.2.2.2.2.1) 48))))
 (some (.inr (0,1,())))
 (some (.inl (sK.1,sK.2.1,aN .i64 (uY .i64 sK.2.2.1 10) (IntKind.wrap .i64 (dz .u8 (sAt sK.2.1 sK.2.2.2.2.1) 48)),sK.2.2.2.1,aN .i64 sK.2.2.2.2.1 1,())))) none)
 (Option.map Sum.inr (cond sK.1
 (some (Bc .i64 sK.2.2.1,0,()))
 (some (sK.2.2.1,0,())))))
 (iEq (sAt a0 0) 45,lW 1 ((ByteArray.size a0:Nat):Int) a0,0,sLen (lW 1 ((ByteArray.size a0:Nat):Int) a0),0,())))
 (bH (S:=Bool×ByteArray×Int×Int×Int×Unit) (R:=Int×Int×Unit) (λsJ =>
 cond (iLt sJ.2.2.2.2.1 sJ.2.2.2.1)
 (cond (bnd sJ.2.2.2.2.1 (sLen sJ.2.1))
 (cond (iLt 17592186044416 (aN .i64 (uY .i64 sJ.2.2.1 10) (IntKind.wrap .i64 (dz .u8 (sAt sJ.2.1 sJ.2.2.2.2.1) 48))))
 (some (.inr (0,1,())))
 (some (.inl (sJ.1,sJ.2.1,aN .i64 (uY .i64 sJ.2.2.1 10) (IntKind.wrap .i64 (dz .u8 (sAt sJ.2.1 sJ.2.2.2.2.1) 48)),sJ.2.2.2.1,aN .i64 sJ.2.2.2.2.1 1,())))) none)
 (Option.map Sum.inr (cond sJ.1
 (some (Bc .i64 sJ.2.2.1,0,()))
 (some (sJ.2.2.1,0,())))))
 (iEq (sAt a0 0) 45,lW 1 ((ByteArray.size a0:Nat):Int) a0,0,sLen (lW 1 ((ByteArray.size a0:Nat):Int) a0),0,())))) none) none)
 (cond (or (bnd 0 (sLen a0)) (not (bEq (sEq a0 (bs [])) false)))
 (cond (sEq a0 (bs []))
 (some (0,5,()))
 (cond (iEq (sAt a0 0) 48)
 (cond (cond (iEq (sAt a0 0) 45) true (iLt 1 (sLen a0)))
 (some (0,5,()))
 (bH (S:=Bool×ByteArray×Int×Int×Int×Unit) (R:=Int×Int×Unit) (λsI =>
 cond (iLt sI.2.2.2.2.1 sI.2.2.2.1)
 (cond (bnd sI.2.2.2.2.1 (sLen sI.2.1))
 (cond (iLt 17592186044416 (aN .i64 (uY .i64 sI.2.2.1 10) (IntKind.wrap .i64 (dz .u8 (sAt sI.2.1 sI.2.2.2.2.1) 48))))
 (some (.inr (0,1,())))
 (some (.inl (sI.1,sI.2.1,aN .i64 (uY .i64 sI.2.2.1 10) (IntKind.wrap .i64 (dz .u8 (sAt sI.2.1 sI.2.2.2.2.1) 48)),sI.2.2.2.1,aN .i64 sI.2.2.2.2.1 1,())))) none)
 (Option.map Sum.inr (cond sI.1
 (some (Bc .i64 sI.2.2.1,0,()))
 (some (sI.2.2.1,0,())))))
 (iEq (sAt a0 0) 45,a0,0,sLen a0,0,())))
 (bH (S:=Bool×ByteArray×Int×Int×Int×Unit) (R:=Int×Int×Unit) (λsH =>
 cond (iLt sH.2.2.2.2.1 sH.2.2.2.1)
 (cond (bnd sH.2.2.2.2.1 (sLen sH.2.1))
 (cond (iLt 17592186044416 (aN .i64 (uY .i64 sH.2.2.1 10) (IntKind.wrap .i64 (dz .u8 (sAt sH.2.1 sH.2.2.2.2.1) 48))))
 (some (.inr (0,1,())))
 (some (.inl (sH.1,sH.2.1,aN .i64 (uY .i64 sH.2.2.1 10) (IntKind.wrap .i64 (dz .u8 (sAt sH.2.1 sH.2.2.2.2.1) 48)),sH.2.2.2.1,aN .i64 sH.2.2.2.2.1 1,())))) none)
 (Option.map Sum.inr (cond sH.1
 (some (Bc .i64 sH.2.2.1,0,()))
 (some (sH.2.2.1,0,())))))
 (iEq (sAt a0 0) 45,a0,0,sLen a0,0,())))) none)) none
def b8b:PI:=⟨119,[.str],[(.int .i64),(.int .i64)],fun(x:ByteArray×Unit)=>UC x.1⟩
theorem a92:PK b8b:=pk (.d 6 (.s (.d 1 (.b (.l [] ⟨50,[(4,.bool),(5,.str),(6,(.int .i64)),(31,(.int .i64)),(32,(.int .i64))],[],[]⟩ .o))) .o)) Tryz.func119 c0 (by kernel_rfl) λx=>by kernel_rfl
def b0X(a0:Int):Option (Bool×Unit) :=
 (Co a0).bind λb6E =>
 some (cond (cond b6E.1 true (iEq a0 45)) true (iEq a0 84),())
def b8a:PI:=⟨120,[(.int .u8)],[.bool],fun(x:Int×Unit)=>b0X x.1⟩
theorem a90:PK b8a:=pk .o Tryz.func120 (cP Ij c0) (by kernel_rfl) λx=>by kernel_rfl
def a3I(a0:ByteArray)(a1:Int)(a2:Unit):Option (Int×Unit) :=
 bH (S:=ByteArray×Int×Unit×Unit) (R:=Int×Unit) (λxu =>
 cond (or (bnd xu.2.1 (sLen xu.1)) (not (bEq (iLt xu.2.1 (sLen xu.1)) true)))
 (cond (iLt xu.2.1 (sLen xu.1))
 ((b0X (sAt xu.1 xu.2.1)).bind λb6D =>
 cond b6D.1
 (some (.inl (xu.1,aN .i64 xu.2.1 1,xu.2.2.1,())))
 (some (.inr (xu.2.1,()))))
 (some (.inr (xu.2.1,())))) none)
 (a0,a1,(),())
def b4r:PI:=⟨77,[.str,(.int .i64),(.fnc 120)],[(.int .i64)],fun(x:ByteArray×Int×Unit×Unit)=>a3I x.1 x.2.1 x.2.2.1⟩
theorem a5o:PK b4r:=pk (.d 1 (.s (.b (.l [] ⟨21,[(0,.str),(1,(.int .i64)),(2,(.fnc 120))],[],[]⟩ .o)) .o)) Tryz.func77 (cP a90 c0) (by kernel_rfl) λx=>by kernel_rfl
def b0P(a0:Int)(a1:Int):Option (Bool×Unit) :=
 cond (iEq a1 4)
 (some (iEq a0 45,()))
 (cond (iEq a1 7)
 (some (iEq a0 45,()))
 (cond (iEq a1 10)
 (some (iEq a0 84,()))
 (some (cond (iLe 48 a0) (iLe a0 57) false,()))))
def i157:PI:=⟨157,[(.int .u8),(.int .i64)],[.bool],fun(x:Int×Int×Unit)=>b0P x.1 x.2.1⟩
theorem a9L:PK i157:=pk .o Tryz.func157 c0 (by kernel_rfl) λx=>by kernel_rfl
def OI(a0:ByteArray):Option (Int×Unit) :=
 bH (S:=ByteArray×Int×Int×Int×Unit) (R:=Int×Unit) (λzK =>
 cond (iLt zK.2.2.2.1 zK.2.2.1)
 (cond (bnd zK.2.2.2.1 (sLen zK.1))
 (some (.inl (zK.1,aN .i64 (uY .i64 zK.2.1 10) (IntKind.wrap .i64 (dz .u8 (sAt zK.1 zK.2.2.2.1) 48)),zK.2.2.1,aN .i64 zK.2.2.2.1 1,()))) none)
 (some (.inr (zK.2.1,()))))
 (a0,0,sLen a0,0,())
def b7U:PI:=⟨158,[.str],[(.int .i64)],fun(x:ByteArray×Unit)=>OI x.1⟩
theorem a9K:PK b7U:=pk (.d 2 (.s (.d 1 (.b (.l [] ⟨20,[(0,.str),(3,(.int .i64)),(6,(.int .i64)),(7,(.int .i64))],[],[]⟩ .o))) .o)) Tryz.func158 c0 (by kernel_rfl) λx=>by kernel_rfl
def b0O(a0:H8)(a1:Int):Option (Int×Int×Unit) :=
 cond (cond (cond (cond (cond (iLt a0.1 2000) true (iLt 2099 a0.1)) true (iLt a0.2.1 1)) true (iLt 12 a0.2.1)) true (iLt a0.2.2.1 1))
 (some (0,1,()))
 ((Gq a0.1 a0.2.1).bind λb6C =>
 cond (iLt b6C.1 a0.2.2.1)
 (some (0,1,()))
 (cond (cond (iLt a1 0) true (iLe 24 a1))
 (some (0,1,()))
 (bH (S:=Int×Int×Int×Int×Int×Int×Unit) (R:=Int×Int×Unit) (λvQ =>
 cond (iLt vQ.2.2.1 vQ.2.2.2.1)
 ((JR vQ.2.2.1).bind λb6B =>
 some (.inl (vQ.1,aN .i64 vQ.2.1 b6B.1,aN .i64 vQ.2.2.1 1,vQ.2.2.2.1,vQ.2.2.2.2.1,vQ.2.2.2.2.2.1,())))
 (Option.map Sum.inr (bH (S:=Int×Int×Int×Int×Int×Int×Unit) (R:=Int×Int×Unit) (λyM =>
 cond (iLt yM.2.2.1 yM.2.2.2.2.1)
 ((Gq yM.2.2.2.1 yM.2.2.1).bind λb6A =>
 some (.inl (yM.1,aN .i64 yM.2.1 b6A.1,aN .i64 yM.2.2.1 1,yM.2.2.2.1,yM.2.2.2.2.1,yM.2.2.2.2.2.1,())))
 (some (.inr (aN .i64 (uY .i64 yM.2.1 24) yM.1,0,()))))
 (vQ.1,vQ.2.1,1,vQ.2.2.2.1,vQ.2.2.2.2.1,vQ.2.2.2.2.2.1,()))))
 (a1,dz .i64 a0.2.2.1 1,2000,a0.1,a0.2.1,a0.2.2.1,()))))
def i159:PI:=⟨159,[a0B,(.int .i64)],[(.int .i64),(.int .i64)],fun(x:H8×Int×Unit)=>b0O x.1 x.2.1⟩
theorem a9J:PK i159:=pk (.d 4 (.s (.d 1 (.b (.l [] ⟨77,[(1,(.int .i64)),(6,(.int .i64)),(7,(.int .i64))],[(2,.ptr 0 0 0)],[.box 183 [.d (.int .i64),.d (.int .i64),.d (.int .i64)]]⟩ .o))) (.s (.d 1 (.b (.l [] ⟨77,[(1,(.int .i64)),(6,(.int .i64)),(8,(.int .i64))],[(2,.ptr 0 0 0)],[.box 183 [.d (.int .i64),.d (.int .i64),.d (.int .i64)]]⟩ .o))) .o))) Tryz.func159 (cP Xr (cP Xq c0)) (by kernel_rfl) λx=>by kernel_rfl
def b0W(a0:ByteArray):Option (Int×Int×Unit) :=
 cond (cond (iNe (sLen a0) 10) (iNe (sLen a0) 13) false)
 (some (0,5,()))
 (bH (S:=ByteArray×Int×Int×Unit) (R:=Int×Int×Unit) (λsG =>
 cond (iLt sG.2.2.1 sG.2.1)
 (cond (bnd sG.2.2.1 (sLen sG.1))
 ((b0P (sAt sG.1 sG.2.2.1) sG.2.2.1).bind λb6z =>
 cond (not b6z.1)
 (some (.inr (0,5,())))
 (some (.inl (sG.1,sG.2.1,aN .i64 sG.2.2.1 1,())))) none)
 (Option.map Sum.inr (jZ (S:=ByteArray×Int×Unit) (R:=Int×Int×Unit)
 (cond (iEq (sLen sG.1) 13)
 (cond (nI 11 ((ByteArray.size sG.1:Nat):Int) (ByteArray.size sG.1))
 ((OI (lW 11 ((ByteArray.size sG.1:Nat):Int) sG.1)).bind λb6y =>
 some (.inl (sG.1,b6y.1,()))) none)
 (some (.inl (sG.1,0,()))))
 (λGv =>
 cond (nI 0 4 (ByteArray.size Gv.1))
 ((OI (lW 0 4 Gv.1)).bind λb6x =>
 cond (nI 5 7 (ByteArray.size Gv.1))
 ((OI (lW 5 7 Gv.1)).bind λb6w =>
 cond (nI 8 10 (ByteArray.size Gv.1))
 ((OI (lW 8 10 Gv.1)).bind λb6v =>
 (b0O (b6x.1,b6w.1,b6v.1,()) Gv.2.1).bind λa8a =>
 some (a8a.1,a8a.2.1,())) none) none) none))))
 (a0,sLen a0,0,()))
def b79:PI:=⟨121,[.str],[(.int .i64),(.int .i64)],fun(x:ByteArray×Unit)=>b0W x.1⟩
theorem a9Z:PK b79:=pk (.d 2 (.s (.d 1 (.b (.l [] ⟨46,[(0,.str),(15,(.int .i64)),(16,(.int .i64))],[],[]⟩ .o))) (.d 1 (.j [] ⟨46,[(0,.str),(5,(.int .i64))],[],[]⟩ .o .o)))) Tryz.func121 (cP a9L (cP a9K (cP a9J c0))) (by kernel_rfl) λx=>by kernel_rfl
def m79(a0:ByteArray)(a1:Int):Option (aB×Int×Int×Unit) :=
 cond (bnd a1 (sLen a0))
 ((m80 (sAt a0 a1)).bind λb6I =>
 cond b6I.1
 ((m77 a0 a1 ()).bind λNt =>
 cond (nI a1 Nt.1 (ByteArray.size a0))
 ((m95 (lW a1 Nt.1 a0)).bind λb6H =>
 cond (not b6H.1)
 (some ((0,(bs []),0,0,()),0,6,()))
 (cond (nI a1 Nt.1 (ByteArray.size a0))
 (some ((1,lW a1 Nt.1 a0,0,a1,()),Nt.1,0,())) none)) none)
 ((Co (sAt a0 a1)).bind λb6G =>
 cond (cond b6G.1 true (iEq (sAt a0 a1) 45))
 ((a3J a0 (aN .i64 a1 1) ()).bind λa0k =>
 cond (nI a1 a0k.1 (ByteArray.size a0))
 ((UC (lW a1 a0k.1 a0)).bind λa0j =>
 cond (iNe a0j.2.1 0)
 (some ((0,(bs []),0,0,()),0,a0j.2.1,()))
 (some ((2,(bs []),a0j.1,a1,()),a0k.1,0,()))) none)
 (cond (iEq (sAt a0 a1) 64)
 ((a3I a0 (aN .i64 a1 1) ()).bind λa0i =>
 cond (nI (aN .i64 a1 1) a0i.1 (ByteArray.size a0))
 ((b0W (lW (aN .i64 a1 1) a0i.1 a0)).bind λa0h =>
 cond (iNe a0h.2.1 0)
 (some ((0,(bs []),0,0,()),0,a0h.2.1,()))
 (some ((3,(bs []),a0h.1,a1,()),a0i.1,0,()))) none)
 ((DV (sAt a0 a1)).bind λb6u =>
 cond b6u.1
 (cond (nI a1 (aN .i64 a1 1) (ByteArray.size a0))
 (some ((4,lW a1 (aN .i64 a1 1) a0,0,a1,()),aN .i64 a1 1,0,())) none)
 (some ((0,(bs []),0,0,()),0,5,())))))) none
def i79:PI:=⟨79,[.str,(.int .i64)],[dS,(.int .i64),(.int .i64)],fun(x:ByteArray×Int×Unit)=>m79 x.1 x.2.1⟩
theorem b3h:PK i79:=pk .o Tryz.func79 (cP Ij (cP a92 (cP a9Z (cP XD (cP a3s (cP a5p (cP a5o (cP Mf (cP U8 c0))))))))) (by kernel_rfl) λx=>by kernel_rfl
def m45(a0:ByteArray):Option ((List aB)×Int×Int×Unit) :=
 cond (iLt 16384 (sLen a0))
 (some (([]:List aB),0,4,()))
 (bH (S:=ByteArray×Int×(List aB)×Unit) (R:=(List aB)×Int×Int×Unit) (λjN =>
 cond (iLt jN.2.1 (sLen jN.1))
 (cond (bnd jN.2.1 (sLen jN.1))
 (cond (iEq (sAt jN.1 jN.2.1) 32)
 (some (.inl (jN.1,aN .i64 jN.2.1 1,jN.2.2.1,())))
 (cond (iEq (sAt jN.1 jN.2.1) 10)
 (some (.inl (jN.1,aN .i64 jN.2.1 1,jN.2.2.1,())))
 (cond (iEq (sAt jN.1 jN.2.1) 35)
 ((a3K jN.1 jN.2.1 ()).bind λb6t =>
 some (.inl (jN.1,b6t.1,jN.2.2.1,())))
 ((m79 jN.1 jN.2.1).bind λmW =>
 cond (iNe mW.2.2.1 0)
 (some (.inr (([]:List aB),jN.2.1,mW.2.2.1,())))
 (cond (iEq (aD jN.2.2.1) 4000)
 (some (.inr (([]:List aB),jN.2.1,4,())))
 (cond (fits (List.length jN.2.2.1+List.length ([(mW.1.1,mW.1.2.1,mW.1.2.2.1,mW.1.2.2.2.1,())]:List aB)) 40)
 (cond (or (bnd mW.2.1 (sLen jN.1)) (not (bEq (cond (iEq mW.1.1 2) (iLt mW.2.1 (sLen jN.1)) false) true)))
 (cond (cond (iEq mW.1.1 2) (iLt mW.2.1 (sLen jN.1)) false)
 ((m80 (sAt jN.1 mW.2.1)).bind λa7Z =>
 cond (or (bnd mW.2.1 (sLen jN.1)) (not (bEq a7Z.1 false)))
 (cond (cond a7Z.1 true (iEq (sAt jN.1 mW.2.1) 45))
 (some (.inr (([]:List aB),mW.2.1,5,())))
 (some (.inl (jN.1,mW.2.1,jN.2.2.1++([(mW.1.1,mW.1.2.1,mW.1.2.2.1,mW.1.2.2.2.1,())]:List aB),())))) none)
 (some (.inl (jN.1,mW.2.1,jN.2.2.1++([(mW.1.1,mW.1.2.1,mW.1.2.2.1,mW.1.2.2.2.1,())]:List aB),())))) none) none)))))) none)
 (some (.inr (jN.2.2.1,0,0,()))))
 (a0,0,([]:List aB),()))
def i45:PI:=⟨45,[.str],[(.list dS),(.int .i64),(.int .i64)],fun(x:ByteArray×Unit)=>m45 x.1⟩
theorem b3p:PK i45:=pk (.d 5 (.s (.b (.l [.gh 5 97 dS] ⟨73,[(0,.str),(6,(.int .i64))],[(5,.row 0)],[.row 97 dS false]⟩ .o)) .o)) Tryz.func45 (cP a5q (cP b3h (cP Mf c0))) (by kernel_rfl) λx=>by kernel_rfl
def m66(a0:DS0)(a1:Int)(a2:Int)(a3:List Int)(a4:List aB):Option (Int×Int×(List Int)×(List aB)×Unit) :=
 cond (cond (iNe a2 0) true (iLt 4000 (aD a4)))
 (some (a1,a2,a3,a4,()))
 ((UJ (a0.1,a0.2.1,a0.2.2.1,a0.2.2.2.1,a0.2.2.2.2.1,a0.2.2.2.2.2.1,())).bind λa0g =>
 cond (iNe a0g.2.1 0)
 (some (a1,a0g.2.1,a3,a4,()))
 ((m45 a0g.1).bind λSA =>
 cond (iNe SA.2.2.1 0)
 (some (a1,SA.2.2.1,a3,a4,()))
 (cond (fits (List.length a4+List.length SA.1) 40)
 (some (a1,a2,a3,a4++SA.1,())) none)))
def b4d:Sh:=⟨2,[(1,tS0)],[(0,.ptr 0 0 0)],[.box 82 [.me 0,.row 1,.d (.int .i64),.row 2,.d (.int .i64)],.row 5 (.int .u8) false,.row 97 dS false]⟩
def b2U:Sh:=⟨0,[],[],[.box 82 [.me 0,.row 1,.d (.int .i64),.row 2,.d (.int .i64)],.row 5 (.int .u8) false,.row 97 dS false]⟩
def h66:HI:=⟨66,b4d,b2U,fun(x:DS0×Int×Int×(List Int)×(List aB)×Unit)=>m66 x.1 x.2.1 x.2.2.1 x.2.2.2.1 x.2.2.2.2.1,[]⟩
theorem a3B:HK h66:=hk .o [] Tryz.func66 (cP b0c (cP b3p c0)) (by kernel_rfl) λx=>by kernel_rfl
def Uh(self:((List AV)×Int×Int×(List Int)×(List aB)×Unit)->Option (Int×Int×(List Int)×(List aB)×Unit))(a0:List AV)(a1:Int)(a2:Int)(a3:List Int)(a4:List aB):Option (Int×Int×(List Int)×(List aB)×Unit) :=
 cond (iEq (aD a0) 0)
 (some (a1,a2,a3,a4,()))
 ((vZ a1 a2 ([(bs [117,110,108,101,115,115])]:List ByteArray) a3 a4).bind λNs =>
 cond (and (Nat.beq (List.length ([(bs [117,110,108,101,115,115])]:List ByteArray)) (List.length Ns.2.2.1)) true)
 ((m40 (bs [40]) Ns.1 Ns.2.1 Ns.2.2.2.1 Ns.2.2.2.2.1).bind λSz =>
 bH (S:=(List AV)×Int×Int×Int×Int×(List Int)×(List aB)×Unit) (R:=Int×Int×(List Int)×(List aB)×Unit) (λfK =>
 cond (iLt fK.2.2.1 fK.2.1)
 (cond (and (bnd fK.2.2.1 (aD fK.1)) (mY (atI fK.1 fK.2.2.1 AV.any)))
 (jZ (S:=(List AV)×Int×Int×Int×Int×(List Int)×(List aB)×ByteArray×Int×ByteArray×(List ByteArray)×Int×Int×(List AV)×(List AV)×Unit) (R:=((List AV)×Int×Int×Int×Int×(List Int)×(List aB)×Unit)⊕(Int×Int×(List Int)×(List aB)×Unit))
 (cond (iLt 0 fK.2.2.1)
 ((m40 (bs [44]) fK.2.2.2.1 fK.2.2.2.2.1 fK.2.2.2.2.2.1 fK.2.2.2.2.2.2.1).bind λSy =>
 some (.inl (fK.1,fK.2.1,fK.2.2.1,Sy.1,Sy.2.1,Sy.2.2.1,Sy.2.2.2.1,(bG (atI fK.1 fK.2.2.1 AV.any)).1,((bG (atI fK.1 fK.2.2.1 AV.any)).2.1).1,((bG (atI fK.1 fK.2.2.1 AV.any)).2.1).2.1,((bG (atI fK.1 fK.2.2.1 AV.any)).2.1).2.2.1,((bG (atI fK.1 fK.2.2.1 AV.any)).2.1).2.2.2.1,((bG (atI fK.1 fK.2.2.1 AV.any)).2.1).2.2.2.2.1,((bG (atI fK.1 fK.2.2.1 AV.any)).2.1).2.2.2.2.2.1,(bG (atI fK.1 fK.2.2.1 AV.any)).2.2.1,())))
 (some (.inl (fK.1,fK.2.1,fK.2.2.1,fK.2.2.2.1,fK.2.2.2.2.1,fK.2.2.2.2.2.1,fK.2.2.2.2.2.2.1,(bG (atI fK.1 fK.2.2.1 AV.any)).1,((bG (atI fK.1 fK.2.2.1 AV.any)).2.1).1,((bG (atI fK.1 fK.2.2.1 AV.any)).2.1).2.1,((bG (atI fK.1 fK.2.2.1 AV.any)).2.1).2.2.1,((bG (atI fK.1 fK.2.2.1 AV.any)).2.1).2.2.2.1,((bG (atI fK.1 fK.2.2.1 AV.any)).2.1).2.2.2.2.1,((bG (atI fK.1 fK.2.2.1 AV.any)).2.1).2.2.2.2.2.1,(bG (atI fK.1 fK.2.2.1 AV.any)).2.2.1,()))))
 (λuy =>
 (vZ uy.2.2.2.1 uy.2.2.2.2.1 ([uy.2.2.2.2.2.2.2.1]:List ByteArray) uy.2.2.2.2.2.1 uy.2.2.2.2.2.2.1).bind λNr =>
 cond (and (Nat.beq (List.length ([uy.2.2.2.2.2.2.2.1]:List ByteArray)) (List.length Nr.2.2.1)) true)
 ((m40 (bs [58]) Nr.1 Nr.2.1 Nr.2.2.2.1 Nr.2.2.2.2.1).bind λSw =>
 (m66 (uy.2.2.2.2.2.2.2.2.1,uy.2.2.2.2.2.2.2.2.2.1,uy.2.2.2.2.2.2.2.2.2.2.1,uy.2.2.2.2.2.2.2.2.2.2.2.1,uy.2.2.2.2.2.2.2.2.2.2.2.2.1,uy.2.2.2.2.2.2.2.2.2.2.2.2.2.1,()) Sw.1 Sw.2.1 Sw.2.2.1 Sw.2.2.2.1).bind λSv =>
 (self (uy.2.2.2.2.2.2.2.2.2.2.2.2.2.2.1,Sv.1,Sv.2.1,Sv.2.2.1,Sv.2.2.2.1,())).bind λSr =>
 some (.inl (uy.1,uy.2.1,aN .i64 uy.2.2.1 1,Sr.1,Sr.2.1,Sr.2.2.1,Sr.2.2.2.1,()))) none)) none)
 (Option.map Sum.inr ((m40 (bs [41]) fK.2.2.2.1 fK.2.2.2.2.1 fK.2.2.2.2.2.1 fK.2.2.2.2.2.2.1).bind λSq =>
 some (Sq.1,Sq.2.1,Sq.2.2.1,Sq.2.2.2.1,()))))
 (a0,aD a0,0,Sz.1,Sz.2.1,Sz.2.2.1,Sz.2.2.2.1,())) none)
def m67(a0:List AV)(a1:Int)(a2:Int)(a3:List Int)(a4:List aB):Option (Int×Int×(List Int)×(List aB)×Unit):=eT (λself (x:(List AV)×Int×Int×(List Int)×(List aB)×Unit)=>Uh self x.1 x.2.1 x.2.2.1 x.2.2.2.1 x.2.2.2.2.1) 10000 (a0,a1,a2,a3,a4,())
def a3S:Sh:=⟨2,[(1,(.rl 63 8))],[(0,.ptr 0 0 0)],[.box 82 [.me 0,.row 1,.d (.int .i64),.row 2,.d (.int .i64)],.row 5 (.int .u8) false,.row 97 dS false]⟩
def a3p:Sh:=⟨0,[],[],[.box 82 [.me 0,.row 1,.d (.int .i64),.row 2,.d (.int .i64)],.row 5 (.int .u8) false,.row 97 dS false]⟩
def h67:HI:=⟨67,a3S,a3p,fun(x:(List AV)×Int×Int×(List Int)×(List aB)×Unit)=>m67 x.1 x.2.1 x.2.2.1 x.2.2.2.1 x.2.2.2.2.1,[]⟩
theorem b3I:HK h67:=pG 10000 (ish:=a3S) (osh:=a3p) (G:=λself (x:(List AV)×Int×Int×(List Int)×(List aB)×Unit)=>Uh self x.1 x.2.1 x.2.2.1 x.2.2.2.1 x.2.2.2.2.1) (mU (f:=Tryz.f67) (by kernel_rfl)) λself hr=>hk (.d 3 (.s (.d 1 (.b (.l [] ⟨43,[(14,(.rl 63 8)),(15,(.int .i64)),(16,(.int .i64))],[(0,.ptr 0 0 0)],[.box 82 [.me 0,.row 1,.d (.int .i64),.row 2,.d (.int .i64)],.row 5 (.int .u8) false,.row 97 dS false]⟩ (.d 2 (.s (.b (.d 1 (.j [] ⟨43,[(14,(.rl 63 8)),(15,(.int .i64)),(16,(.int .i64))],[(0,.ptr 0 0 0),(5,.ptr 3 0 0)],[.box 82 [.me 0,.row 1,.d (.int .i64),.row 2,.d (.int .i64)],.row 5 (.int .u8) false,.row 97 dS false,.box 63 [.d .str,.d (.int .i64),.d .str,.d (.list .str),.d (.int .i64),.d (.int .i64),.d (.rl 34 6),.d (.rl 63 8)]]⟩ .o .o))) .o))))) .o)) [] Tryz.func67 (cH hr (cH JE (cH Uc (cH a3B c0)))) (by kernel_rfl) λx=>by kernel_rfl
def EY(a0:Int)(a1:Int)(a2:List Int):Option (Int×Int×(List Int)×Unit):=some (a0,a1,a2,())
def a5W:HI:=V6 82 [.d (.int .i64),.nil,.d (.int .i64)]
theorem KX:HK a5W:=QW 82 [.d (.int .i64),.nil,.d (.int .i64)] (by kernel_rfl)
def Ul(a0:ByteArray)(a1:Int)(a2:Int)(a3:List Int):Option (Int×Int×Int×(List Int)×Unit) :=
 (EY a1 a2 a3).bind λSn =>
 cond (fits (List.length Sn.2.2.1+List.length (bS a0)) 1)
 (some (sLen a0,Sn.1,Sn.2.1,Sn.2.2.1++(bS a0),())) none
def a5T:Sh:=⟨2,[(1,.str)],[(0,.ptr 0 0 0)],[.box 82 [.me 0,.row 1,.d (.int .i64),.nil,.d (.int .i64)],.row 5 (.int .u8) false]⟩
def a5l:Sh:=⟨2,[(0,(.int .i64))],[],[.box 82 [.me 0,.row 1,.d (.int .i64),.nil,.d (.int .i64)],.row 5 (.int .u8) false]⟩
def b4A:HI:=⟨69,a5T,a5l,fun(x:ByteArray×Int×Int×(List Int)×Unit)=>Ul x.1 x.2.1 x.2.2.1 x.2.2.2.1,[]⟩
theorem a5v:HK b4A:=hk .o [] Tryz.func69 (cH KX c0) (by kernel_rfl) λx=>by kernel_rfl
def Uk(a0:Int)(a1:Int)(a2:Int)(a3:List Int):Option (Int×Int×(List Int)×Unit) :=
 (EY a1 a2 a3).bind λSm =>
 cond (fits (List.length Sm.2.2.1+List.length ([a0]:List Int)) 1)
 (some (Sm.1,Sm.2.1,Sm.2.2.1++([a0]:List Int),())) none
def a5S:Sh:=⟨2,[(1,(.int .u8))],[(0,.ptr 0 0 0)],[.box 82 [.me 0,.row 1,.d (.int .i64),.nil,.d (.int .i64)],.row 5 (.int .u8) false]⟩
def a5k:Sh:=⟨1,[],[],[.box 82 [.me 0,.row 1,.d (.int .i64),.nil,.d (.int .i64)],.row 5 (.int .u8) false]⟩
def b4z:HI:=⟨70,a5S,a5k,fun(x:Int×Int×Int×(List Int)×Unit)=>Uk x.1 x.2.1 x.2.2.1 x.2.2.2.1,[]⟩
theorem a5u:HK b4z:=hk .o [] Tryz.func70 (cH KX c0) (by kernel_rfl) λx=>by kernel_rfl
def Uj(a0:Int)(a1:Int)(a2:List Int):Option (Int×Int×Int×(List Int)×Unit) :=
 some (aD a2,a0,a1,a2,())
def a5R:Sh:=⟨1,[],[(0,.ptr 0 0 0)],[.box 82 [.me 0,.row 1,.d (.int .i64),.nil,.d (.int .i64)],.row 5 (.int .u8) false]⟩
def a5j:Sh:=⟨1,[(0,(.int .i64))],[],[.box 82 [.me 0,.row 1,.d (.int .i64),.nil,.d (.int .i64)],.row 5 (.int .u8) false]⟩
def b4y:HI:=⟨71,a5R,a5j,fun(x:Int×Int×(List Int)×Unit)=>Uj x.1 x.2.1 x.2.2.1,[]⟩
theorem a5t:HK b4y:=hk .o [] Tryz.func71 c0 (by kernel_rfl) λx=>by kernel_rfl
def m41(a0:Int)(a1:Int)(a2:List Int)(a3:List aB):Option (Int×Int×(List Int)×(List aB)×Unit) :=
 cond (iNe a1 0)
 (some (a0,a1,a2,a3,()))
 ((m68 a3).bind λa0f =>
 cond (iNe a0f.2.1 0)
 (some (a0,a0f.2.1,a2,a3,()))
 ((Ul a0f.1 a0 a1 a2).bind λa0e =>
 (Uk 10 a0e.2.1 a0e.2.2.1 a0e.2.2.2.1).bind λa0d =>
 (Uj (aN .i64 a0d.1 (aD a3)) a0d.2.1 a0d.2.2.1).bind λFV =>
 cond (cond (iLt 16384 FV.1) true (iLt 4000 FV.2.1))
 (some (FV.2.1,4,FV.2.2.2.1,a3,()))
 (some (FV.2.1,FV.2.2.1,FV.2.2.2.1,a3,()))))
def b4g:Sh:=⟨1,[],[(0,.ptr 0 0 0)],[.box 82 [.me 0,.row 1,.d (.int .i64),.row 2,.d (.int .i64)],.row 5 (.int .u8) false,.row 97 dS false]⟩
def b2X:Sh:=⟨0,[],[],[.box 82 [.me 0,.row 1,.d (.int .i64),.nil,.d (.int .i64)],.row 5 (.int .u8) false,.row 97 dS false]⟩
def h41:HI:=⟨41,b4g,b2X,fun(x:Int×Int×(List Int)×(List aB)×Unit)=>m41 x.1 x.2.1 x.2.2.1 x.2.2.2.1,[]⟩
theorem a3C:HK h41:=hk .o [] Tryz.func41 (cP a3t (cH a5v (cH a5u (cH a5t c0)))) (by kernel_rfl) λx=>by kernel_rfl
def m37(a0:List DS1)(a1:Int)(a2:Int)(a3:List Int):Option (Int×Int×(List Int)×Unit) :=
 bH (S:=(List DS1)×Int×Int×Int×Int×(List Int)×Unit) (R:=Int×Int×(List Int)×Unit) (λdZ =>
 cond (iLt dZ.2.2.1 dZ.2.1)
 (cond (bnd dZ.2.2.1 (aD dZ.1))
 ((m64 ((atI dZ.1 dZ.2.2.1 zS1).1)).bind λa7Y =>
 (m38 dZ.2.2.2.1 dZ.2.2.2.2.1 ([a7Y.1,(atI dZ.1 dZ.2.2.1 zS1).2.1]:List ByteArray) dZ.2.2.2.2.2.1).bind λNq =>
 cond (and (Nat.beq (List.length ([a7Y.1,(atI dZ.1 dZ.2.2.1 zS1).2.1]:List ByteArray)) (List.length Nq.2.2.1)) true)
 ((m40 (bs [58]) Nq.1 Nq.2.1 Nq.2.2.2.1 Nq.2.2.2.2.1).bind λBX =>
 jZ (S:=(List DS1)×Int×Int×Int×Int×(List Int)×Int×ByteArray×Int×ByteArray×(List ByteArray)×Int×Int×(List AV)×(List AV)×Int×(List aB)×Unit) (R:=((List DS1)×Int×Int×Int×Int×(List Int)×Unit)⊕(Int×Int×(List Int)×Unit))
 ((m65 ((atI dZ.1 dZ.2.2.1 zS1).1)).bind λb6s =>
 cond (iLt 0 b6s.1)
 (cond (fits (List.length BX.2.2.2.1+List.length ([(2,(bs []),(atI dZ.1 dZ.2.2.1 zS1).2.2.2.2.1,0,())]:List aB)) 40)
 ((vZ BX.1 BX.2.1 ([(bs [119,104,101,110])]:List ByteArray) BX.2.2.1 (BX.2.2.2.1++([(2,(bs []),(atI dZ.1 dZ.2.2.1 zS1).2.2.2.2.1,0,())]:List aB))).bind λjq =>
 cond (and (Nat.beq (List.length ([(bs [119,104,101,110])]:List ByteArray)) (List.length jq.2.2.1)) true)
 (some (.inl (dZ.1,dZ.2.1,dZ.2.2.1,jq.1,jq.2.1,jq.2.2.2.1,(atI dZ.1 dZ.2.2.1 zS1).1,(atI dZ.1 dZ.2.2.1 zS1).2.1,((atI dZ.1 dZ.2.2.1 zS1).2.2.1).1,((atI dZ.1 dZ.2.2.1 zS1).2.2.1).2.1,((atI dZ.1 dZ.2.2.1 zS1).2.2.1).2.2.1,((atI dZ.1 dZ.2.2.1 zS1).2.2.1).2.2.2.1,((atI dZ.1 dZ.2.2.1 zS1).2.2.1).2.2.2.2.1,((atI dZ.1 dZ.2.2.1 zS1).2.2.1).2.2.2.2.2.1,(atI dZ.1 dZ.2.2.1 zS1).2.2.2.1,(atI dZ.1 dZ.2.2.1 zS1).2.2.2.2.1,jq.2.2.2.2.1,()))) none) none)
 (some (.inl (dZ.1,dZ.2.1,dZ.2.2.1,BX.1,BX.2.1,BX.2.2.1,(atI dZ.1 dZ.2.2.1 zS1).1,(atI dZ.1 dZ.2.2.1 zS1).2.1,((atI dZ.1 dZ.2.2.1 zS1).2.2.1).1,((atI dZ.1 dZ.2.2.1 zS1).2.2.1).2.1,((atI dZ.1 dZ.2.2.1 zS1).2.2.1).2.2.1,((atI dZ.1 dZ.2.2.1 zS1).2.2.1).2.2.2.1,((atI dZ.1 dZ.2.2.1 zS1).2.2.1).2.2.2.2.1,((atI dZ.1 dZ.2.2.1 zS1).2.2.1).2.2.2.2.2.1,(atI dZ.1 dZ.2.2.1 zS1).2.2.2.1,(atI dZ.1 dZ.2.2.1 zS1).2.2.2.2.1,BX.2.2.2.1,()))))
 (λwo =>
 (m66 (wo.2.2.2.2.2.2.2.2.1,wo.2.2.2.2.2.2.2.2.2.1,wo.2.2.2.2.2.2.2.2.2.2.1,wo.2.2.2.2.2.2.2.2.2.2.2.1,wo.2.2.2.2.2.2.2.2.2.2.2.2.1,wo.2.2.2.2.2.2.2.2.2.2.2.2.2.1,()) wo.2.2.2.1 wo.2.2.2.2.1 wo.2.2.2.2.2.1 wo.2.2.2.2.2.2.2.2.2.2.2.2.2.2.2.2.1).bind λD8 =>
 (m67 wo.2.2.2.2.2.2.2.2.2.2.2.2.2.2.1 D8.1 D8.2.1 D8.2.2.1 D8.2.2.2.1).bind λSl =>
 (m40 (bs [59]) Sl.1 Sl.2.1 Sl.2.2.1 Sl.2.2.2.1).bind λD7 =>
 (m41 D7.1 D7.2.1 D7.2.2.1 D7.2.2.2.1).bind λBU =>
 some (.inl (wo.1,wo.2.1,aN .i64 wo.2.2.1 1,BU.1,BU.2.1,BU.2.2.1,())))) none) none)
 (some (.inr (dZ.2.2.2.1,dZ.2.2.2.2.1,dZ.2.2.2.2.2.1,()))))
 (a0,aD a0,0,a1,a2,a3,())
def b4k:Sh:=⟨2,[(1,(.list tS1))],[(0,.ptr 0 0 0)],[.box 82 [.me 0,.row 1,.d (.int .i64),.nil,.d (.int .i64)],.row 5 (.int .u8) false]⟩
def b23:Sh:=⟨0,[],[],[.box 82 [.me 0,.row 1,.d (.int .i64),.nil,.d (.int .i64)],.row 5 (.int .u8) false]⟩
def h37:HI:=⟨37,b4k,b23,fun(x:(List DS1)×Int×Int×(List Int)×Unit)=>m37 x.1 x.2.1 x.2.2.1 x.2.2.2.1,[]⟩
theorem b3M:HK h37:=hk (.d 1 (.b (.l [] ⟨54,[(6,(.list tS1)),(7,(.int .i64)),(8,(.int .i64))],[(0,.ptr 0 0 0)],[.box 82 [.me 0,.row 1,.d (.int .i64),.nil,.d (.int .i64)],.row 5 (.int .u8) false]⟩ (.d 2 (.s (.b (.d 1 (.s (.u [0,1]) (.d 1 (.j [] ⟨54,[(6,(.list tS1)),(7,(.int .i64)),(8,(.int .i64))],[(0,.ptr 0 0 0),(5,.ptr 2 0 0)],[.box 82 [.me 0,.row 1,.d (.int .i64),.row 3,.d (.int .i64)],.row 5 (.int .u8) false,.box 37 [.d (.int .i64),.d .str,.d (.int .i64),.d .str,.d (.list .str),.d (.int .i64),.d (.int .i64),.d (.rl 34 6),.d (.rl 63 8),.d (.int .i64)],.row 97 dS false]⟩ .o .o))))) .o))))) [] Tryz.func37 (cP a3v (cP a3u (cH a3D (cH JE (cH Uc (cH a3C (cH a3B (cH b3I c0)))))))) (by kernel_rfl) λx=>by kernel_rfl
def m39(a0:Int)(a1:Int)(a2:Int)(a3:List Int)(a4:List aB):Option (Int×Int×(List Int)×(List aB)×Unit) :=
 cond (fits (List.length a4+List.length ([(3,(bs []),a0,0,())]:List aB)) 40)
 (some (a1,a2,a3,a4++([(3,(bs []),a0,0,())]:List aB),())) none
def b4i:Sh:=⟨2,[(1,(.int .i64))],[(0,.ptr 0 0 0)],[.box 82 [.me 0,.row 1,.d (.int .i64),.row 2,.d (.int .i64)],.row 5 (.int .u8) false,.row 97 dS false]⟩
def b2Z:Sh:=⟨0,[],[],[.box 82 [.me 0,.row 1,.d (.int .i64),.row 2,.d (.int .i64)],.row 5 (.int .u8) false,.row 97 dS false]⟩
def h39:HI:=⟨39,b4i,b2Z,fun(x:Int×Int×Int×(List Int)×(List aB)×Unit)=>m39 x.1 x.2.1 x.2.2.1 x.2.2.2.1 x.2.2.2.2.1,[]⟩
theorem b3L:HK h39:=hk .o [] Tryz.func39 c0 (by kernel_rfl) λx=>by kernel_rfl
def Y1(a0:Int)(a1:Int)(a2:List Int):Option (ByteArray×Int×Int×(List Int)×Unit):=some (bsI a2,a0,a1,a2,())
def b1u:HI:=a14 82 [.d (.int .i64),.nil,.d (.int .i64)]
theorem a1r:HK b1u:=XH 82 [.d (.int .i64),.nil,.d (.int .i64)]
def m19(a0:DS4):Option (ByteArray×Int×Unit) :=
 (m15 (a0.1,a0.2.1,())).bind λb6r =>
 cond (not b6r.1)
 (some ((bs []),5,()))
 (jZ (S:=(List DS1)×(List DS3)×Int×Int×(List Int)×Unit) (R:=ByteArray×Int×Unit)
 (some (.inl (a0.1,a0.2.1,0,0,([]:List Int),())))
 (λK4 =>
 (m37 K4.1 K4.2.2.1 K4.2.2.2.1 K4.2.2.2.2.1).bind λZX =>
 bH (S:=(List DS3)×Int×Int×Int×Int×(List Int)×Unit) (R:=ByteArray×Int×Unit) (λiL =>
 cond (iLt iL.2.2.1 iL.2.1)
 (cond (bnd iL.2.2.1 (aD iL.1))
 ((m38 iL.2.2.2.1 iL.2.2.2.2.1 ([(bs [101,110,100,111,114,115,101])]:List ByteArray) iL.2.2.2.2.2.1).bind λNn =>
 cond (and (Nat.beq (List.length ([(bs [101,110,100,111,114,115,101])]:List ByteArray)) (List.length Nn.2.2.1)) true)
 ((m39 (((atI iL.1 iL.2.2.1 zS3).1).1) Nn.1 Nn.2.1 Nn.2.2.2.1 Nn.2.2.2.2.1).bind λSk =>
 (vZ Sk.1 Sk.2.1 ([(bs [116,111])]:List ByteArray) Sk.2.2.1 Sk.2.2.2.1).bind λNl =>
 cond (and (Nat.beq (List.length ([(bs [116,111])]:List ByteArray)) (List.length Nl.2.2.1)) true)
 ((m39 (((atI iL.1 iL.2.2.1 zS3).1).2.1) Nl.1 Nl.2.1 Nl.2.2.2.1 Nl.2.2.2.2.1).bind λSj =>
 (m40 (bs [58]) Sj.1 Sj.2.1 Sj.2.2.1 Sj.2.2.2.1).bind λSi =>
 (m41 Si.1 Si.2.1 Si.2.2.1 Si.2.2.2.1).bind λJl =>
 jZ (S:=(List DS3)×Int×Int×Int×Int×Int×Int×(List ByteArray)×(List DS1)×(List Int)×Unit) (R:=((List DS3)×Int×Int×Int×Int×(List Int)×Unit)⊕(ByteArray×Int×Unit))
 (cond (iLt 0 (aD ((atI iL.1 iL.2.2.1 zS3).2.1)))
 ((m38 Jl.1 Jl.2.1 ([(bs [114,101,109,111,118,101])]:List ByteArray) Jl.2.2.1).bind λNk =>
 cond (and (Nat.beq (List.length ([(bs [114,101,109,111,118,101])]:List ByteArray)) (List.length Nk.2.2.1)) true)
 (bH (S:=(List DS3)×Int×Int×(List ByteArray)×Int×Int×Int×Int×Int×Int×(List ByteArray)×(List DS1)×(List Int)×(List aB)×Unit) (R:=((List DS3)×Int×Int×Int×Int×Int×Int×(List ByteArray)×(List DS1)×(List Int)×Unit)⊕(((List DS3)×Int×Int×Int×Int×(List Int)×Unit)⊕(ByteArray×Int×Unit))) (λgI =>
 cond (iLt gI.2.2.2.2.2.1 gI.2.2.2.2.1)
 (cond (bnd gI.2.2.2.2.2.1 (aD gI.2.2.2.1))
 (cond (iLt 0 gI.2.2.2.2.2.1)
 ((m40 (bs [44]) gI.2.2.2.2.2.2.1 gI.2.2.2.2.2.2.2.1 gI.2.2.2.2.2.2.2.2.2.2.2.2.1 gI.2.2.2.2.2.2.2.2.2.2.2.2.2.1).bind λSg =>
 (vZ Sg.1 Sg.2.1 ([atI gI.2.2.2.1 gI.2.2.2.2.2.1 ByteArray.empty]:List ByteArray) Sg.2.2.1 Sg.2.2.2.1).bind λNj =>
 cond (and (Nat.beq (List.length ([atI gI.2.2.2.1 gI.2.2.2.2.2.1 ByteArray.empty]:List ByteArray)) (List.length Nj.2.2.1)) true)
 (some (.inl (gI.1,gI.2.1,gI.2.2.1,gI.2.2.2.1,gI.2.2.2.2.1,aN .i64 gI.2.2.2.2.2.1 1,Nj.1,Nj.2.1,gI.2.2.2.2.2.2.2.2.1,gI.2.2.2.2.2.2.2.2.2.1,gI.2.2.2.2.2.2.2.2.2.2.1,gI.2.2.2.2.2.2.2.2.2.2.2.1,Nj.2.2.2.1,Nj.2.2.2.2.1,()))) none)
 ((vZ gI.2.2.2.2.2.2.1 gI.2.2.2.2.2.2.2.1 ([atI gI.2.2.2.1 gI.2.2.2.2.2.1 ByteArray.empty]:List ByteArray) gI.2.2.2.2.2.2.2.2.2.2.2.2.1 gI.2.2.2.2.2.2.2.2.2.2.2.2.2.1).bind λNi =>
 cond (and (Nat.beq (List.length ([atI gI.2.2.2.1 gI.2.2.2.2.2.1 ByteArray.empty]:List ByteArray)) (List.length Ni.2.2.1)) true)
 (some (.inl (gI.1,gI.2.1,gI.2.2.1,gI.2.2.2.1,gI.2.2.2.2.1,aN .i64 gI.2.2.2.2.2.1 1,Ni.1,Ni.2.1,gI.2.2.2.2.2.2.2.2.1,gI.2.2.2.2.2.2.2.2.2.1,gI.2.2.2.2.2.2.2.2.2.2.1,gI.2.2.2.2.2.2.2.2.2.2.2.1,Ni.2.2.2.1,Ni.2.2.2.2.1,()))) none)) none)
 (Option.map Sum.inr ((m40 (bs [59]) gI.2.2.2.2.2.2.1 gI.2.2.2.2.2.2.2.1 gI.2.2.2.2.2.2.2.2.2.2.2.2.1 gI.2.2.2.2.2.2.2.2.2.2.2.2.2.1).bind λSd =>
 (m41 Sd.1 Sd.2.1 Sd.2.2.1 Sd.2.2.2.1).bind λZW =>
 some (.inl (gI.1,gI.2.1,gI.2.2.1,ZW.1,ZW.2.1,gI.2.2.2.2.2.2.2.2.1,gI.2.2.2.2.2.2.2.2.2.1,gI.2.2.2.2.2.2.2.2.2.2.1,gI.2.2.2.2.2.2.2.2.2.2.2.1,ZW.2.2.1,())))))
 (iL.1,iL.2.1,iL.2.2.1,(atI iL.1 iL.2.2.1 zS3).2.1,aD ((atI iL.1 iL.2.2.1 zS3).2.1),0,Nk.1,Nk.2.1,((atI iL.1 iL.2.2.1 zS3).1).1,((atI iL.1 iL.2.2.1 zS3).1).2.1,(atI iL.1 iL.2.2.1 zS3).2.1,(atI iL.1 iL.2.2.1 zS3).2.2.1,Nk.2.2.2.1,Nk.2.2.2.2.1,())) none)
 (some (.inl (iL.1,iL.2.1,iL.2.2.1,Jl.1,Jl.2.1,((atI iL.1 iL.2.2.1 zS3).1).1,((atI iL.1 iL.2.2.1 zS3).1).2.1,(atI iL.1 iL.2.2.1 zS3).2.1,(atI iL.1 iL.2.2.1 zS3).2.2.1,Jl.2.2.1,()))))
 (λGu =>
 (m37 Gu.2.2.2.2.2.2.2.2.1 Gu.2.2.2.1 Gu.2.2.2.2.1 Gu.2.2.2.2.2.2.2.2.2.1).bind λZV =>
 (m38 ZV.1 ZV.2.1 ([(bs [101,110,100])]:List ByteArray) ZV.2.2.1).bind λNh =>
 cond (and (Nat.beq (List.length ([(bs [101,110,100])]:List ByteArray)) (List.length Nh.2.2.1)) true)
 ((m40 (bs [59]) Nh.1 Nh.2.1 Nh.2.2.2.1 Nh.2.2.2.2.1).bind λSc =>
 (m41 Sc.1 Sc.2.1 Sc.2.2.1 Sc.2.2.2.1).bind λZT =>
 some (.inl (Gu.1,Gu.2.1,aN .i64 Gu.2.2.1 1,ZT.1,ZT.2.1,ZT.2.2.1,()))) none)) none) none) none)
 (Option.map Sum.inr (cond (iNe iL.2.2.2.2.1 0)
 (some ((bs []),iL.2.2.2.2.1,()))
 ((Y1 iL.2.2.2.1 iL.2.2.2.2.1 iL.2.2.2.2.2.1).bind λb6q =>
 some (b6q.1,0,())))))
 (K4.2.1,aD K4.2.1,0,ZX.1,ZX.2.1,ZX.2.2.1,())))
def i19:PI:=⟨19,[tS4],[.str,(.int .i64)],fun(x:DS4×Unit)=>m19 x.1⟩
theorem b3w:PK i19:=pk (.d 2 (.j [.ghc 4 1 5 (.int .u8)] ⟨74,[],[(1,.ptr 0 0 0),(4,.ptr 1 0 0)],[.box 29 [.d (.list tS1),.d (.list tS3)],.box 82 [.me 1,.row 2,.d (.int .i64),.nil,.d (.int .i64)],.row 5 (.int .u8) false]⟩ .o (.d 1 (.s (.d 1 (.b (.l [] ⟨74,[(16,(.list tS3)),(17,(.int .i64)),(18,(.int .i64))],[(4,.ptr 0 0 0)],[.box 82 [.me 0,.row 1,.d (.int .i64),.nil,.d (.int .i64)],.row 5 (.int .u8) false]⟩ (.d 2 (.s (.b (.d 7 (.j [] ⟨74,[(16,(.list tS3)),(17,(.int .i64)),(18,(.int .i64))],[(4,.ptr 0 0 0),(6,.ptr 1 0 0)],[.box 82 [.me 0,.row 2,.d (.int .i64),.nil,.d (.int .i64)],.box 55 [.d (.int .i64),.d (.int .i64),.d (.list .str),.d (.list tS1)],.row 5 (.int .u8) false]⟩ (.d 1 (.c (.d 1 (.s (.d 1 (.b (.l [] ⟨74,[(16,(.list tS3)),(17,(.int .i64)),(18,(.int .i64)),(43,(.list .str)),(44,(.int .i64)),(45,(.int .i64))],[(4,.ptr 0 0 0),(6,.ptr 1 0 0)],[.box 82 [.me 0,.row 2,.d (.int .i64),.row 3,.d (.int .i64)],.box 55 [.d (.int .i64),.d (.int .i64),.d (.list .str),.d (.list tS1)],.row 5 (.int .u8) false,.row 97 dS false]⟩ .o))) .o)) .o)) .o))) .o))))) .o)))) Tryz.func19 (cP b3x (cH b3M (cH a3D (cH JE (cH b3L (cH Uc (cH a3C (cH a1r c0)))))))) (by kernel_rfl) λx=>by kernel_rfl
def Ux(a0:Int):Option (Bool×Unit) :=
 some (cond (iLe 97 a0) (iLe a0 122) false,())
def b7Z:PI:=⟨149,[(.int .u8)],[.bool],fun(x:Int×Unit)=>Ux x.1⟩
theorem a9P:PK b7Z:=pk .o Tryz.func149 c0 (by kernel_rfl) λx=>by kernel_rfl
def Uw(a0:Int):Option (Bool×Unit) :=
 some (cond (iLe 48 a0) (iLe a0 57) false,())
def b7Y:PI:=⟨150,[(.int .u8)],[.bool],fun(x:Int×Unit)=>Uw x.1⟩
theorem a9O:PK b7Y:=pk .o Tryz.func150 c0 (by kernel_rfl) λx=>by kernel_rfl
def OX(a0:ByteArray):Option (Bool×Unit) :=
 cond (or (bnd 0 (sLen a0)) (not (bEq (cond (iLt (sLen a0) 1) true (iLt 16 (sLen a0))) false)))
 (cond (cond (iLt (sLen a0) 1) true (iLt 16 (sLen a0)))
 (cond (or (bnd (dz .i64 (sLen a0) 1) (sLen a0)) (not (bEq true false)))
 (some (false,())) none)
 ((Ux (sAt a0 0)).bind λa7X =>
 cond (or (bnd (dz .i64 (sLen a0) 1) (sLen a0)) (not (bEq (not a7X.1) false)))
 (cond (cond (not a7X.1) true (iEq (sAt a0 (dz .i64 (sLen a0) 1)) 45))
 (some (false,()))
 (bH (S:=ByteArray×Int×Unit) (R:=Bool×Unit) (λq9 =>
 cond (iLt q9.2.1 (sLen q9.1))
 (cond (bnd q9.2.1 (sLen q9.1))
 ((Ux (sAt q9.1 q9.2.1)).bind λa7W =>
 cond (or (bnd q9.2.1 (sLen q9.1)) (not (bEq (not a7W.1) true)))
 (cond (not a7W.1)
 ((Uw (sAt q9.1 q9.2.1)).bind λa7V =>
 cond (or (bnd q9.2.1 (sLen q9.1)) (not (bEq (not a7V.1) true)))
 (cond (cond (not a7V.1) (iNe (sAt q9.1 q9.2.1) 45) false)
 (some (.inr (false,())))
 (some (.inl (q9.1,aN .i64 q9.2.1 1,())))) none)
 (cond (or (bnd q9.2.1 (sLen q9.1)) (not (bEq false true)))
 (some (.inl (q9.1,aN .i64 q9.2.1 1,()))) none)) none) none)
 (some (.inr (true,()))))
 (a0,0,()))) none)) none
def b8k:PI:=⟨102,[.str],[.bool],fun(x:ByteArray×Unit)=>OX x.1⟩
theorem XG:PK b8k:=pk (.d 2 (.s (.d 1 (.b (.l [] ⟨50,[(0,.str),(3,(.int .i64))],[],[]⟩ .o))) .o)) Tryz.func102 (cP a9P (cP a9O c0)) (by kernel_rfl) λx=>by kernel_rfl
def Gs(a0:ByteArray):Option (Bool×Unit) :=
 cond (sEq a0 (bs [97,110,100]))
 (some (true,()))
 (cond (sEq a0 (bs [97,118,101,114,97,103,101]))
 (some (true,()))
 (cond (sEq a0 (bs [99,111,105,110,115,117,114,97,110,99,101]))
 (some (true,()))
 (cond (sEq a0 (bs [99,111,110,100,105,116,105,111,110]))
 (some (true,()))
 (cond (sEq a0 (bs [99,111,118,101,114]))
 (some (true,()))
 (cond (sEq a0 (bs [100,101,100,117,99,116,105,98,108,101]))
 (some (true,()))
 (cond (sEq a0 (bs [100,101,102,105,110,101]))
 (some (true,()))
 (cond (sEq a0 (bs [101,110,100]))
 (some (true,()))
 (cond (sEq a0 (bs [101,110,100,111,114,115,101]))
 (some (true,()))
 (cond (sEq a0 (bs [101,120,99,108,117,100,101]))
 (some (true,()))
 (cond (sEq a0 (bs [102,97,108,115,101]))
 (some (true,()))
 (cond (sEq a0 (bs [102,114,97,110,99,104,105,115,101]))
 (some (true,()))
 (cond (sEq a0 (bs [102,114,111,109]))
 (some (true,()))
 (cond (sEq a0 (bs [105,110]))
 (some (true,()))
 (cond (sEq a0 (bs [108,105,109,105,116]))
 (some (true,()))
 (cond (sEq a0 (bs [110,111,116]))
 (some (true,()))
 (cond (sEq a0 (bs [111,114]))
 (some (true,()))
 (cond (sEq a0 (bs [114,101,109,111,118,101]))
 (some (true,()))
 (cond (sEq a0 (bs [115,117,98,108,105,109,105,116]))
 (some (true,()))
 (cond (sEq a0 (bs [116,111]))
 (some (true,()))
 (cond (sEq a0 (bs [116,114,117,101]))
 (some (true,()))
 (cond (sEq a0 (bs [117,110,108,101,115,115]))
 (some (true,()))
 (cond (sEq a0 (bs [119,104,101,110]))
 (some (true,()))
 (some (false,()))))))))))))))))))))))))
def b8j:PI:=⟨103,[.str],[.bool],fun(x:ByteArray×Unit)=>Gs x.1⟩
theorem b0d:PK b8j:=pk .o Tryz.func103 c0 (by kernel_rfl) λx=>by kernel_rfl
def m57(a0:ByteArray):Option (Bool×Unit) :=
 (OX a0).bind λb6p =>
 cond b6p.1
 ((Gs a0).bind λb6o =>
 some (not b6o.1,()))
 (some (false,()))
def i57:PI:=⟨57,[.str],[.bool],fun(x:ByteArray×Unit)=>m57 x.1⟩
theorem Ih:PK i57:=pk .o Tryz.func57 (cP XG (cP b0d c0)) (by kernel_rfl) λx=>by kernel_rfl
def Mq(self:(DS0×Int×Unit)->Option (Bool×Unit))(a0:DS0)(a1:Int):Option (Bool×Unit) :=
 cond (iEq a1 0)
 (some (true,()))
 (bH (S:=Int×Int×Int×ByteArray×(List ByteArray)×Int×Int×(List AV)×Unit) (R:=Bool×Unit) (λsF =>
 cond (iLt sF.2.1 (aD sF.2.2.2.2.2.2.2.1))
 (cond (and (bnd sF.2.1 (aD sF.2.2.2.2.2.2.2.1)) (qj (atI sF.2.2.2.2.2.2.2.1 sF.2.1 AV.any)))
 ((self (aV (atI sF.2.2.2.2.2.2.2.1 sF.2.1 AV.any),dz .i64 sF.1 1,())).bind λb6m =>
 cond b6m.1
 (some (.inr (true,())))
 (some (.inl (sF.1,aN .i64 sF.2.1 1,sF.2.2.1,sF.2.2.2.1,sF.2.2.2.2.1,sF.2.2.2.2.2.1,sF.2.2.2.2.2.2.1,sF.2.2.2.2.2.2.2.1,())))) none)
 (some (.inr (false,()))))
 (a1,0,a0.1,a0.2.1,a0.2.2.1,a0.2.2.2.1,a0.2.2.2.2.1,a0.2.2.2.2.2.1,()))
def b0S(a0:DS0)(a1:Int):Option (Bool×Unit):=eT (λself (x:DS0×Int×Unit)=>Mq self x.1 x.2.1) 10000 (a0,a1,())
def i146:PI:=⟨146,[tS0,(.int .i64)],[.bool],fun(x:DS0×Int×Unit)=>b0S x.1 x.2.1⟩
theorem a9S:PK i146:=qI 10000 (ps:=[tS0,(.int .i64)]) (rs:=[.bool]) (G:=λself (x:DS0×Int×Unit)=>Mq self x.1 x.2.1) (mU (f:=Tryz.f146) (by kernel_rfl)) λself hr=>pk (.d 2 (.s (.d 1 (.b (.l [] ⟨23,[(1,(.int .i64)),(5,(.int .i64))],[(2,.ptr 0 0 0)],[.box 34 [.d (.int .i64),.d .str,.d (.list .str),.d (.int .i64),.d (.int .i64),.d (.rl 34 6)]]⟩ .o))) .o)) Tryz.func146 (cP hr c0) (by kernel_rfl) λx=>by kernel_rfl
def Ml(self:(DS0×Unit)->Option (Int×Unit))(a0:DS0):Option (Int×Unit) :=
 bH (S:=Int×Int×Int×ByteArray×(List ByteArray)×Int×Int×(List AV)×Unit) (R:=Int×Unit) (λrD =>
 cond (cond (iLt rD.2.1 (aD rD.2.2.2.2.2.2.2.1)) (iLe rD.1 300) false)
 (cond (and (bnd rD.2.1 (aD rD.2.2.2.2.2.2.2.1)) (qj (atI rD.2.2.2.2.2.2.2.1 rD.2.1 AV.any)))
 ((self (aV (atI rD.2.2.2.2.2.2.2.1 rD.2.1 AV.any),())).bind λb6k =>
 some (.inl (aN .i64 rD.1 b6k.1,aN .i64 rD.2.1 1,rD.2.2.1,rD.2.2.2.1,rD.2.2.2.2.1,rD.2.2.2.2.2.1,rD.2.2.2.2.2.2.1,rD.2.2.2.2.2.2.2.1,()))) none)
 (some (.inr (jC rD.1 301,()))))
 (1,0,a0.1,a0.2.1,a0.2.2.1,a0.2.2.2.1,a0.2.2.2.2.1,a0.2.2.2.2.2.1,())
def b0R(a0:DS0):Option (Int×Unit):=eT (λself (x:DS0×Unit)=>Ml self x.1) 10000 (a0,())
def b70:PI:=⟨147,[tS0],[(.int .i64)],fun(x:DS0×Unit)=>b0R x.1⟩
theorem a9R:PK b70:=qI 10000 (ps:=[tS0]) (rs:=[(.int .i64)]) (G:=λself (x:DS0×Unit)=>Ml self x.1) (mU (f:=Tryz.f147) (by kernel_rfl)) λself hr=>pk (.d 2 (.s (.d 1 (.b (.l [] ⟨26,[(3,(.int .i64)),(4,(.int .i64))],[(1,.ptr 0 0 0)],[.box 34 [.d (.int .i64),.d .str,.d (.list .str),.d (.int .i64),.d (.int .i64),.d (.rl 34 6)]]⟩ .o))) .o)) Tryz.func147 (cP hr c0) (by kernel_rfl) λx=>by kernel_rfl
def m29(a0:List ByteArray):Option (Bool×Unit) :=
 bH (S:=(List ByteArray)×Int×Unit) (R:=Bool×Unit) (λDr =>
 cond (iLt Dr.2.1 (aD Dr.1))
 (cond (bnd Dr.2.1 (aD Dr.1))
 ((m57 (atI Dr.1 Dr.2.1 ByteArray.empty)).bind λb6i =>
 cond (not b6i.1)
 (some (.inr (false,())))
 (some (.inl (Dr.1,aN .i64 Dr.2.1 1,())))) none)
 (some (.inr (true,()))))
 (a0,0,())
def i29:PI:=⟨29,[(.list .str)],[.bool],fun(x:(List ByteArray)×Unit)=>m29 x.1⟩
theorem Ub:PK i29:=pk (.d 1 (.s (.d 1 (.b (.l [] ⟨16,[(0,(.list .str)),(3,(.int .i64))],[],[]⟩ .o))) .o)) Tryz.func29 (cP Ih c0) (by kernel_rfl) λx=>by kernel_rfl
def m30(a0:List ByteArray):Option (Bool×Unit) :=
 bH (S:=(List ByteArray)×Int×Unit) (R:=Bool×Unit) (λTL =>
 cond (iLt TL.2.1 (aD TL.1))
 (bH (S:=(List ByteArray)×Int×Int×Unit) (R:=((List ByteArray)×Int×Unit)⊕(Bool×Unit)) (λuU =>
 cond (iLt uU.2.2.1 uU.2.1)
 (cond (bnd uU.2.1 (aD uU.1))
 (cond (bnd uU.2.2.1 (aD uU.1))
 (cond (sEq (atI uU.1 uU.2.1 ByteArray.empty) (atI uU.1 uU.2.2.1 ByteArray.empty))
 (some (.inr (.inr (false,()))))
 (some (.inl (uU.1,uU.2.1,aN .i64 uU.2.2.1 1,())))) none) none)
 (some (.inr (.inl (uU.1,aN .i64 uU.2.1 1,())))))
 (TL.1,TL.2.1,0,()))
 (some (.inr (true,()))))
 (a0,0,())
def i30:PI:=⟨30,[(.list .str)],[.bool],fun(x:(List ByteArray)×Unit)=>m30 x.1⟩
theorem Ua:PK i30:=pk (.d 1 (.s (.d 1 (.b (.l [] ⟨25,[(0,(.list .str)),(3,(.int .i64))],[],[]⟩ (.d 1 (.s (.b (.d 1 (.b (.l [] ⟨25,[(0,(.list .str)),(3,(.int .i64)),(4,(.int .i64))],[],[]⟩ .o)))) .o))))) .o)) Tryz.func30 c0 (by kernel_rfl) λx=>by kernel_rfl
def yS(a0:Int):Option (Bool×Unit) :=
 some (cond (iLt 1000000000 a0) true (iLt a0 (-1000000000)),())
def i183:PI:=⟨183,[(.int .i64)],[.bool],fun(x:Int×Unit)=>yS x.1⟩
theorem Xp:PK i183:=pk .o Tryz.func183 c0 (by kernel_rfl) λx=>by kernel_rfl
def Uq(a0:DS0):Option (Bool×Unit) :=
 cond (cond (iLt a0.1 1) true (iLt 8 a0.1))
 (some (false,()))
 (cond (cond (cond (iEq a0.1 3) true (iEq a0.1 4)) true (iEq a0.1 5))
 ((m57 a0.2.1).bind λb6h =>
 cond (not b6h.1)
 (some (false,()))
 (cond (cond (not (cond (cond (iEq a0.1 3) true (iEq a0.1 4)) true (iEq a0.1 5))) (not (sEq a0.2.1 (bs []))) false)
 (some (false,()))
 (jZ (S:=Int×ByteArray×(List ByteArray)×Int×Int×(List AV)×Unit) (R:=Bool×Unit)
 (cond (iEq a0.1 4)
 (cond (cond (iLt (aD a0.2.2.1) 1) true (iLt 12 (aD a0.2.2.1)))
 (some (.inr (false,())))
 ((m29 a0.2.2.1).bind λb6g =>
 cond (not b6g.1)
 (some (.inr (false,())))
 ((m30 a0.2.2.1).bind λb6f =>
 cond (not b6f.1)
 (some (.inr (false,())))
 (some (.inl (a0.1,a0.2.1,a0.2.2.1,a0.2.2.2.1,a0.2.2.2.2.1,a0.2.2.2.2.2.1,()))))))
 (cond (iLt 0 (aD a0.2.2.1))
 (some (.inr (false,())))
 (some (.inl (a0.1,a0.2.1,a0.2.2.1,a0.2.2.2.1,a0.2.2.2.2.1,a0.2.2.2.2.2.1,())))))
 (λpF =>
 cond (iEq pF.1 5)
 ((yS pF.2.2.2.1).bind λb6e =>
 cond b6e.1
 (some (false,()))
 ((yS pF.2.2.2.2.1).bind λb6d =>
 cond (cond b6d.1 true (iLt pF.2.2.2.2.1 pF.2.2.2.1))
 (some (false,()))
 (cond (iEq pF.1 6)
 (some (iEq (aD pF.2.2.2.2.2.1) 1,()))
 (cond (iEq pF.1 7)
 (some (iLe 2 (aD pF.2.2.2.2.2.1),()))
 (cond (iEq pF.1 8)
 (some (iLe 2 (aD pF.2.2.2.2.2.1),()))
 (some (iEq (aD pF.2.2.2.2.2.1) 0,())))))))
 (cond (cond (iNe pF.2.2.2.1 0) true (iNe pF.2.2.2.2.1 0))
 (some (false,()))
 (cond (iEq pF.1 6)
 (some (iEq (aD pF.2.2.2.2.2.1) 1,()))
 (cond (iEq pF.1 7)
 (some (iLe 2 (aD pF.2.2.2.2.2.1),()))
 (cond (iEq pF.1 8)
 (some (iLe 2 (aD pF.2.2.2.2.2.1),()))
 (some (iEq (aD pF.2.2.2.2.2.1) 0,()))))))))))
 (cond (cond (not (cond (cond (iEq a0.1 3) true (iEq a0.1 4)) true (iEq a0.1 5))) (not (sEq a0.2.1 (bs []))) false)
 (some (false,()))
 (jZ (S:=Int×ByteArray×(List ByteArray)×Int×Int×(List AV)×Unit) (R:=Bool×Unit)
 (cond (iEq a0.1 4)
 (cond (cond (iLt (aD a0.2.2.1) 1) true (iLt 12 (aD a0.2.2.1)))
 (some (.inr (false,())))
 ((m29 a0.2.2.1).bind λb6c =>
 cond (not b6c.1)
 (some (.inr (false,())))
 ((m30 a0.2.2.1).bind λb6b =>
 cond (not b6b.1)
 (some (.inr (false,())))
 (some (.inl (a0.1,a0.2.1,a0.2.2.1,a0.2.2.2.1,a0.2.2.2.2.1,a0.2.2.2.2.2.1,()))))))
 (cond (iLt 0 (aD a0.2.2.1))
 (some (.inr (false,())))
 (some (.inl (a0.1,a0.2.1,a0.2.2.1,a0.2.2.2.1,a0.2.2.2.2.1,a0.2.2.2.2.2.1,())))))
 (λpE =>
 cond (iEq pE.1 5)
 ((yS pE.2.2.2.1).bind λb6a =>
 cond b6a.1
 (some (false,()))
 ((yS pE.2.2.2.2.1).bind λb59 =>
 cond (cond b59.1 true (iLt pE.2.2.2.2.1 pE.2.2.2.1))
 (some (false,()))
 (cond (iEq pE.1 6)
 (some (iEq (aD pE.2.2.2.2.2.1) 1,()))
 (cond (iEq pE.1 7)
 (some (iLe 2 (aD pE.2.2.2.2.2.1),()))
 (cond (iEq pE.1 8)
 (some (iLe 2 (aD pE.2.2.2.2.2.1),()))
 (some (iEq (aD pE.2.2.2.2.2.1) 0,())))))))
 (cond (cond (iNe pE.2.2.2.1 0) true (iNe pE.2.2.2.2.1 0))
 (some (false,()))
 (cond (iEq pE.1 6)
 (some (iEq (aD pE.2.2.2.2.2.1) 1,()))
 (cond (iEq pE.1 7)
 (some (iLe 2 (aD pE.2.2.2.2.2.1),()))
 (cond (iEq pE.1 8)
 (some (iLe 2 (aD pE.2.2.2.2.2.1),()))
 (some (iEq (aD pE.2.2.2.2.2.1) 0,()))))))))))
def i171:PI:=⟨171,[tS0],[.bool],fun(x:DS0×Unit)=>Uq x.1⟩
theorem a9D:PK i171:=pk (.d 3 (.j [] ⟨117,[],[(1,.ptr 0 0 0)],[.box 34 [.d (.int .i64),.d .str,.d (.list .str),.d (.int .i64),.d (.int .i64),.d (.rl 34 6)]]⟩ .o .o)) Tryz.func171 (cP Xp (cP Ub (cP Ua (cP Ih c0)))) (by kernel_rfl) λx=>by kernel_rfl
def Mk(self:(DS0×Unit)->Option (Bool×Unit))(a0:DS0):Option (Bool×Unit) :=
 (Uq (a0.1,a0.2.1,a0.2.2.1,a0.2.2.2.1,a0.2.2.2.2.1,a0.2.2.2.2.2.1,())).bind λb58 =>
 cond (not b58.1)
 (some (false,()))
 (bH (S:=Int×Int×ByteArray×(List ByteArray)×Int×Int×(List AV)×Unit) (R:=Bool×Unit) (λuT =>
 cond (iLt uT.1 (aD uT.2.2.2.2.2.2.1))
 (cond (and (bnd uT.1 (aD uT.2.2.2.2.2.2.1)) (qj (atI uT.2.2.2.2.2.2.1 uT.1 AV.any)))
 ((self (aV (atI uT.2.2.2.2.2.2.1 uT.1 AV.any),())).bind λb57 =>
 cond (not b57.1)
 (some (.inr (false,())))
 (some (.inl (aN .i64 uT.1 1,uT.2.1,uT.2.2.1,uT.2.2.2.1,uT.2.2.2.2.1,uT.2.2.2.2.2.1,uT.2.2.2.2.2.2.1,())))) none)
 (some (.inr (true,()))))
 (0,a0.1,a0.2.1,a0.2.2.1,a0.2.2.2.1,a0.2.2.2.2.1,a0.2.2.2.2.2.1,()))
def b0Q(a0:DS0):Option (Bool×Unit):=eT (λself (x:DS0×Unit)=>Mk self x.1) 10000 (a0,())
def i148:PI:=⟨148,[tS0],[.bool],fun(x:DS0×Unit)=>b0Q x.1⟩
theorem a9Q:PK i148:=qI 10000 (ps:=[tS0]) (rs:=[.bool]) (G:=λself (x:DS0×Unit)=>Mk self x.1) (mU (f:=Tryz.f148) (by kernel_rfl)) λself hr=>pk (.d 2 (.s (.d 1 (.b (.l [] ⟨21,[(3,(.int .i64))],[(1,.ptr 0 0 0)],[.box 34 [.d (.int .i64),.d .str,.d (.list .str),.d (.int .i64),.d (.int .i64),.d (.rl 34 6)]]⟩ .o))) .o)) Tryz.func148 (cP hr (cP a9D c0)) (by kernel_rfl) λx=>by kernel_rfl
def m98(a0:DS0):Option (Bool×Unit) :=
 (b0S (a0.1,a0.2.1,a0.2.2.1,a0.2.2.2.1,a0.2.2.2.2.1,a0.2.2.2.2.2.1,()) 16).bind λb6l =>
 cond (not b6l.1)
 ((b0R (a0.1,a0.2.1,a0.2.2.1,a0.2.2.2.1,a0.2.2.2.2.1,a0.2.2.2.2.2.1,())).bind λb6j =>
 cond (iLe b6j.1 300)
 ((b0Q (a0.1,a0.2.1,a0.2.2.1,a0.2.2.2.1,a0.2.2.2.2.1,a0.2.2.2.2.2.1,())).bind λb56 =>
 some (b56.1,()))
 (some (false,())))
 (some (false,()))
def i98:PI:=⟨98,[tS0],[.bool],fun(x:DS0×Unit)=>m98 x.1⟩
theorem a3q:PK i98:=pk .o Tryz.func98 (cP a9S (cP a9R (cP a9Q c0))) (by kernel_rfl) λx=>by kernel_rfl
def Gp(self:((List AV)×Unit)->Option (Int×Unit))(a0:List AV):Option (Int×Unit) :=
 bH (S:=(List AV)×Int×Int×Unit) (R:=Int×Unit) (λxq =>
 cond (cond (iLt xq.2.2.1 (aD xq.1)) (iLe xq.2.1 40) false)
 (cond (and (bnd xq.2.2.1 (aD xq.1)) (mY (atI xq.1 xq.2.2.1 AV.any)))
 ((self ((bG (atI xq.1 xq.2.2.1 AV.any)).2.2.1,())).bind λb54 =>
 some (.inl (xq.1,aN .i64 xq.2.1 b54.1,aN .i64 xq.2.2.1 1,()))) none)
 (some (.inr (jC xq.2.1 41,()))))
 (a0,aD a0,0,())
def m99(a0:List AV):Option (Int×Unit):=Kc (λself (x:(List AV)×Unit)=>Gp self x.1) (a0,())
def i99:PI:=⟨99,[(.rl 63 8)],[(.int .i64)],fun(x:(List AV)×Unit)=>m99 x.1⟩
theorem b3b:PK i99:=a5e (ps:=[(.rl 63 8)]) (rs:=[(.int .i64)]) (G:=λself (x:(List AV)×Unit)=>Gp self x.1) (mU (f:=Tryz.f99) (by kernel_rfl)) λself hr=>pk (.d 2 (.s (.d 1 (.b (.l [] ⟨27,[(0,(.rl 63 8)),(3,(.int .i64)),(4,(.int .i64))],[],[]⟩ .o))) .o)) Tryz.func99 (cP hr c0) (by kernel_rfl) λx=>by kernel_rfl
def ME(self:((List AV)×Int×Unit)->Option (Bool×Unit))(a0:List AV)(a1:Int):Option (Bool×Unit) :=
 cond (cond (iLt 0 (aD a0)) (iEq a1 0) false)
 (some (false,()))
 (bH (S:=(List AV)×Int×Int×Unit) (R:=Bool×Unit) (λlU =>
 cond (iLt lU.2.2.1 (aD lU.1))
 (cond (and (bnd lU.2.2.1 (aD lU.1)) (mY (atI lU.1 lU.2.2.1 AV.any)))
 ((m57 ((bG (atI lU.1 lU.2.2.1 AV.any)).1)).bind λa7U =>
 cond (or (and (bnd lU.2.2.1 (aD lU.1)) (mY (atI lU.1 lU.2.2.1 AV.any))) (not (bEq (not a7U.1) false)))
 (cond (not a7U.1)
 (cond (or (and (bnd lU.2.2.1 (aD lU.1)) (mY (atI lU.1 lU.2.2.1 AV.any))) (not (bEq true false)))
 (some (.inr (false,()))) none)
 ((m98 ((bG (atI lU.1 lU.2.2.1 AV.any)).2.1)).bind λa7T =>
 cond (or (and (bnd lU.2.2.1 (aD lU.1)) (mY (atI lU.1 lU.2.2.1 AV.any))) (not (bEq (not a7T.1) false)))
 (cond (not a7T.1)
 (some (.inr (false,())))
 ((self ((bG (atI lU.1 lU.2.2.1 AV.any)).2.2.1,dz .i64 lU.2.1 1,())).bind λb52 =>
 cond (not b52.1)
 (some (.inr (false,())))
 (some (.inl (lU.1,lU.2.1,aN .i64 lU.2.2.1 1,()))))) none)) none) none)
 (some (.inr (true,()))))
 (a0,a1,0,()))
def a1T(a0:List AV)(a1:Int):Option (Bool×Unit):=eT (λself (x:(List AV)×Int×Unit)=>ME self x.1 x.2.1) 10000 (a0,a1,())
def b8m:PI:=⟨100,[(.rl 63 8),(.int .i64)],[.bool],fun(x:(List AV)×Int×Unit)=>a1T x.1 x.2.1⟩
theorem b0e:PK b8m:=qI 10000 (ps:=[(.rl 63 8),(.int .i64)]) (rs:=[.bool]) (G:=λself (x:(List AV)×Int×Unit)=>ME self x.1 x.2.1) (mU (f:=Tryz.f100) (by kernel_rfl)) λself hr=>pk (.d 2 (.s (.d 1 (.b (.l [] ⟨46,[(0,(.rl 63 8)),(1,(.int .i64)),(5,(.int .i64))],[],[]⟩ .o))) .o)) Tryz.func100 (cP hr (cP Ih (cP a3q c0))) (by kernel_rfl) λx=>by kernel_rfl
def xG(a0:Int):Option (Int×Unit) :=
 cond (iEq a0 5)
 (some (1073741824,()))
 (cond (iEq a0 6)
 (some (1073741824,()))
 (cond (iEq a0 7)
 (some (1073741824,()))
 (cond (iEq a0 10)
 (some (1073741824,()))
 (cond (iEq a0 8)
 (some (1000000,()))
 (some (0,()))))))
def b8l:PI:=⟨101,[(.int .i64)],[(.int .i64)],fun(x:Int×Unit)=>xG x.1⟩
theorem Ik:PK b8l:=pk .o Tryz.func101 c0 (by kernel_rfl) λx=>by kernel_rfl
def m56(a0:DS1):Option (Bool×Unit) :=
 cond (cond (iLt a0.1 1) true (iLt 10 a0.1))
 (some (false,()))
 ((m57 a0.2.1).bind λb6n =>
 cond (not b6n.1)
 (some (false,()))
 ((m98 (a0.2.2.1.1,a0.2.2.1.2.1,a0.2.2.1.2.2.1,a0.2.2.1.2.2.2.1,a0.2.2.1.2.2.2.2.1,a0.2.2.1.2.2.2.2.2.1,())).bind λb55 =>
 cond (not b55.1)
 (some (false,()))
 (cond (iLt 0 (aD a0.2.2.2.1))
 (cond (iNe a0.1 3)
 (some (false,()))
 ((m99 a0.2.2.2.1).bind λb53 =>
 cond (iLt 40 b53.1)
 (some (false,()))
 ((a1T a0.2.2.2.1 16).bind λb51 =>
 cond (not b51.1)
 (some (false,()))
 ((xG a0.1).bind λZR =>
 cond (cond (iEq ZR.1 0) (iEq a0.2.2.2.2.1 0) false)
 (some (true,()))
 (some (cond (cond (iLt 0 ZR.1) (iLe 1 a0.2.2.2.2.1) false) (iLe a0.2.2.2.2.1 ZR.1) false,()))))))
 ((xG a0.1).bind λZQ =>
 cond (cond (iEq ZQ.1 0) (iEq a0.2.2.2.2.1 0) false)
 (some (true,()))
 (some (cond (cond (iLt 0 ZQ.1) (iLe 1 a0.2.2.2.2.1) false) (iLe a0.2.2.2.2.1 ZQ.1) false,()))))))
def i56:PI:=⟨56,[tS1],[.bool],fun(x:DS1×Unit)=>m56 x.1⟩
theorem a3w:PK i56:=pk .o Tryz.func56 (cP b0e (cP Ik (cP Ih (cP a3q (cP b3b c0))))) (by kernel_rfl) λx=>by kernel_rfl
def m27(a0:List DS1):Option (Bool×Unit) :=
 cond (iLt 40 (aD a0))
 (some (false,()))
 (bH (S:=(List DS1)×Int×Unit) (R:=Bool×Unit) (λDq =>
 cond (iLt Dq.2.1 (aD Dq.1))
 (cond (bnd Dq.2.1 (aD Dq.1))
 ((m56 (atI Dq.1 Dq.2.1 zS1)).bind λb50 =>
 cond (not b50.1)
 (some (.inr (false,())))
 (some (.inl (Dq.1,aN .i64 Dq.2.1 1,())))) none)
 (some (.inr (true,()))))
 (a0,0,()))
def i27:PI:=⟨27,[(.list tS1)],[.bool],fun(x:(List DS1)×Unit)=>m27 x.1⟩
theorem b3s:PK i27:=pk (.d 2 (.s (.d 1 (.b (.l [] ⟨19,[(0,(.list tS1)),(3,(.int .i64))],[],[]⟩ .o))) .o)) Tryz.func27 (cP a3w c0) (by kernel_rfl) λx=>by kernel_rfl
def m28(a0:DS2):Option (Bool×Unit) :=
 some (cond (cond (iLe 0 a0.1) (iLt a0.1 a0.2.1) false) (iLe a0.2.1 876600) false,())
def i28:PI:=⟨28,[tS2],[.bool],fun(x:DS2×Unit)=>m28 x.1⟩
theorem a3y:PK i28:=pk .o Tryz.func28 c0 (by kernel_rfl) λx=>by kernel_rfl
def m16(a0:DS4):Option (Bool×Unit) :=
 cond (iLt 12 (aD a0.2.1))
 (some (false,()))
 ((m27 a0.1).bind λb5Z =>
 cond (not b5Z.1)
 (some (false,()))
 (bH (S:=Int×(List DS1)×(List DS3)×Unit) (R:=Bool×Unit) (λp8 =>
 cond (iLt p8.1 (aD p8.2.2.1))
 (cond (bnd p8.1 (aD p8.2.2.1))
 ((m28 (((atI p8.2.2.1 p8.1 zS3).1).1,((atI p8.2.2.1 p8.1 zS3).1).2.1,())).bind λb5Y =>
 cond (cond (cond (not b5Y.1) true (iLt 876599 (((atI p8.2.2.1 p8.1 zS3).1).2.1))) true (iLt 40 (aD ((atI p8.2.2.1 p8.1 zS3).2.1))))
 (some (.inr (false,())))
 ((m29 ((atI p8.2.2.1 p8.1 zS3).2.1)).bind λb5X =>
 cond (not b5X.1)
 (some (.inr (false,())))
 ((m30 ((atI p8.2.2.1 p8.1 zS3).2.1)).bind λb5W =>
 cond (not b5W.1)
 (some (.inr (false,())))
 ((m27 ((atI p8.2.2.1 p8.1 zS3).2.2.1)).bind λb5V =>
 cond (not b5V.1)
 (some (.inr (false,())))
 (some (.inl (aN .i64 p8.1 1,p8.2.1,p8.2.2.1,()))))))) none)
 (some (.inr (true,()))))
 (0,a0.1,a0.2.1,())))
def i16:PI:=⟨16,[tS4],[.bool],fun(x:DS4×Unit)=>m16 x.1⟩
theorem Mg:PK i16:=pk (.d 2 (.s (.d 1 (.b (.l [] ⟨61,[(3,(.int .i64))],[(1,.ptr 0 0 0)],[.box 29 [.d (.list tS1),.d (.list tS3)]]⟩ .o))) .o)) Tryz.func16 (cP b3s (cP a3y (cP Ub (cP Ua c0)))) (by kernel_rfl) λx=>by kernel_rfl
def a1S(a0:Int):Option (ByteArray×Unit) :=
 cond (bnd a0 (aD ([(bs []),(bs [100,101,102,105,110,101]),(bs [99,111,118,101,114]),(bs [101,120,99,108,117,100,101]),(bs [99,111,110,100,105,116,105,111,110]),(bs [108,105,109,105,116]),(bs [100,101,100,117,99,116,105,98,108,101]),(bs [102,114,97,110,99,104,105,115,101]),(bs [99,111,105,110,115,117,114,97,110,99,101]),(bs [97,118,101,114,97,103,101]),(bs [115,117,98,108,105,109,105,116])]:List ByteArray)))
 (cond (inB (Int.toNat a0) ([(bs []),(bs [100,101,102,105,110,101]),(bs [99,111,118,101,114]),(bs [101,120,99,108,117,100,101]),(bs [99,111,110,100,105,116,105,111,110]),(bs [108,105,109,105,116]),(bs [100,101,100,117,99,116,105,98,108,101]),(bs [102,114,97,110,99,104,105,115,101]),(bs [99,111,105,110,115,117,114,97,110,99,101]),(bs [97,118,101,114,97,103,101]),(bs [115,117,98,108,105,109,105,116])]:List ByteArray))
 (some (List.getD ([(bs []),(bs [100,101,102,105,110,101]),(bs [99,111,118,101,114]),(bs [101,120,99,108,117,100,101]),(bs [99,111,110,100,105,116,105,111,110]),(bs [108,105,109,105,116]),(bs [100,101,100,117,99,116,105,98,108,101]),(bs [102,114,97,110,99,104,105,115,101]),(bs [99,111,105,110,115,117,114,97,110,99,101]),(bs [97,118,101,114,97,103,101]),(bs [115,117,98,108,105,109,105,116])]:List ByteArray) (Int.toNat a0) ByteArray.empty,())) none) none
def i109:PI:=⟨109,[(.int .i64)],[.str],fun(x:Int×Unit)=>a1S x.1⟩
theorem a99:PK i109:=pk .o Tryz.func109 c0 (by kernel_rfl) λx=>by kernel_rfl
def m73(a0:ByteArray):Option (aB×Unit) :=
 some ((1,a0,0,0,()),())
def i73:PI:=⟨73,[.str],[dS],fun(x:ByteArray×Unit)=>m73 x.1⟩
theorem Ig:PK i73:=pk .o Tryz.func73 c0 (by kernel_rfl) λx=>by kernel_rfl
def m74(a0:ByteArray):Option (aB×Unit) :=
 some ((4,a0,0,0,()),())
def i74:PI:=⟨74,[.str],[dS],fun(x:ByteArray×Unit)=>m74 x.1⟩
theorem Ie:PK i74:=pk .o Tryz.func74 c0 (by kernel_rfl) λx=>by kernel_rfl
def OW(a0:Int):Option (aB×Unit) :=
 some ((2,(bs []),a0,0,()),())
def b8h:PI:=⟨110,[(.int .i64)],[dS],fun(x:Int×Unit)=>OW x.1⟩
theorem XF:PK b8h:=pk .o Tryz.func110 c0 (by kernel_rfl) λx=>by kernel_rfl
def m75(a0:List ByteArray)(a1:List aB):Option ((List aB)×Unit) :=
 bH (S:=(List ByteArray)×Int×(List aB)×Unit) (R:=(List aB)×Unit) (λoZ =>
 cond (iLt oZ.2.1 (aD oZ.1))
 (cond (iLt 0 oZ.2.1)
 ((m74 (bs [44])).bind λZP =>
 cond (fits (List.length oZ.2.2.1+List.length ([ZP.1]:List aB)) 40)
 (cond (bnd oZ.2.1 (aD oZ.1))
 ((m73 (atI oZ.1 oZ.2.1 ByteArray.empty)).bind λa7S =>
 cond (fits (List.length (oZ.2.2.1++([ZP.1]:List aB))+List.length ([a7S.1]:List aB)) 40)
 (some (.inl (oZ.1,aN .i64 oZ.2.1 1,(oZ.2.2.1++([ZP.1]:List aB))++([a7S.1]:List aB),()))) none) none) none)
 (cond (bnd oZ.2.1 (aD oZ.1))
 ((m73 (atI oZ.1 oZ.2.1 ByteArray.empty)).bind λa7R =>
 cond (fits (List.length oZ.2.2.1+List.length ([a7R.1]:List aB)) 40)
 (some (.inl (oZ.1,aN .i64 oZ.2.1 1,oZ.2.2.1++([a7R.1]:List aB),()))) none) none))
 (some (.inr (oZ.2.2.1,()))))
 (a0,0,a1,())
def b39:Sh:=⟨2,[(1,(.list .str))],[(0,.row 0)],[.row 97 dS false]⟩
def b2Q:Sh:=⟨1,[],[(0,.row 0)],[.row 97 dS false]⟩
def h75:HI:=⟨75,b39,b2Q,fun(x:(List ByteArray)×(List aB)×Unit)=>m75 x.1 x.2.1,[]⟩
theorem a3A:HK h75:=hk (.d 1 (.s (.d 1 (.b (.l [] ⟨27,[(1,(.list .str)),(5,(.int .i64))],[(0,.row 0)],[.row 97 dS false]⟩ .o))) .o)) [] Tryz.func75 (cP Ig (cP Ie c0)) (by kernel_rfl) λx=>by kernel_rfl
def MB(self:(DS0×(List aB)×Unit)->Option ((List aB)×Unit))(a0:DS0)(a1:List aB):Option ((List aB)×Unit) :=
 cond (iEq a0.1 1)
 ((m73 (bs [116,114,117,101])).bind λa7Q =>
 cond (fits (List.length a1+List.length ([a7Q.1]:List aB)) 40)
 (some (a1++([a7Q.1]:List aB),())) none)
 (cond (iEq a0.1 2)
 ((m73 (bs [102,97,108,115,101])).bind λa7P =>
 cond (fits (List.length a1+List.length ([a7P.1]:List aB)) 40)
 (some (a1++([a7P.1]:List aB),())) none)
 (cond (iEq a0.1 3)
 ((m73 a0.2.1).bind λa7O =>
 cond (fits (List.length a1+List.length ([a7O.1]:List aB)) 40)
 (some (a1++([a7O.1]:List aB),())) none)
 (cond (iEq a0.1 4)
 ((m73 a0.2.1).bind λa7N =>
 (m73 (bs [105,110])).bind λa7M =>
 (m74 (bs [40])).bind λa7L =>
 cond (fits (List.length a1+List.length ([a7N.1,a7M.1,a7L.1]:List aB)) 40)
 ((m75 a0.2.2.1 (a1++([a7N.1,a7M.1,a7L.1]:List aB))).bind λa7K =>
 (m74 (bs [41])).bind λa7J =>
 cond (fits (List.length a7K.1+List.length ([a7J.1]:List aB)) 40)
 (some (a7K.1++([a7J.1]:List aB),())) none) none)
 (cond (iEq a0.1 5)
 ((m73 a0.2.1).bind λa7I =>
 (m73 (bs [102,114,111,109])).bind λa7H =>
 (OW a0.2.2.2.1).bind λa7G =>
 (m73 (bs [116,111])).bind λa7F =>
 (OW a0.2.2.2.2.1).bind λa7E =>
 cond (fits (List.length a1+List.length ([a7I.1,a7H.1,a7G.1,a7F.1,a7E.1]:List aB)) 40)
 (some (a1++([a7I.1,a7H.1,a7G.1,a7F.1,a7E.1]:List aB),())) none)
 (jZ (S:=ByteArray×(List aB)×Int×ByteArray×(List ByteArray)×Int×Int×(List AV)×Unit) (R:=(List aB)×Unit)
 (cond (iEq a0.1 7)
 (some (.inl ((bs [97,110,100]),a1,a0.1,a0.2.1,a0.2.2.1,a0.2.2.2.1,a0.2.2.2.2.1,a0.2.2.2.2.2.1,())))
 (some (.inl ((bs [111,114]),a1,a0.1,a0.2.1,a0.2.2.1,a0.2.2.2.1,a0.2.2.2.2.1,a0.2.2.2.2.2.1,()))))
 (λrE =>
 jZ (S:=ByteArray×(List aB)×Int×ByteArray×(List ByteArray)×Int×Int×(List AV)×Unit) (R:=(List aB)×Unit)
 (cond (iEq rE.2.2.1 6)
 ((m73 (bs [110,111,116])).bind λa7D =>
 cond (fits (List.length rE.2.1+List.length ([a7D.1]:List aB)) 40)
 (some (.inl (rE.1,rE.2.1++([a7D.1]:List aB),rE.2.2.1,rE.2.2.2.1,rE.2.2.2.2.1,rE.2.2.2.2.2.1,rE.2.2.2.2.2.2.1,rE.2.2.2.2.2.2.2.1,()))) none)
 (some (.inl (rE.1,rE.2.1,rE.2.2.1,rE.2.2.2.1,rE.2.2.2.2.1,rE.2.2.2.2.2.1,rE.2.2.2.2.2.2.1,rE.2.2.2.2.2.2.2.1,()))))
 (λE8 =>
 bH (S:=ByteArray×Int×(List aB)×Int×ByteArray×(List ByteArray)×Int×Int×(List AV)×Unit) (R:=(List aB)×Unit) (λgH =>
 cond (iLt gH.2.1 (aD gH.2.2.2.2.2.2.2.2.1))
 (cond (and (bnd gH.2.1 (aD gH.2.2.2.2.2.2.2.2.1)) (qj (atI gH.2.2.2.2.2.2.2.2.1 gH.2.1 AV.any)))
 (jZ (S:=ByteArray×Int×(List aB)×Int×ByteArray×(List ByteArray)×Int×Int×(List AV)×Int×ByteArray×(List ByteArray)×Int×Int×(List AV)×Unit) (R:=(ByteArray×Int×(List aB)×Int×ByteArray×(List ByteArray)×Int×Int×(List AV)×Unit)⊕((List aB)×Unit))
 (cond (iLt 0 gH.2.1)
 ((m73 gH.1).bind λa7C =>
 cond (fits (List.length gH.2.2.1+List.length ([a7C.1]:List aB)) 40)
 (some (.inl (gH.1,gH.2.1,gH.2.2.1++([a7C.1]:List aB),gH.2.2.2.1,gH.2.2.2.2.1,gH.2.2.2.2.2.1,gH.2.2.2.2.2.2.1,gH.2.2.2.2.2.2.2.1,gH.2.2.2.2.2.2.2.2.1,(aV (atI gH.2.2.2.2.2.2.2.2.1 gH.2.1 AV.any)).1,(aV (atI gH.2.2.2.2.2.2.2.2.1 gH.2.1 AV.any)).2.1,(aV (atI gH.2.2.2.2.2.2.2.2.1 gH.2.1 AV.any)).2.2.1,(aV (atI gH.2.2.2.2.2.2.2.2.1 gH.2.1 AV.any)).2.2.2.1,(aV (atI gH.2.2.2.2.2.2.2.2.1 gH.2.1 AV.any)).2.2.2.2.1,(aV (atI gH.2.2.2.2.2.2.2.2.1 gH.2.1 AV.any)).2.2.2.2.2.1,()))) none)
 (some (.inl (gH.1,gH.2.1,gH.2.2.1,gH.2.2.2.1,gH.2.2.2.2.1,gH.2.2.2.2.2.1,gH.2.2.2.2.2.2.1,gH.2.2.2.2.2.2.2.1,gH.2.2.2.2.2.2.2.2.1,(aV (atI gH.2.2.2.2.2.2.2.2.1 gH.2.1 AV.any)).1,(aV (atI gH.2.2.2.2.2.2.2.2.1 gH.2.1 AV.any)).2.1,(aV (atI gH.2.2.2.2.2.2.2.2.1 gH.2.1 AV.any)).2.2.1,(aV (atI gH.2.2.2.2.2.2.2.2.1 gH.2.1 AV.any)).2.2.2.1,(aV (atI gH.2.2.2.2.2.2.2.2.1 gH.2.1 AV.any)).2.2.2.2.1,(aV (atI gH.2.2.2.2.2.2.2.2.1 gH.2.1 AV.any)).2.2.2.2.2.1,()))))
 (λgW =>
 cond (iEq gW.2.2.2.2.2.2.2.2.2.1 8)
 ((m74 (bs [40])).bind λa7B =>
 cond (fits (List.length gW.2.2.1+List.length ([a7B.1]:List aB)) 40)
 ((self ((gW.2.2.2.2.2.2.2.2.2.1,gW.2.2.2.2.2.2.2.2.2.2.1,gW.2.2.2.2.2.2.2.2.2.2.2.1,gW.2.2.2.2.2.2.2.2.2.2.2.2.1,gW.2.2.2.2.2.2.2.2.2.2.2.2.2.1,gW.2.2.2.2.2.2.2.2.2.2.2.2.2.2.1,()),gW.2.2.1++([a7B.1]:List aB),())).bind λa7A =>
 (m74 (bs [41])).bind λa7z =>
 cond (fits (List.length a7A.1+List.length ([a7z.1]:List aB)) 40)
 (some (.inl (gW.1,aN .i64 gW.2.1 1,a7A.1++([a7z.1]:List aB),gW.2.2.2.1,gW.2.2.2.2.1,gW.2.2.2.2.2.1,gW.2.2.2.2.2.2.1,gW.2.2.2.2.2.2.2.1,gW.2.2.2.2.2.2.2.2.1,()))) none) none)
 (cond (cond (iEq gW.2.2.2.2.2.2.2.2.2.1 7) (iNe gW.2.2.2.1 8) false)
 ((m74 (bs [40])).bind λa7y =>
 cond (fits (List.length gW.2.2.1+List.length ([a7y.1]:List aB)) 40)
 ((self ((gW.2.2.2.2.2.2.2.2.2.1,gW.2.2.2.2.2.2.2.2.2.2.1,gW.2.2.2.2.2.2.2.2.2.2.2.1,gW.2.2.2.2.2.2.2.2.2.2.2.2.1,gW.2.2.2.2.2.2.2.2.2.2.2.2.2.1,gW.2.2.2.2.2.2.2.2.2.2.2.2.2.2.1,()),gW.2.2.1++([a7y.1]:List aB),())).bind λa7x =>
 (m74 (bs [41])).bind λa7w =>
 cond (fits (List.length a7x.1+List.length ([a7w.1]:List aB)) 40)
 (some (.inl (gW.1,aN .i64 gW.2.1 1,a7x.1++([a7w.1]:List aB),gW.2.2.2.1,gW.2.2.2.2.1,gW.2.2.2.2.2.1,gW.2.2.2.2.2.2.1,gW.2.2.2.2.2.2.2.1,gW.2.2.2.2.2.2.2.2.1,()))) none) none)
 ((self ((gW.2.2.2.2.2.2.2.2.2.1,gW.2.2.2.2.2.2.2.2.2.2.1,gW.2.2.2.2.2.2.2.2.2.2.2.1,gW.2.2.2.2.2.2.2.2.2.2.2.2.1,gW.2.2.2.2.2.2.2.2.2.2.2.2.2.1,gW.2.2.2.2.2.2.2.2.2.2.2.2.2.2.1,()),gW.2.2.1,())).bind λb5T =>
 some (.inl (gW.1,aN .i64 gW.2.1 1,b5T.1,gW.2.2.2.1,gW.2.2.2.2.1,gW.2.2.2.2.2.1,gW.2.2.2.2.2.2.1,gW.2.2.2.2.2.2.2.1,gW.2.2.2.2.2.2.2.2.1,())))))) none)
 (some (.inr (gH.2.2.1,()))))
 (E8.1,0,E8.2.1,E8.2.2.1,E8.2.2.2.1,E8.2.2.2.2.1,E8.2.2.2.2.2.1,E8.2.2.2.2.2.2.1,E8.2.2.2.2.2.2.2.1,()))))))))
def OU(a0:DS0)(a1:List aB):Option ((List aB)×Unit):=eT (λself (x:DS0×(List aB)×Unit)=>MB self x.1 x.2.1) 10000 (a0,a1,())
def Yf:Sh:=⟨2,[(1,tS0)],[(0,.row 0)],[.row 97 dS false]⟩
def Xl:Sh:=⟨1,[],[(0,.row 0)],[.row 97 dS false]⟩
def h112:HI:=⟨112,Yf,Xl,fun(x:DS0×(List aB)×Unit)=>OU x.1 x.2.1,[]⟩
theorem XK:HK h112:=pG 10000 (ish:=Yf) (osh:=Xl) (G:=λself (x:DS0×(List aB)×Unit)=>MB self x.1 x.2.1) (mU (f:=Tryz.f112) (by kernel_rfl)) λself hr=>hk (.d 1 (.s (.d 1 (.b (.d 1 (.c .o (.d 1 (.c .o (.d 1 (.c .o (.d 1 (.c (.s (.u [0]) .o) .o)))))))))) (.d 1 (.j [] ⟨117,[(5,.str)],[(0,.row 0),(3,.ptr 1 0 0)],[.row 97 dS false,.box 34 [.d (.int .i64),.d .str,.d (.list .str),.d (.int .i64),.d (.int .i64),.d (.rl 34 6)]]⟩ .o (.j [] ⟨117,[(5,.str)],[(0,.row 0),(3,.ptr 1 0 0)],[.row 97 dS false,.box 34 [.d (.int .i64),.d .str,.d (.list .str),.d (.int .i64),.d (.int .i64),.d (.rl 34 6)]]⟩ .o (.s (.d 1 (.b (.l [] ⟨117,[(5,.str),(6,(.int .i64))],[(0,.row 0),(3,.ptr 1 0 0)],[.row 97 dS false,.box 34 [.d (.int .i64),.d .str,.d (.list .str),.d (.int .i64),.d (.int .i64),.d (.rl 34 6)]]⟩ (.d 1 (.s (.b (.d 1 (.j [] ⟨117,[(5,.str),(6,(.int .i64))],[(0,.row 0),(3,.ptr 1 0 0),(7,.ptr 2 0 0)],[.row 97 dS false,.box 34 [.d (.int .i64),.d .str,.d (.list .str),.d (.int .i64),.d (.int .i64),.d (.rl 34 6)],.box 34 [.d (.int .i64),.d .str,.d (.list .str),.d (.int .i64),.d (.int .i64),.d (.rl 34 6)]]⟩ .o (.d 1 (.c (.u [0]) .o))))) .o))))) .o)))))) [] Tryz.func112 (cH hr (cP XF (cP Ig (cP Ie (cH a3A c0))))) (by kernel_rfl) λx=>by kernel_rfl
def MC(self:((List AV)×(List aB)×Unit)->Option ((List aB)×Unit))(a0:List AV)(a1:List aB):Option ((List aB)×Unit) :=
 cond (iEq (aD a0) 0)
 (some (a1,()))
 ((m73 (bs [117,110,108,101,115,115])).bind λa7v =>
 (m74 (bs [40])).bind λa7u =>
 cond (fits (List.length a1+List.length ([a7v.1,a7u.1]:List aB)) 40)
 (bH (S:=(List AV)×Int×(List aB)×Unit) (R:=(List aB)×Unit) (λyL =>
 cond (iLt yL.2.1 (aD yL.1))
 (jZ (S:=(List AV)×Int×(List aB)×Unit) (R:=((List AV)×Int×(List aB)×Unit)⊕((List aB)×Unit))
 (cond (iLt 0 yL.2.1)
 ((m74 (bs [44])).bind λa7t =>
 cond (fits (List.length yL.2.2.1+List.length ([a7t.1]:List aB)) 40)
 (some (.inl (yL.1,yL.2.1,yL.2.2.1++([a7t.1]:List aB),()))) none)
 (some (.inl (yL.1,yL.2.1,yL.2.2.1,()))))
 (λow =>
 cond (and (bnd ow.2.1 (aD ow.1)) (mY (atI ow.1 ow.2.1 AV.any)))
 ((m73 ((bG (atI ow.1 ow.2.1 AV.any)).1)).bind λa7s =>
 (m74 (bs [58])).bind λa7r =>
 cond (fits (List.length ow.2.2.1+List.length ([a7s.1,a7r.1]:List aB)) 40)
 (cond (and (bnd ow.2.1 (aD ow.1)) (mY (atI ow.1 ow.2.1 AV.any)))
 ((OU ((bG (atI ow.1 ow.2.1 AV.any)).2.1) (ow.2.2.1++([a7s.1,a7r.1]:List aB))).bind λb5S =>
 cond (and (bnd ow.2.1 (aD ow.1)) (mY (atI ow.1 ow.2.1 AV.any)))
 ((self ((bG (atI ow.1 ow.2.1 AV.any)).2.2.1,b5S.1,())).bind λb5R =>
 some (.inl (ow.1,aN .i64 ow.2.1 1,b5R.1,()))) none) none) none) none))
 (Option.map Sum.inr ((m74 (bs [41])).bind λa7q =>
 cond (fits (List.length yL.2.2.1+List.length ([a7q.1]:List aB)) 40)
 (some (yL.2.2.1++([a7q.1]:List aB),())) none)))
 (a0,0,a1++([a7v.1,a7u.1]:List aB),())) none)
def UG(a0:List AV)(a1:List aB):Option ((List aB)×Unit):=eT (λself (x:(List AV)×(List aB)×Unit)=>MC self x.1 x.2.1) 10000 (a0,a1,())
def Yg:Sh:=⟨2,[(1,(.rl 63 8))],[(0,.row 0)],[.row 97 dS false]⟩
def Xm:Sh:=⟨1,[],[(0,.row 0)],[.row 97 dS false]⟩
def b8L:HI:=⟨111,Yg,Xm,fun(x:(List AV)×(List aB)×Unit)=>UG x.1 x.2.1,[]⟩
theorem b0l:HK b8L:=pG 10000 (ish:=Yg) (osh:=Xm) (G:=λself (x:(List AV)×(List aB)×Unit)=>MC self x.1 x.2.1) (mU (f:=Tryz.f111) (by kernel_rfl)) λself hr=>hk (.d 3 (.s (.d 1 (.b (.l [] ⟨53,[(1,(.rl 63 8)),(5,(.int .i64))],[(0,.row 0)],[.row 97 dS false]⟩ (.d 1 (.s (.b (.j [] ⟨53,[(1,(.rl 63 8)),(5,(.int .i64))],[(0,.row 0)],[.row 97 dS false]⟩ .o (.u [0]))) .o))))) .o)) [] Tryz.func111 (cH hr (cP Ig (cP Ie (cH XK c0)))) (by kernel_rfl) λx=>by kernel_rfl
def m72(a0:DS1):Option ((List aB)×Unit) :=
 (a1S a0.1).bind λb5Q =>
 (m73 b5Q.1).bind λZO =>
 (m73 a0.2.1).bind λZM =>
 (m74 (bs [58])).bind λZL =>
 jZ (S:=Int×ByteArray×Int×ByteArray×(List ByteArray)×Int×Int×(List AV)×(List AV)×Int×(List aB)×Unit) (R:=(List aB)×Unit)
 ((xG a0.1).bind λb5P =>
 cond (iLt 0 b5P.1)
 ((OW a0.2.2.2.2.1).bind λa7p =>
 (m73 (bs [119,104,101,110])).bind λa7o =>
 cond (fits (List.length ([ZO.1,ZM.1,ZL.1]:List aB)+List.length ([a7p.1,a7o.1]:List aB)) 40)
 (some (.inl (a0.1,a0.2.1,a0.2.2.1.1,a0.2.2.1.2.1,a0.2.2.1.2.2.1,a0.2.2.1.2.2.2.1,a0.2.2.1.2.2.2.2.1,a0.2.2.1.2.2.2.2.2.1,a0.2.2.2.1,a0.2.2.2.2.1,([ZO.1,ZM.1,ZL.1]:List aB)++([a7p.1,a7o.1]:List aB),()))) none)
 (some (.inl (a0.1,a0.2.1,a0.2.2.1.1,a0.2.2.1.2.1,a0.2.2.1.2.2.1,a0.2.2.1.2.2.2.1,a0.2.2.1.2.2.2.2.1,a0.2.2.1.2.2.2.2.2.1,a0.2.2.2.1,a0.2.2.2.2.1,([ZO.1,ZM.1,ZL.1]:List aB),()))))
 (λE5 =>
 (OU (E5.2.2.1,E5.2.2.2.1,E5.2.2.2.2.1,E5.2.2.2.2.2.1,E5.2.2.2.2.2.2.1,E5.2.2.2.2.2.2.2.1,()) E5.2.2.2.2.2.2.2.2.2.2.1).bind λb5O =>
 (UG E5.2.2.2.2.2.2.2.2.1 b5O.1).bind λa7n =>
 (m74 (bs [59])).bind λa7m =>
 cond (fits (List.length a7n.1+List.length ([a7m.1]:List aB)) 40)
 (some (a7n.1++([a7m.1]:List aB),())) none)
def i72:PI:=⟨72,[tS1],[(.list dS)],fun(x:DS1×Unit)=>m72 x.1⟩
theorem b3k:PK i72:=pk (.d 2 (.j [] ⟨34,[],[(1,.ptr 0 0 0),(3,.row 1)],[.box 37 [.d (.int .i64),.d .str,.d (.int .i64),.d .str,.d (.list .str),.d (.int .i64),.d (.int .i64),.d (.rl 34 6),.d (.rl 63 8),.d (.int .i64)],.row 97 dS false]⟩ .o (.s (.u [1]) .o))) Tryz.func72 (cP Ik (cP a99 (cP XF (cP Ig (cP Ie (cH b0l (cH XK c0))))))) (by kernel_rfl) λx=>by kernel_rfl
def m43(a0:DS4):Option ((List (List aB))×Unit) :=
 bH (S:=Int×(List DS1)×(List DS3)×(List (List aB))×Unit) (R:=(List (List aB))×Unit) (λvP =>
 cond (iLt vP.1 (aD vP.2.1))
 (cond (bnd vP.1 (aD vP.2.1))
 ((m72 (atI vP.2.1 vP.1 zS1)).bind λa7l =>
 cond (fits (List.length vP.2.2.2.1+List.length ([a7l.1]:List (List aB))) 24)
 (some (.inl (aN .i64 vP.1 1,vP.2.1,vP.2.2.1,vP.2.2.2.1++([a7l.1]:List (List aB)),()))) none) none)
 (Option.map Sum.inr (bH (S:=Int×(List DS1)×(List DS3)×(List (List aB))×Unit) (R:=(List (List aB))×Unit) (λgQ =>
 cond (iLt gQ.1 (aD gQ.2.2.1))
 (cond (bnd gQ.1 (aD gQ.2.2.1))
 ((m73 (bs [101,110,100,111,114,115,101])).bind λSb =>
 (m73 (bs [116,111])).bind λS9 =>
 (m74 (bs [58])).bind λRZ =>
 cond (fits (List.length gQ.2.2.2.1+List.length ([([Sb.1,(3,(bs []),((atI gQ.2.2.1 gQ.1 zS3).1).1,0,()),S9.1,(3,(bs []),((atI gQ.2.2.1 gQ.1 zS3).1).2.1,0,()),RZ.1]:List aB)]:List (List aB))) 24)
 (jZ (S:=Int×(List DS1)×(List DS3)×(List (List aB))×Int×Int×(List ByteArray)×(List DS1)×Unit) (R:=(Int×(List DS1)×(List DS3)×(List (List aB))×Unit)⊕((List (List aB))×Unit))
 (cond (iLt 0 (aD ((atI gQ.2.2.1 gQ.1 zS3).2.1)))
 ((m73 (bs [114,101,109,111,118,101])).bind λb5N =>
 (m75 ((atI gQ.2.2.1 gQ.1 zS3).2.1) ([b5N.1]:List aB)).bind λZK =>
 (m74 (bs [59])).bind λZJ =>
 cond (fits (List.length ZK.1+List.length ([ZJ.1]:List aB)) 40)
 (cond (fits (List.length (gQ.2.2.2.1++([([Sb.1,(3,(bs []),((atI gQ.2.2.1 gQ.1 zS3).1).1,0,()),S9.1,(3,(bs []),((atI gQ.2.2.1 gQ.1 zS3).1).2.1,0,()),RZ.1]:List aB)]:List (List aB)))+List.length ([ZK.1++([ZJ.1]:List aB)]:List (List aB))) 24)
 (some (.inl (gQ.1,gQ.2.1,gQ.2.2.1,(gQ.2.2.2.1++([([Sb.1,(3,(bs []),((atI gQ.2.2.1 gQ.1 zS3).1).1,0,()),S9.1,(3,(bs []),((atI gQ.2.2.1 gQ.1 zS3).1).2.1,0,()),RZ.1]:List aB)]:List (List aB)))++([ZK.1++([ZJ.1]:List aB)]:List (List aB)),((atI gQ.2.2.1 gQ.1 zS3).1).1,((atI gQ.2.2.1 gQ.1 zS3).1).2.1,(atI gQ.2.2.1 gQ.1 zS3).2.1,(atI gQ.2.2.1 gQ.1 zS3).2.2.1,()))) none) none)
 (some (.inl (gQ.1,gQ.2.1,gQ.2.2.1,gQ.2.2.2.1++([([Sb.1,(3,(bs []),((atI gQ.2.2.1 gQ.1 zS3).1).1,0,()),S9.1,(3,(bs []),((atI gQ.2.2.1 gQ.1 zS3).1).2.1,0,()),RZ.1]:List aB)]:List (List aB)),((atI gQ.2.2.1 gQ.1 zS3).1).1,((atI gQ.2.2.1 gQ.1 zS3).1).2.1,(atI gQ.2.2.1 gQ.1 zS3).2.1,(atI gQ.2.2.1 gQ.1 zS3).2.2.1,()))))
 (λDZ =>
 bH (S:=Int×Int×(List DS1)×(List DS3)×(List (List aB))×Int×Int×(List ByteArray)×(List DS1)×Unit) (R:=(Int×(List DS1)×(List DS3)×(List (List aB))×Unit)⊕((List (List aB))×Unit)) (λoW =>
 cond (iLt oW.2.1 (aD oW.2.2.2.2.2.2.2.2.1))
 (cond (bnd oW.2.1 (aD oW.2.2.2.2.2.2.2.2.1))
 ((m72 (atI oW.2.2.2.2.2.2.2.2.1 oW.2.1 zS1)).bind λa7k =>
 cond (fits (List.length oW.2.2.2.2.1+List.length ([a7k.1]:List (List aB))) 24)
 (some (.inl (oW.1,aN .i64 oW.2.1 1,oW.2.2.1,oW.2.2.2.1,oW.2.2.2.2.1++([a7k.1]:List (List aB)),oW.2.2.2.2.2.1,oW.2.2.2.2.2.2.1,oW.2.2.2.2.2.2.2.1,oW.2.2.2.2.2.2.2.2.1,()))) none) none)
 (Option.map Sum.inr ((m73 (bs [101,110,100])).bind λa7j =>
 (m74 (bs [59])).bind λa7i =>
 cond (fits (List.length oW.2.2.2.2.1+List.length ([([a7j.1,a7i.1]:List aB)]:List (List aB))) 24)
 (some (.inl (aN .i64 oW.1 1,oW.2.2.1,oW.2.2.2.1,oW.2.2.2.2.1++([([a7j.1,a7i.1]:List aB)]:List (List aB)),()))) none)))
 (DZ.1,0,DZ.2.1,DZ.2.2.1,DZ.2.2.2.1,DZ.2.2.2.2.1,DZ.2.2.2.2.2.1,DZ.2.2.2.2.2.2.1,DZ.2.2.2.2.2.2.2.1,()))) none) none)
 (some (.inr (gQ.2.2.2.1,()))))
 (0,vP.2.1,vP.2.2.1,vP.2.2.2.1,()))))
 (0,a0.1,a0.2.1,([]:List (List aB)),())
def i43:PI:=⟨43,[tS4],[(.list (.list dS))],fun(x:DS4×Unit)=>m43 x.1⟩
theorem b3r:PK i43:=pk (.d 2 (.s (.d 1 (.b (.l [.gh 3 80 (.list dS)] ⟨89,[(4,(.int .i64))],[(1,.ptr 0 0 0),(3,.row 1)],[.box 29 [.d (.list tS1),.d (.list tS3)],.row 80 (.list dS) false]⟩ .o))) (.s (.d 1 (.b (.l [.gh 3 80 (.list dS)] ⟨89,[(5,(.int .i64))],[(1,.ptr 0 0 0),(3,.row 1)],[.box 29 [.d (.list tS1),.d (.list tS3)],.row 80 (.list dS) false]⟩ (.d 1 (.s (.b (.d 2 (.j [] ⟨89,[(5,(.int .i64))],[(1,.ptr 0 0 0),(3,.row 1),(6,.ptr 2 0 0)],[.box 29 [.d (.list tS1),.d (.list tS3)],.row 80 (.list dS) false,.box 55 [.d (.int .i64),.d (.int .i64),.d (.list .str),.d (.list tS1)]]⟩ .o (.s (.d 1 (.b (.l [] ⟨89,[(5,(.int .i64)),(7,(.int .i64))],[(1,.ptr 0 0 0),(3,.row 1),(6,.ptr 2 0 0)],[.box 29 [.d (.list tS1),.d (.list tS3)],.row 80 (.list dS) false,.box 55 [.d (.int .i64),.d (.int .i64),.d (.list .str),.d (.list tS1)]]⟩ .o))) .o)))) .o))))) .o))) Tryz.func43 (cP b3k (cP Ig (cP Ie (cH a3A c0)))) (by kernel_rfl) λx=>by kernel_rfl
def a1R(a0:Int):Option (Bool×Unit) :=
 some (cond (iLe (-17592186044416) a0) (iLe a0 17592186044416) false,())
def b8g:PI:=⟨113,[(.int .i64)],[.bool],fun(x:Int×Unit)=>a1R x.1⟩
theorem a98:PK b8g:=pk .o Tryz.func113 c0 (by kernel_rfl) λx=>by kernel_rfl
def uW(a0:Int)(a1:Int):Option (ByteArray×Unit) :=
 bH (S:=Int×Int×ByteArray×Unit) (R:=ByteArray×Unit) (λAU =>
 cond (cond (iLt 0 AU.1) true (iLt (sLen AU.2.2.1) AU.2.1))
 (cond (iNe 10 0)
 (cond (iK (bsI ([IntKind.wrap .u8 (aN .i64 48 (iE AU.1 10))]:List Int)) AU.2.2.1)
 (cond (iNe 10 0)
 (some (.inl (yU .i64 AU.1 10,AU.2.1,dx (bsI ([IntKind.wrap .u8 (aN .i64 48 (iE AU.1 10))]:List Int)) AU.2.2.1,()))) none) none) none)
 (some (.inr (AU.2.2.1,()))))
 (a0,a1,(bs []),())
def b7W:PI:=⟨155,[(.int .i64),(.int .i64)],[.str],fun(x:Int×Int×Unit)=>uW x.1 x.2.1⟩
theorem Xu:PK b7W:=pk (.d 2 (.s (.b (.l [] ⟨25,[(0,(.int .i64)),(1,(.int .i64)),(5,.str)],[],[]⟩ .o)) .o)) Tryz.func155 c0 (by kernel_rfl) λx=>by kernel_rfl
def UF(a0:Int):Option (ByteArray×Unit) :=
 cond (iLt a0 0)
 ((uW (Bc .i64 a0) 1).bind λa7h =>
 cond (iK (bs [45]) a7h.1)
 (some (dx (bs [45]) a7h.1,())) none)
 ((uW a0 1).bind λb5K =>
 some (b5K.1,()))
def b8f:PI:=⟨114,[(.int .i64)],[.str],fun(x:Int×Unit)=>UF x.1⟩
theorem a97:PK b8f:=pk .o Tryz.func114 (cP Xu c0) (by kernel_rfl) λx=>by kernel_rfl
def OL(a0:Int):Option (Bool×Unit) :=
 some (cond (iLe 0 a0) (iLe a0 876599) false,())
def b72:PI:=⟨142,[(.int .i64)],[.bool],fun(x:Int×Unit)=>OL x.1⟩
theorem Xw:PK b72:=pk .o Tryz.func142 c0 (by kernel_rfl) λx=>by kernel_rfl
def Un(a0:Int):Option (Bool×Unit) :=
 cond (iNe 4 0)
 (cond (or (iNe 100 0) (not (bEq (iEq (iE a0 4) 0) true)))
 (cond (iEq (iE a0 4) 0)
 (cond (or (iNe 400 0) (not (bEq (iNe (iE a0 100) 0) false)))
 (some (cond (iNe (iE a0 100) 0) true (iEq (iE a0 400) 0),())) none)
 (some (false,()))) none) none
def b7E:PI:=⟨190,[(.int .i64)],[.bool],fun(x:Int×Unit)=>Un x.1⟩
theorem a9t:PK b7E:=pk .o Tryz.func190 c0 (by kernel_rfl) λx=>by kernel_rfl
def OG(a0:Int)(a1:Int):Option (Int×Unit) :=
 cond (iEq a1 2)
 ((Un a0).bind λb5I =>
 cond b5I.1
 (some (29,()))
 (some (28,())))
 (cond (iEq a1 4)
 (some (30,()))
 (cond (iEq a1 6)
 (some (30,()))
 (cond (iEq a1 9)
 (some (30,()))
 (cond (iEq a1 11)
 (some (30,()))
 (some (31,()))))))
def b7L:PI:=⟨179,[(.int .i64),(.int .i64)],[(.int .i64)],fun(x:Int×Int×Unit)=>OG x.1 x.2.1⟩
theorem a9y:PK b7L:=pk .o Tryz.func179 (cP a9t c0) (by kernel_rfl) λx=>by kernel_rfl
def Uv(a0:Int):Option (H8×Int×Int×Unit) :=
 (OL a0).bind λb5H =>
 cond (not b5H.1)
 (some ((0,0,0,()),0,1,()))
 (cond (iNe 24 0)
 (bH (S:=Int×Int×Int×Int×Int×Int×Int×Unit) (R:=H8×Int×Int×Unit) (λnS =>
 (OG nS.2.2.1 nS.2.2.2.1).bind λb5G =>
 cond (iLe b5G.1 nS.2.1)
 ((OG nS.2.2.1 nS.2.2.2.1).bind λa7g =>
 cond (iLt 12 (aN .i64 nS.2.2.2.1 1))
 (some (.inl (nS.1,dz .i64 nS.2.1 a7g.1,aN .i64 nS.2.2.1 1,1,nS.2.2.2.2.1,nS.2.2.2.2.2.1,nS.2.2.2.2.2.2.1,())))
 (some (.inl (nS.1,dz .i64 nS.2.1 a7g.1,nS.2.2.1,aN .i64 nS.2.2.2.1 1,nS.2.2.2.2.1,nS.2.2.2.2.2.1,nS.2.2.2.2.2.2.1,()))))
 (Option.map Sum.inr (cond (iNe 24 0)
 (some ((nS.2.2.1,nS.2.2.2.1,aN .i64 nS.2.1 1,()),iE nS.1 24,0,())) none)))
 (a0,yU .i64 a0 24,2000,1,0,0,0,())) none)
def b7V:PI:=⟨156,[(.int .i64)],[a0B,(.int .i64),(.int .i64)],fun(x:Int×Unit)=>Uv x.1⟩
theorem a9M:PK b7V:=pk (.d 4 (.s (.b (.l [] ⟨37,[(0,(.int .i64)),(5,(.int .i64)),(6,(.int .i64)),(7,(.int .i64))],[(2,.ptr 0 0 0)],[.box 183 [.d (.int .i64),.d (.int .i64),.d (.int .i64)]]⟩ .o)) .o)) Tryz.func156 (cP Xw (cP a9y c0)) (by kernel_rfl) λx=>by kernel_rfl
def UE(a0:Int):Option (ByteArray×Int×Unit) :=
 (Uv a0).bind λFU =>
 cond (iNe FU.2.2.1 0)
 (some ((bs []),FU.2.2.1,()))
 ((uW FU.1.1 4).bind λD6 =>
 cond (iK D6.1 (bs [45]))
 ((uW FU.1.2.1 2).bind λFT =>
 cond (iK (dx D6.1 (bs [45])) FT.1)
 (cond (iK (dx (dx D6.1 (bs [45])) FT.1) (bs [45]))
 ((uW FU.1.2.2.1 2).bind λNg =>
 cond (iK (dx (dx (dx D6.1 (bs [45])) FT.1) (bs [45])) Ng.1)
 (cond (iLt 0 FU.2.1)
 (cond (iK (dx (dx (dx (dx D6.1 (bs [45])) FT.1) (bs [45])) Ng.1) (bs [84]))
 ((uW FU.2.1 2).bind λa7f =>
 cond (iK (dx (dx (dx (dx (dx D6.1 (bs [45])) FT.1) (bs [45])) Ng.1) (bs [84])) a7f.1)
 (some (dx (dx (dx (dx (dx (dx D6.1 (bs [45])) FT.1) (bs [45])) Ng.1) (bs [84])) a7f.1,0,())) none) none)
 (some (dx (dx (dx (dx D6.1 (bs [45])) FT.1) (bs [45])) Ng.1,0,()))) none) none) none) none)
def b8e:PI:=⟨115,[(.int .i64)],[.str,(.int .i64)],fun(x:Int×Unit)=>UE x.1⟩
theorem a96:PK b8e:=pk .o Tryz.func115 (cP Xu (cP a9M c0)) (by kernel_rfl) λx=>by kernel_rfl
def UD(a0:ByteArray):Option (Bool×Unit) :=
 some (cond (cond (cond (cond (sEq a0 (bs [59])) true (sEq a0 (bs [58]))) true (sEq a0 (bs [44]))) true (sEq a0 (bs [40]))) true (sEq a0 (bs [41])),())
def b8d:PI:=⟨116,[.str],[.bool],fun(x:ByteArray×Unit)=>UD x.1⟩
theorem a95:PK b8d:=pk .o Tryz.func116 c0 (by kernel_rfl) λx=>by kernel_rfl
def m76(a0:aB):Option (ByteArray×Int×Unit) :=
 cond (cond (iLt a0.1 1) true (iLt 4 a0.1))
 (some ((bs []),11,()))
 (cond (cond (cond (iEq a0.1 1) true (iEq a0.1 4)) (iNe a0.2.2.1 0) false)
 (some ((bs []),20,()))
 (cond (cond (not (cond (iEq a0.1 1) true (iEq a0.1 4))) (not (sEq a0.2.1 (bs []))) false)
 (some ((bs []),20,()))
 (cond (iEq a0.1 1)
 ((OX a0.2.1).bind λb5M =>
 cond (not b5M.1)
 (some ((bs []),6,()))
 (some (a0.2.1,0,())))
 (cond (iEq a0.1 2)
 ((a1R a0.2.2.1).bind λb5L =>
 cond (not b5L.1)
 (some ((bs []),1,()))
 ((UF a0.2.2.1).bind λb5J =>
 some (b5J.1,0,())))
 (cond (iEq a0.1 3)
 ((UE a0.2.2.1).bind λZI =>
 cond (iK (bs [64]) ZI.1)
 (some (dx (bs [64]) ZI.1,ZI.2.1,())) none)
 (cond (iEq a0.1 4)
 ((UD a0.2.1).bind λb5F =>
 cond (not b5F.1)
 (some ((bs []),5,()))
 (some (a0.2.1,0,())))
 (some (a0.2.1,0,()))))))))
def i76:PI:=⟨76,[dS],[.str,(.int .i64)],fun(x:aB×Unit)=>m76 x.1⟩
theorem b3j:PK i76:=pk .o Tryz.func76 (cP XG (cP a98 (cP a97 (cP a96 (cP a95 c0))))) (by kernel_rfl) λx=>by kernel_rfl
def m44(a0:List aB):Option (ByteArray×Int×Unit) :=
 cond (iLt 4000 (aD a0))
 (some ((bs []),4,()))
 (bH (S:=(List aB)×ByteArray×Bool×Int×Unit) (R:=ByteArray×Int×Unit) (λrC =>
 cond (iLt rC.2.2.2.1 (aD rC.1))
 (cond (bnd rC.2.2.2.1 (aD rC.1))
 ((m76 (atI rC.1 rC.2.2.2.1 wS)).bind λyG =>
 cond (iNe yG.2.1 0)
 (some (.inr ((bs []),yG.2.1,())))
 (cond (cond (cond (cond (cond (not rC.2.2.1) (not (sEq yG.1 (bs [59]))) false) (not (sEq yG.1 (bs [58]))) false) (not (sEq yG.1 (bs [44]))) false) (not (sEq yG.1 (bs [41]))) false)
 (cond (iK rC.2.1 (bs [32]))
 (cond (iK (dx rC.2.1 (bs [32])) yG.1)
 (some (.inl (rC.1,dx (dx rC.2.1 (bs [32])) yG.1,sEq yG.1 (bs [40]),aN .i64 rC.2.2.2.1 1,()))) none) none)
 (cond (iK rC.2.1 yG.1)
 (some (.inl (rC.1,dx rC.2.1 yG.1,sEq yG.1 (bs [40]),aN .i64 rC.2.2.2.1 1,()))) none))) none)
 (Option.map Sum.inr (cond (iLt 16384 (sLen rC.2.1))
 (some ((bs []),4,()))
 (some (rC.2.1,0,())))))
 (a0,(bs []),true,0,()))
def i44:PI:=⟨44,[(.list dS)],[.str,(.int .i64)],fun(x:(List aB)×Unit)=>m44 x.1⟩
theorem b3q:PK i44:=pk (.d 3 (.s (.d 1 (.b (.l [] ⟨58,[(0,(.list dS)),(4,.str),(5,.bool),(6,(.int .i64))],[],[]⟩ .o))) .o)) Tryz.func44 (cP b3j c0) (by kernel_rfl) λx=>by kernel_rfl
def m20(a0:DS4):Option (ByteArray×Int×Unit) :=
 (m16 (a0.1,a0.2.1,())).bind λb5E =>
 cond (not b5E.1)
 (some ((bs []),5,()))
 ((m43 (a0.1,a0.2.1,())).bind λb5D =>
 bH (S:=(List (List aB))×ByteArray×Int×Int×Unit) (R:=ByteArray×Int×Unit) (λoV =>
 cond (iLt oV.2.2.2.1 (aD oV.1))
 (cond (bnd oV.2.2.2.1 (aD oV.1))
 (cond (bnd oV.2.2.2.1 (aD oV.1))
 ((m44 (atI oV.1 oV.2.2.2.1 [])).bind λNf =>
 cond (cond (cond (iNe Nf.2.1 0) true (iLt 4000 (aN .i64 oV.2.2.1 (aD (atI oV.1 oV.2.2.2.1 []))))) true (iLt 16384 (aN .i64 (aN .i64 (sLen oV.2.1) (sLen Nf.1)) 1)))
 (some (.inr ((bs []),4,())))
 (cond (iK oV.2.1 Nf.1)
 (cond (iK (dx oV.2.1 Nf.1) (bs [10]))
 (some (.inl (oV.1,dx (dx oV.2.1 Nf.1) (bs [10]),aN .i64 oV.2.2.1 (aD (atI oV.1 oV.2.2.2.1 [])),aN .i64 oV.2.2.2.1 1,()))) none) none)) none) none)
 (some (.inr (oV.2.1,0,()))))
 (b5D.1,(bs []),0,0,()))
def i20:PI:=⟨20,[tS4],[.str,(.int .i64)],fun(x:DS4×Unit)=>m20 x.1⟩
theorem b3v:PK i20:=pk (.d 4 (.s (.d 1 (.b (.l [] ⟨56,[(4,(.list (.list dS))),(5,.str),(6,(.int .i64)),(7,(.int .i64))],[],[]⟩ .o))) .o)) Tryz.func20 (cP Mg (cP b3r (cP b3q c0))) (by kernel_rfl) λx=>by kernel_rfl
def m14(a0:List Int):Option ((List Int)×Int×Unit) :=
 some (a0,0,())
def b4n:Sh:=⟨1,[(0,(.list (.int .i64)))],[],[]⟩
def b26:Sh:=⟨1,[],[(0,.ptr 0 0 0)],[.box 65 [.d (.list (.int .i64)),.d (.int .i64)]]⟩
def h14:HI:=⟨14,b4n,b26,fun(x:(List Int)×Unit)=>m14 x.1,[]⟩
theorem a3E:HK h14:=hk .o [] Tryz.func14 c0 (by kernel_rfl) λx=>by kernel_rfl
def m24(a0:Int)(a1:List Int)(a2:Int):Option (Int×(List Int)×Int×Unit) :=
 cond (iLe (aD a1) a2)
 (some (0,a1,a2,()))
 (cond (bnd (dz .i64 (aN .i64 a2 1) 1) (aD a1))
 (cond (iNe a0 0)
 (cond (iNe a0 0)
 (some (iE (aN .i64 (iE (atI a1 (dz .i64 (aN .i64 a2 1) 1) 0) a0) a0) a0,a1,aN .i64 a2 1,())) none) none) none)
def b4l:Sh:=⟨2,[(1,(.int .i64))],[(0,.ptr 0 0 0)],[.box 65 [.d (.list (.int .i64)),.d (.int .i64)]]⟩
def b24:Sh:=⟨1,[(0,(.int .i64))],[],[.box 65 [.d (.list (.int .i64)),.d (.int .i64)]]⟩
def h24:HI:=⟨24,b4l,b24,fun(x:Int×(List Int)×Int×Unit)=>m24 x.1 x.2.1 x.2.2.1,[]⟩
theorem tJ:HK h24:=hk .o [] Tryz.func24 c0 (by kernel_rfl) λx=>by kernel_rfl
def m11(a0:Int)(a1:Int):Option (Int×Unit) :=
 cond (iNe a1 0)
 (cond (iNe a1 0)
 (some (iE (aN .i64 (iE a0 a1) a1) a1,())) none) none
def i11:PI:=⟨11,[(.int .i64),(.int .i64)],[(.int .i64)],fun(x:Int×Int×Unit)=>m11 x.1 x.2.1⟩
theorem b3z:PK i11:=pk .o Tryz.func11 c0 (by kernel_rfl) λx=>by kernel_rfl
def m51:Option (DS5×Unit) :=
 some (((bs [112,101,114,105,108]),1,([(bs [102,105,114,101]),(bs [102,108,111,111,100]),(bs [119,105,110,100]),(bs [116,104,101,102,116])]:List ByteArray),0,0,()),())
def i51:PI:=⟨51,[],[tS5],fun(x:Unit)=>m51⟩
theorem b3n:PK i51:=pk .o Tryz.func51 c0 (by kernel_rfl) λx=>by kernel_rfl
def m23(a0:Int):Option (DS6×Unit) :=
 (m11 a0 6).bind λNc =>
 cond (iEq Nc.1 0)
 ((m51).bind λb5C =>
 some ((([b5C.1,((bs [115,116,111,114,101,121,115]),2,([]:List ByteArray),1,9,()),((bs [97,108,97,114,109]),3,([]:List ByteArray),0,0,())]:List DS5),()),()))
 (cond (iEq Nc.1 1)
 (some ((([((bs [110]),2,([]:List ByteArray),(-5),20,())]:List DS5),()),()))
 (cond (iEq Nc.1 2)
 (some ((([((bs [97]),3,([]:List ByteArray),0,0,()),((bs [114,111,108,101]),1,([(bs [99,114,101,119]),(bs [103,117,101,115,116])]:List ByteArray),0,0,()),((bs [98]),3,([]:List ByteArray),0,0,())]:List DS5),()),()))
 (cond (iEq Nc.1 3)
 (some ((([((bs [110]),2,([]:List ByteArray),(-1000000000),1000000000,()),((bs [116]),3,([]:List ByteArray),0,0,())]:List DS5),()),()))
 (cond (iEq Nc.1 4)
 ((m51).bind λb5B =>
 some ((([((bs [111,110,101]),1,([(bs [111,110,108,121])]:List ByteArray),0,0,()),b5B.1,((bs [110]),2,([]:List ByteArray),0,6,()),((bs [116]),3,([]:List ByteArray),0,0,())]:List DS5),()),()))
 (some ((([((bs [116]),3,([]:List ByteArray),0,0,())]:List DS5),()),()))))))
def i23:PI:=⟨23,[(.int .i64)],[tS6],fun(x:Int×Unit)=>m23 x.1⟩
theorem b3u:PK i23:=pk .o Tryz.func23 (cP b3z (cP b3n c0)) (by kernel_rfl) λx=>by kernel_rfl
def m86(a0:ByteArray)(a1:Int):Option (ByteArray×Unit) :=
 cond (iNe 26 0)
 (cond (iNe 26 0)
 (cond (iNe 26 0)
 (cond (iK a0 (bsI ([IntKind.wrap .u8 (aN .i64 97 (iE (yU .i64 a1 26) 26)),IntKind.wrap .u8 (aN .i64 97 (iE a1 26))]:List Int)))
 (some (dx a0 (bsI ([IntKind.wrap .u8 (aN .i64 97 (iE (yU .i64 a1 26) 26)),IntKind.wrap .u8 (aN .i64 97 (iE a1 26))]:List Int)),())) none) none) none) none
def i86:PI:=⟨86,[.str,(.int .i64)],[.str],fun(x:ByteArray×Int×Unit)=>m86 x.1 x.2.1⟩
theorem b3g:PK i86:=pk .o Tryz.func86 c0 (by kernel_rfl) λx=>by kernel_rfl
def m88(a0:Int)(a1:Int)(a2:List Int)(a3:Int):Option (Int×(List Int)×Int×Unit) :=
 (m24 (aN .i64 (dz .i64 a1 a0) 1) a2 a3).bind λZG =>
 some (aN .i64 a0 ZG.1,ZG.2.1,ZG.2.2.1,())
def b36:Sh:=⟨3,[(1,(.int .i64)),(2,(.int .i64))],[(0,.ptr 0 0 0)],[.box 65 [.d (.list (.int .i64)),.d (.int .i64)]]⟩
def b2N:Sh:=⟨1,[(0,(.int .i64))],[],[.box 65 [.d (.list (.int .i64)),.d (.int .i64)]]⟩
def h88:HI:=⟨88,b36,b2N,fun(x:Int×Int×(List Int)×Int×Unit)=>m88 x.1 x.2.1 x.2.2.1 x.2.2.2.1,[]⟩
theorem Il:HK h88:=hk .o [] Tryz.func88 (cH tJ c0) (by kernel_rfl) λx=>by kernel_rfl
def Uu(a0:DS6)(a1:List Int)(a2:Int):Option (DS0×(List Int)×Int×Unit) :=
 (m24 (aD a0.1) a1 a2).bind λkJ =>
 cond (bnd kJ.1 (aD a0.1))
 (cond (iEq ((atI a0.1 kJ.1 zS5).2.1) 3)
 (some ((3,(atI a0.1 kJ.1 zS5).1,([]:List ByteArray),0,0,([]:List AV),()),kJ.2.1,kJ.2.2.1,()))
 (cond (iEq ((atI a0.1 kJ.1 zS5).2.1) 1)
 ((m24 (aD ((atI a0.1 kJ.1 zS5).2.2.1)) kJ.2.1 kJ.2.2.1).bind λZF =>
 (m88 1 (aD ((atI a0.1 kJ.1 zS5).2.2.1)) ZF.2.1 ZF.2.2.1).bind λZE =>
 bH (S:=Int×Int×(List Int)×Int×Int×ByteArray×Int×Int×ByteArray×Int×(List ByteArray)×Int×Int×Int×ByteArray×Int×Int×(List ByteArray)×Unit) (R:=DS0×(List Int)×Int×Unit) (λjM =>
 cond (iLt 0 jM.2.1)
 (cond (iNe (aD jM.2.2.2.2.2.2.2.2.2.2.1) 0)
 (cond (bnd (iE jM.1 (aD jM.2.2.2.2.2.2.2.2.2.2.1)) (aD jM.2.2.2.2.2.2.2.2.2.2.1))
 (cond (fits (List.length jM.2.2.2.2.2.2.2.2.2.2.2.2.2.2.2.2.2.1+List.length ([atI jM.2.2.2.2.2.2.2.2.2.2.1 (iE jM.1 (aD jM.2.2.2.2.2.2.2.2.2.2.1)) ByteArray.empty]:List ByteArray)) 16)
 (some (.inl (aN .i64 jM.1 1,dz .i64 jM.2.1 1,jM.2.2.1,jM.2.2.2.1,jM.2.2.2.2.1,jM.2.2.2.2.2.1,jM.2.2.2.2.2.2.1,jM.2.2.2.2.2.2.2.1,jM.2.2.2.2.2.2.2.2.1,jM.2.2.2.2.2.2.2.2.2.1,jM.2.2.2.2.2.2.2.2.2.2.1,jM.2.2.2.2.2.2.2.2.2.2.2.1,jM.2.2.2.2.2.2.2.2.2.2.2.2.1,jM.2.2.2.2.2.2.2.2.2.2.2.2.2.1,jM.2.2.2.2.2.2.2.2.2.2.2.2.2.2.1,jM.2.2.2.2.2.2.2.2.2.2.2.2.2.2.2.1,jM.2.2.2.2.2.2.2.2.2.2.2.2.2.2.2.2.1,jM.2.2.2.2.2.2.2.2.2.2.2.2.2.2.2.2.2.1++([atI jM.2.2.2.2.2.2.2.2.2.2.1 (iE jM.1 (aD jM.2.2.2.2.2.2.2.2.2.2.1)) ByteArray.empty]:List ByteArray),()))) none) none) none)
 (some (.inr ((jM.2.2.2.2.2.2.2.2.2.2.2.2.2.1,jM.2.2.2.2.2.2.2.2.2.2.2.2.2.2.1,jM.2.2.2.2.2.2.2.2.2.2.2.2.2.2.2.2.2.1,jM.2.2.2.2.2.2.2.2.2.2.2.2.2.2.2.1,jM.2.2.2.2.2.2.2.2.2.2.2.2.2.2.2.2.1,([]:List AV),()),jM.2.2.1,jM.2.2.2.1,()))))
 (ZF.1,ZE.1,ZE.2.1,ZE.2.2.1,0,(bs []),0,0,(atI a0.1 kJ.1 zS5).1,(atI a0.1 kJ.1 zS5).2.1,(atI a0.1 kJ.1 zS5).2.2.1,(atI a0.1 kJ.1 zS5).2.2.2.1,(atI a0.1 kJ.1 zS5).2.2.2.2.1,4,(atI a0.1 kJ.1 zS5).1,0,0,([]:List ByteArray),()))
 ((m24 (aN .i64 (dz .i64 ((atI a0.1 kJ.1 zS5).2.2.2.2.1) ((atI a0.1 kJ.1 zS5).2.2.2.1)) 1) kJ.2.1 kJ.2.2.1).bind λZC =>
 jZ (S:=Int×(List Int)×Int×Int×ByteArray×Int×Int×ByteArray×Int×(List ByteArray)×Int×Int×Unit) (R:=DS0×(List Int)×Int×Unit)
 ((m24 2 ZC.2.1 ZC.2.2.1).bind λNb =>
 cond (iEq Nb.1 0)
 ((m24 12 Nb.2.1 Nb.2.2.1).bind λZB =>
 some (.inl (jC (xQ (dz .i64 ZB.1 4) ((atI a0.1 kJ.1 zS5).2.2.2.1)) ((atI a0.1 kJ.1 zS5).2.2.2.2.1),ZB.2.1,ZB.2.2.1,0,(bs []),0,0,(atI a0.1 kJ.1 zS5).1,(atI a0.1 kJ.1 zS5).2.1,(atI a0.1 kJ.1 zS5).2.2.1,(atI a0.1 kJ.1 zS5).2.2.2.1,(atI a0.1 kJ.1 zS5).2.2.2.2.1,())))
 (some (.inl (aN .i64 ((atI a0.1 kJ.1 zS5).2.2.2.1) ZC.1,Nb.2.1,Nb.2.2.1,0,(bs []),0,0,(atI a0.1 kJ.1 zS5).1,(atI a0.1 kJ.1 zS5).2.1,(atI a0.1 kJ.1 zS5).2.2.1,(atI a0.1 kJ.1 zS5).2.2.2.1,(atI a0.1 kJ.1 zS5).2.2.2.2.1,()))))
 (λzS =>
 (m24 (aN .i64 (dz .i64 zS.2.2.2.2.2.2.2.2.2.2.2.1 zS.1) 1) zS.2.1 zS.2.2.1).bind λZz =>
 (m24 2 Zz.2.1 Zz.2.2.1).bind λNa =>
 cond (iEq Na.1 0)
 ((m24 4 Na.2.1 Na.2.2.1).bind λZy =>
 some ((5,zS.2.2.2.2.2.2.2.1,([]:List ByteArray),zS.1,jC (aN .i64 zS.1 Zy.1) zS.2.2.2.2.2.2.2.2.2.2.2.1,([]:List AV),()),Zy.2.1,Zy.2.2.1,()))
 (some ((5,zS.2.2.2.2.2.2.2.1,([]:List ByteArray),zS.1,aN .i64 zS.1 Zz.1,([]:List AV),()),Na.2.1,Na.2.2.1,())))))) none
def b08:Sh:=⟨3,[(1,tS6)],[(0,.ptr 0 0 0),(2,.nil)],[.box 65 [.d (.list (.int .i64)),.d (.int .i64)]]⟩
def a9l:Sh:=⟨1,[(0,tS0)],[],[.box 65 [.d (.list (.int .i64)),.d (.int .i64)]]⟩
def b8F:HI:=⟨164,b08,a9l,fun(x:DS6×(List Int)×Int×Unit)=>Uu x.1 x.2.1 x.2.2.1,[]⟩
theorem b0h:HK b8F:=hkz (.d 2 (.s (.u [0]) (.s (.d 1 (.b (.d 1 (.c .o (.d 1 (.c (.d 2 (.s (.d 1 (.b (.l [.ghc 8 2 9 .str] ⟨128,[(9,(.int .i64)),(10,(.int .i64))],[(6,.ptr 1 0 0),(7,.ptr 2 0 0),(8,.ptr 3 0 0)],[.box 65 [.d (.list (.int .i64)),.d (.int .i64)],.box 34 [.d (.int .i64),.d .str,.nil,.d (.int .i64),.d (.int .i64),.nil],.box 106 [.d .str,.d (.int .i64),.d (.list .str),.d (.int .i64),.d (.int .i64)],.box 34 [.d (.int .i64),.d .str,.row 4,.d (.int .i64),.d (.int .i64),.nil],.row 9 .str false]⟩ .o))) .o)) .o)))))) (.s (.u [0]) (.j [] ⟨128,[(11,(.int .i64))],[(0,.ptr 0 0 0),(6,.ptr 1 0 0),(7,.ptr 2 0 0)],[.box 65 [.d (.list (.int .i64)),.d (.int .i64)],.box 34 [.d (.int .i64),.d .str,.nil,.d (.int .i64),.d (.int .i64),.nil],.box 106 [.d .str,.d (.int .i64),.d (.list .str),.d (.int .i64),.d (.int .i64)]]⟩ (.d 1 (.c (.u [0]) .o)) (.d 1 (.s (.d 1 (.c (.u [0]) .o)) .o))))))) [] tS0 Tryz.func164 (cH tJ (cH Il c0)) (by kernel_rfl) λx=>by kernel_rfl
def Mx(self:(DS6×Int×(List Int)×Int×Unit)->Option (DS0×(List Int)×Int×Unit))(a0:DS6)(a1:Int)(a2:List Int)(a3:Int):Option (DS0×(List Int)×Int×Unit) :=
 (m24 8 a2 a3).bind λBS =>
 cond (cond (iLt a1 2) true (iLt BS.1 4))
 ((m24 12 BS.2.1 BS.2.2.1).bind λD5 =>
 cond (iEq D5.1 10)
 (some ((1,(bs []),([]:List ByteArray),0,0,([]:List AV),()),D5.2.1,D5.2.2.1,()))
 (cond (iEq D5.1 11)
 (some ((2,(bs []),([]:List ByteArray),0,0,([]:List AV),()),D5.2.1,D5.2.2.1,()))
 ((Uu (a0.1,()) D5.2.1 D5.2.2.1).bind λCZ =>
 some ((CZ.1.1,CZ.1.2.1,CZ.1.2.2.1,CZ.1.2.2.2.1,CZ.1.2.2.2.2.1,CZ.1.2.2.2.2.2.1,()),CZ.2.1,CZ.2.2.1,()))))
 (cond (iLt BS.1 6)
 ((self ((a0.1,()),dz .i64 a1 1,BS.2.1,BS.2.2.1,())).bind λZx =>
 some ((6,(bs []),([]:List ByteArray),0,0,wD ([Zx.1]:List DS0),()),Zx.2.1,Zx.2.2.1,()))
 ((m88 2 3 BS.2.1 BS.2.2.1).bind λZw =>
 bH (S:=Int×Int×(List Int)×Int×(List DS5)×Int×ByteArray×Int×Int×Int×ByteArray×Int×Int×(List DS0)×Unit) (R:=DS0×(List Int)×Int×Unit) (λmX =>
 cond (iLt 0 mX.2.1)
 ((self ((mX.2.2.2.2.1,()),dz .i64 mX.1 1,mX.2.2.1,mX.2.2.2.1,())).bind λRY =>
 cond (fits (List.length mX.2.2.2.2.2.2.2.2.2.2.2.2.2.1+List.length ([RY.1]:List DS0)) 88)
 (some (.inl (mX.1,dz .i64 mX.2.1 1,RY.2.1,RY.2.2.1,mX.2.2.2.2.1,mX.2.2.2.2.2.1,mX.2.2.2.2.2.2.1,mX.2.2.2.2.2.2.2.1,mX.2.2.2.2.2.2.2.2.1,mX.2.2.2.2.2.2.2.2.2.1,mX.2.2.2.2.2.2.2.2.2.2.1,mX.2.2.2.2.2.2.2.2.2.2.2.1,mX.2.2.2.2.2.2.2.2.2.2.2.2.1,mX.2.2.2.2.2.2.2.2.2.2.2.2.2.1++([RY.1]:List DS0),()))) none)
 (some (.inr ((mX.2.2.2.2.2.2.2.2.2.1,mX.2.2.2.2.2.2.2.2.2.2.1,([]:List ByteArray),mX.2.2.2.2.2.2.2.2.2.2.2.1,mX.2.2.2.2.2.2.2.2.2.2.2.2.1,wD mX.2.2.2.2.2.2.2.2.2.2.2.2.2.1,()),mX.2.2.1,mX.2.2.2.1,()))))
 (a1,Zw.1,Zw.2.1,Zw.2.2.1,a0.1,0,(bs []),0,0,aN .i64 BS.1 1,(bs []),0,0,([]:List DS0),())))
def OQ(a0:DS6)(a1:Int)(a2:List Int)(a3:Int):Option (DS0×(List Int)×Int×Unit):=eT (λself (x:DS6×Int×(List Int)×Int×Unit)=>Mx self x.1 x.2.1 x.2.2.1 x.2.2.2.1) 10000 (a0,a1,a2,a3,())
def Ye:Sh:=⟨4,[(1,tS6),(3,(.int .i64))],[(0,.ptr 0 0 0),(2,.nil)],[.box 65 [.d (.list (.int .i64)),.d (.int .i64)]]⟩
def Xk:Sh:=⟨1,[(0,tS0)],[],[.box 65 [.d (.list (.int .i64)),.d (.int .i64)]]⟩
def b8K:HI:=⟨131,Ye,Xk,fun(x:DS6×Int×(List Int)×Int×Unit)=>OQ x.1 x.2.1 x.2.2.1 x.2.2.2.1,[]⟩
theorem XJ:HK b8K:=pG 10000 (ish:=Ye) (osh:=Xk) (G:=λself (x:DS6×Int×(List Int)×Int×Unit)=>Mx self x.1 x.2.1 x.2.2.1 x.2.2.2.1) (mU (f:=Tryz.f131) (by kernel_rfl)) λself hr=>hkz (.d 4 (.s (.d 1 (.b (.l [.ghc 10 5 34 tS0] ⟨65,[(3,(.int .i64)),(11,(.int .i64))],[(0,.ptr 0 0 0),(2,.nil),(5,.ptr 1 0 0),(8,.ptr 2 0 0),(10,.ptr 3 0 0)],[.box 65 [.d (.list (.int .i64)),.d (.int .i64)],.box 59 [.d (.list tS5)],.box 34 [.d (.int .i64),.d .str,.nil,.d (.int .i64),.d (.int .i64),.nil],.box 34 [.d (.int .i64),.d .str,.nil,.d (.int .i64),.d (.int .i64),.row 4],.row 34 tS0 false]⟩ (.d 1 (.s (.b (.u [0])) .o))))) .o)) [] tS0 Tryz.func131 (cH hr (cH b0h (cH tJ (cH Il c0)))) (by kernel_rfl) λx=>by kernel_rfl
def Mw(self:(DS6×Int×(List Int)×Int×Unit)->Option ((List AV)×(List Int)×Int×Unit))(a0:DS6)(a1:Int)(a2:List Int)(a3:Int):Option ((List AV)×(List Int)×Int×Unit) :=
 (m24 3 a2 a3).bind λZv =>
 bH (S:=Int×Int×(List Int)×Int×(List DS5)×(List DS7)×Unit) (R:=(List AV)×(List Int)×Int×Unit) (λuS =>
 cond (cond (iLt 0 uS.2.1) (iLt 0 uS.1) false)
 ((m24 3 uS.2.2.1 uS.2.2.2.1).bind λN9 =>
 cond (bnd N9.1 (aD ([(bs [119]),(bs [120]),(bs [121])]:List ByteArray)))
 ((OQ (uS.2.2.2.2.1,()) 2 N9.2.1 N9.2.2.1).bind λvK =>
 (self ((uS.2.2.2.2.1,()),dz .i64 uS.1 1,vK.2.1,vK.2.2.1,())).bind λRX =>
 cond (fits (List.length uS.2.2.2.2.2.1+List.length ([(atI ([(bs [119]),(bs [120]),(bs [121])]:List ByteArray) N9.1 ByteArray.empty,(vK.1.1,vK.1.2.1,vK.1.2.2.1,vK.1.2.2.2.1,vK.1.2.2.2.2.1,vK.1.2.2.2.2.2.1,()),RX.1,())]:List DS7)) 128)
 (some (.inl (uS.1,dz .i64 uS.2.1 1,RX.2.1,RX.2.2.1,uS.2.2.2.2.1,uS.2.2.2.2.2.1++([(atI ([(bs [119]),(bs [120]),(bs [121])]:List ByteArray) N9.1 ByteArray.empty,(vK.1.1,vK.1.2.1,vK.1.2.2.1,vK.1.2.2.2.1,vK.1.2.2.2.2.1,vK.1.2.2.2.2.2.1,()),RX.1,())]:List DS7),()))) none) none)
 (some (.inr (Fj uS.2.2.2.2.2.1,uS.2.2.1,uS.2.2.2.1,()))))
 (a1,Zv.1,Zv.2.1,Zv.2.2.1,a0.1,([]:List DS7),())
def UA(a0:DS6)(a1:Int)(a2:List Int)(a3:Int):Option ((List AV)×(List Int)×Int×Unit):=eT (λself (x:DS6×Int×(List Int)×Int×Unit)=>Mw self x.1 x.2.1 x.2.2.1 x.2.2.2.1) 10000 (a0,a1,a2,a3,())
def Yd:Sh:=⟨4,[(1,tS6),(3,(.int .i64))],[(0,.ptr 0 0 0),(2,.nil)],[.box 65 [.d (.list (.int .i64)),.d (.int .i64)]]⟩
def Xj:Sh:=⟨1,[(0,(.rl 63 8))],[],[.box 65 [.d (.list (.int .i64)),.d (.int .i64)]]⟩
def b8J:HI:=⟨132,Yd,Xj,fun(x:DS6×Int×(List Int)×Int×Unit)=>UA x.1 x.2.1 x.2.2.1 x.2.2.2.1,[]⟩
theorem b0k:HK b8J:=pG 10000 (ish:=Yd) (osh:=Xj) (G:=λself (x:DS6×Int×(List Int)×Int×Unit)=>Mw self x.1 x.2.1 x.2.2.1 x.2.2.2.1) (mU (f:=Tryz.f132) (by kernel_rfl)) λself hr=>hkz (.d 2 (.s (.d 1 (.b (.l [.gh 9 63 tS7] ⟨41,[(3,(.int .i64)),(10,(.int .i64))],[(0,.ptr 0 0 0),(2,.nil),(5,.ptr 1 0 0),(9,.row 2)],[.box 65 [.d (.list (.int .i64)),.d (.int .i64)],.box 59 [.d (.list tS5)],.row 63 tS7 false]⟩ (.d 1 (.s (.b (.u [0])) .o))))) .o)) [] (.rl 63 8) Tryz.func132 (cH hr (cH XJ (cH tJ c0))) (by kernel_rfl) λx=>by kernel_rfl
def DT(a0:Int)(a1:List Int)(a2:Int):Option (Int×(List Int)×Int×Unit) :=
 (m24 6 a1 a2).bind λvJ =>
 cond (iEq vJ.1 0)
 ((m24 4 vJ.2.1 vJ.2.2.1).bind λZu =>
 some (jC Zu.1 a0,Zu.2.1,Zu.2.2.1,()))
 (cond (iEq vJ.1 1)
 ((m24 100 vJ.2.1 vJ.2.2.1).bind λZt =>
 some (jC Zt.1 a0,Zt.2.1,Zt.2.2.1,()))
 (cond (iEq vJ.1 2)
 ((m24 1048576 vJ.2.1 vJ.2.2.1).bind λZr =>
 some (jC Zr.1 a0,Zr.2.1,Zr.2.2.1,()))
 (cond (iEq vJ.1 3)
 ((m24 (jC 3 (aN .i64 a0 1)) vJ.2.1 vJ.2.2.1).bind λZq =>
 some (dz .i64 a0 Zq.1,Zq.2.1,Zq.2.2.1,()))
 ((m24 (aN .i64 a0 1) vJ.2.1 vJ.2.2.1).bind λZp =>
 some (Zp.1,Zp.2.1,Zp.2.2.1,())))))
def b09:Sh:=⟨2,[(1,(.int .i64))],[(0,.ptr 0 0 0)],[.box 65 [.d (.list (.int .i64)),.d (.int .i64)]]⟩
def a9m:Sh:=⟨1,[(0,(.int .i64))],[],[.box 65 [.d (.list (.int .i64)),.d (.int .i64)]]⟩
def b8I:HI:=⟨133,b09,a9m,fun(x:Int×(List Int)×Int×Unit)=>DT x.1 x.2.1 x.2.2.1,[]⟩
theorem XI:HK b8I:=hk .o [] Tryz.func133 (cH tJ c0) (by kernel_rfl) λx=>by kernel_rfl
def m85(a0:DS6)(a1:Int)(a2:ByteArray)(a3:List Int)(a4:Int):Option (DS1×(List Int)×Int×Unit) :=
 (OQ (a0.1,()) 3 a3 a4).bind λlg =>
 cond (iEq a1 3)
 ((UA (a0.1,()) 2 lg.2.1 lg.2.2.1).bind λJk =>
 (xG a1).bind λa7a =>
 cond (iLt 0 a7a.1)
 ((DT (dz .i64 a7a.1 1) Jk.2.1 Jk.2.2.1).bind λZo =>
 some ((a1,a2,(lg.1.1,lg.1.2.1,lg.1.2.2.1,lg.1.2.2.2.1,lg.1.2.2.2.2.1,lg.1.2.2.2.2.2.1,()),Jk.1,aN .i64 1 Zo.1,()),Zo.2.1,Zo.2.2.1,()))
 (some ((a1,a2,(lg.1.1,lg.1.2.1,lg.1.2.2.1,lg.1.2.2.2.1,lg.1.2.2.2.2.1,lg.1.2.2.2.2.2.1,()),Jk.1,0,()),Jk.2.1,Jk.2.2.1,())))
 ((xG a1).bind λa6Z =>
 cond (iLt 0 a6Z.1)
 ((DT (dz .i64 a6Z.1 1) lg.2.1 lg.2.2.1).bind λZn =>
 some ((a1,a2,(lg.1.1,lg.1.2.1,lg.1.2.2.1,lg.1.2.2.2.1,lg.1.2.2.2.2.1,lg.1.2.2.2.2.2.1,()),([]:List AV),aN .i64 1 Zn.1,()),Zn.2.1,Zn.2.2.1,()))
 (some ((a1,a2,(lg.1.1,lg.1.2.1,lg.1.2.2.1,lg.1.2.2.2.1,lg.1.2.2.2.2.1,lg.1.2.2.2.2.2.1,()),([]:List AV),0,()),lg.2.1,lg.2.2.1,())))
def b38:Sh:=⟨5,[(1,tS6),(2,(.int .i64)),(3,.str)],[(0,.ptr 0 0 0),(4,.nil)],[.box 65 [.d (.list (.int .i64)),.d (.int .i64)]]⟩
def b2P:Sh:=⟨1,[(0,tS1)],[],[.box 65 [.d (.list (.int .i64)),.d (.int .i64)]]⟩
def h85:HI:=⟨85,b38,b2P,fun(x:DS6×Int×ByteArray×(List Int)×Int×Unit)=>m85 x.1 x.2.1 x.2.2.1 x.2.2.2.1 x.2.2.2.2.1,[]⟩
theorem b3E:HK h85:=hkz .o [] tS1 Tryz.func85 (cP Ik (cH XJ (cH b0k (cH XI c0)))) (by kernel_rfl) λx=>by kernel_rfl
def m87(a0:List Int)(a1:Int):Option (Bool×(List Int)×Int×Unit) :=
 some (iLt a1 (aD a0),a0,a1,())
def b37:Sh:=⟨1,[],[(0,.ptr 0 0 0)],[.box 65 [.d (.list (.int .i64)),.d (.int .i64)]]⟩
def b2O:Sh:=⟨1,[(0,.bool)],[],[.box 65 [.d (.list (.int .i64)),.d (.int .i64)]]⟩
def h87:HI:=⟨87,b37,b2O,fun(x:(List Int)×Int×Unit)=>m87 x.1 x.2.1,[]⟩
theorem b3D:HK h87:=hk .o [] Tryz.func87 c0 (by kernel_rfl) λx=>by kernel_rfl
def Ut(a0:DS5):Option (Int×Unit) :=
 cond (iEq a0.2.1 1)
 (cond (cond (iNe a0.2.2.2.1 0) true (iNe a0.2.2.2.2.1 0))
 (some (20,()))
 (cond (iEq (aD a0.2.2.1) 0)
 (some (19,()))
 (cond (iLt 12 (aD a0.2.2.1))
 (some (4,()))
 ((m29 a0.2.2.1).bind λb5z =>
 cond (not b5z.1)
 (some (6,()))
 ((m30 a0.2.2.1).bind λb5y =>
 cond (not b5y.1)
 (some (8,()))
 (some (0,())))))))
 (cond (iEq a0.2.1 2)
 (cond (iLt 0 (aD a0.2.2.1))
 (some (20,()))
 (cond (iLt a0.2.2.2.2.1 a0.2.2.2.1)
 (some (1,()))
 ((yS a0.2.2.2.1).bind λb5x =>
 cond b5x.1
 (some (1,()))
 ((yS a0.2.2.2.2.1).bind λb5w =>
 cond b5w.1
 (some (1,()))
 (some (0,()))))))
 (cond (iEq a0.2.1 3)
 (cond (cond (cond (iLt 0 (aD a0.2.2.1)) true (iNe a0.2.2.2.1 0)) true (iNe a0.2.2.2.2.1 0))
 (some (20,()))
 (some (0,())))
 (some (11,()))))
def b7T:PI:=⟨165,[tS5],[(.int .i64)],fun(x:DS5×Unit)=>Ut x.1⟩
theorem a9I:PK b7T:=pk .o Tryz.func165 (cP Xp (cP Ub (cP Ua c0))) (by kernel_rfl) λx=>by kernel_rfl
def Uz(a0:DS6):Option (Int×Unit) :=
 cond (iEq (aD a0.1) 0)
 (some (19,()))
 (cond (iLt 6 (aD a0.1))
 (some (4,()))
 (bH (S:=Int×(List DS5)×Unit) (R:=Int×Unit) (λrA =>
 cond (iLt rA.1 (aD rA.2.1))
 (cond (bnd rA.1 (aD rA.2.1))
 ((m57 ((atI rA.2.1 rA.1 zS5).1)).bind λb5v =>
 cond (not b5v.1)
 (some (.inr (6,())))
 (bH (S:=Int×Int×(List DS5)×ByteArray×Int×(List ByteArray)×Int×Int×Unit) (R:=(Int×(List DS5)×Unit)⊕(Int×Unit)) (λoq =>
 cond (iLt oq.2.1 oq.1)
 (cond (bnd oq.2.1 (aD oq.2.2.1))
 (cond (sEq ((atI oq.2.2.1 oq.2.1 zS5).1) oq.2.2.2.1)
 (some (.inr (.inr (8,()))))
 (some (.inl (oq.1,aN .i64 oq.2.1 1,oq.2.2.1,oq.2.2.2.1,oq.2.2.2.2.1,oq.2.2.2.2.2.1,oq.2.2.2.2.2.2.1,oq.2.2.2.2.2.2.2.1,())))) none)
 (Option.map Sum.inr ((Ut (oq.2.2.2.1,oq.2.2.2.2.1,oq.2.2.2.2.2.1,oq.2.2.2.2.2.2.1,oq.2.2.2.2.2.2.2.1,())).bind λa6Y =>
 cond (iNe a6Y.1 0)
 (some (.inr (a6Y.1,())))
 (some (.inl (aN .i64 oq.1 1,oq.2.2.1,()))))))
 (rA.1,0,rA.2.1,(atI rA.2.1 rA.1 zS5).1,(atI rA.2.1 rA.1 zS5).2.1,(atI rA.2.1 rA.1 zS5).2.2.1,(atI rA.2.1 rA.1 zS5).2.2.2.1,(atI rA.2.1 rA.1 zS5).2.2.2.2.1,()))) none)
 (some (.inr (0,()))))
 (0,a0.1,())))
def b77:PI:=⟨134,[tS6],[(.int .i64)],fun(x:DS6×Unit)=>Uz x.1⟩
theorem a9Y:PK b77:=pk (.d 3 (.s (.d 1 (.b (.l [] ⟨50,[(3,(.int .i64))],[(1,.ptr 0 0 0)],[.box 59 [.d (.list tS5)]]⟩ (.d 1 (.s (.b (.d 2 (.s (.d 1 (.b (.l [] ⟨50,[(3,(.int .i64)),(5,(.int .i64))],[(1,.ptr 0 0 0),(4,.ptr 1 0 0)],[.box 59 [.d (.list tS5)],.box 106 [.d .str,.d (.int .i64),.d (.list .str),.d (.int .i64),.d (.int .i64)]]⟩ .o))) .o))) .o))))) .o)) Tryz.func134 (cP a9I (cP Ih c0)) (by kernel_rfl) λx=>by kernel_rfl
def m9(a0:List DS1)(a1:ByteArray):Option (Int×Bool×Unit) :=
 bH (S:=(List DS1)×ByteArray×Int×Unit) (R:=Int×Bool×Unit) (λzJ =>
 cond (iLt zJ.2.2.1 (aD zJ.1))
 (cond (bnd zJ.2.2.1 (aD zJ.1))
 (cond (sEq ((atI zJ.1 zJ.2.2.1 zS1).2.1) zJ.2.1)
 (some (.inr (zJ.2.2.1,true,())))
 (some (.inl (zJ.1,zJ.2.1,aN .i64 zJ.2.2.1 1,())))) none)
 (some (.inr (0,false,()))))
 (a0,a1,0,())
def i9:PI:=⟨9,[(.list tS1),.str],[(.int .i64),.bool],fun(x:(List DS1)×ByteArray×Unit)=>m9 x.1 x.2.1⟩
theorem a9r:PK i9:=pk (.d 1 (.s (.d 1 (.b (.l [] ⟨21,[(0,(.list tS1)),(1,.str),(6,(.int .i64))],[],[]⟩ .o))) .o)) Tryz.func9 c0 (by kernel_rfl) λx=>by kernel_rfl
def OP(a0:DS6)(a1:ByteArray):Option (Int×Bool×Unit) :=
 bH (S:=ByteArray×Int×(List DS5)×Unit) (R:=Int×Bool×Unit) (λzI =>
 cond (iLt zI.2.1 (aD zI.2.2.1))
 (cond (bnd zI.2.1 (aD zI.2.2.1))
 (cond (sEq ((atI zI.2.2.1 zI.2.1 zS5).1) zI.1)
 (some (.inr (zI.2.1,true,())))
 (some (.inl (zI.1,aN .i64 zI.2.1 1,zI.2.2.1,())))) none)
 (some (.inr (0,false,()))))
 (a1,0,a0.1,())
def b76:PI:=⟨135,[tS6,.str],[(.int .i64),.bool],fun(x:DS6×ByteArray×Unit)=>OP x.1 x.2.1⟩
theorem Xz:PK b76:=pk (.d 1 (.s (.d 1 (.b (.l [] ⟨23,[(1,.str),(6,(.int .i64))],[(2,.ptr 0 0 0)],[.box 59 [.d (.list tS5)]]⟩ .o))) .o)) Tryz.func135 c0 (by kernel_rfl) λx=>by kernel_rfl
def JV(a0:List DS1)(a1:ByteArray):Option (Int×Bool×Unit) :=
 bH (S:=(List DS1)×ByteArray×Int×Unit) (R:=Int×Bool×Unit) (λsD =>
 cond (iLt sD.2.2.1 (aD sD.1))
 (cond (bnd sD.2.2.1 (aD sD.1))
 (cond (or (bnd sD.2.2.1 (aD sD.1)) (not (bEq (iEq ((atI sD.1 sD.2.2.1 zS1).1) 1) true)))
 (cond (cond (iEq ((atI sD.1 sD.2.2.1 zS1).1) 1) (sEq ((atI sD.1 sD.2.2.1 zS1).2.1) sD.2.1) false)
 (some (.inr (sD.2.2.1,true,())))
 (some (.inl (sD.1,sD.2.1,aN .i64 sD.2.2.1 1,())))) none) none)
 (some (.inr (0,false,()))))
 (a0,a1,0,())
def i168:PI:=⟨168,[(.list tS1),.str],[(.int .i64),.bool],fun(x:(List DS1)×ByteArray×Unit)=>JV x.1 x.2.1⟩
theorem Ou:PK i168:=pk (.d 1 (.s (.d 1 (.b (.l [] ⟨29,[(0,(.list tS1)),(1,.str),(6,(.int .i64))],[],[]⟩ .o))) .o)) Tryz.func168 c0 (by kernel_rfl) λx=>by kernel_rfl
def OJ(a0:List ByteArray)(a1:ByteArray):Option (Bool×Unit) :=
 bH (S:=(List ByteArray)×ByteArray×Int×Unit) (R:=Bool×Unit) (λAQ =>
 cond (iLt AQ.2.2.1 (aD AQ.1))
 (cond (bnd AQ.2.2.1 (aD AQ.1))
 (cond (sEq (atI AQ.1 AQ.2.2.1 ByteArray.empty) AQ.2.1)
 (some (.inr (true,())))
 (some (.inl (AQ.1,AQ.2.1,aN .i64 AQ.2.2.1 1,())))) none)
 (some (.inr (false,()))))
 (a0,a1,0,())
def b71:PI:=⟨144,[(.list .str),.str],[.bool],fun(x:(List ByteArray)×ByteArray×Unit)=>OJ x.1 x.2.1⟩
theorem Xv:PK b71:=pk (.d 1 (.s (.d 1 (.b (.l [] ⟨18,[(0,(.list .str)),(1,.str),(5,(.int .i64))],[],[]⟩ .o))) .o)) Tryz.func144 c0 (by kernel_rfl) λx=>by kernel_rfl
def Us(a0:DS6)(a1:List DS1)(a2:DS0):Option (Int×Unit) :=
 (OP (a0.1,()) a2.2.1).bind λru =>
 cond (iEq a2.1 3)
 ((JV a1 a2.2.1).bind λb5u =>
 cond (cond (not ru.2.1) (not b5u.2.1) false)
 (some (7,()))
 (cond (or (bnd ru.1 (aD a0.1)) (not (bEq ru.2.1 true)))
 (cond (cond ru.2.1 (iNe ((atI a0.1 ru.1 zS5).2.1) 3) false)
 (some (9,()))
 (some (0,()))) none))
 (cond (iEq a2.1 4)
 (cond (not ru.2.1)
 (some (7,()))
 (cond (bnd ru.1 (aD a0.1))
 (cond (iNe ((atI a0.1 ru.1 zS5).2.1) 1)
 (some (9,()))
 (bH (S:=Int×Int×ByteArray×(List ByteArray)×Int×Int×(List AV)×ByteArray×Int×(List ByteArray)×Int×Int×Unit) (R:=Int×Unit) (λqG =>
 cond (iLt qG.1 (aD qG.2.2.2.1))
 (cond (bnd qG.1 (aD qG.2.2.2.1))
 ((OJ qG.2.2.2.2.2.2.2.2.2.1 (atI qG.2.2.2.1 qG.1 ByteArray.empty)).bind λb5t =>
 cond (not b5t.1)
 (some (.inr (7,())))
 (some (.inl (aN .i64 qG.1 1,qG.2.1,qG.2.2.1,qG.2.2.2.1,qG.2.2.2.2.1,qG.2.2.2.2.2.1,qG.2.2.2.2.2.2.1,qG.2.2.2.2.2.2.2.1,qG.2.2.2.2.2.2.2.2.1,qG.2.2.2.2.2.2.2.2.2.1,qG.2.2.2.2.2.2.2.2.2.2.1,qG.2.2.2.2.2.2.2.2.2.2.2.1,())))) none)
 (some (.inr (0,()))))
 (0,a2.1,a2.2.1,a2.2.2.1,a2.2.2.2.1,a2.2.2.2.2.1,a2.2.2.2.2.2.1,(atI a0.1 ru.1 zS5).1,(atI a0.1 ru.1 zS5).2.1,(atI a0.1 ru.1 zS5).2.2.1,(atI a0.1 ru.1 zS5).2.2.2.1,(atI a0.1 ru.1 zS5).2.2.2.2.1,()))) none))
 (cond (iEq a2.1 5)
 (cond (not ru.2.1)
 (some (7,()))
 (cond (bnd ru.1 (aD a0.1))
 (cond (iNe ((atI a0.1 ru.1 zS5).2.1) 2)
 (some (9,()))
 (cond (cond (iLt a2.2.2.2.1 ((atI a0.1 ru.1 zS5).2.2.2.1)) true (iLt ((atI a0.1 ru.1 zS5).2.2.2.2.1) a2.2.2.2.2.1))
 (some (1,()))
 (some (0,())))) none))
 (some (0,()))))
def b7S:PI:=⟨166,[tS6,(.list tS1),tS0],[(.int .i64)],fun(x:DS6×(List DS1)×DS0×Unit)=>Us x.1 x.2.1 x.2.2.1⟩
theorem a9H:PK b7S:=pk (.d 2 (.s (.d 1 (.b (.d 1 (.c .o (.d 1 (.c (.d 4 (.b (.l [] ⟨100,[(12,(.int .i64))],[(5,.ptr 0 0 0),(11,.ptr 1 0 0)],[.box 34 [.d (.int .i64),.d .str,.d (.list .str),.d (.int .i64),.d (.int .i64),.d (.rl 34 6)],.box 106 [.d .str,.d (.int .i64),.d (.list .str),.d (.int .i64),.d (.int .i64)]]⟩ .o))) .o)))))) .o)) Tryz.func166 (cP Xz (cP Xv (cP Ou c0))) (by kernel_rfl) λx=>by kernel_rfl
def Mv(self:(DS6×(List DS1)×DS0×Unit)->Option (Int×Unit))(a0:DS6)(a1:List DS1)(a2:DS0):Option (Int×Unit) :=
 (Us (a0.1,()) a1 (a2.1,a2.2.1,a2.2.2.1,a2.2.2.2.1,a2.2.2.2.2.1,a2.2.2.2.2.2.1,())).bind λa6X =>
 cond (iNe a6X.1 0)
 (some (a6X.1,()))
 (bH (S:=(List DS1)×Int×(List DS5)×Int×ByteArray×(List ByteArray)×Int×Int×(List AV)×Unit) (R:=Int×Unit) (λqF =>
 cond (iLt qF.2.1 (aD qF.2.2.2.2.2.2.2.2.1))
 (cond (and (bnd qF.2.1 (aD qF.2.2.2.2.2.2.2.2.1)) (qj (atI qF.2.2.2.2.2.2.2.2.1 qF.2.1 AV.any)))
 ((self ((qF.2.2.1,()),qF.1,aV (atI qF.2.2.2.2.2.2.2.2.1 qF.2.1 AV.any),())).bind λa6W =>
 cond (iNe a6W.1 0)
 (some (.inr (a6W.1,())))
 (some (.inl (qF.1,aN .i64 qF.2.1 1,qF.2.2.1,qF.2.2.2.1,qF.2.2.2.2.1,qF.2.2.2.2.2.1,qF.2.2.2.2.2.2.1,qF.2.2.2.2.2.2.2.1,qF.2.2.2.2.2.2.2.2.1,())))) none)
 (some (.inr (0,()))))
 (a1,0,a0.1,a2.1,a2.2.1,a2.2.2.1,a2.2.2.2.1,a2.2.2.2.2.1,a2.2.2.2.2.2.1,()))
def a1Q(a0:DS6)(a1:List DS1)(a2:DS0):Option (Int×Unit):=eT (λself (x:DS6×(List DS1)×DS0×Unit)=>Mv self x.1 x.2.1 x.2.2.1) 10000 (a0,a1,a2,())
def b75:PI:=⟨136,[tS6,(.list tS1),tS0],[(.int .i64)],fun(x:DS6×(List DS1)×DS0×Unit)=>a1Q x.1 x.2.1 x.2.2.1⟩
theorem Xy:PK b75:=qI 10000 (ps:=[tS6,(.list tS1),tS0]) (rs:=[(.int .i64)]) (G:=λself (x:DS6×(List DS1)×DS0×Unit)=>Mv self x.1 x.2.1 x.2.2.1) (mU (f:=Tryz.f136) (by kernel_rfl)) λself hr=>pk (.d 2 (.s (.d 1 (.b (.l [] ⟨35,[(1,(.list tS1)),(8,(.int .i64))],[(3,.ptr 0 0 0),(5,.ptr 1 0 0)],[.box 59 [.d (.list tS5)],.box 34 [.d (.int .i64),.d .str,.d (.list .str),.d (.int .i64),.d (.int .i64),.d (.rl 34 6)]]⟩ .o))) .o)) Tryz.func136 (cP hr (cP a9H c0)) (by kernel_rfl) λx=>by kernel_rfl
def Mt(self:(DS6×(List DS1)×(List AV)×Unit)->Option (Int×Unit))(a0:DS6)(a1:List DS1)(a2:List AV):Option (Int×Unit) :=
 bH (S:=(List DS1)×(List AV)×Int×(List DS5)×Unit) (R:=Int×Unit) (λoo =>
 cond (iLt oo.2.2.1 (aD oo.2.1))
 (cond (and (bnd oo.2.2.1 (aD oo.2.1)) (mY (atI oo.2.1 oo.2.2.1 AV.any)))
 ((a1Q (oo.2.2.2.1,()) oo.1 ((bG (atI oo.2.1 oo.2.2.1 AV.any)).2.1)).bind λa6V =>
 cond (iNe a6V.1 0)
 (some (.inr (a6V.1,())))
 (cond (and (bnd oo.2.2.1 (aD oo.2.1)) (mY (atI oo.2.1 oo.2.2.1 AV.any)))
 ((self ((oo.2.2.2.1,()),oo.1,(bG (atI oo.2.1 oo.2.2.1 AV.any)).2.2.1,())).bind λa6U =>
 cond (iNe a6U.1 0)
 (some (.inr (a6U.1,())))
 (some (.inl (oo.1,oo.2.1,aN .i64 oo.2.2.1 1,oo.2.2.2.1,())))) none)) none)
 (some (.inr (0,()))))
 (a1,a2,0,a0.1,())
def b0V(a0:DS6)(a1:List DS1)(a2:List AV):Option (Int×Unit):=eT (λself (x:DS6×(List DS1)×(List AV)×Unit)=>Mt self x.1 x.2.1 x.2.2.1) 10000 (a0,a1,a2,())
def b74:PI:=⟨137,[tS6,(.list tS1),(.rl 63 8)],[(.int .i64)],fun(x:DS6×(List DS1)×(List AV)×Unit)=>b0V x.1 x.2.1 x.2.2.1⟩
theorem a9X:PK b74:=qI 10000 (ps:=[tS6,(.list tS1),(.rl 63 8)]) (rs:=[(.int .i64)]) (G:=λself (x:DS6×(List DS1)×(List AV)×Unit)=>Mt self x.1 x.2.1 x.2.2.1) (mU (f:=Tryz.f137) (by kernel_rfl)) λself hr=>pk (.d 1 (.s (.d 1 (.b (.l [] ⟨38,[(1,(.list tS1)),(2,(.rl 63 8)),(7,(.int .i64))],[(3,.ptr 0 0 0)],[.box 59 [.d (.list tS5)]]⟩ .o))) .o)) Tryz.func137 (cP hr (cP Xy c0)) (by kernel_rfl) λx=>by kernel_rfl
def Um(a0:List ByteArray)(a1:ByteArray):Option ((List ByteArray)×Unit) :=
 bH (S:=(List ByteArray)×ByteArray×Bool×Int×(List ByteArray)×Unit) (R:=(List ByteArray)×Unit) (λfD =>
 cond (iLt fD.2.2.2.1 (aD fD.1))
 (cond (or (bnd fD.2.2.2.1 (aD fD.1)) (not (bEq (not fD.2.2.1) true)))
 (cond (cond (not fD.2.2.1) (or (sLt fD.2.1 (atI fD.1 fD.2.2.2.1 ByteArray.empty)) (sEq fD.2.1 (atI fD.1 fD.2.2.2.1 ByteArray.empty))) false)
 (cond (bnd fD.2.2.2.1 (aD fD.1))
 (cond (sLt fD.2.1 (atI fD.1 fD.2.2.2.1 ByteArray.empty))
 (cond (fits (List.length fD.2.2.2.2.1+List.length ([fD.2.1]:List ByteArray)) 16)
 (cond (bnd fD.2.2.2.1 (aD fD.1))
 (cond (fits (List.length (fD.2.2.2.2.1++([fD.2.1]:List ByteArray))+List.length ([atI fD.1 fD.2.2.2.1 ByteArray.empty]:List ByteArray)) 16)
 (some (.inl (fD.1,fD.2.1,true,aN .i64 fD.2.2.2.1 1,(fD.2.2.2.2.1++([fD.2.1]:List ByteArray))++([atI fD.1 fD.2.2.2.1 ByteArray.empty]:List ByteArray),()))) none) none) none)
 (cond (bnd fD.2.2.2.1 (aD fD.1))
 (cond (fits (List.length fD.2.2.2.2.1+List.length ([atI fD.1 fD.2.2.2.1 ByteArray.empty]:List ByteArray)) 16)
 (some (.inl (fD.1,fD.2.1,true,aN .i64 fD.2.2.2.1 1,fD.2.2.2.2.1++([atI fD.1 fD.2.2.2.1 ByteArray.empty]:List ByteArray),()))) none) none)) none)
 (cond (bnd fD.2.2.2.1 (aD fD.1))
 (cond (fits (List.length fD.2.2.2.2.1+List.length ([atI fD.1 fD.2.2.2.1 ByteArray.empty]:List ByteArray)) 16)
 (some (.inl (fD.1,fD.2.1,fD.2.2.1,aN .i64 fD.2.2.2.1 1,fD.2.2.2.2.1++([atI fD.1 fD.2.2.2.1 ByteArray.empty]:List ByteArray),()))) none) none)) none)
 (Option.map Sum.inr (cond (not fD.2.2.1)
 (cond (fits (List.length fD.2.2.2.2.1+List.length ([fD.2.1]:List ByteArray)) 16)
 (some (fD.2.2.2.2.1++([fD.2.1]:List ByteArray),())) none)
 (some (fD.2.2.2.2.1,())))))
 (a0,a1,false,0,([]:List ByteArray),())
def i193:PI:=⟨193,[(.list .str),.str],[(.list .str)],fun(x:(List ByteArray)×ByteArray×Unit)=>Um x.1 x.2.1⟩
theorem a9s:PK i193:=pk (.d 3 (.s (.d 1 (.b (.l [.gh 5 9 .str] ⟨48,[(0,(.list .str)),(1,.str),(6,.bool),(7,(.int .i64))],[(5,.row 0)],[.row 9 .str false]⟩ .o))) .o)) Tryz.func193 c0 (by kernel_rfl) λx=>by kernel_rfl
def ES(self:((List ByteArray)×DS0×Unit)->Option ((List ByteArray)×Unit))(a0:List ByteArray)(a1:DS0):Option ((List ByteArray)×Unit) :=
 cond (iEq a1.1 3)
 ((Um a0 a1.2.1).bind λb5s =>
 bH (S:=(List ByteArray)×Int×Int×ByteArray×(List ByteArray)×Int×Int×(List AV)×Unit) (R:=(List ByteArray)×Unit) (λsw =>
 cond (iLt sw.2.1 (aD sw.2.2.2.2.2.2.2.1))
 (cond (and (bnd sw.2.1 (aD sw.2.2.2.2.2.2.2.1)) (qj (atI sw.2.2.2.2.2.2.2.1 sw.2.1 AV.any)))
 ((self (sw.1,aV (atI sw.2.2.2.2.2.2.2.1 sw.2.1 AV.any),())).bind λb5r =>
 some (.inl (b5r.1,aN .i64 sw.2.1 1,sw.2.2.1,sw.2.2.2.1,sw.2.2.2.2.1,sw.2.2.2.2.2.1,sw.2.2.2.2.2.2.1,sw.2.2.2.2.2.2.2.1,()))) none)
 (some (.inr (sw.1,()))))
 (b5s.1,0,a1.1,a1.2.1,a1.2.2.1,a1.2.2.2.1,a1.2.2.2.2.1,a1.2.2.2.2.2.1,()))
 (bH (S:=(List ByteArray)×Int×Int×ByteArray×(List ByteArray)×Int×Int×(List AV)×Unit) (R:=(List ByteArray)×Unit) (λsu =>
 cond (iLt su.2.1 (aD su.2.2.2.2.2.2.2.1))
 (cond (and (bnd su.2.1 (aD su.2.2.2.2.2.2.2.1)) (qj (atI su.2.2.2.2.2.2.2.1 su.2.1 AV.any)))
 ((self (su.1,aV (atI su.2.2.2.2.2.2.2.1 su.2.1 AV.any),())).bind λb5q =>
 some (.inl (b5q.1,aN .i64 su.2.1 1,su.2.2.1,su.2.2.2.1,su.2.2.2.2.1,su.2.2.2.2.2.1,su.2.2.2.2.2.2.1,su.2.2.2.2.2.2.2.1,()))) none)
 (some (.inr (su.1,()))))
 (a0,0,a1.1,a1.2.1,a1.2.2.1,a1.2.2.2.1,a1.2.2.2.2.1,a1.2.2.2.2.2.1,()))
def a1M(a0:List ByteArray)(a1:DS0):Option ((List ByteArray)×Unit):=eT (λself (x:(List ByteArray)×DS0×Unit)=>ES self x.1 x.2.1) 10000 (a0,a1,())
def b7I:PI:=⟨184,[(.list .str),tS0],[(.list .str)],fun(x:(List ByteArray)×DS0×Unit)=>a1M x.1 x.2.1⟩
theorem a9x:PK b7I:=qI 10000 (ps:=[(.list .str),tS0]) (rs:=[(.list .str)]) (G:=λself (x:(List ByteArray)×DS0×Unit)=>ES self x.1 x.2.1) (mU (f:=Tryz.f184) (by kernel_rfl)) λself hr=>pk (.d 2 (.s (.d 1 (.b (.l [] ⟨28,[(0,(.list .str)),(5,(.int .i64))],[(3,.ptr 0 0 0)],[.box 34 [.d (.int .i64),.d .str,.d (.list .str),.d (.int .i64),.d (.int .i64),.d (.rl 34 6)]]⟩ .o))) .o)) Tryz.func184 (cP hr (cP a9s c0)) (by kernel_rfl) λx=>by kernel_rfl
def Ur(a0:DS0):Option ((List ByteArray)×Unit) :=
 (a1M ([]:List ByteArray) (a0.1,a0.2.1,a0.2.2.1,a0.2.2.2.1,a0.2.2.2.2.1,a0.2.2.2.2.2.1,())).bind λb5p =>
 some (b5p.1,())
def i167:PI:=⟨167,[tS0],[(.list .str)],fun(x:DS0×Unit)=>Ur x.1⟩
theorem a9G:PK i167:=pk .o Tryz.func167 (cP a9x c0) (by kernel_rfl) λx=>by kernel_rfl
def Uy(a0:List DS1):Option ((List Int)×Int×Unit) :=
 cond (Aq (aD a0) 1)
 (bH (S:=(List DS1)×(List Int)×(List Bool)×Unit) (R:=(List Int)×Int×Unit) (λa00 =>
 bH (S:=(List DS1)×Int×Bool×Int×(List Int)×(List Bool)×Unit) (R:=((List DS1)×(List Int)×(List Bool)×Unit)⊕((List Int)×Int×Unit)) (λiB =>
 cond (cond (iLt iB.2.2.2.1 (aD iB.1)) (iLt iB.2.1 0) false)
 (cond (bnd iB.2.2.2.1 (aD iB.1))
 (cond (or (bnd iB.2.2.2.1 (aD iB.2.2.2.2.2.1)) (not (bEq (iNe ((atI iB.1 iB.2.2.2.1 zS1).1) 1) false)))
 (cond (or (inB (Int.toNat iB.2.2.2.1) iB.2.2.2.2.2.1) (not (bEq (iNe ((atI iB.1 iB.2.2.2.1 zS1).1) 1) false)))
 (cond (cond (iNe ((atI iB.1 iB.2.2.2.1 zS1).1) 1) true (List.getD iB.2.2.2.2.2.1 (Int.toNat iB.2.2.2.1) false))
 (some (.inl (iB.1,iB.2.1,iB.2.2.1,aN .i64 iB.2.2.2.1 1,iB.2.2.2.2.1,iB.2.2.2.2.2.1,())))
 (cond (bnd iB.2.2.2.1 (aD iB.1))
 ((Ur ((atI iB.1 iB.2.2.2.1 zS1).2.2.1)).bind λb5o =>
 bH (S:=(List DS1)×Int×Bool×Int×Bool×(List ByteArray)×Int×(List Int)×(List Bool)×Unit) (R:=((List DS1)×Int×Bool×Int×(List Int)×(List Bool)×Unit)⊕(((List DS1)×(List Int)×(List Bool)×Unit)⊕((List Int)×Int×Unit))) (λjg =>
 cond (iLt jg.2.2.2.2.2.2.1 (aD jg.2.2.2.2.2.1))
 (cond (bnd jg.2.2.2.2.2.2.1 (aD jg.2.2.2.2.2.1))
 ((JV jg.1 (atI jg.2.2.2.2.2.1 jg.2.2.2.2.2.2.1 ByteArray.empty)).bind λJj =>
 cond jg.2.2.2.2.1
 (cond (or (bnd Jj.1 (aD jg.2.2.2.2.2.2.2.2.1)) (not (bEq (not Jj.2.1) false)))
 (cond (or (inB (Int.toNat Jj.1) jg.2.2.2.2.2.2.2.2.1) (not (bEq (not Jj.2.1) false)))
 (some (.inl (jg.1,jg.2.1,jg.2.2.1,jg.2.2.2.1,cond (not Jj.2.1) true (List.getD jg.2.2.2.2.2.2.2.2.1 (Int.toNat Jj.1) false),jg.2.2.2.2.2.1,aN .i64 jg.2.2.2.2.2.2.1 1,jg.2.2.2.2.2.2.2.1,jg.2.2.2.2.2.2.2.2.1,()))) none) none)
 (some (.inl (jg.1,jg.2.1,jg.2.2.1,jg.2.2.2.1,false,jg.2.2.2.2.2.1,aN .i64 jg.2.2.2.2.2.2.1 1,jg.2.2.2.2.2.2.2.1,jg.2.2.2.2.2.2.2.2.1,())))) none)
 (Option.map Sum.inr (cond jg.2.2.2.2.1
 (some (.inl (jg.1,jg.2.2.2.1,jg.2.2.1,aN .i64 jg.2.2.2.1 1,jg.2.2.2.2.2.2.2.1,jg.2.2.2.2.2.2.2.2.1,())))
 (some (.inl (jg.1,jg.2.1,jg.2.2.1,aN .i64 jg.2.2.2.1 1,jg.2.2.2.2.2.2.2.1,jg.2.2.2.2.2.2.2.2.1,()))))))
 (iB.1,iB.2.1,true,iB.2.2.2.1,true,b5o.1,0,iB.2.2.2.2.1,iB.2.2.2.2.2.1,())) none)) none) none) none)
 (Option.map Sum.inr (cond (iLt iB.2.1 0)
 (cond iB.2.2.1
 (some (.inr (([]:List Int),10,())))
 (some (.inr (iB.2.2.2.2.1,0,()))))
 (cond (fits (List.length iB.2.2.2.2.1+List.length ([iB.2.1]:List Int)) 8)
 (cond (bnd iB.2.1 (aD iB.2.2.2.2.2.1))
 (cond (inB (Int.toNat iB.2.1) iB.2.2.2.2.2.1)
 (some (.inl (iB.1,iB.2.2.2.2.1++([iB.2.1]:List Int),List.set iB.2.2.2.2.2.1 (Int.toNat iB.2.1) true,()))) none) none) none))))
 (a00.1,(-1),false,0,a00.2.1,a00.2.2.1,()))
 (a0,([]:List Int),(List.replicate (Int.toNat (aD a0)) false:List Bool),())) none
def i138:PI:=⟨138,[(.list tS1)],[(.list (.int .i64)),(.int .i64)],fun(x:(List DS1)×Unit)=>Uy x.1⟩
theorem a9W:PK i138:=pk (.d 3 (.b (.l [.gh 4 3 (.int .i64)] ⟨84,[(0,(.list tS1))],[(4,.row 0),(5,.row 1)],[.row 3 (.int .i64) false,.row 4 .bool false]⟩ (.b (.d 1 (.s (.d 1 (.b (.l [.gh 4 3 (.int .i64)] ⟨84,[(0,(.list tS1)),(6,(.int .i64)),(7,.bool),(8,(.int .i64))],[(4,.row 0),(5,.row 1)],[.row 3 (.int .i64) false,.row 4 .bool false]⟩ (.d 1 (.s (.b (.d 4 (.s (.d 1 (.b (.l [.gh 4 3 (.int .i64)] ⟨84,[(0,(.list tS1)),(6,(.int .i64)),(7,.bool),(8,(.int .i64)),(9,.bool),(10,(.list .str)),(11,(.int .i64))],[(4,.row 0),(5,.row 1)],[.row 3 (.int .i64) false,.row 4 .bool false]⟩ .o))) .o))) .o))))) .o)))))) Tryz.func138 (cP a9G (cP Ou c0)) (by kernel_rfl) λx=>by kernel_rfl
def Mi(self:((List DS1)×DS0×Int×Unit)->Option (Int×Unit))(a0:List DS1)(a1:DS0)(a2:Int):Option (Int×Unit) :=
 cond (iLt (aD a0) a2)
 (some (2001,()))
 (cond (iEq a1.1 3)
 ((JV a0 a1.2.1).bind λZm =>
 cond Zm.2.1
 (cond (bnd Zm.1 (aD a0))
 ((self (a0,(atI a0 Zm.1 zS1).2.2.1,aN .i64 a2 1,())).bind λb5n =>
 bH (S:=(List DS1)×Int×Int×Int×Int×ByteArray×(List ByteArray)×Int×Int×(List AV)×Unit) (R:=Int×Unit) (λom =>
 cond (cond (iLt om.2.2.2.1 (aD om.2.2.2.2.2.2.2.2.2.1)) (iLe om.2.2.1 2000) false)
 (cond (and (bnd om.2.2.2.1 (aD om.2.2.2.2.2.2.2.2.2.1)) (qj (atI om.2.2.2.2.2.2.2.2.2.1 om.2.2.2.1 AV.any)))
 ((self (om.1,aV (atI om.2.2.2.2.2.2.2.2.2.1 om.2.2.2.1 AV.any),om.2.1,())).bind λb5m =>
 some (.inl (om.1,om.2.1,aN .i64 om.2.2.1 b5m.1,aN .i64 om.2.2.2.1 1,om.2.2.2.2.1,om.2.2.2.2.2.1,om.2.2.2.2.2.2.1,om.2.2.2.2.2.2.2.1,om.2.2.2.2.2.2.2.2.1,om.2.2.2.2.2.2.2.2.2.1,()))) none)
 (some (.inr (jC om.2.2.1 2001,()))))
 (a0,a2,b5n.1,0,a1.1,a1.2.1,a1.2.2.1,a1.2.2.2.1,a1.2.2.2.2.1,a1.2.2.2.2.2.1,())) none)
 (bH (S:=(List DS1)×Int×Int×Int×Int×ByteArray×(List ByteArray)×Int×Int×(List AV)×Unit) (R:=Int×Unit) (λoh =>
 cond (cond (iLt oh.2.2.2.1 (aD oh.2.2.2.2.2.2.2.2.2.1)) (iLe oh.2.2.1 2000) false)
 (cond (and (bnd oh.2.2.2.1 (aD oh.2.2.2.2.2.2.2.2.2.1)) (qj (atI oh.2.2.2.2.2.2.2.2.2.1 oh.2.2.2.1 AV.any)))
 ((self (oh.1,aV (atI oh.2.2.2.2.2.2.2.2.2.1 oh.2.2.2.1 AV.any),oh.2.1,())).bind λb5l =>
 some (.inl (oh.1,oh.2.1,aN .i64 oh.2.2.1 b5l.1,aN .i64 oh.2.2.2.1 1,oh.2.2.2.2.1,oh.2.2.2.2.2.1,oh.2.2.2.2.2.2.1,oh.2.2.2.2.2.2.2.1,oh.2.2.2.2.2.2.2.2.1,oh.2.2.2.2.2.2.2.2.2.1,()))) none)
 (some (.inr (jC oh.2.2.1 2001,()))))
 (a0,a2,1,0,a1.1,a1.2.1,a1.2.2.1,a1.2.2.2.1,a1.2.2.2.2.1,a1.2.2.2.2.2.1,())))
 (bH (S:=(List DS1)×Int×Int×Int×Int×ByteArray×(List ByteArray)×Int×Int×(List AV)×Unit) (R:=Int×Unit) (λog =>
 cond (cond (iLt og.2.2.2.1 (aD og.2.2.2.2.2.2.2.2.2.1)) (iLe og.2.2.1 2000) false)
 (cond (and (bnd og.2.2.2.1 (aD og.2.2.2.2.2.2.2.2.2.1)) (qj (atI og.2.2.2.2.2.2.2.2.2.1 og.2.2.2.1 AV.any)))
 ((self (og.1,aV (atI og.2.2.2.2.2.2.2.2.2.1 og.2.2.2.1 AV.any),og.2.1,())).bind λb5k =>
 some (.inl (og.1,og.2.1,aN .i64 og.2.2.1 b5k.1,aN .i64 og.2.2.2.1 1,og.2.2.2.2.1,og.2.2.2.2.2.1,og.2.2.2.2.2.2.1,og.2.2.2.2.2.2.2.1,og.2.2.2.2.2.2.2.2.1,og.2.2.2.2.2.2.2.2.2.1,()))) none)
 (some (.inr (jC og.2.2.1 2001,()))))
 (a0,a2,1,0,a1.1,a1.2.1,a1.2.2.1,a1.2.2.2.1,a1.2.2.2.2.1,a1.2.2.2.2.2.1,())))
def b0N(a0:List DS1)(a1:DS0)(a2:Int):Option (Int×Unit):=eT (λself (x:(List DS1)×DS0×Int×Unit)=>Mi self x.1 x.2.1 x.2.2.1) 10000 (a0,a1,a2,())
def b7R:PI:=⟨169,[(.list tS1),tS0,(.int .i64)],[(.int .i64)],fun(x:(List DS1)×DS0×Int×Unit)=>b0N x.1 x.2.1 x.2.2.1⟩
theorem a9F:PK b7R:=qI 10000 (ps:=[(.list tS1),tS0,(.int .i64)]) (rs:=[(.int .i64)]) (G:=λself (x:(List DS1)×DS0×Int×Unit)=>Mi self x.1 x.2.1 x.2.2.1) (mU (f:=Tryz.f169) (by kernel_rfl)) λself hr=>pk (.d 2 (.s (.d 1 (.c (.d 2 (.c (.d 1 (.s (.d 1 (.b (.l [] ⟨83,[(0,(.list tS1)),(2,(.int .i64)),(9,(.int .i64)),(10,(.int .i64))],[(4,.ptr 0 0 0)],[.box 34 [.d (.int .i64),.d .str,.d (.list .str),.d (.int .i64),.d (.int .i64),.d (.rl 34 6)]]⟩ .o))) .o)) .o)) .o)) (.d 1 (.s (.d 1 (.b (.l [] ⟨83,[(0,(.list tS1)),(2,(.int .i64)),(11,(.int .i64)),(12,(.int .i64))],[(4,.ptr 0 0 0)],[.box 34 [.d (.int .i64),.d .str,.d (.list .str),.d (.int .i64),.d (.int .i64),.d (.rl 34 6)]]⟩ .o))) .o)))) Tryz.func169 (cP hr (cP Ou c0)) (by kernel_rfl) λx=>by kernel_rfl
def OO(a0:List DS1)(a1:DS0):Option (Int×Unit) :=
 (b0N a0 (a1.1,a1.2.1,a1.2.2.1,a1.2.2.2.1,a1.2.2.2.2.1,a1.2.2.2.2.2.1,()) 0).bind λb5j =>
 some (b5j.1,())
def i139:PI:=⟨139,[(.list tS1),tS0],[(.int .i64)],fun(x:(List DS1)×DS0×Unit)=>OO x.1 x.2.1⟩
theorem Xx:PK i139:=pk .o Tryz.func139 (cP a9F c0) (by kernel_rfl) λx=>by kernel_rfl
def Ms(self:((List DS1)×(List AV)×Unit)->Option (Bool×Unit))(a0:List DS1)(a1:List AV):Option (Bool×Unit) :=
 bH (S:=(List DS1)×(List AV)×Int×Unit) (R:=Bool×Unit) (λqE =>
 cond (iLt qE.2.2.1 (aD qE.2.1))
 (cond (and (bnd qE.2.2.1 (aD qE.2.1)) (mY (atI qE.2.1 qE.2.2.1 AV.any)))
 ((OO qE.1 ((bG (atI qE.2.1 qE.2.2.1 AV.any)).2.1)).bind λa6T =>
 cond (or (and (bnd qE.2.2.1 (aD qE.2.1)) (mY (atI qE.2.1 qE.2.2.1 AV.any))) (not (bEq (iLt 2000 a6T.1) false)))
 (cond (iLt 2000 a6T.1)
 (some (.inr (true,())))
 ((self (qE.1,(bG (atI qE.2.1 qE.2.2.1 AV.any)).2.2.1,())).bind λb5i =>
 cond b5i.1
 (some (.inr (true,())))
 (some (.inl (qE.1,qE.2.1,aN .i64 qE.2.2.1 1,()))))) none) none)
 (some (.inr (false,()))))
 (a0,a1,0,())
def b0U(a0:List DS1)(a1:List AV):Option (Bool×Unit):=eT (λself (x:(List DS1)×(List AV)×Unit)=>Ms self x.1 x.2.1) 10000 (a0,a1,())
def b73:PI:=⟨140,[(.list tS1),(.rl 63 8)],[.bool],fun(x:(List DS1)×(List AV)×Unit)=>b0U x.1 x.2.1⟩
theorem a9V:PK b73:=qI 10000 (ps:=[(.list tS1),(.rl 63 8)]) (rs:=[.bool]) (G:=λself (x:(List DS1)×(List AV)×Unit)=>Ms self x.1 x.2.1) (mU (f:=Tryz.f140) (by kernel_rfl)) λself hr=>pk (.d 1 (.s (.d 1 (.b (.l [] ⟨29,[(0,(.list tS1)),(1,(.rl 63 8)),(5,(.int .i64))],[],[]⟩ .o))) .o)) Tryz.func140 (cP hr (cP Xx c0)) (by kernel_rfl) λx=>by kernel_rfl
def m89(a0:DS6)(a1:List DS1):Option (Int×Int×Unit) :=
 (Uz (a0.1,())).bind λa6S =>
 cond (iNe a6S.1 0)
 (some (0,a6S.1,()))
 (cond (iLt 100 (aD a1))
 (some (0,4,()))
 (bH (S:=(List DS1)×Int×(List DS5)×Unit) (R:=Int×Int×Unit) (λjw =>
 cond (iLt jw.2.1 (aD jw.1))
 (cond (bnd jw.2.1 (aD jw.1))
 ((m56 (atI jw.1 jw.2.1 zS1)).bind λb5h =>
 cond (not b5h.1)
 (some (.inr (jw.2.1,5,())))
 (cond (bnd jw.2.1 (aD jw.1))
 ((m9 jw.1 ((atI jw.1 jw.2.1 zS1).2.1)).bind λb5g =>
 cond (iLt b5g.1 jw.2.1)
 (some (.inr (jw.2.1,8,())))
 (cond (bnd jw.2.1 (aD jw.1))
 ((OP (jw.2.2.1,()) ((atI jw.1 jw.2.1 zS1).2.1)).bind λb5f =>
 cond b5f.2.1
 (some (.inr (jw.2.1,8,())))
 (cond (bnd jw.2.1 (aD jw.1))
 ((a1Q (jw.2.2.1,()) jw.1 ((atI jw.1 jw.2.1 zS1).2.2.1)).bind λa6R =>
 cond (iNe a6R.1 0)
 (some (.inr (jw.2.1,a6R.1,())))
 (cond (bnd jw.2.1 (aD jw.1))
 ((b0V (jw.2.2.1,()) jw.1 ((atI jw.1 jw.2.1 zS1).2.2.2.1)).bind λa6Q =>
 cond (iNe a6Q.1 0)
 (some (.inr (jw.2.1,a6Q.1,())))
 (some (.inl (jw.1,aN .i64 jw.2.1 1,jw.2.2.1,())))) none)) none)) none)) none)) none)
 (Option.map Sum.inr ((Uy jw.1).bind λa6P =>
 cond (iNe a6P.2.1 0)
 (some (0,a6P.2.1,()))
 (bH (S:=(List DS1)×Int×Unit) (R:=Int×Int×Unit) (λug =>
 cond (iLt ug.2.1 (aD ug.1))
 (cond (bnd ug.2.1 (aD ug.1))
 ((OO ug.1 ((atI ug.1 ug.2.1 zS1).2.2.1)).bind λa6O =>
 cond (or (bnd ug.2.1 (aD ug.1)) (not (bEq (iLt 2000 a6O.1) false)))
 (cond (iLt 2000 a6O.1)
 (some (.inr (ug.2.1,4,())))
 ((b0U ug.1 ((atI ug.1 ug.2.1 zS1).2.2.2.1)).bind λb5e =>
 cond b5e.1
 (some (.inr (ug.2.1,4,())))
 (some (.inl (ug.1,aN .i64 ug.2.1 1,()))))) none) none)
 (some (.inr (0,0,()))))
 (jw.1,0,())))))
 (a1,0,a0.1,())))
def i89:PI:=⟨89,[tS6,(.list tS1)],[(.int .i64),(.int .i64)],fun(x:DS6×(List DS1)×Unit)=>m89 x.1 x.2.1⟩
theorem a3r:PK i89:=pk (.d 3 (.s (.d 1 (.b (.l [] ⟨120,[(1,(.list tS1)),(7,(.int .i64))],[(2,.ptr 0 0 0)],[.box 59 [.d (.list tS5)]]⟩ .o))) (.d 1 (.s (.d 1 (.b (.l [] ⟨120,[(1,(.list tS1)),(16,(.int .i64))],[],[]⟩ .o))) .o)))) Tryz.func89 (cP a9Y (cP Xz (cP Xy (cP a9X (cP a9W (cP Xx (cP a9V (cP a3w (cP a9r c0))))))))) (by kernel_rfl) λx=>by kernel_rfl
def Iu(a0:DS6)(a1:List Int)(a2:Int)(a3:List ByteArray):Option (DS0×(List Int)×Int×(List ByteArray)×Unit) :=
 cond (iLt 0 (aD a3))
 ((m24 3 a1 a2).bind λN8 =>
 cond (iEq N8.1 0)
 ((m24 (aD a3) N8.2.1 N8.2.2.1).bind λN7 =>
 cond (bnd N7.1 (aD a3))
 (cond (inB (Int.toNat N7.1) a3)
 (some ((3,List.getD a3 (Int.toNat N7.1) ByteArray.empty,([]:List ByteArray),0,0,([]:List AV),()),N7.2.1,N7.2.2.1,a3,())) none) none)
 ((m24 (aD a0.1) N8.2.1 N8.2.2.1).bind λkI =>
 cond (bnd kI.1 (aD a0.1))
 (cond (iEq ((atI a0.1 kI.1 zS5).2.1) 3)
 (some ((3,(atI a0.1 kI.1 zS5).1,([]:List ByteArray),0,0,([]:List AV),()),kI.2.1,kI.2.2.1,a3,()))
 (cond (iEq ((atI a0.1 kI.1 zS5).2.1) 1)
 ((m24 (aD ((atI a0.1 kI.1 zS5).2.2.1)) kI.2.1 kI.2.2.1).bind λZl =>
 (m88 1 (aD ((atI a0.1 kI.1 zS5).2.2.1)) Zl.2.1 Zl.2.2.1).bind λZk =>
 bH (S:=Int×Int×(List Int)×Int×(List ByteArray)×Int×ByteArray×Int×Int×ByteArray×Int×(List ByteArray)×Int×Int×Int×ByteArray×Int×Int×(List ByteArray)×Unit) (R:=DS0×(List Int)×Int×(List ByteArray)×Unit) (λjv =>
 cond (iLt 0 jv.2.1)
 (cond (iNe (aD jv.2.2.2.2.2.2.2.2.2.2.2.1) 0)
 (cond (bnd (iE jv.1 (aD jv.2.2.2.2.2.2.2.2.2.2.2.1)) (aD jv.2.2.2.2.2.2.2.2.2.2.2.1))
 (cond (fits (List.length jv.2.2.2.2.2.2.2.2.2.2.2.2.2.2.2.2.2.2.1+List.length ([atI jv.2.2.2.2.2.2.2.2.2.2.2.1 (iE jv.1 (aD jv.2.2.2.2.2.2.2.2.2.2.2.1)) ByteArray.empty]:List ByteArray)) 16)
 (some (.inl (aN .i64 jv.1 1,dz .i64 jv.2.1 1,jv.2.2.1,jv.2.2.2.1,jv.2.2.2.2.1,jv.2.2.2.2.2.1,jv.2.2.2.2.2.2.1,jv.2.2.2.2.2.2.2.1,jv.2.2.2.2.2.2.2.2.1,jv.2.2.2.2.2.2.2.2.2.1,jv.2.2.2.2.2.2.2.2.2.2.1,jv.2.2.2.2.2.2.2.2.2.2.2.1,jv.2.2.2.2.2.2.2.2.2.2.2.2.1,jv.2.2.2.2.2.2.2.2.2.2.2.2.2.1,jv.2.2.2.2.2.2.2.2.2.2.2.2.2.2.1,jv.2.2.2.2.2.2.2.2.2.2.2.2.2.2.2.1,jv.2.2.2.2.2.2.2.2.2.2.2.2.2.2.2.2.1,jv.2.2.2.2.2.2.2.2.2.2.2.2.2.2.2.2.2.1,jv.2.2.2.2.2.2.2.2.2.2.2.2.2.2.2.2.2.2.1++([atI jv.2.2.2.2.2.2.2.2.2.2.2.1 (iE jv.1 (aD jv.2.2.2.2.2.2.2.2.2.2.2.1)) ByteArray.empty]:List ByteArray),()))) none) none) none)
 (some (.inr ((jv.2.2.2.2.2.2.2.2.2.2.2.2.2.2.1,jv.2.2.2.2.2.2.2.2.2.2.2.2.2.2.2.1,jv.2.2.2.2.2.2.2.2.2.2.2.2.2.2.2.2.2.2.1,jv.2.2.2.2.2.2.2.2.2.2.2.2.2.2.2.2.1,jv.2.2.2.2.2.2.2.2.2.2.2.2.2.2.2.2.2.1,([]:List AV),()),jv.2.2.1,jv.2.2.2.1,jv.2.2.2.2.1,()))))
 (Zl.1,Zk.1,Zk.2.1,Zk.2.2.1,a3,0,(bs []),0,0,(atI a0.1 kI.1 zS5).1,(atI a0.1 kI.1 zS5).2.1,(atI a0.1 kI.1 zS5).2.2.1,(atI a0.1 kI.1 zS5).2.2.2.1,(atI a0.1 kI.1 zS5).2.2.2.2.1,4,(atI a0.1 kI.1 zS5).1,0,0,([]:List ByteArray),()))
 ((m24 (aN .i64 (dz .i64 ((atI a0.1 kI.1 zS5).2.2.2.2.1) ((atI a0.1 kI.1 zS5).2.2.2.1)) 1) kI.2.1 kI.2.2.1).bind λZj =>
 jZ (S:=Int×(List Int)×Int×(List ByteArray)×Int×ByteArray×Int×Int×ByteArray×Int×(List ByteArray)×Int×Int×Unit) (R:=DS0×(List Int)×Int×(List ByteArray)×Unit)
 ((m24 2 Zj.2.1 Zj.2.2.1).bind λMZ =>
 cond (iEq MZ.1 0)
 ((m24 12 MZ.2.1 MZ.2.2.1).bind λZi =>
 some (.inl (jC (xQ (dz .i64 Zi.1 4) ((atI a0.1 kI.1 zS5).2.2.2.1)) ((atI a0.1 kI.1 zS5).2.2.2.2.1),Zi.2.1,Zi.2.2.1,a3,0,(bs []),0,0,(atI a0.1 kI.1 zS5).1,(atI a0.1 kI.1 zS5).2.1,(atI a0.1 kI.1 zS5).2.2.1,(atI a0.1 kI.1 zS5).2.2.2.1,(atI a0.1 kI.1 zS5).2.2.2.2.1,())))
 (some (.inl (aN .i64 ((atI a0.1 kI.1 zS5).2.2.2.1) Zj.1,MZ.2.1,MZ.2.2.1,a3,0,(bs []),0,0,(atI a0.1 kI.1 zS5).1,(atI a0.1 kI.1 zS5).2.1,(atI a0.1 kI.1 zS5).2.2.1,(atI a0.1 kI.1 zS5).2.2.2.1,(atI a0.1 kI.1 zS5).2.2.2.2.1,()))))
 (λxL =>
 (m24 (aN .i64 (dz .i64 xL.2.2.2.2.2.2.2.2.2.2.2.2.1 xL.1) 1) xL.2.1 xL.2.2.1).bind λZh =>
 (m24 2 Zh.2.1 Zh.2.2.1).bind λMX =>
 cond (iEq MX.1 0)
 ((m24 4 MX.2.1 MX.2.2.1).bind λZg =>
 some ((5,xL.2.2.2.2.2.2.2.2.1,([]:List ByteArray),xL.1,jC (aN .i64 xL.1 Zg.1) xL.2.2.2.2.2.2.2.2.2.2.2.2.1,([]:List AV),()),Zg.2.1,Zg.2.2.1,xL.2.2.2.1,()))
 (some ((5,xL.2.2.2.2.2.2.2.2.1,([]:List ByteArray),xL.1,aN .i64 xL.1 Zh.1,([]:List AV),()),MX.2.1,MX.2.2.1,xL.2.2.2.1,())))))) none))
 ((m24 (aD a0.1) a1 a2).bind λkG =>
 cond (bnd kG.1 (aD a0.1))
 (cond (iEq ((atI a0.1 kG.1 zS5).2.1) 3)
 (some ((3,(atI a0.1 kG.1 zS5).1,([]:List ByteArray),0,0,([]:List AV),()),kG.2.1,kG.2.2.1,a3,()))
 (cond (iEq ((atI a0.1 kG.1 zS5).2.1) 1)
 ((m24 (aD ((atI a0.1 kG.1 zS5).2.2.1)) kG.2.1 kG.2.2.1).bind λZf =>
 (m88 1 (aD ((atI a0.1 kG.1 zS5).2.2.1)) Zf.2.1 Zf.2.2.1).bind λZe =>
 bH (S:=Int×Int×(List Int)×Int×(List ByteArray)×Int×ByteArray×Int×Int×ByteArray×Int×(List ByteArray)×Int×Int×Int×ByteArray×Int×Int×(List ByteArray)×Unit) (R:=DS0×(List Int)×Int×(List ByteArray)×Unit) (λjr =>
 cond (iLt 0 jr.2.1)
 (cond (iNe (aD jr.2.2.2.2.2.2.2.2.2.2.2.1) 0)
 (cond (bnd (iE jr.1 (aD jr.2.2.2.2.2.2.2.2.2.2.2.1)) (aD jr.2.2.2.2.2.2.2.2.2.2.2.1))
 (cond (fits (List.length jr.2.2.2.2.2.2.2.2.2.2.2.2.2.2.2.2.2.2.1+List.length ([atI jr.2.2.2.2.2.2.2.2.2.2.2.1 (iE jr.1 (aD jr.2.2.2.2.2.2.2.2.2.2.2.1)) ByteArray.empty]:List ByteArray)) 16)
 (some (.inl (aN .i64 jr.1 1,dz .i64 jr.2.1 1,jr.2.2.1,jr.2.2.2.1,jr.2.2.2.2.1,jr.2.2.2.2.2.1,jr.2.2.2.2.2.2.1,jr.2.2.2.2.2.2.2.1,jr.2.2.2.2.2.2.2.2.1,jr.2.2.2.2.2.2.2.2.2.1,jr.2.2.2.2.2.2.2.2.2.2.1,jr.2.2.2.2.2.2.2.2.2.2.2.1,jr.2.2.2.2.2.2.2.2.2.2.2.2.1,jr.2.2.2.2.2.2.2.2.2.2.2.2.2.1,jr.2.2.2.2.2.2.2.2.2.2.2.2.2.2.1,jr.2.2.2.2.2.2.2.2.2.2.2.2.2.2.2.1,jr.2.2.2.2.2.2.2.2.2.2.2.2.2.2.2.2.1,jr.2.2.2.2.2.2.2.2.2.2.2.2.2.2.2.2.2.1,jr.2.2.2.2.2.2.2.2.2.2.2.2.2.2.2.2.2.2.1++([atI jr.2.2.2.2.2.2.2.2.2.2.2.1 (iE jr.1 (aD jr.2.2.2.2.2.2.2.2.2.2.2.1)) ByteArray.empty]:List ByteArray),()))) none) none) none)
 (some (.inr ((jr.2.2.2.2.2.2.2.2.2.2.2.2.2.2.1,jr.2.2.2.2.2.2.2.2.2.2.2.2.2.2.2.1,jr.2.2.2.2.2.2.2.2.2.2.2.2.2.2.2.2.2.2.1,jr.2.2.2.2.2.2.2.2.2.2.2.2.2.2.2.2.1,jr.2.2.2.2.2.2.2.2.2.2.2.2.2.2.2.2.2.1,([]:List AV),()),jr.2.2.1,jr.2.2.2.1,jr.2.2.2.2.1,()))))
 (Zf.1,Ze.1,Ze.2.1,Ze.2.2.1,a3,0,(bs []),0,0,(atI a0.1 kG.1 zS5).1,(atI a0.1 kG.1 zS5).2.1,(atI a0.1 kG.1 zS5).2.2.1,(atI a0.1 kG.1 zS5).2.2.2.1,(atI a0.1 kG.1 zS5).2.2.2.2.1,4,(atI a0.1 kG.1 zS5).1,0,0,([]:List ByteArray),()))
 ((m24 (aN .i64 (dz .i64 ((atI a0.1 kG.1 zS5).2.2.2.2.1) ((atI a0.1 kG.1 zS5).2.2.2.1)) 1) kG.2.1 kG.2.2.1).bind λZd =>
 jZ (S:=Int×(List Int)×Int×(List ByteArray)×Int×ByteArray×Int×Int×ByteArray×Int×(List ByteArray)×Int×Int×Unit) (R:=DS0×(List Int)×Int×(List ByteArray)×Unit)
 ((m24 2 Zd.2.1 Zd.2.2.1).bind λMW =>
 cond (iEq MW.1 0)
 ((m24 12 MW.2.1 MW.2.2.1).bind λZc =>
 some (.inl (jC (xQ (dz .i64 Zc.1 4) ((atI a0.1 kG.1 zS5).2.2.2.1)) ((atI a0.1 kG.1 zS5).2.2.2.2.1),Zc.2.1,Zc.2.2.1,a3,0,(bs []),0,0,(atI a0.1 kG.1 zS5).1,(atI a0.1 kG.1 zS5).2.1,(atI a0.1 kG.1 zS5).2.2.1,(atI a0.1 kG.1 zS5).2.2.2.1,(atI a0.1 kG.1 zS5).2.2.2.2.1,())))
 (some (.inl (aN .i64 ((atI a0.1 kG.1 zS5).2.2.2.1) Zd.1,MW.2.1,MW.2.2.1,a3,0,(bs []),0,0,(atI a0.1 kG.1 zS5).1,(atI a0.1 kG.1 zS5).2.1,(atI a0.1 kG.1 zS5).2.2.1,(atI a0.1 kG.1 zS5).2.2.2.1,(atI a0.1 kG.1 zS5).2.2.2.2.1,()))))
 (λxK =>
 (m24 (aN .i64 (dz .i64 xK.2.2.2.2.2.2.2.2.2.2.2.2.1 xK.1) 1) xK.2.1 xK.2.2.1).bind λZb =>
 (m24 2 Zb.2.1 Zb.2.2.1).bind λMU =>
 cond (iEq MU.1 0)
 ((m24 4 MU.2.1 MU.2.2.1).bind λZa =>
 some ((5,xK.2.2.2.2.2.2.2.2.1,([]:List ByteArray),xK.1,jC (aN .i64 xK.1 Za.1) xK.2.2.2.2.2.2.2.2.2.2.2.2.1,([]:List AV),()),Za.2.1,Za.2.2.1,xK.2.2.2.1,()))
 (some ((5,xK.2.2.2.2.2.2.2.2.1,([]:List ByteArray),xK.1,aN .i64 xK.1 Zb.1,([]:List AV),()),MU.2.1,MU.2.2.1,xK.2.2.2.1,())))))) none)
def a11:Sh:=⟨3,[(1,tS6)],[(0,.ptr 0 0 0),(2,.row 1)],[.box 65 [.d (.list (.int .i64)),.d (.int .i64)],.row 9 .str false]⟩
def a1l:Sh:=⟨1,[(0,tS0)],[],[.box 65 [.d (.list (.int .i64)),.d (.int .i64)],.row 9 .str false]⟩
def b1w:HI:=⟨164,a11,a1l,fun(x:DS6×(List Int)×Int×(List ByteArray)×Unit)=>Iu x.1 x.2.1 x.2.2.1 x.2.2.2.1,[1]⟩
theorem a1t:HK b1w:=hkz (.d 2 (.s (.u [0]) (.s (.d 1 (.b (.d 1 (.c .o (.d 1 (.c (.d 2 (.s (.d 1 (.b (.l [.ghc 8 2 9 .str] ⟨128,[(9,(.int .i64)),(10,(.int .i64))],[(6,.ptr 2 0 0),(7,.ptr 3 0 0),(8,.ptr 4 0 0)],[.box 65 [.d (.list (.int .i64)),.d (.int .i64)],.row 9 .str false,.box 34 [.d (.int .i64),.d .str,.nil,.d (.int .i64),.d (.int .i64),.nil],.box 106 [.d .str,.d (.int .i64),.d (.list .str),.d (.int .i64),.d (.int .i64)],.box 34 [.d (.int .i64),.d .str,.row 5,.d (.int .i64),.d (.int .i64),.nil],.row 9 .str false]⟩ .o))) .o)) .o)))))) (.s (.u [0]) (.j [] ⟨128,[(11,(.int .i64))],[(0,.ptr 0 0 0),(6,.ptr 2 0 0),(7,.ptr 3 0 0)],[.box 65 [.d (.list (.int .i64)),.d (.int .i64)],.row 9 .str false,.box 34 [.d (.int .i64),.d .str,.nil,.d (.int .i64),.d (.int .i64),.nil],.box 106 [.d .str,.d (.int .i64),.d (.list .str),.d (.int .i64),.d (.int .i64)]]⟩ (.d 1 (.c (.u [0]) .o)) (.d 1 (.s (.d 1 (.c (.u [0]) .o)) .o))))))) [] tS0 Tryz.func164 (cH tJ (cH Il c0)) (by kernel_rfl) λx=>by kernel_rfl
def EU(self:(DS6×Int×(List Int)×Int×(List ByteArray)×Unit)->Option (DS0×(List Int)×Int×(List ByteArray)×Unit))(a0:DS6)(a1:Int)(a2:List Int)(a3:Int)(a4:List ByteArray):Option (DS0×(List Int)×Int×(List ByteArray)×Unit) :=
 (m24 8 a2 a3).bind λBR =>
 cond (cond (iLt a1 2) true (iLt BR.1 4))
 ((m24 12 BR.2.1 BR.2.2.1).bind λCY =>
 cond (iEq CY.1 10)
 (some ((1,(bs []),([]:List ByteArray),0,0,([]:List AV),()),CY.2.1,CY.2.2.1,a4,()))
 (cond (iEq CY.1 11)
 (some ((2,(bs []),([]:List ByteArray),0,0,([]:List AV),()),CY.2.1,CY.2.2.1,a4,()))
 ((Iu (a0.1,()) CY.2.1 CY.2.2.1 a4).bind λAJ =>
 cond (and (Nat.beq (List.length a4) (List.length AJ.2.2.2.1)) true)
 (some ((AJ.1.1,AJ.1.2.1,AJ.1.2.2.1,AJ.1.2.2.2.1,AJ.1.2.2.2.2.1,AJ.1.2.2.2.2.2.1,()),AJ.2.1,AJ.2.2.1,AJ.2.2.2.1,())) none)))
 (cond (iLt BR.1 6)
 ((self ((a0.1,()),dz .i64 a1 1,BR.2.1,BR.2.2.1,a4,())).bind λMS =>
 cond (and (Nat.beq (List.length a4) (List.length MS.2.2.2.1)) true)
 (some ((6,(bs []),([]:List ByteArray),0,0,wD ([MS.1]:List DS0),()),MS.2.1,MS.2.2.1,MS.2.2.2.1,())) none)
 ((m88 2 3 BR.2.1 BR.2.2.1).bind λZ9 =>
 bH (S:=Int×Int×(List Int)×Int×(List ByteArray)×(List DS5)×Int×ByteArray×Int×Int×Int×ByteArray×Int×Int×(List DS0)×Unit) (R:=DS0×(List Int)×Int×(List ByteArray)×Unit) (λlT =>
 cond (iLt 0 lT.2.1)
 ((self ((lT.2.2.2.2.2.1,()),dz .i64 lT.1 1,lT.2.2.1,lT.2.2.2.1,lT.2.2.2.2.1,())).bind λJi =>
 cond (and (Nat.beq (List.length lT.2.2.2.2.1) (List.length Ji.2.2.2.1)) true)
 (cond (fits (List.length lT.2.2.2.2.2.2.2.2.2.2.2.2.2.2.1+List.length ([Ji.1]:List DS0)) 88)
 (some (.inl (lT.1,dz .i64 lT.2.1 1,Ji.2.1,Ji.2.2.1,Ji.2.2.2.1,lT.2.2.2.2.2.1,lT.2.2.2.2.2.2.1,lT.2.2.2.2.2.2.2.1,lT.2.2.2.2.2.2.2.2.1,lT.2.2.2.2.2.2.2.2.2.1,lT.2.2.2.2.2.2.2.2.2.2.1,lT.2.2.2.2.2.2.2.2.2.2.2.1,lT.2.2.2.2.2.2.2.2.2.2.2.2.1,lT.2.2.2.2.2.2.2.2.2.2.2.2.2.1,lT.2.2.2.2.2.2.2.2.2.2.2.2.2.2.1++([Ji.1]:List DS0),()))) none) none)
 (some (.inr ((lT.2.2.2.2.2.2.2.2.2.2.1,lT.2.2.2.2.2.2.2.2.2.2.2.1,([]:List ByteArray),lT.2.2.2.2.2.2.2.2.2.2.2.2.1,lT.2.2.2.2.2.2.2.2.2.2.2.2.2.1,wD lT.2.2.2.2.2.2.2.2.2.2.2.2.2.2.1,()),lT.2.2.1,lT.2.2.2.1,lT.2.2.2.2.1,()))))
 (a1,Z9.1,Z9.2.1,Z9.2.2.1,a4,a0.1,0,(bs []),0,0,aN .i64 BR.1 1,(bs []),0,0,([]:List DS0),())))
def DU(a0:DS6)(a1:Int)(a2:List Int)(a3:Int)(a4:List ByteArray):Option (DS0×(List Int)×Int×(List ByteArray)×Unit):=eT (λself (x:DS6×Int×(List Int)×Int×(List ByteArray)×Unit)=>EU self x.1 x.2.1 x.2.2.1 x.2.2.2.1 x.2.2.2.2.1) 10000 (a0,a1,a2,a3,a4,())
def Pf:Sh:=⟨4,[(1,tS6),(3,(.int .i64))],[(0,.ptr 0 0 0),(2,.row 1)],[.box 65 [.d (.list (.int .i64)),.d (.int .i64)],.row 9 .str false]⟩
def Oo:Sh:=⟨1,[(0,tS0)],[],[.box 65 [.d (.list (.int .i64)),.d (.int .i64)],.row 9 .str false]⟩
def b1y:HI:=⟨131,Pf,Oo,fun(x:DS6×Int×(List Int)×Int×(List ByteArray)×Unit)=>DU x.1 x.2.1 x.2.2.1 x.2.2.2.1 x.2.2.2.2.1,[1]⟩
theorem Ov:HK b1y:=pG 10000 (ish:=Pf) (osh:=Oo) (G:=λself (x:DS6×Int×(List Int)×Int×(List ByteArray)×Unit)=>EU self x.1 x.2.1 x.2.2.1 x.2.2.2.1 x.2.2.2.2.1) (mU (f:=Tryz.f131) (by kernel_rfl)) λself hr=>hkz (.d 4 (.s (.d 1 (.b (.l [.ghc 10 5 34 tS0] ⟨65,[(3,(.int .i64)),(11,(.int .i64))],[(0,.ptr 0 0 0),(2,.row 1),(5,.ptr 2 0 0),(8,.ptr 3 0 0),(10,.ptr 4 0 0)],[.box 65 [.d (.list (.int .i64)),.d (.int .i64)],.row 9 .str false,.box 59 [.d (.list tS5)],.box 34 [.d (.int .i64),.d .str,.nil,.d (.int .i64),.d (.int .i64),.nil],.box 34 [.d (.int .i64),.d .str,.nil,.d (.int .i64),.d (.int .i64),.row 5],.row 34 tS0 false]⟩ (.d 1 (.s (.b (.u [0,1])) .o))))) .o)) [] tS0 Tryz.func131 (cH hr (cH a1t (cH tJ (cH Il c0)))) (by kernel_rfl) λx=>by kernel_rfl
def ET(self:(DS6×Int×(List Int)×Int×(List ByteArray)×Unit)->Option ((List AV)×(List Int)×Int×(List ByteArray)×Unit))(a0:DS6)(a1:Int)(a2:List Int)(a3:Int)(a4:List ByteArray):Option ((List AV)×(List Int)×Int×(List ByteArray)×Unit) :=
 (m24 3 a2 a3).bind λZ8 =>
 bH (S:=Int×Int×(List Int)×Int×(List ByteArray)×(List DS5)×(List DS7)×Unit) (R:=(List AV)×(List Int)×Int×(List ByteArray)×Unit) (λrz =>
 cond (cond (iLt 0 rz.2.1) (iLt 0 rz.1) false)
 ((m24 3 rz.2.2.1 rz.2.2.2.1).bind λMR =>
 cond (bnd MR.1 (aD ([(bs [119]),(bs [120]),(bs [121])]:List ByteArray)))
 ((DU (rz.2.2.2.2.2.1,()) 2 MR.2.1 MR.2.2.1 rz.2.2.2.2.1).bind λrV =>
 cond (and (Nat.beq (List.length rz.2.2.2.2.1) (List.length rV.2.2.2.1)) true)
 ((self ((rz.2.2.2.2.2.1,()),dz .i64 rz.1 1,rV.2.1,rV.2.2.1,rV.2.2.2.1,())).bind λJh =>
 cond (and (Nat.beq (List.length rV.2.2.2.1) (List.length Jh.2.2.2.1)) true)
 (cond (fits (List.length rz.2.2.2.2.2.2.1+List.length ([(atI ([(bs [119]),(bs [120]),(bs [121])]:List ByteArray) MR.1 ByteArray.empty,(rV.1.1,rV.1.2.1,rV.1.2.2.1,rV.1.2.2.2.1,rV.1.2.2.2.2.1,rV.1.2.2.2.2.2.1,()),Jh.1,())]:List DS7)) 128)
 (some (.inl (rz.1,dz .i64 rz.2.1 1,Jh.2.1,Jh.2.2.1,Jh.2.2.2.1,rz.2.2.2.2.2.1,rz.2.2.2.2.2.2.1++([(atI ([(bs [119]),(bs [120]),(bs [121])]:List ByteArray) MR.1 ByteArray.empty,(rV.1.1,rV.1.2.1,rV.1.2.2.1,rV.1.2.2.2.1,rV.1.2.2.2.2.1,rV.1.2.2.2.2.2.1,()),Jh.1,())]:List DS7),()))) none) none) none) none)
 (some (.inr (Fj rz.2.2.2.2.2.2.1,rz.2.2.1,rz.2.2.2.1,rz.2.2.2.2.1,()))))
 (a1,Z8.1,Z8.2.1,Z8.2.2.1,a4,a0.1,([]:List DS7),())
def Iw(a0:DS6)(a1:Int)(a2:List Int)(a3:Int)(a4:List ByteArray):Option ((List AV)×(List Int)×Int×(List ByteArray)×Unit):=eT (λself (x:DS6×Int×(List Int)×Int×(List ByteArray)×Unit)=>ET self x.1 x.2.1 x.2.2.1 x.2.2.2.1 x.2.2.2.2.1) 10000 (a0,a1,a2,a3,a4,())
def Pb:Sh:=⟨4,[(1,tS6),(3,(.int .i64))],[(0,.ptr 0 0 0),(2,.row 1)],[.box 65 [.d (.list (.int .i64)),.d (.int .i64)],.row 9 .str false]⟩
def Om:Sh:=⟨1,[(0,(.rl 63 8))],[],[.box 65 [.d (.list (.int .i64)),.d (.int .i64)],.row 9 .str false]⟩
def b1x:HI:=⟨132,Pb,Om,fun(x:DS6×Int×(List Int)×Int×(List ByteArray)×Unit)=>Iw x.1 x.2.1 x.2.2.1 x.2.2.2.1 x.2.2.2.2.1,[1]⟩
theorem a1u:HK b1x:=pG 10000 (ish:=Pb) (osh:=Om) (G:=λself (x:DS6×Int×(List Int)×Int×(List ByteArray)×Unit)=>ET self x.1 x.2.1 x.2.2.1 x.2.2.2.1 x.2.2.2.2.1) (mU (f:=Tryz.f132) (by kernel_rfl)) λself hr=>hkz (.d 2 (.s (.d 1 (.b (.l [.gh 9 63 tS7] ⟨41,[(3,(.int .i64)),(10,(.int .i64))],[(0,.ptr 0 0 0),(2,.row 1),(5,.ptr 2 0 0),(9,.row 3)],[.box 65 [.d (.list (.int .i64)),.d (.int .i64)],.row 9 .str false,.box 59 [.d (.list tS5)],.row 63 tS7 false]⟩ (.d 1 (.s (.b (.u [0,1])) .o))))) .o)) [] (.rl 63 8) Tryz.func132 (cH hr (cH Ov (cH tJ c0))) (by kernel_rfl) λx=>by kernel_rfl
def Ir(a0:DS6)(a1:Int)(a2:ByteArray)(a3:List Int)(a4:Int)(a5:List ByteArray):Option (DS1×(List Int)×Int×(List ByteArray)×Unit) :=
 (DU (a0.1,()) 3 a3 a4 a5).bind λjU =>
 cond (and (Nat.beq (List.length a5) (List.length jU.2.2.2.1)) true)
 (cond (iEq a1 3)
 ((Iw (a0.1,()) 2 jU.2.1 jU.2.2.1 jU.2.2.2.1).bind λBQ =>
 cond (and (Nat.beq (List.length jU.2.2.2.1) (List.length BQ.2.2.2.1)) true)
 ((xG a1).bind λa6N =>
 cond (iLt 0 a6N.1)
 ((DT (dz .i64 a6N.1 1) BQ.2.1 BQ.2.2.1).bind λZ7 =>
 some ((a1,a2,(jU.1.1,jU.1.2.1,jU.1.2.2.1,jU.1.2.2.2.1,jU.1.2.2.2.2.1,jU.1.2.2.2.2.2.1,()),BQ.1,aN .i64 1 Z7.1,()),Z7.2.1,Z7.2.2.1,BQ.2.2.2.1,()))
 (some ((a1,a2,(jU.1.1,jU.1.2.1,jU.1.2.2.1,jU.1.2.2.2.1,jU.1.2.2.2.2.1,jU.1.2.2.2.2.2.1,()),BQ.1,0,()),BQ.2.1,BQ.2.2.1,BQ.2.2.2.1,()))) none)
 ((xG a1).bind λa6M =>
 cond (iLt 0 a6M.1)
 ((DT (dz .i64 a6M.1 1) jU.2.1 jU.2.2.1).bind λZ6 =>
 some ((a1,a2,(jU.1.1,jU.1.2.1,jU.1.2.2.1,jU.1.2.2.2.1,jU.1.2.2.2.2.1,jU.1.2.2.2.2.2.1,()),([]:List AV),aN .i64 1 Z6.1,()),Z6.2.1,Z6.2.2.1,jU.2.2.2.1,()))
 (some ((a1,a2,(jU.1.1,jU.1.2.1,jU.1.2.2.1,jU.1.2.2.2.1,jU.1.2.2.2.2.1,jU.1.2.2.2.2.2.1,()),([]:List AV),0,()),jU.2.1,jU.2.2.1,jU.2.2.2.1,())))) none
def a5Q:Sh:=⟨5,[(1,tS6),(2,(.int .i64)),(3,.str)],[(0,.ptr 0 0 0),(4,.row 1)],[.box 65 [.d (.list (.int .i64)),.d (.int .i64)],.row 9 .str false]⟩
def a5i:Sh:=⟨1,[(0,tS1)],[],[.box 65 [.d (.list (.int .i64)),.d (.int .i64)],.row 9 .str false]⟩
def b4x:HI:=⟨85,a5Q,a5i,fun(x:DS6×Int×ByteArray×(List Int)×Int×(List ByteArray)×Unit)=>Ir x.1 x.2.1 x.2.2.1 x.2.2.2.1 x.2.2.2.2.1 x.2.2.2.2.2.1,[1]⟩
theorem a5s:HK b4x:=hkz .o [] tS1 Tryz.func85 (cP Ik (cH Ov (cH a1u (cH XI c0)))) (by kernel_rfl) λx=>by kernel_rfl
def m48(a0:DS6)(a1:Int)(a2:ByteArray)(a3:List Int)(a4:Int):Option ((List Int)×Int×(List DS1)×Unit) :=
 (m86 a2 0).bind λb5d =>
 (m85 (a0.1,()) 2 b5d.1 a3 a4).bind λAB =>
 jZ (S:=Int×ByteArray×(List Int)×Int×(List DS5)×(List DS1)×Unit) (R:=(List Int)×Int×(List DS1)×Unit)
 ((m24 3 AB.2.1 AB.2.2.1).bind λMQ =>
 cond (iLt 0 MQ.1)
 (cond (bnd 0 (aD ([AB.1]:List DS1)))
 (cond (inB (Int.toNat 0) ([AB.1]:List DS1))
 (some (.inl (a1,a2,MQ.2.1,MQ.2.2.1,a0.1,List.set ([AB.1]:List DS1) (Int.toNat 0) ((List.getD ([AB.1]:List DS1) (Int.toNat 0) zS1).1,(List.getD ([AB.1]:List DS1) (Int.toNat 0) zS1).2.1,(1,(bs []),([]:List ByteArray),0,0,([]:List AV),()),(List.getD ([AB.1]:List DS1) (Int.toNat 0) zS1).2.2.2.1,(List.getD ([AB.1]:List DS1) (Int.toNat 0) zS1).2.2.2.2.1,()),()))) none) none)
 (some (.inl (a1,a2,MQ.2.1,MQ.2.2.1,a0.1,([AB.1]:List DS1),()))))
 (λJZ =>
 bH (S:=Int×ByteArray×Int×(List Int)×Int×(List DS5)×(List ByteArray)×(List DS1)×Unit) (R:=(List Int)×Int×(List DS1)×Unit) (λkV =>
 cond (iLe kV.2.2.1 kV.1)
 ((m87 kV.2.2.2.1 kV.2.2.2.2.1).bind λMP =>
 cond MP.1
 ((m88 1 10 MP.2.1 MP.2.2.1).bind λZ5 =>
 (m86 kV.2.1 kV.2.2.1).bind λb5c =>
 (Ir (kV.2.2.2.2.2.1,()) Z5.1 b5c.1 Z5.2.1 Z5.2.2.1 kV.2.2.2.2.2.2.1).bind λfV =>
 cond (and (Nat.beq (List.length kV.2.2.2.2.2.2.1) (List.length fV.2.2.2.1)) true)
 (cond (fits (List.length ([]:List DS1)+List.length kV.2.2.2.2.2.2.2.1) 144)
 (cond (fits (List.length (([]:List DS1)++kV.2.2.2.2.2.2.2.1)+List.length ([(fV.1.1,fV.1.2.1,(fV.1.2.2.1.1,fV.1.2.2.1.2.1,fV.1.2.2.1.2.2.1,fV.1.2.2.1.2.2.2.1,fV.1.2.2.1.2.2.2.2.1,fV.1.2.2.1.2.2.2.2.2.1,()),fV.1.2.2.2.1,fV.1.2.2.2.2.1,())]:List DS1)) 144)
 ((m89 (kV.2.2.2.2.2.1,()) ((([]:List DS1)++kV.2.2.2.2.2.2.2.1)++([(fV.1.1,fV.1.2.1,(fV.1.2.2.1.1,fV.1.2.2.1.2.1,fV.1.2.2.1.2.2.1,fV.1.2.2.1.2.2.2.1,fV.1.2.2.1.2.2.2.2.1,fV.1.2.2.1.2.2.2.2.2.1,()),fV.1.2.2.2.1,fV.1.2.2.2.2.1,())]:List DS1))).bind λb5b =>
 cond (iNe b5b.2.1 0)
 (some (.inl (kV.1,kV.2.1,aN .i64 kV.2.2.1 1,fV.2.1,fV.2.2.1,kV.2.2.2.2.2.1,fV.2.2.2.1,kV.2.2.2.2.2.2.2.1,())))
 (cond (iEq fV.1.1 1)
 (cond (fits (List.length fV.2.2.2.1+List.length ([fV.1.2.1]:List ByteArray)) 16)
 (some (.inl (kV.1,kV.2.1,aN .i64 kV.2.2.1 1,fV.2.1,fV.2.2.1,kV.2.2.2.2.2.1,fV.2.2.2.1++([fV.1.2.1]:List ByteArray),(([]:List DS1)++kV.2.2.2.2.2.2.2.1)++([(fV.1.1,fV.1.2.1,(fV.1.2.2.1.1,fV.1.2.2.1.2.1,fV.1.2.2.1.2.2.1,fV.1.2.2.1.2.2.2.1,fV.1.2.2.1.2.2.2.2.1,fV.1.2.2.1.2.2.2.2.2.1,()),fV.1.2.2.2.1,fV.1.2.2.2.2.1,())]:List DS1),()))) none)
 (some (.inl (kV.1,kV.2.1,aN .i64 kV.2.2.1 1,fV.2.1,fV.2.2.1,kV.2.2.2.2.2.1,fV.2.2.2.1,(([]:List DS1)++kV.2.2.2.2.2.2.2.1)++([(fV.1.1,fV.1.2.1,(fV.1.2.2.1.1,fV.1.2.2.1.2.1,fV.1.2.2.1.2.2.1,fV.1.2.2.1.2.2.2.1,fV.1.2.2.1.2.2.2.2.1,fV.1.2.2.1.2.2.2.2.2.1,()),fV.1.2.2.2.1,fV.1.2.2.2.2.1,())]:List DS1),()))))) none) none) none)
 (some (.inr (MP.2.1,MP.2.2.1,kV.2.2.2.2.2.2.2.1,()))))
 (some (.inr (kV.2.2.2.1,kV.2.2.2.2.1,kV.2.2.2.2.2.2.2.1,()))))
 (JZ.1,JZ.2.1,1,JZ.2.2.1,JZ.2.2.2.1,JZ.2.2.2.2.1,([]:List ByteArray),JZ.2.2.2.2.2.1,()))
def b4f:Sh:=⟨4,[(1,tS6),(2,(.int .i64)),(3,.str)],[(0,.ptr 0 0 0)],[.box 65 [.d (.list (.int .i64)),.d (.int .i64)]]⟩
def b2W:Sh:=⟨1,[],[(0,.row 1)],[.box 65 [.d (.list (.int .i64)),.d (.int .i64)],.row 37 tS1 false]⟩
def h48:HI:=⟨48,b4f,b2W,fun(x:DS6×Int×ByteArray×(List Int)×Int×Unit)=>m48 x.1 x.2.1 x.2.2.1 x.2.2.2.1 x.2.2.2.2.1,[]⟩
theorem b3K:HK h48:=hk (.d 2 (.s (.u [0]) (.j [] ⟨71,[(2,(.int .i64)),(3,.str)],[(0,.ptr 0 0 0),(5,.ptr 1 0 0),(9,.nil),(10,.row 2)],[.box 65 [.d (.list (.int .i64)),.d (.int .i64)],.box 59 [.d (.list tS5)],.row 37 tS1 false]⟩ .o (.s (.d 1 (.b (.l [.gh 9 9 .str] ⟨71,[(2,(.int .i64)),(3,.str),(11,(.int .i64))],[(0,.ptr 0 0 0),(5,.ptr 1 0 0),(9,.row 2),(10,.row 3)],[.box 65 [.d (.list (.int .i64)),.d (.int .i64)],.box 59 [.d (.list tS5)],.row 9 .str false,.row 37 tS1 false]⟩ (.d 1 (.s (.b (.s (.u [0,2]) .o)) .o))))) .o)))) [] Tryz.func48 (cP b3g (cP a3r (cH tJ (cH b3E (cH a5s (cH b3D (cH Il c0))))))) (by kernel_rfl) λx=>by kernel_rfl
def m90(a0:List Int)(a1:Int):Option (Int×(List Int)×Int×Unit) :=
 (m24 4 a0 a1).bind λzF =>
 cond (iEq zF.1 0)
 ((m24 60 zF.2.1 zF.2.2.1).bind λZ4 =>
 some (Z4.1,Z4.2.1,Z4.2.2.1,()))
 (cond (iEq zF.1 1)
 ((m24 20000 zF.2.1 zF.2.2.1).bind λZ0 =>
 some (Z0.1,Z0.2.1,Z0.2.2.1,()))
 (cond (iEq zF.1 2)
 ((m24 50 zF.2.1 zF.2.2.1).bind λYZ =>
 some (dz .i64 876599 YZ.1,YZ.2.1,YZ.2.2.1,()))
 ((m24 876600 zF.2.1 zF.2.2.1).bind λYX =>
 some (YX.1,YX.2.1,YX.2.2.1,()))))
def b35:Sh:=⟨1,[],[(0,.ptr 0 0 0)],[.box 65 [.d (.list (.int .i64)),.d (.int .i64)]]⟩
def b2M:Sh:=⟨1,[(0,(.int .i64))],[],[.box 65 [.d (.list (.int .i64)),.d (.int .i64)]]⟩
def h90:HI:=⟨90,b35,b2M,fun(x:(List Int)×Int×Unit)=>m90 x.1 x.2.1,[]⟩
theorem b3C:HK h90:=hk .o [] Tryz.func90 (cH tJ c0) (by kernel_rfl) λx=>by kernel_rfl
def m49(a0:List Int)(a1:Int):Option (Int×Int×(List Int)×Int×Unit) :=
 (m90 a0 a1).bind λRU =>
 (m90 RU.2.1 RU.2.2.1).bind λRS =>
 some (jC RU.1 RS.1,aN .i64 (xQ RU.1 RS.1) 1,RS.2.1,RS.2.2.1,())
def b4e:Sh:=⟨1,[],[(0,.ptr 0 0 0)],[.box 65 [.d (.list (.int .i64)),.d (.int .i64)]]⟩
def b2V:Sh:=⟨1,[],[(0,.agg [.d (.int .i64),.d (.int .i64)])],[.box 65 [.d (.list (.int .i64)),.d (.int .i64)]]⟩
def h49:HI:=⟨49,b4e,b2V,fun(x:(List Int)×Int×Unit)=>m49 x.1 x.2.1,[]⟩
theorem b3J:HK h49:=hk .o [] Tryz.func49 (cH b3C c0) (by kernel_rfl) λx=>by kernel_rfl
def OM(a0:List Int)(a1:Int):Option ((List Int)×Unit) :=
 bH (S:=(List Int)×Int×Bool×Int×(List Int)×Unit) (R:=(List Int)×Unit) (λfI =>
 cond (iLt fI.2.2.2.1 (aD fI.1))
 (cond (or (bnd fI.2.2.2.1 (aD fI.1)) (not (bEq (not fI.2.2.1) true)))
 (cond (cond (not fI.2.2.1) (iLe fI.2.1 (atI fI.1 fI.2.2.2.1 0)) false)
 (cond (bnd fI.2.2.2.1 (aD fI.1))
 (cond (iLt fI.2.1 (atI fI.1 fI.2.2.2.1 0))
 (cond (fits (List.length fI.2.2.2.2.1+List.length ([fI.2.1]:List Int)) 8)
 (cond (bnd fI.2.2.2.1 (aD fI.1))
 (cond (fits (List.length (fI.2.2.2.2.1++([fI.2.1]:List Int))+List.length ([atI fI.1 fI.2.2.2.1 0]:List Int)) 8)
 (some (.inl (fI.1,fI.2.1,true,aN .i64 fI.2.2.2.1 1,(fI.2.2.2.2.1++([fI.2.1]:List Int))++([atI fI.1 fI.2.2.2.1 0]:List Int),()))) none) none) none)
 (cond (bnd fI.2.2.2.1 (aD fI.1))
 (cond (fits (List.length fI.2.2.2.2.1+List.length ([atI fI.1 fI.2.2.2.1 0]:List Int)) 8)
 (some (.inl (fI.1,fI.2.1,true,aN .i64 fI.2.2.2.1 1,fI.2.2.2.2.1++([atI fI.1 fI.2.2.2.1 0]:List Int),()))) none) none)) none)
 (cond (bnd fI.2.2.2.1 (aD fI.1))
 (cond (fits (List.length fI.2.2.2.2.1+List.length ([atI fI.1 fI.2.2.2.1 0]:List Int)) 8)
 (some (.inl (fI.1,fI.2.1,fI.2.2.1,aN .i64 fI.2.2.2.1 1,fI.2.2.2.2.1++([atI fI.1 fI.2.2.2.1 0]:List Int),()))) none) none)) none)
 (Option.map Sum.inr (cond (not fI.2.2.1)
 (cond (fits (List.length fI.2.2.2.2.1+List.length ([fI.2.1]:List Int)) 8)
 (some (fI.2.2.2.2.1++([fI.2.1]:List Int),())) none)
 (some (fI.2.2.2.2.1,())))))
 (a0,a1,false,0,([]:List Int),())
def i141:PI:=⟨141,[(.list (.int .i64)),(.int .i64)],[(.list (.int .i64))],fun(x:(List Int)×Int×Unit)=>OM x.1 x.2.1⟩
theorem a9U:PK i141:=pk (.d 3 (.s (.d 1 (.b (.l [.gh 5 3 (.int .i64)] ⟨48,[(0,(.list (.int .i64))),(1,(.int .i64)),(6,.bool),(7,(.int .i64))],[(5,.row 0)],[.row 3 (.int .i64) false]⟩ .o))) .o)) Tryz.func141 c0 (by kernel_rfl) λx=>by kernel_rfl
def m91(a0:DS4):Option ((List Int)×Unit) :=
 (m16 (a0.1,a0.2.1,())).bind λb5a =>
 cond (not b5a.1)
 (some (([]:List Int),()))
 (bH (S:=(List Int)×Int×(List DS1)×(List DS3)×Unit) (R:=(List Int)×Unit) (λxk =>
 cond (iLt xk.2.1 (aD xk.2.2.2.1))
 (cond (bnd xk.2.1 (aD xk.2.2.2.1))
 ((OM xk.1 (((atI xk.2.2.2.1 xk.2.1 zS3).1).1)).bind λb49 =>
 (OM b49.1 (((atI xk.2.2.2.1 xk.2.1 zS3).1).2.1)).bind λb48 =>
 some (.inl (b48.1,aN .i64 xk.2.1 1,xk.2.2.1,xk.2.2.2.1,()))) none)
 (some (.inr (xk.1,()))))
 (([0]:List Int),0,a0.1,a0.2.1,()))
def i91:PI:=⟨91,[tS4],[(.list (.int .i64))],fun(x:DS4×Unit)=>m91 x.1⟩
theorem b3f:PK i91:=pk (.d 3 (.s (.d 1 (.b (.l [.fz 3 (.list (.int .i64))] ⟨31,[(3,(.list (.int .i64))),(4,(.int .i64))],[(1,.ptr 0 0 0)],[.box 29 [.d (.list tS1),.d (.list tS3)]]⟩ .o))) .o)) Tryz.func91 (cP a9U (cP Mg c0)) (by kernel_rfl) λx=>by kernel_rfl
def a1P(a0:DS2)(a1:Int):Option (Bool×Unit) :=
 (m28 (a0.1,a0.2.1,())).bind λb47 =>
 some (cond (cond b47.1 (iLe a0.1 a1) false) (iLt a1 a0.2.1) false,())
def i143:PI:=⟨143,[tS2,(.int .i64)],[.bool],fun(x:DS2×Int×Unit)=>a1P x.1 x.2.1⟩
theorem a9T:PK i143:=pk .o Tryz.func143 (cP a3y c0) (by kernel_rfl) λx=>by kernel_rfl
def m92(a0:DS4)(a1:Int):Option ((List DS1)×Int×Unit) :=
 (m16 (a0.1,a0.2.1,())).bind λb2t =>
 cond (not b2t.1)
 (some (([]:List DS1),5,()))
 ((OL a1).bind λb2r =>
 cond (not b2r.1)
 (some (([]:List DS1),1,()))
 (bH (S:=Int×Int×(List DS1)×(List DS3)×(List DS1)×Unit) (R:=(List DS1)×Int×Unit) (λlG =>
 cond (iLt lG.2.1 (aD lG.2.2.1))
 (cond (bnd lG.2.1 (aD lG.2.2.1))
 ((m9 lG.2.2.2.2.1 ((atI lG.2.2.1 lG.2.1 zS1).2.1)).bind λb2q =>
 cond b2q.2.1
 (some (.inr (([]:List DS1),8,())))
 (cond (bnd lG.2.1 (aD lG.2.2.1))
 (cond (fits (List.length lG.2.2.2.2.1+List.length ([atI lG.2.2.1 lG.2.1 zS1]:List DS1)) 144)
 (some (.inl (lG.1,aN .i64 lG.2.1 1,lG.2.2.1,lG.2.2.2.1,lG.2.2.2.2.1++([atI lG.2.2.1 lG.2.1 zS1]:List DS1),()))) none) none)) none)
 (Option.map Sum.inr (bH (S:=Int×Int×(List DS1)×(List DS3)×(List DS1)×Unit) (R:=(List DS1)×Int×Unit) (λjR =>
 cond (iLt jR.2.1 (aD jR.2.2.2.1))
 (cond (bnd jR.2.1 (aD jR.2.2.2.1))
 ((a1P (((atI jR.2.2.2.1 jR.2.1 zS3).1).1,((atI jR.2.2.2.1 jR.2.1 zS3).1).2.1,()) jR.1).bind λb2p =>
 cond (not b2p.1)
 (some (.inl (jR.1,aN .i64 jR.2.1 1,jR.2.2.1,jR.2.2.2.1,jR.2.2.2.2.1,())))
 (bH (S:=Int×Int×Int×(List DS1)×(List DS3)×(List DS1)×Int×Int×(List ByteArray)×(List DS1)×Unit) (R:=(Int×Int×(List DS1)×(List DS3)×(List DS1)×Unit)⊕((List DS1)×Int×Unit)) (λkR =>
 cond (iLt kR.2.2.1 (aD kR.2.2.2.2.2.2.2.2.1))
 (cond (bnd kR.2.2.1 (aD kR.2.2.2.2.2.2.2.2.1))
 ((m9 kR.2.2.2.2.2.1 (atI kR.2.2.2.2.2.2.2.2.1 kR.2.2.1 ByteArray.empty)).bind λb2o =>
 cond (not b2o.2.1)
 (some (.inr (.inr (([]:List DS1),7,()))))
 (some (.inl (kR.1,kR.2.1,aN .i64 kR.2.2.1 1,kR.2.2.2.1,kR.2.2.2.2.1,kR.2.2.2.2.2.1,kR.2.2.2.2.2.2.1,kR.2.2.2.2.2.2.2.1,kR.2.2.2.2.2.2.2.2.1,kR.2.2.2.2.2.2.2.2.2.1,())))) none)
 (Option.map Sum.inr (bH (S:=Int×Int×Int×(List DS1)×(List DS3)×(List DS1)×Int×Int×(List ByteArray)×(List DS1)×(List DS1)×Unit) (R:=(Int×Int×(List DS1)×(List DS3)×(List DS1)×Unit)⊕((List DS1)×Int×Unit)) (λfB =>
 cond (iLt fB.2.2.1 (aD fB.2.2.2.2.2.1))
 (cond (bnd fB.2.2.1 (aD fB.2.2.2.2.2.1))
 (cond (inB (Int.toNat fB.2.2.1) fB.2.2.2.2.2.1)
 ((OJ fB.2.2.2.2.2.2.2.2.1 ((List.getD fB.2.2.2.2.2.1 (Int.toNat fB.2.2.1) zS1).2.1)).bind λb2n =>
 cond (not b2n.1)
 (cond (bnd fB.2.2.1 (aD fB.2.2.2.2.2.1))
 (cond (inB (Int.toNat fB.2.2.1) fB.2.2.2.2.2.1)
 (cond (fits (List.length fB.2.2.2.2.2.2.2.2.2.2.1+List.length ([List.getD fB.2.2.2.2.2.1 (Int.toNat fB.2.2.1) zS1]:List DS1)) 144)
 (some (.inl (fB.1,fB.2.1,aN .i64 fB.2.2.1 1,fB.2.2.2.1,fB.2.2.2.2.1,fB.2.2.2.2.2.1,fB.2.2.2.2.2.2.1,fB.2.2.2.2.2.2.2.1,fB.2.2.2.2.2.2.2.2.1,fB.2.2.2.2.2.2.2.2.2.1,fB.2.2.2.2.2.2.2.2.2.2.1++([List.getD fB.2.2.2.2.2.1 (Int.toNat fB.2.2.1) zS1]:List DS1),()))) none) none) none)
 (some (.inl (fB.1,fB.2.1,aN .i64 fB.2.2.1 1,fB.2.2.2.1,fB.2.2.2.2.1,fB.2.2.2.2.2.1,fB.2.2.2.2.2.2.1,fB.2.2.2.2.2.2.2.1,fB.2.2.2.2.2.2.2.2.1,fB.2.2.2.2.2.2.2.2.2.1,fB.2.2.2.2.2.2.2.2.2.2.1,())))) none) none)
 (Option.map Sum.inr (bH (S:=Int×Int×Int×(List DS1)×(List DS3)×Int×Int×(List ByteArray)×(List DS1)×(List DS1)×Unit) (R:=(Int×Int×(List DS1)×(List DS3)×(List DS1)×Unit)⊕((List DS1)×Int×Unit)) (λjJ =>
 cond (iLt jJ.2.2.1 (aD jJ.2.2.2.2.2.2.2.2.1))
 (cond (bnd jJ.2.2.1 (aD jJ.2.2.2.2.2.2.2.2.1))
 ((m9 jJ.2.2.2.2.2.2.2.2.2.1 ((atI jJ.2.2.2.2.2.2.2.2.1 jJ.2.2.1 zS1).2.1)).bind λb2m =>
 cond b2m.2.1
 (some (.inr (.inr (([]:List DS1),8,()))))
 (cond (bnd jJ.2.2.1 (aD jJ.2.2.2.2.2.2.2.2.1))
 (cond (fits (List.length jJ.2.2.2.2.2.2.2.2.2.1+List.length ([atI jJ.2.2.2.2.2.2.2.2.1 jJ.2.2.1 zS1]:List DS1)) 144)
 (some (.inl (jJ.1,jJ.2.1,aN .i64 jJ.2.2.1 1,jJ.2.2.2.1,jJ.2.2.2.2.1,jJ.2.2.2.2.2.1,jJ.2.2.2.2.2.2.1,jJ.2.2.2.2.2.2.2.1,jJ.2.2.2.2.2.2.2.2.1,jJ.2.2.2.2.2.2.2.2.2.1++([atI jJ.2.2.2.2.2.2.2.2.1 jJ.2.2.1 zS1]:List DS1),()))) none) none)) none)
 (Option.map Sum.inr (cond (iLt 100 (aD jJ.2.2.2.2.2.2.2.2.2.1))
 (some (.inr (([]:List DS1),4,())))
 (some (.inl (jJ.1,aN .i64 jJ.2.1 1,jJ.2.2.2.1,jJ.2.2.2.2.1,jJ.2.2.2.2.2.2.2.2.2.1,()))))))
 (fB.1,fB.2.1,0,fB.2.2.2.1,fB.2.2.2.2.1,fB.2.2.2.2.2.2.1,fB.2.2.2.2.2.2.2.1,fB.2.2.2.2.2.2.2.2.1,fB.2.2.2.2.2.2.2.2.2.1,fB.2.2.2.2.2.2.2.2.2.2.1,()))))
 (kR.1,kR.2.1,0,kR.2.2.2.1,kR.2.2.2.2.1,kR.2.2.2.2.2.1,kR.2.2.2.2.2.2.1,kR.2.2.2.2.2.2.2.1,kR.2.2.2.2.2.2.2.2.1,kR.2.2.2.2.2.2.2.2.2.1,([]:List DS1),()))))
 (jR.1,jR.2.1,0,jR.2.2.1,jR.2.2.2.1,jR.2.2.2.2.1,((atI jR.2.2.2.1 jR.2.1 zS3).1).1,((atI jR.2.2.2.1 jR.2.1 zS3).1).2.1,(atI jR.2.2.2.1 jR.2.1 zS3).2.1,(atI jR.2.2.2.1 jR.2.1 zS3).2.2.1,()))) none)
 (some (.inr (jR.2.2.2.2.1,0,()))))
 (lG.1,0,lG.2.2.1,lG.2.2.2.1,lG.2.2.2.2.1,()))))
 (a1,0,a0.1,a0.2.1,([]:List DS1),())))
def i92:PI:=⟨92,[tS4,(.int .i64)],[(.list tS1),(.int .i64)],fun(x:DS4×Int×Unit)=>m92 x.1 x.2.1⟩
theorem b3e:PK i92:=pk (.d 4 (.s (.d 1 (.b (.l [.gh 6 37 tS1] ⟨143,[(1,(.int .i64)),(7,(.int .i64))],[(2,.ptr 0 0 0),(6,.row 1)],[.box 29 [.d (.list tS1),.d (.list tS3)],.row 37 tS1 false]⟩ .o))) (.s (.d 1 (.b (.l [.gh 6 37 tS1] ⟨143,[(1,(.int .i64)),(10,(.int .i64))],[(2,.ptr 0 0 0),(6,.row 1)],[.box 29 [.d (.list tS1),.d (.list tS3)],.row 37 tS1 false]⟩ (.d 1 (.s (.b (.d 2 (.s (.d 1 (.b (.l [.gh 6 37 tS1] ⟨143,[(1,(.int .i64)),(10,(.int .i64)),(12,(.int .i64))],[(2,.ptr 0 0 0),(6,.row 1),(11,.ptr 2 0 0)],[.box 29 [.d (.list tS1),.d (.list tS3)],.row 37 tS1 false,.box 55 [.d (.int .i64),.d (.int .i64),.d (.list .str),.d (.list tS1)]]⟩ .o))) (.d 1 (.s (.d 1 (.b (.l [.gh 6 37 tS1,.gh 15 37 tS1] ⟨143,[(1,(.int .i64)),(10,(.int .i64)),(16,(.int .i64))],[(2,.ptr 0 0 0),(6,.row 1),(11,.ptr 2 0 0),(15,.row 3)],[.box 29 [.d (.list tS1),.d (.list tS3)],.row 37 tS1 false,.box 55 [.d (.int .i64),.d (.int .i64),.d (.list .str),.d (.list tS1)],.row 37 tS1 false]⟩ .o))) (.s (.d 1 (.b (.l [.gh 15 37 tS1] ⟨143,[(1,(.int .i64)),(10,(.int .i64)),(17,(.int .i64))],[(2,.ptr 0 0 0),(11,.ptr 1 0 0),(15,.row 2)],[.box 29 [.d (.list tS1),.d (.list tS3)],.box 55 [.d (.int .i64),.d (.int .i64),.d (.list .str),.d (.list tS1)],.row 37 tS1 false]⟩ .o))) .o)))))) .o))))) .o))) Tryz.func92 (cP Xw (cP a9T (cP Xv (cP Mg (cP a9r c0))))) (by kernel_rfl) λx=>by kernel_rfl
def m50(a0:DS6)(a1:DS4):Option (Int×Int×Int×Unit) :=
 (m16 (a1.1,a1.2.1,())).bind λb2l =>
 cond (not b2l.1)
 (some (0,0,5,()))
 ((m91 (a1.1,a1.2.1,())).bind λb2k =>
 bH (S:=(List Int)×Int×(List DS5)×(List DS1)×(List DS3)×Unit) (R:=Int×Int×Int×Unit) (λlY =>
 cond (iLt lY.2.1 (aD lY.1))
 (cond (bnd lY.2.1 (aD lY.1))
 ((m92 (lY.2.2.2.1,lY.2.2.2.2.1,()) (atI lY.1 lY.2.1 0)).bind λSX =>
 cond (iNe SX.2.1 0)
 (cond (bnd lY.2.1 (aD lY.1))
 (some (.inr (atI lY.1 lY.2.1 0,0,SX.2.1,()))) none)
 ((m89 (lY.2.2.1,()) SX.1).bind λSV =>
 cond (iNe SV.2.1 0)
 (cond (bnd lY.2.1 (aD lY.1))
 (some (.inr (atI lY.1 lY.2.1 0,SV.1,SV.2.1,()))) none)
 (some (.inl (lY.1,aN .i64 lY.2.1 1,lY.2.2.1,lY.2.2.2.1,lY.2.2.2.2.1,()))))) none)
 (some (.inr (0,0,0,()))))
 (b2k.1,0,a0.1,a1.1,a1.2.1,()))
def i50:PI:=⟨50,[tS6,tS4],[(.int .i64),(.int .i64),(.int .i64)],fun(x:DS6×DS4×Unit)=>m50 x.1 x.2.1⟩
theorem b3o:PK i50:=pk (.d 3 (.s (.d 1 (.b (.l [] ⟨54,[(7,(.list (.int .i64))),(8,(.int .i64))],[(2,.ptr 0 0 0),(3,.ptr 1 0 0)],[.box 59 [.d (.list tS5)],.box 29 [.d (.list tS1),.d (.list tS3)]]⟩ .o))) .o)) Tryz.func50 (cP Mg (cP a3r (cP b3f (cP b3e c0)))) (by kernel_rfl) λx=>by kernel_rfl
end
end Abs
end Go.Proofs.YtnhgeocdffhkjaaGreatDoor
