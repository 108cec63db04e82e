/- Merged and trimmed by a program: Models. -/
import Derived.Test.YtnhgeocdffhkjaaGreatDoorZVF
import Derived.Test.YtnhgeocdffhkjaaGreatDoorProg
import Derived.KernelRfl
set_option linter.unusedVariables false
set_option linter.unusedSimpArgs false
set_option linter.defProp false
namespace Go.Proofs.YtnhgeocdffhkjaaGreatDoor
namespace Abs
noncomputable section
set_option maxRecDepth 100000
theorem mixed:Tryz.prog.follows .mixedOrders=true:=by kernel_rfl
abbrev tS0:Ty:=.tup [(.int .i64),.str,(.list .str),(.int .i64),(.int .i64),(.rl 34 6)]
abbrev DS0:Type:=Int×ByteArray×(List ByteArray)×Int×Int×(List AV)×Unit
def pF(x:List DS0):List AV:=zH tS0 x
def aL(x:AV):DS0:=Er tS0 x
def jK(x:AV):Bool:=okD tS0 x
abbrev tS1:Ty:=.tup [(.int .i64),.str,tS0,(.rl 63 8),(.int .i64)]
abbrev DS1:Type:=Int×ByteArray×DS0×(List AV)×Int×Unit
def zS1:DS1:=(0,ByteArray.empty,(0,ByteArray.empty,[],0,0,[],()),[],0,())
abbrev tS2:Ty:=.tup [(.int .i64),(.int .i64)]
abbrev DS2:Type:=Int×Int×Unit
abbrev tS3:Ty:=.tup [tS2,(.list .str),(.list tS1)]
abbrev DS3:Type:=DS2×(List ByteArray)×(List DS1)×Unit
def zS3:DS3:=((0,0,()),[],[],())
abbrev tS4:Ty:=.tup [(.list tS1),(.list tS3)]
abbrev DS4:Type:=(List DS1)×(List DS3)×Unit
abbrev tS5:Ty:=.tup [.str,(.int .i64),(.list .str),(.int .i64),(.int .i64)]
abbrev DS5:Type:=ByteArray×Int×(List ByteArray)×Int×Int×Unit
def zS5:DS5:=(ByteArray.empty,0,[],0,0,())
abbrev tS6:Ty:=.tup [(.list tS5)]
abbrev DS6:Type:=(List DS5)×Unit
abbrev tS7:Ty:=.tup [.str,tS0,(.rl 63 8)]
abbrev DS7:Type:=ByteArray×DS0×(List AV)×Unit
def zG(x:List DS7):List AV:=zH tS7 x
def ay(x:AV):DS7:=Er tS7 x
def eu(x:AV):Bool:=okD tS7 x
def qZ(x:List AV):List DS7:=D6 tS7 x
def Wm(x:List AV):Bool:=Uj tS7 x
abbrev tS8:Ty:=.tup [.str,.bool,(.int .i64),(.int .i64),(.int .i64)]
abbrev DS8:Type:=ByteArray×Bool×Int×Int×Int×Unit
abbrev tS9:Ty:=.tup [tS8,tS8,tS8,tS8,tS8,tS8,tS8,tS8,tS8]
abbrev DS9:Type:=DS8×DS8×DS8×DS8×DS8×DS8×DS8×DS8×DS8×Unit
abbrev a7C:Ty:=.tup [(.int .i64),(.int .i64),(.int .i64),(.int .i64),(.int .i64),(.int .i64),(.int .i64),(.int .i64),(.int .i64),(.int .i64),(.int .i64),(.int .i64)]
abbrev a9c:Type:=Int×Int×Int×Int×Int×Int×Int×Int×Int×Int×Int×Int×Unit
instance (n:Nat):OfNat Opd n:=⟨.t n⟩
def LW:Nat->Option Ty:=λn=>if Nat.beq n 3=true then some (.int .i64) else if Nat.beq n 4=true then some .bool else if Nat.beq n 5=true then some (.int .u8) else if Nat.beq n 9=true then some .str else if Nat.beq n 34=true then some tS0 else if Nat.beq n 37=true then some tS1 else if Nat.beq n 55=true then some tS3 else if Nat.beq n 63=true then some tS7 else if Nat.beq n 106=true then some tS5 else none
def p9:GXT:=λn=>if Nat.beq n 0=true then some ⟨tS9,(show DS9 from(((bs []),false,0,0,0,()),((bs [116,114,117,101]),false,0,0,0,()),((bs [102,97,108,115,101]),false,0,0,0,()),((bs []),true,0,0,0,()),((bs [105,110]),true,0,0,0,()),((bs [102,114,111,109]),true,0,0,0,()),((bs [110,111,116]),false,1,1,3,()),((bs [97,110,100]),false,2,300,2,()),((bs [111,114]),false,2,300,1,()),()))⟩ else if Nat.beq n 1=true then some ⟨a7C,(show a9c from(31,28,31,30,31,30,31,31,30,31,30,31,()))⟩ else none
def hcl:List Nat:=[13,14,22,24,37,38,39,40,41,42,47,48,49,66,67,69,70,71,81,82,83,84,85,87,88,90,94,108,123,124,125,126,127,128,129,130,131,132,133,145,160,161,162,163,164,191,200,201,202,203,204,205,206,215,216,217,218,219,225,234,235,236,237,238,241]
def xoF(f:Func)(a:AT):XC:=xo Tryz.prog hcl f a
def rvF(f:Func):List RV:=(jR Tryz.prog f.results.toList).getD []
def okF(i:Nat)(f:Func):Bool:=(f.body.bind (cC Tryz.prog hcl)).isSome&&(jR Tryz.prog f.results.toList).isSome&&callable Tryz.prog i
theorem fnY {i:Nat} {f:Func} {a:AT} (h1:Tryz.prog.funcs[i]?=some f) (h:okF i f=true):Fn Tryz.prog i f.ntmps (xoF f a).er (rvF f):=by
  unfold okF at h
  simp only[Bool.and_eq_true]at h
  obtain⟨⟨h2,h3⟩,h4⟩:=h
  refine⟨f,hcl,h1,a2I h2,?_,rfl,h4⟩
  unfold rvF
  cases q:jR Tryz.prog f.results.toList with
  |none=>rw[q]at h3;cases h3
  |some r=>rfl
abbrev PK(p:PI):Prop:=POk Tryz.prog (gx p9) p
abbrev HK(p:HI):Prop:=HOk Tryz.prog (gx p9) p
abbrev CK(pis:List PI)(his:List HI):Prop:=jH Tryz.prog ⟨LW,p9,pis,his⟩
theorem c0:CK [] []:=YQ _ _
theorem cP{p:PI}{pis:List PI}{his:List HI}(h:PK p)(hc:CK pis his):CK (p::pis) his:=a4O h hc
theorem cH{p:HI}{pis:List PI}{his:List HI}(h:HK p)(hc:CK pis his):CK pis (p::his):=a4P h hc
section
variable{i:Nat}{ps rs:List Ty}{f:Func}{pis:List PI}{his:List HI}{ish osh:Sh}{kp:List Nat}
theorem pk{run:Ty.aD ps->Option (Ty.aD rs)}(a:AT)(hf:Tryz.prog.funcs[i]?=some f)(hc:CK pis his)(h:okF i f=true)(he:∀x,Zt ⟨LW,p9,pis,his⟩ (xoF f a) f.ntmps (rvF f) ps rs x=run x):PK ⟨i,ps,rs,run⟩:=pok mixed hc (fnY hf h) he
theorem hk{run:Ty.aD ish.tys->Option (Ty.aD osh.tys)}(a:AT)(pre:List Pre)(hf:Tryz.prog.funcs[i]?=some f)(hc:CK pis his)(h:okF i f=true)(he:∀x,VD ⟨LW,p9,pis,his⟩ (xoF f a) f.ntmps (rvF f) pre ish osh x=run x):HK ⟨i,ish,osh,run,kp⟩:=hok mixed hc (fnY hf h) he
theorem hkz{run:Ty.aD ish.tys->Option (Ty.aD osh.tys)}(a:AT)(pre:List Pre)(T:Ty)(hf:Tryz.prog.funcs[i]?=some f)(hc:CK pis his)(h:okF i f=true)(he:∀x,OH ⟨LW,p9,pis,his⟩ (xoF f a) f.ntmps (rvF f) pre T ish osh x=run x):HK ⟨i,ish,osh,run,kp⟩:=a8L mixed hc (fnY hf h) he
theorem iA {i:Nat} {f:Func} (h:okF i f=true):callable Tryz.prog i=true:=by
  unfold okF at h
  simp only[Bool.and_eq_true]at h
  exact h.2
end
def m12(a0:DS4):Option (Bool×Unit) :=
 some (cond (iLe (aj a0.1) 60) (iLe (aj a0.2.1) 20) false,())
def i12:PI:=⟨12,[tS4],[.bool],fun(x:DS4×Unit)=>m12 x.1⟩
theorem a3L:PK i12:=pk .o Tryz.func12 c0 (by kernel_rfl) λx=>by kernel_rfl
theorem a7J:PK i7:=a2y (by kernel_rfl) (by kernel_rfl)
def m14(a0:List Int):Option ((List Int)×Int×Unit) :=
 some (a0,0,())
def a4t:Sh:=⟨1,[(0,(.list (.int .i64)))],[],[]⟩
def a3g:Sh:=⟨1,[],[(0,.ptr 0 0 0)],[.box 65 [.d (.list (.int .i64)),.d (.int .i64)]]⟩
def h14:HI:=⟨14,a4t,a3g,fun(x:(List Int)×Unit)=>m14 x.1,[]⟩
theorem Wj:HK h14:=hk .o [] Tryz.func14 c0 (by kernel_rfl) λx=>by kernel_rfl
def m24(a0:Int)(a1:List Int)(a2:Int):Option (Int×(List Int)×Int×Unit) :=
 cond (iLe (aj a1) a2)
 (some (0,a1,a2,()))
 (cond (bnd (bf .i64 (aB .i64 a2 1) 1) (aj a1))
 (cond (iNe a0 0)
 (cond (iNe a0 0)
 (some (eY (aB .i64 (eY (atI a1 (bf .i64 (aB .i64 a2 1) 1) 0) a0) a0) a0,a1,aB .i64 a2 1,())) none) none) none)
def a4r:Sh:=⟨2,[(1,(.int .i64))],[(0,.ptr 0 0 0)],[.box 65 [.d (.list (.int .i64)),.d (.int .i64)]]⟩
def a3e:Sh:=⟨1,[(0,(.int .i64))],[],[.box 65 [.d (.list (.int .i64)),.d (.int .i64)]]⟩
def h24:HI:=⟨24,a4r,a3e,fun(x:Int×(List Int)×Int×Unit)=>m24 x.1 x.2.1 x.2.2.1,[]⟩
theorem ni:HK h24:=hk .o [] Tryz.func24 c0 (by kernel_rfl) λx=>by kernel_rfl
def m11(a0:Int)(a1:Int):Option (Int×Unit) :=
 cond (iNe a1 0)
 (cond (iNe a1 0)
 (some (eY (aB .i64 (eY a0 a1) a1) a1,())) none) none
def i11:PI:=⟨11,[(.int .i64),(.int .i64)],[(.int .i64)],fun(x:Int×Int×Unit)=>m11 x.1 x.2.1⟩
theorem a3M:PK i11:=pk .o Tryz.func11 c0 (by kernel_rfl) λx=>by kernel_rfl
def m51:Option (DS5×Unit) :=
 some (((bs [112,101,114,105,108]),1,([(bs [102,105,114,101]),(bs [102,108,111,111,100]),(bs [119,105,110,100]),(bs [116,104,101,102,116])]:List ByteArray),0,0,()),())
def i51:PI:=⟨51,[],[tS5],fun(x:Unit)=>m51⟩
theorem a3z:PK i51:=pk .o Tryz.func51 c0 (by kernel_rfl) λx=>by kernel_rfl
def m23(a0:Int):Option (DS6×Unit) :=
 (m11 a0 6).bind λy5 =>
 cond (iEq y5.1 0)
 ((m51).bind λy6 =>
 some ((([y6.1,((bs [115,116,111,114,101,121,115]),2,([]:List ByteArray),1,9,()),((bs [97,108,97,114,109]),3,([]:List ByteArray),0,0,())]:List DS5),()),()))
 (cond (iEq y5.1 1)
 (some ((([((bs [110]),2,([]:List ByteArray),(-5),20,())]:List DS5),()),()))
 (cond (iEq y5.1 2)
 (some ((([((bs [97]),3,([]:List ByteArray),0,0,()),((bs [114,111,108,101]),1,([(bs [99,114,101,119]),(bs [103,117,101,115,116])]:List ByteArray),0,0,()),((bs [98]),3,([]:List ByteArray),0,0,())]:List DS5),()),()))
 (cond (iEq y5.1 3)
 (some ((([((bs [110]),2,([]:List ByteArray),(-1000000000),1000000000,()),((bs [116]),3,([]:List ByteArray),0,0,())]:List DS5),()),()))
 (cond (iEq y5.1 4)
 ((m51).bind λy7 =>
 some ((([((bs [111,110,101]),1,([(bs [111,110,108,121])]:List ByteArray),0,0,()),y7.1,((bs [110]),2,([]:List ByteArray),0,6,()),((bs [116]),3,([]:List ByteArray),0,0,())]:List DS5),()),()))
 (some ((([((bs [116]),3,([]:List ByteArray),0,0,())]:List DS5),()),()))))))
def i23:PI:=⟨23,[(.int .i64)],[tS6],fun(x:Int×Unit)=>m23 x.1⟩
theorem a3H:PK i23:=pk .o Tryz.func23 (cP a3M (cP a3z c0)) (by kernel_rfl) λx=>by kernel_rfl
def m86(a0:ByteArray)(a1:Int):Option (ByteArray×Unit) :=
 cond (iNe 26 0)
 (cond (iNe 26 0)
 (cond (iNe 26 0)
 (cond (zf a0 (bsI ([IntKind.wrap .u8 (aB .i64 97 (eY (UG .i64 a1 26) 26)),IntKind.wrap .u8 (aB .i64 97 (eY a1 26))]:List Int)))
 (some (wo a0 (bsI ([IntKind.wrap .u8 (aB .i64 97 (eY (UG .i64 a1 26) 26)),IntKind.wrap .u8 (aB .i64 97 (eY a1 26))]:List Int)),())) none) none) none) none
def i86:PI:=⟨86,[.str,(.int .i64)],[.str],fun(x:ByteArray×Int×Unit)=>m86 x.1 x.2.1⟩
theorem a3q:PK i86:=pk .o Tryz.func86 c0 (by kernel_rfl) λx=>by kernel_rfl
def m88(a0:Int)(a1:Int)(a2:List Int)(a3:Int):Option (Int×(List Int)×Int×Unit) :=
 (m24 (aB .i64 (bf .i64 a1 a0) 1) a2 a3).bind λy15 =>
 some (aB .i64 a0 y15.1,y15.2.1,y15.2.2.1,())
def a4m:Sh:=⟨3,[(1,(.int .i64)),(2,(.int .i64))],[(0,.ptr 0 0 0)],[.box 65 [.d (.list (.int .i64)),.d (.int .i64)]]⟩
def a2Z:Sh:=⟨1,[(0,(.int .i64))],[],[.box 65 [.d (.list (.int .i64)),.d (.int .i64)]]⟩
def h88:HI:=⟨88,a4m,a2Z,fun(x:Int×Int×(List Int)×Int×Unit)=>m88 x.1 x.2.1 x.2.2.1 x.2.2.2.1,[]⟩
theorem Ci:HK h88:=hk .o [] Tryz.func88 (cH ni c0) (by kernel_rfl) λx=>by kernel_rfl
def Nj(a0:DS6)(a1:List Int)(a2:Int):Option (DS0×(List Int)×Int×Unit) :=
 (m24 (aj a0.1) a1 a2).bind λy25 =>
 cond (bnd y25.1 (aj a0.1))
 (cond (iEq ((atI a0.1 y25.1 zS5).2.1) 3)
 (some ((3,(atI a0.1 y25.1 zS5).1,([]:List ByteArray),0,0,([]:List AV),()),y25.2.1,y25.2.2.1,()))
 (cond (iEq ((atI a0.1 y25.1 zS5).2.1) 1)
 ((m24 (aj ((atI a0.1 y25.1 zS5).2.2.1)) y25.2.1 y25.2.2.1).bind λy26 =>
 (m88 1 (aj ((atI a0.1 y25.1 zS5).2.2.1)) y26.2.1 y26.2.2.1).bind λy27 =>
 aJ (S:=Int×Int×(List Int)×Int×Int×ByteArray×Int×Int×ByteArray×Int×(List ByteArray)×Int×Int×Int×ByteArray×Int×Int×(List ByteArray)×Unit) (R:=DS0×(List Int)×Int×Unit) (λs28 =>
 cond (iLt 0 s28.2.1)
 (cond (iNe (aj s28.2.2.2.2.2.2.2.2.2.2.1) 0)
 (cond (bnd (eY s28.1 (aj s28.2.2.2.2.2.2.2.2.2.2.1)) (aj s28.2.2.2.2.2.2.2.2.2.2.1))
 (cond (fits (List.length s28.2.2.2.2.2.2.2.2.2.2.2.2.2.2.2.2.2.1+List.length ([atI s28.2.2.2.2.2.2.2.2.2.2.1 (eY s28.1 (aj s28.2.2.2.2.2.2.2.2.2.2.1)) ByteArray.empty]:List ByteArray)) 16)
 (some (.inl (aB .i64 s28.1 1,bf .i64 s28.2.1 1,s28.2.2.1,s28.2.2.2.1,s28.2.2.2.2.1,s28.2.2.2.2.2.1,s28.2.2.2.2.2.2.1,s28.2.2.2.2.2.2.2.1,s28.2.2.2.2.2.2.2.2.1,s28.2.2.2.2.2.2.2.2.2.1,s28.2.2.2.2.2.2.2.2.2.2.1,s28.2.2.2.2.2.2.2.2.2.2.2.1,s28.2.2.2.2.2.2.2.2.2.2.2.2.1,s28.2.2.2.2.2.2.2.2.2.2.2.2.2.1,s28.2.2.2.2.2.2.2.2.2.2.2.2.2.2.1,s28.2.2.2.2.2.2.2.2.2.2.2.2.2.2.2.1,s28.2.2.2.2.2.2.2.2.2.2.2.2.2.2.2.2.1,s28.2.2.2.2.2.2.2.2.2.2.2.2.2.2.2.2.2.1++([atI s28.2.2.2.2.2.2.2.2.2.2.1 (eY s28.1 (aj s28.2.2.2.2.2.2.2.2.2.2.1)) ByteArray.empty]:List ByteArray),()))) none) none) none)
 (some (.inr ((s28.2.2.2.2.2.2.2.2.2.2.2.2.2.1,s28.2.2.2.2.2.2.2.2.2.2.2.2.2.2.1,s28.2.2.2.2.2.2.2.2.2.2.2.2.2.2.2.2.2.1,s28.2.2.2.2.2.2.2.2.2.2.2.2.2.2.2.1,s28.2.2.2.2.2.2.2.2.2.2.2.2.2.2.2.2.1,([]:List AV),()),s28.2.2.1,s28.2.2.2.1,()))))
 (y26.1,y27.1,y27.2.1,y27.2.2.1,0,(bs []),0,0,(atI a0.1 y25.1 zS5).1,(atI a0.1 y25.1 zS5).2.1,(atI a0.1 y25.1 zS5).2.2.1,(atI a0.1 y25.1 zS5).2.2.2.1,(atI a0.1 y25.1 zS5).2.2.2.2.1,4,(atI a0.1 y25.1 zS5).1,0,0,([]:List ByteArray),()))
 ((m24 (aB .i64 (bf .i64 ((atI a0.1 y25.1 zS5).2.2.2.2.1) ((atI a0.1 y25.1 zS5).2.2.2.1)) 1) y25.2.1 y25.2.2.1).bind λy29 =>
 jW (S:=Int×(List Int)×Int×Int×ByteArray×Int×Int×ByteArray×Int×(List ByteArray)×Int×Int×Unit) (R:=DS0×(List Int)×Int×Unit)
 ((m24 2 y29.2.1 y29.2.2.1).bind λy30 =>
 cond (iEq y30.1 0)
 ((m24 12 y30.2.1 y30.2.2.1).bind λy31 =>
 some (.inl (dG (uV (bf .i64 y31.1 4) ((atI a0.1 y25.1 zS5).2.2.2.1)) ((atI a0.1 y25.1 zS5).2.2.2.2.1),y31.2.1,y31.2.2.1,0,(bs []),0,0,(atI a0.1 y25.1 zS5).1,(atI a0.1 y25.1 zS5).2.1,(atI a0.1 y25.1 zS5).2.2.1,(atI a0.1 y25.1 zS5).2.2.2.1,(atI a0.1 y25.1 zS5).2.2.2.2.1,())))
 (some (.inl (aB .i64 ((atI a0.1 y25.1 zS5).2.2.2.1) y29.1,y30.2.1,y30.2.2.1,0,(bs []),0,0,(atI a0.1 y25.1 zS5).1,(atI a0.1 y25.1 zS5).2.1,(atI a0.1 y25.1 zS5).2.2.1,(atI a0.1 y25.1 zS5).2.2.2.1,(atI a0.1 y25.1 zS5).2.2.2.2.1,()))))
 (λj32 =>
 (m24 (aB .i64 (bf .i64 j32.2.2.2.2.2.2.2.2.2.2.2.1 j32.1) 1) j32.2.1 j32.2.2.1).bind λy33 =>
 (m24 2 y33.2.1 y33.2.2.1).bind λy34 =>
 cond (iEq y34.1 0)
 ((m24 4 y34.2.1 y34.2.2.1).bind λy35 =>
 some ((5,j32.2.2.2.2.2.2.2.1,([]:List ByteArray),j32.1,dG (aB .i64 j32.1 y35.1) j32.2.2.2.2.2.2.2.2.2.2.2.1,([]:List AV),()),y35.2.1,y35.2.2.1,()))
 (some ((5,j32.2.2.2.2.2.2.2.1,([]:List ByteArray),j32.1,aB .i64 j32.1 y33.1,([]:List AV),()),y34.2.1,y34.2.2.1,())))))) none
def a1M:Sh:=⟨3,[(1,tS6)],[(0,.ptr 0 0 0),(2,.nil)],[.box 65 [.d (.list (.int .i64)),.d (.int .i64)]]⟩
def a0q:Sh:=⟨1,[(0,tS0)],[],[.box 65 [.d (.list (.int .i64)),.d (.int .i64)]]⟩
def a8U:HI:=⟨164,a1M,a0q,fun(x:DS6×(List Int)×Int×Unit)=>Nj x.1 x.2.1 x.2.2.1,[]⟩
theorem a0Y:HK a8U:=hkz (.d 2 (.s (.u [0]) (.s (.d 1 (.b (.d 1 (.c .o (.d 1 (.c (.d 2 (.s (.d 1 (.b (.l [.ghc 8 2 9 .str] ⟨128,[(9,(.int .i64)),(10,(.int .i64))],[(6,.ptr 1 0 0),(7,.ptr 2 0 0),(8,.ptr 3 0 0)],[.box 65 [.d (.list (.int .i64)),.d (.int .i64)],.box 34 [.d (.int .i64),.d .str,.nil,.d (.int .i64),.d (.int .i64),.nil],.box 106 [.d .str,.d (.int .i64),.d (.list .str),.d (.int .i64),.d (.int .i64)],.box 34 [.d (.int .i64),.d .str,.row 4,.d (.int .i64),.d (.int .i64),.nil],.row 9 .str false]⟩ .o))) .o)) .o)))))) (.s (.u [0]) (.j [] ⟨128,[(11,(.int .i64))],[(0,.ptr 0 0 0),(6,.ptr 1 0 0),(7,.ptr 2 0 0)],[.box 65 [.d (.list (.int .i64)),.d (.int .i64)],.box 34 [.d (.int .i64),.d .str,.nil,.d (.int .i64),.d (.int .i64),.nil],.box 106 [.d .str,.d (.int .i64),.d (.list .str),.d (.int .i64),.d (.int .i64)]]⟩ (.d 1 (.c (.u [0]) .o)) (.d 1 (.s (.d 1 (.c (.u [0]) .o)) .o))))))) [] tS0 Tryz.func164 (cH ni (cH Ci c0)) (by kernel_rfl) λx=>by kernel_rfl
def Gs(self:(DS6×Int×(List Int)×Int×Unit)->Option (DS0×(List Int)×Int×Unit))(a0:DS6)(a1:Int)(a2:List Int)(a3:Int):Option (DS0×(List Int)×Int×Unit) :=
 (m24 8 a2 a3).bind λy41 =>
 cond (cond (iLt a1 2) true (iLt y41.1 4))
 ((m24 12 y41.2.1 y41.2.2.1).bind λy42 =>
 cond (iEq y42.1 10)
 (some ((1,(bs []),([]:List ByteArray),0,0,([]:List AV),()),y42.2.1,y42.2.2.1,()))
 (cond (iEq y42.1 11)
 (some ((2,(bs []),([]:List ByteArray),0,0,([]:List AV),()),y42.2.1,y42.2.2.1,()))
 ((Nj (a0.1,()) y42.2.1 y42.2.2.1).bind λy43 =>
 some ((y43.1.1,y43.1.2.1,y43.1.2.2.1,y43.1.2.2.2.1,y43.1.2.2.2.2.1,y43.1.2.2.2.2.2.1,()),y43.2.1,y43.2.2.1,()))))
 (cond (iLt y41.1 6)
 ((self ((a0.1,()),bf .i64 a1 1,y41.2.1,y41.2.2.1,())).bind λy44 =>
 some ((6,(bs []),([]:List ByteArray),0,0,pF ([y44.1]:List DS0),()),y44.2.1,y44.2.2.1,()))
 ((m88 2 3 y41.2.1 y41.2.2.1).bind λy45 =>
 aJ (S:=Int×Int×(List Int)×Int×(List DS5)×Int×ByteArray×Int×Int×Int×ByteArray×Int×Int×(List DS0)×Unit) (R:=DS0×(List Int)×Int×Unit) (λs46 =>
 cond (iLt 0 s46.2.1)
 ((self ((s46.2.2.2.2.1,()),bf .i64 s46.1 1,s46.2.2.1,s46.2.2.2.1,())).bind λy47 =>
 cond (fits (List.length s46.2.2.2.2.2.2.2.2.2.2.2.2.2.1+List.length ([y47.1]:List DS0)) 88)
 (some (.inl (s46.1,bf .i64 s46.2.1 1,y47.2.1,y47.2.2.1,s46.2.2.2.2.1,s46.2.2.2.2.2.1,s46.2.2.2.2.2.2.1,s46.2.2.2.2.2.2.2.1,s46.2.2.2.2.2.2.2.2.1,s46.2.2.2.2.2.2.2.2.2.1,s46.2.2.2.2.2.2.2.2.2.2.1,s46.2.2.2.2.2.2.2.2.2.2.2.1,s46.2.2.2.2.2.2.2.2.2.2.2.2.1,s46.2.2.2.2.2.2.2.2.2.2.2.2.2.1++([y47.1]:List DS0),()))) none)
 (some (.inr ((s46.2.2.2.2.2.2.2.2.2.1,s46.2.2.2.2.2.2.2.2.2.2.1,([]:List ByteArray),s46.2.2.2.2.2.2.2.2.2.2.2.1,s46.2.2.2.2.2.2.2.2.2.2.2.2.1,pF s46.2.2.2.2.2.2.2.2.2.2.2.2.2.1,()),s46.2.2.1,s46.2.2.2.1,()))))
 (a1,y45.1,y45.2.1,y45.2.2.1,a0.1,0,(bs []),0,0,aB .i64 y41.1 1,(bs []),0,0,([]:List DS0),())))
def J3(a0:DS6)(a1:Int)(a2:List Int)(a3:Int):Option (DS0×(List Int)×Int×Unit):=bg (λself (x:DS6×Int×(List Int)×Int×Unit)=>Gs self x.1 x.2.1 x.2.2.1 x.2.2.2.1) 10000 (a0,a1,a2,a3,())
def QE:Sh:=⟨4,[(1,tS6),(3,(.int .i64))],[(0,.ptr 0 0 0),(2,.nil)],[.box 65 [.d (.list (.int .i64)),.d (.int .i64)]]⟩
def Q5:Sh:=⟨1,[(0,tS0)],[],[.box 65 [.d (.list (.int .i64)),.d (.int .i64)]]⟩
def a8Y:HI:=⟨131,QE,Q5,fun(x:DS6×Int×(List Int)×Int×Unit)=>J3 x.1 x.2.1 x.2.2.1 x.2.2.2.1,[]⟩
theorem Qf:HK a8Y:=qF 10000 (ish:=QE) (osh:=Q5) (G:=λself (x:DS6×Int×(List Int)×Int×Unit)=>Gs self x.1 x.2.1 x.2.2.1 x.2.2.2.1) (iA (f:=Tryz.f131) (by kernel_rfl)) λself hr=>hkz (.d 4 (.s (.d 1 (.b (.l [.ghc 10 5 34 tS0] ⟨65,[(3,(.int .i64)),(11,(.int .i64))],[(0,.ptr 0 0 0),(2,.nil),(5,.ptr 1 0 0),(8,.ptr 2 0 0),(10,.ptr 3 0 0)],[.box 65 [.d (.list (.int .i64)),.d (.int .i64)],.box 59 [.d (.list tS5)],.box 34 [.d (.int .i64),.d .str,.nil,.d (.int .i64),.d (.int .i64),.nil],.box 34 [.d (.int .i64),.d .str,.nil,.d (.int .i64),.d (.int .i64),.row 4],.row 34 tS0 false]⟩ (.d 1 (.s (.b (.u [0])) .o))))) .o)) [] tS0 Tryz.func131 (cH hr (cH a0Y (cH ni (cH Ci c0)))) (by kernel_rfl) λx=>by kernel_rfl
def Gr(self:(DS6×Int×(List Int)×Int×Unit)->Option ((List AV)×(List Int)×Int×Unit))(a0:DS6)(a1:Int)(a2:List Int)(a3:Int):Option ((List AV)×(List Int)×Int×Unit) :=
 (m24 3 a2 a3).bind λy58 =>
 aJ (S:=Int×Int×(List Int)×Int×(List DS5)×(List DS7)×Unit) (R:=(List AV)×(List Int)×Int×Unit) (λs59 =>
 cond (cond (iLt 0 s59.2.1) (iLt 0 s59.1) false)
 ((m24 3 s59.2.2.1 s59.2.2.2.1).bind λy60 =>
 cond (bnd y60.1 (aj ([(bs [119]),(bs [120]),(bs [121])]:List ByteArray)))
 ((J3 (s59.2.2.2.2.1,()) 2 y60.2.1 y60.2.2.1).bind λy61 =>
 (self ((s59.2.2.2.2.1,()),bf .i64 s59.1 1,y61.2.1,y61.2.2.1,())).bind λy62 =>
 cond (fits (List.length s59.2.2.2.2.2.1+List.length ([(atI ([(bs [119]),(bs [120]),(bs [121])]:List ByteArray) y60.1 ByteArray.empty,(y61.1.1,y61.1.2.1,y61.1.2.2.1,y61.1.2.2.2.1,y61.1.2.2.2.2.1,y61.1.2.2.2.2.2.1,()),y62.1,())]:List DS7)) 128)
 (some (.inl (s59.1,bf .i64 s59.2.1 1,y62.2.1,y62.2.2.1,s59.2.2.2.2.1,s59.2.2.2.2.2.1++([(atI ([(bs [119]),(bs [120]),(bs [121])]:List ByteArray) y60.1 ByteArray.empty,(y61.1.1,y61.1.2.1,y61.1.2.2.1,y61.1.2.2.2.1,y61.1.2.2.2.2.1,y61.1.2.2.2.2.2.1,()),y62.1,())]:List DS7),()))) none) none)
 (some (.inr (zG s59.2.2.2.2.2.1,s59.2.2.1,s59.2.2.2.1,()))))
 (a1,y58.1,y58.2.1,y58.2.2.1,a0.1,([]:List DS7),())
def Nq(a0:DS6)(a1:Int)(a2:List Int)(a3:Int):Option ((List AV)×(List Int)×Int×Unit):=bg (λself (x:DS6×Int×(List Int)×Int×Unit)=>Gr self x.1 x.2.1 x.2.2.1 x.2.2.2.1) 10000 (a0,a1,a2,a3,())
def QD:Sh:=⟨4,[(1,tS6),(3,(.int .i64))],[(0,.ptr 0 0 0),(2,.nil)],[.box 65 [.d (.list (.int .i64)),.d (.int .i64)]]⟩
def PZ:Sh:=⟨1,[(0,(.rl 63 8))],[],[.box 65 [.d (.list (.int .i64)),.d (.int .i64)]]⟩
def a8X:HI:=⟨132,QD,PZ,fun(x:DS6×Int×(List Int)×Int×Unit)=>Nq x.1 x.2.1 x.2.2.1 x.2.2.2.1,[]⟩
theorem a00:HK a8X:=qF 10000 (ish:=QD) (osh:=PZ) (G:=λself (x:DS6×Int×(List Int)×Int×Unit)=>Gr self x.1 x.2.1 x.2.2.1 x.2.2.2.1) (iA (f:=Tryz.f132) (by kernel_rfl)) λself hr=>hkz (.d 2 (.s (.d 1 (.b (.l [.gh 9 63 tS7] ⟨41,[(3,(.int .i64)),(10,(.int .i64))],[(0,.ptr 0 0 0),(2,.nil),(5,.ptr 1 0 0),(9,.row 2)],[.box 65 [.d (.list (.int .i64)),.d (.int .i64)],.box 59 [.d (.list tS5)],.row 63 tS7 false]⟩ (.d 1 (.s (.b (.u [0])) .o))))) .o)) [] (.rl 63 8) Tryz.func132 (cH hr (cH Qf (cH ni c0))) (by kernel_rfl) λx=>by kernel_rfl
def rQ(a0:Int):Option (Int×Unit) :=
 cond (iEq a0 5)
 (some (1073741824,()))
 (cond (iEq a0 6)
 (some (1073741824,()))
 (cond (iEq a0 7)
 (some (1073741824,()))
 (cond (iEq a0 10)
 (some (1073741824,()))
 (cond (iEq a0 8)
 (some (1000000,()))
 (some (0,()))))))
def a8C:PI:=⟨101,[(.int .i64)],[(.int .i64)],fun(x:Int×Unit)=>rQ x.1⟩
theorem Iz:PK a8C:=pk .o Tryz.func101 c0 (by kernel_rfl) λx=>by kernel_rfl
def yj(a0:Int)(a1:List Int)(a2:Int):Option (Int×(List Int)×Int×Unit) :=
 (m24 6 a1 a2).bind λy71 =>
 cond (iEq y71.1 0)
 ((m24 4 y71.2.1 y71.2.2.1).bind λy72 =>
 some (dG y72.1 a0,y72.2.1,y72.2.2.1,()))
 (cond (iEq y71.1 1)
 ((m24 100 y71.2.1 y71.2.2.1).bind λy73 =>
 some (dG y73.1 a0,y73.2.1,y73.2.2.1,()))
 (cond (iEq y71.1 2)
 ((m24 1048576 y71.2.1 y71.2.2.1).bind λy74 =>
 some (dG y74.1 a0,y74.2.1,y74.2.2.1,()))
 (cond (iEq y71.1 3)
 ((m24 (dG 3 (aB .i64 a0 1)) y71.2.1 y71.2.2.1).bind λy75 =>
 some (bf .i64 a0 y75.1,y75.2.1,y75.2.2.1,()))
 ((m24 (aB .i64 a0 1) y71.2.1 y71.2.2.1).bind λy76 =>
 some (y76.1,y76.2.1,y76.2.2.1,())))))
def a1N:Sh:=⟨2,[(1,(.int .i64))],[(0,.ptr 0 0 0)],[.box 65 [.d (.list (.int .i64)),.d (.int .i64)]]⟩
def a0r:Sh:=⟨1,[(0,(.int .i64))],[],[.box 65 [.d (.list (.int .i64)),.d (.int .i64)]]⟩
def a8W:HI:=⟨133,a1N,a0r,fun(x:Int×(List Int)×Int×Unit)=>yj x.1 x.2.1 x.2.2.1,[]⟩
theorem Qe:HK a8W:=hk .o [] Tryz.func133 (cH ni c0) (by kernel_rfl) λx=>by kernel_rfl
def m85(a0:DS6)(a1:Int)(a2:ByteArray)(a3:List Int)(a4:Int):Option (DS1×(List Int)×Int×Unit) :=
 (J3 (a0.1,()) 3 a3 a4).bind λy80 =>
 cond (iEq a1 3)
 ((Nq (a0.1,()) 2 y80.2.1 y80.2.2.1).bind λy81 =>
 (rQ a1).bind λy82 =>
 cond (iLt 0 y82.1)
 ((yj (bf .i64 y82.1 1) y81.2.1 y81.2.2.1).bind λy83 =>
 some ((a1,a2,(y80.1.1,y80.1.2.1,y80.1.2.2.1,y80.1.2.2.2.1,y80.1.2.2.2.2.1,y80.1.2.2.2.2.2.1,()),y81.1,aB .i64 1 y83.1,()),y83.2.1,y83.2.2.1,()))
 (some ((a1,a2,(y80.1.1,y80.1.2.1,y80.1.2.2.1,y80.1.2.2.2.1,y80.1.2.2.2.2.1,y80.1.2.2.2.2.2.1,()),y81.1,0,()),y81.2.1,y81.2.2.1,())))
 ((rQ a1).bind λy84 =>
 cond (iLt 0 y84.1)
 ((yj (bf .i64 y84.1 1) y80.2.1 y80.2.2.1).bind λy85 =>
 some ((a1,a2,(y80.1.1,y80.1.2.1,y80.1.2.2.1,y80.1.2.2.2.1,y80.1.2.2.2.2.1,y80.1.2.2.2.2.2.1,()),([]:List AV),aB .i64 1 y85.1,()),y85.2.1,y85.2.2.1,()))
 (some ((a1,a2,(y80.1.1,y80.1.2.1,y80.1.2.2.1,y80.1.2.2.2.1,y80.1.2.2.2.2.1,y80.1.2.2.2.2.2.1,()),([]:List AV),0,()),y80.2.1,y80.2.2.1,())))
def a4o:Sh:=⟨5,[(1,tS6),(2,(.int .i64)),(3,.str)],[(0,.ptr 0 0 0),(4,.nil)],[.box 65 [.d (.list (.int .i64)),.d (.int .i64)]]⟩
def a3b:Sh:=⟨1,[(0,tS1)],[],[.box 65 [.d (.list (.int .i64)),.d (.int .i64)]]⟩
def h85:HI:=⟨85,a4o,a3b,fun(x:DS6×Int×ByteArray×(List Int)×Int×Unit)=>m85 x.1 x.2.1 x.2.2.1 x.2.2.2.1 x.2.2.2.2.1,[]⟩
theorem a3R:HK h85:=hkz .o [] tS1 Tryz.func85 (cP Iz (cH Qf (cH a00 (cH Qe c0)))) (by kernel_rfl) λx=>by kernel_rfl
def m87(a0:List Int)(a1:Int):Option (Bool×(List Int)×Int×Unit) :=
 some (iLt a1 (aj a0),a0,a1,())
def a4n:Sh:=⟨1,[],[(0,.ptr 0 0 0)],[.box 65 [.d (.list (.int .i64)),.d (.int .i64)]]⟩
def a3a:Sh:=⟨1,[(0,.bool)],[],[.box 65 [.d (.list (.int .i64)),.d (.int .i64)]]⟩
def h87:HI:=⟨87,a4n,a3a,fun(x:(List Int)×Int×Unit)=>m87 x.1 x.2.1,[]⟩
theorem a3Q:HK h87:=hk .o [] Tryz.func87 c0 (by kernel_rfl) λx=>by kernel_rfl
def Nl(a0:Int):Option (Bool×Unit) :=
 some (cond (iLe 97 a0) (iLe a0 122) false,())
def a8p:PI:=⟨149,[(.int .u8)],[.bool],fun(x:Int×Unit)=>Nl x.1⟩
theorem a0H:PK a8p:=pk .o Tryz.func149 c0 (by kernel_rfl) λx=>by kernel_rfl
def Nk(a0:Int):Option (Bool×Unit) :=
 some (cond (iLe 48 a0) (iLe a0 57) false,())
def a8o:PI:=⟨150,[(.int .u8)],[.bool],fun(x:Int×Unit)=>Nk x.1⟩
theorem a0G:PK a8o:=pk .o Tryz.func150 c0 (by kernel_rfl) λx=>by kernel_rfl
def Ns(a0:ByteArray):Option (Bool×Unit) :=
 cond (or (bnd 0 (sLen a0)) (not (bEq (cond (iLt (sLen a0) 1) true (iLt 16 (sLen a0))) false)))
 (cond (cond (iLt (sLen a0) 1) true (iLt 16 (sLen a0)))
 (cond (or (bnd (bf .i64 (sLen a0) 1) (sLen a0)) (not (bEq true false)))
 (some (false,())) none)
 ((Nl (sAt a0 0)).bind λy99 =>
 cond (or (bnd (bf .i64 (sLen a0) 1) (sLen a0)) (not (bEq (not y99.1) false)))
 (cond (cond (not y99.1) true (iEq (sAt a0 (bf .i64 (sLen a0) 1)) 45))
 (some (false,()))
 (aJ (S:=ByteArray×Int×Unit) (R:=Bool×Unit) (λku =>
 cond (iLt ku.2.1 (sLen ku.1))
 (cond (bnd ku.2.1 (sLen ku.1))
 ((Nl (sAt ku.1 ku.2.1)).bind λy101 =>
 cond (or (bnd ku.2.1 (sLen ku.1)) (not (bEq (not y101.1) true)))
 (cond (not y101.1)
 ((Nk (sAt ku.1 ku.2.1)).bind λy102 =>
 cond (or (bnd ku.2.1 (sLen ku.1)) (not (bEq (not y102.1) true)))
 (cond (cond (not y102.1) (iNe (sAt ku.1 ku.2.1) 45) false)
 (some (.inr (false,())))
 (some (.inl (ku.1,aB .i64 ku.2.1 1,())))) none)
 (cond (or (bnd ku.2.1 (sLen ku.1)) (not (bEq false true)))
 (some (.inl (ku.1,aB .i64 ku.2.1 1,()))) none)) none) none)
 (some (.inr (true,()))))
 (a0,0,()))) none)) none
def a8B:PI:=⟨102,[.str],[.bool],fun(x:ByteArray×Unit)=>Ns x.1⟩
theorem a0W:PK a8B:=pk (.d 2 (.s (.d 1 (.b (.l [] ⟨50,[(0,.str),(3,(.int .i64))],[],[]⟩ .o))) .o)) Tryz.func102 (cP a0H (cP a0G c0)) (by kernel_rfl) λx=>by kernel_rfl
def Ay(a0:ByteArray):Option (Bool×Unit) :=
 cond (sEq a0 (bs [97,110,100]))
 (some (true,()))
 (cond (sEq a0 (bs [97,118,101,114,97,103,101]))
 (some (true,()))
 (cond (sEq a0 (bs [99,111,105,110,115,117,114,97,110,99,101]))
 (some (true,()))
 (cond (sEq a0 (bs [99,111,110,100,105,116,105,111,110]))
 (some (true,()))
 (cond (sEq a0 (bs [99,111,118,101,114]))
 (some (true,()))
 (cond (sEq a0 (bs [100,101,100,117,99,116,105,98,108,101]))
 (some (true,()))
 (cond (sEq a0 (bs [100,101,102,105,110,101]))
 (some (true,()))
 (cond (sEq a0 (bs [101,110,100]))
 (some (true,()))
 (cond (sEq a0 (bs [101,110,100,111,114,115,101]))
 (some (true,()))
 (cond (sEq a0 (bs [101,120,99,108,117,100,101]))
 (some (true,()))
 (cond (sEq a0 (bs [102,97,108,115,101]))
 (some (true,()))
 (cond (sEq a0 (bs [102,114,97,110,99,104,105,115,101]))
 (some (true,()))
 (cond (sEq a0 (bs [102,114,111,109]))
 (some (true,()))
 (cond (sEq a0 (bs [105,110]))
 (some (true,()))
 (cond (sEq a0 (bs [108,105,109,105,116]))
 (some (true,()))
 (cond (sEq a0 (bs [110,111,116]))
 (some (true,()))
 (cond (sEq a0 (bs [111,114]))
 (some (true,()))
 (cond (sEq a0 (bs [114,101,109,111,118,101]))
 (some (true,()))
 (cond (sEq a0 (bs [115,117,98,108,105,109,105,116]))
 (some (true,()))
 (cond (sEq a0 (bs [116,111]))
 (some (true,()))
 (cond (sEq a0 (bs [116,114,117,101]))
 (some (true,()))
 (cond (sEq a0 (bs [117,110,108,101,115,115]))
 (some (true,()))
 (cond (sEq a0 (bs [119,104,101,110]))
 (some (true,()))
 (some (false,()))))))))))))))))))))))))
def a8A:PI:=⟨103,[.str],[.bool],fun(x:ByteArray×Unit)=>Ay x.1⟩
theorem a0V:PK a8A:=pk .o Tryz.func103 c0 (by kernel_rfl) λx=>by kernel_rfl
def m57(a0:ByteArray):Option (Bool×Unit) :=
 (Ns a0).bind λa7x =>
 cond a7x.1
 ((Ay a0).bind λy104 =>
 some (not y104.1,()))
 (some (false,()))
def i57:PI:=⟨57,[.str],[.bool],fun(x:ByteArray×Unit)=>m57 x.1⟩
theorem Cg:PK i57:=pk .o Tryz.func57 (cP a0W (cP a0V c0)) (by kernel_rfl) λx=>by kernel_rfl
def m29(a0:List ByteArray):Option (Bool×Unit) :=
 aJ (S:=(List ByteArray)×Int×Unit) (R:=Bool×Unit) (λxK =>
 cond (iLt xK.2.1 (aj xK.1))
 (cond (bnd xK.2.1 (aj xK.1))
 ((m57 (atI xK.1 xK.2.1 ByteArray.empty)).bind λa7w =>
 cond (not a7w.1)
 (some (.inr (false,())))
 (some (.inl (xK.1,aB .i64 xK.2.1 1,())))) none)
 (some (.inr (true,()))))
 (a0,0,())
def i29:PI:=⟨29,[(.list .str)],[.bool],fun(x:(List ByteArray)×Unit)=>m29 x.1⟩
theorem MQ:PK i29:=pk (.d 1 (.s (.d 1 (.b (.l [] ⟨16,[(0,(.list .str)),(3,(.int .i64))],[],[]⟩ .o))) .o)) Tryz.func29 (cP Cg c0) (by kernel_rfl) λx=>by kernel_rfl
def m30(a0:List ByteArray):Option (Bool×Unit) :=
 aJ (S:=(List ByteArray)×Int×Unit) (R:=Bool×Unit) (λMv =>
 cond (iLt Mv.2.1 (aj Mv.1))
 (aJ (S:=(List ByteArray)×Int×Int×Unit) (R:=((List ByteArray)×Int×Unit)⊕(Bool×Unit)) (λnY =>
 cond (iLt nY.2.2.1 nY.2.1)
 (cond (bnd nY.2.1 (aj nY.1))
 (cond (bnd nY.2.2.1 (aj nY.1))
 (cond (sEq (atI nY.1 nY.2.1 ByteArray.empty) (atI nY.1 nY.2.2.1 ByteArray.empty))
 (some (.inr (.inr (false,()))))
 (some (.inl (nY.1,nY.2.1,aB .i64 nY.2.2.1 1,())))) none) none)
 (some (.inr (.inl (nY.1,aB .i64 nY.2.1 1,())))))
 (Mv.1,Mv.2.1,0,()))
 (some (.inr (true,()))))
 (a0,0,())
def i30:PI:=⟨30,[(.list .str)],[.bool],fun(x:(List ByteArray)×Unit)=>m30 x.1⟩
theorem MP:PK i30:=pk (.d 1 (.s (.d 1 (.b (.l [] ⟨25,[(0,(.list .str)),(3,(.int .i64))],[],[]⟩ (.d 1 (.s (.b (.d 1 (.b (.l [] ⟨25,[(0,(.list .str)),(3,(.int .i64)),(4,(.int .i64))],[],[]⟩ .o)))) .o))))) .o)) Tryz.func30 c0 (by kernel_rfl) λx=>by kernel_rfl
def rP(a0:Int):Option (Bool×Unit) :=
 some (cond (iLt 1000000000 a0) true (iLt a0 (-1000000000)),())
def i183:PI:=⟨183,[(.int .i64)],[.bool],fun(x:Int×Unit)=>rP x.1⟩
theorem Q9:PK i183:=pk .o Tryz.func183 c0 (by kernel_rfl) λx=>by kernel_rfl
def Ni(a0:DS5):Option (Int×Unit) :=
 cond (iEq a0.2.1 1)
 (cond (cond (iNe a0.2.2.2.1 0) true (iNe a0.2.2.2.2.1 0))
 (some (20,()))
 (cond (iEq (aj a0.2.2.1) 0)
 (some (19,()))
 (cond (iLt 12 (aj a0.2.2.1))
 (some (4,()))
 ((m29 a0.2.2.1).bind λa7v =>
 cond (not a7v.1)
 (some (6,()))
 ((m30 a0.2.2.1).bind λa7u =>
 cond (not a7u.1)
 (some (8,()))
 (some (0,())))))))
 (cond (iEq a0.2.1 2)
 (cond (iLt 0 (aj a0.2.2.1))
 (some (20,()))
 (cond (iLt a0.2.2.2.2.1 a0.2.2.2.1)
 (some (1,()))
 ((rP a0.2.2.2.1).bind λa7t =>
 cond a7t.1
 (some (1,()))
 ((rP a0.2.2.2.2.1).bind λa7s =>
 cond a7s.1
 (some (1,()))
 (some (0,()))))))
 (cond (iEq a0.2.1 3)
 (cond (cond (cond (iLt 0 (aj a0.2.2.1)) true (iNe a0.2.2.2.1 0)) true (iNe a0.2.2.2.2.1 0))
 (some (20,()))
 (some (0,())))
 (some (11,()))))
def a8n:PI:=⟨165,[tS5],[(.int .i64)],fun(x:DS5×Unit)=>Ni x.1⟩
theorem a0F:PK a8n:=pk .o Tryz.func165 (cP Q9 (cP MQ (cP MP c0))) (by kernel_rfl) λx=>by kernel_rfl
def Np(a0:DS6):Option (Int×Unit) :=
 cond (iEq (aj a0.1) 0)
 (some (19,()))
 (cond (iLt 6 (aj a0.1))
 (some (4,()))
 (aJ (S:=Int×(List DS5)×Unit) (R:=Int×Unit) (λlN =>
 cond (iLt lN.1 (aj lN.2.1))
 (cond (bnd lN.1 (aj lN.2.1))
 ((m57 ((atI lN.2.1 lN.1 zS5).1)).bind λa7r =>
 cond (not a7r.1)
 (some (.inr (6,())))
 (aJ (S:=Int×Int×(List DS5)×ByteArray×Int×(List ByteArray)×Int×Int×Unit) (R:=(Int×(List DS5)×Unit)⊕(Int×Unit)) (λjm =>
 cond (iLt jm.2.1 jm.1)
 (cond (bnd jm.2.1 (aj jm.2.2.1))
 (cond (sEq ((atI jm.2.2.1 jm.2.1 zS5).1) jm.2.2.2.1)
 (some (.inr (.inr (8,()))))
 (some (.inl (jm.1,aB .i64 jm.2.1 1,jm.2.2.1,jm.2.2.2.1,jm.2.2.2.2.1,jm.2.2.2.2.2.1,jm.2.2.2.2.2.2.1,jm.2.2.2.2.2.2.2.1,())))) none)
 (Option.map Sum.inr ((Ni (jm.2.2.2.1,jm.2.2.2.2.1,jm.2.2.2.2.2.1,jm.2.2.2.2.2.2.1,jm.2.2.2.2.2.2.2.1,())).bind λZq =>
 cond (iNe Zq.1 0)
 (some (.inr (Zq.1,())))
 (some (.inl (aB .i64 jm.1 1,jm.2.2.1,()))))))
 (lN.1,0,lN.2.1,(atI lN.2.1 lN.1 zS5).1,(atI lN.2.1 lN.1 zS5).2.1,(atI lN.2.1 lN.1 zS5).2.2.1,(atI lN.2.1 lN.1 zS5).2.2.2.1,(atI lN.2.1 lN.1 zS5).2.2.2.2.1,()))) none)
 (some (.inr (0,()))))
 (0,a0.1,())))
def a8x:PI:=⟨134,[tS6],[(.int .i64)],fun(x:DS6×Unit)=>Np x.1⟩
theorem a0R:PK a8x:=pk (.d 3 (.s (.d 1 (.b (.l [] ⟨50,[(3,(.int .i64))],[(1,.ptr 0 0 0)],[.box 59 [.d (.list tS5)]]⟩ (.d 1 (.s (.b (.d 2 (.s (.d 1 (.b (.l [] ⟨50,[(3,(.int .i64)),(5,(.int .i64))],[(1,.ptr 0 0 0),(4,.ptr 1 0 0)],[.box 59 [.d (.list tS5)],.box 106 [.d .str,.d (.int .i64),.d (.list .str),.d (.int .i64),.d (.int .i64)]]⟩ .o))) .o))) .o))))) .o)) Tryz.func134 (cP a0F (cP Cg c0)) (by kernel_rfl) λx=>by kernel_rfl
def Gj(self:(DS0×Int×Unit)->Option (Bool×Unit))(a0:DS0)(a1:Int):Option (Bool×Unit) :=
 cond (iEq a1 0)
 (some (true,()))
 (aJ (S:=Int×Int×Int×ByteArray×(List ByteArray)×Int×Int×(List AV)×Unit) (R:=Bool×Unit) (λmH =>
 cond (iLt mH.2.1 (aj mH.2.2.2.2.2.2.2.1))
 (cond (and (bnd mH.2.1 (aj mH.2.2.2.2.2.2.2.1)) (jK (atI mH.2.2.2.2.2.2.2.1 mH.2.1 AV.any)))
 ((self (aL (atI mH.2.2.2.2.2.2.2.1 mH.2.1 AV.any),bf .i64 mH.1 1,())).bind λa7p =>
 cond a7p.1
 (some (.inr (true,())))
 (some (.inl (mH.1,aB .i64 mH.2.1 1,mH.2.2.1,mH.2.2.2.1,mH.2.2.2.2.1,mH.2.2.2.2.2.1,mH.2.2.2.2.2.2.1,mH.2.2.2.2.2.2.2.1,())))) none)
 (some (.inr (false,()))))
 (a1,0,a0.1,a0.2.1,a0.2.2.1,a0.2.2.2.1,a0.2.2.2.2.1,a0.2.2.2.2.2.1,()))
def a1E(a0:DS0)(a1:Int):Option (Bool×Unit):=bg (λself (x:DS0×Int×Unit)=>Gj self x.1 x.2.1) 10000 (a0,a1,())
def i146:PI:=⟨146,[tS0,(.int .i64)],[.bool],fun(x:DS0×Int×Unit)=>a1E x.1 x.2.1⟩
theorem a0K:PK i146:=gP 10000 (ps:=[tS0,(.int .i64)]) (rs:=[.bool]) (G:=λself (x:DS0×Int×Unit)=>Gj self x.1 x.2.1) (iA (f:=Tryz.f146) (by kernel_rfl)) λself hr=>pk (.d 2 (.s (.d 1 (.b (.l [] ⟨23,[(1,(.int .i64)),(5,(.int .i64))],[(2,.ptr 0 0 0)],[.box 34 [.d (.int .i64),.d .str,.d (.list .str),.d (.int .i64),.d (.int .i64),.d (.rl 34 6)]]⟩ .o))) .o)) Tryz.func146 (cP hr c0) (by kernel_rfl) λx=>by kernel_rfl
def Gi(self:(DS0×Unit)->Option (Int×Unit))(a0:DS0):Option (Int×Unit) :=
 aJ (S:=Int×Int×Int×ByteArray×(List ByteArray)×Int×Int×(List AV)×Unit) (R:=Int×Unit) (λlM =>
 cond (cond (iLt lM.2.1 (aj lM.2.2.2.2.2.2.2.1)) (iLe lM.1 300) false)
 (cond (and (bnd lM.2.1 (aj lM.2.2.2.2.2.2.2.1)) (jK (atI lM.2.2.2.2.2.2.2.1 lM.2.1 AV.any)))
 ((self (aL (atI lM.2.2.2.2.2.2.2.1 lM.2.1 AV.any),())).bind λa7n =>
 some (.inl (aB .i64 lM.1 a7n.1,aB .i64 lM.2.1 1,lM.2.2.1,lM.2.2.2.1,lM.2.2.2.2.1,lM.2.2.2.2.2.1,lM.2.2.2.2.2.2.1,lM.2.2.2.2.2.2.2.1,()))) none)
 (some (.inr (dG lM.1 301,()))))
 (1,0,a0.1,a0.2.1,a0.2.2.1,a0.2.2.2.1,a0.2.2.2.2.1,a0.2.2.2.2.2.1,())
def a1D(a0:DS0):Option (Int×Unit):=bg (λself (x:DS0×Unit)=>Gi self x.1) 10000 (a0,())
def a8q:PI:=⟨147,[tS0],[(.int .i64)],fun(x:DS0×Unit)=>a1D x.1⟩
theorem a0J:PK a8q:=gP 10000 (ps:=[tS0]) (rs:=[(.int .i64)]) (G:=λself (x:DS0×Unit)=>Gi self x.1) (iA (f:=Tryz.f147) (by kernel_rfl)) λself hr=>pk (.d 2 (.s (.d 1 (.b (.l [] ⟨26,[(3,(.int .i64)),(4,(.int .i64))],[(1,.ptr 0 0 0)],[.box 34 [.d (.int .i64),.d .str,.d (.list .str),.d (.int .i64),.d (.int .i64),.d (.rl 34 6)]]⟩ .o))) .o)) Tryz.func147 (cP hr c0) (by kernel_rfl) λx=>by kernel_rfl
def Nf(a0:DS0):Option (Bool×Unit) :=
 cond (cond (iLt a0.1 1) true (iLt 8 a0.1))
 (some (false,()))
 (cond (cond (cond (iEq a0.1 3) true (iEq a0.1 4)) true (iEq a0.1 5))
 ((m57 a0.2.1).bind λa7l =>
 cond (not a7l.1)
 (some (false,()))
 (cond (cond (not (cond (cond (iEq a0.1 3) true (iEq a0.1 4)) true (iEq a0.1 5))) (not (sEq a0.2.1 (bs []))) false)
 (some (false,()))
 (jW (S:=Int×ByteArray×(List ByteArray)×Int×Int×(List AV)×Unit) (R:=Bool×Unit)
 (cond (iEq a0.1 4)
 (cond (cond (iLt (aj a0.2.2.1) 1) true (iLt 12 (aj a0.2.2.1)))
 (some (.inr (false,())))
 ((m29 a0.2.2.1).bind λa7k =>
 cond (not a7k.1)
 (some (.inr (false,())))
 ((m30 a0.2.2.1).bind λy150 =>
 cond (not y150.1)
 (some (.inr (false,())))
 (some (.inl (a0.1,a0.2.1,a0.2.2.1,a0.2.2.2.1,a0.2.2.2.2.1,a0.2.2.2.2.2.1,()))))))
 (cond (iLt 0 (aj a0.2.2.1))
 (some (.inr (false,())))
 (some (.inl (a0.1,a0.2.1,a0.2.2.1,a0.2.2.2.1,a0.2.2.2.2.1,a0.2.2.2.2.2.1,())))))
 (λjP =>
 cond (iEq jP.1 5)
 ((rP jP.2.2.2.1).bind λy152 =>
 cond y152.1
 (some (false,()))
 ((rP jP.2.2.2.2.1).bind λy153 =>
 cond (cond y153.1 true (iLt jP.2.2.2.2.1 jP.2.2.2.1))
 (some (false,()))
 (cond (iEq jP.1 6)
 (some (iEq (aj jP.2.2.2.2.2.1) 1,()))
 (cond (iEq jP.1 7)
 (some (iLe 2 (aj jP.2.2.2.2.2.1),()))
 (cond (iEq jP.1 8)
 (some (iLe 2 (aj jP.2.2.2.2.2.1),()))
 (some (iEq (aj jP.2.2.2.2.2.1) 0,())))))))
 (cond (cond (iNe jP.2.2.2.1 0) true (iNe jP.2.2.2.2.1 0))
 (some (false,()))
 (cond (iEq jP.1 6)
 (some (iEq (aj jP.2.2.2.2.2.1) 1,()))
 (cond (iEq jP.1 7)
 (some (iLe 2 (aj jP.2.2.2.2.2.1),()))
 (cond (iEq jP.1 8)
 (some (iLe 2 (aj jP.2.2.2.2.2.1),()))
 (some (iEq (aj jP.2.2.2.2.2.1) 0,()))))))))))
 (cond (cond (not (cond (cond (iEq a0.1 3) true (iEq a0.1 4)) true (iEq a0.1 5))) (not (sEq a0.2.1 (bs []))) false)
 (some (false,()))
 (jW (S:=Int×ByteArray×(List ByteArray)×Int×Int×(List AV)×Unit) (R:=Bool×Unit)
 (cond (iEq a0.1 4)
 (cond (cond (iLt (aj a0.2.2.1) 1) true (iLt 12 (aj a0.2.2.1)))
 (some (.inr (false,())))
 ((m29 a0.2.2.1).bind λa7j =>
 cond (not a7j.1)
 (some (.inr (false,())))
 ((m30 a0.2.2.1).bind λa7i =>
 cond (not a7i.1)
 (some (.inr (false,())))
 (some (.inl (a0.1,a0.2.1,a0.2.2.1,a0.2.2.2.1,a0.2.2.2.2.1,a0.2.2.2.2.2.1,()))))))
 (cond (iLt 0 (aj a0.2.2.1))
 (some (.inr (false,())))
 (some (.inl (a0.1,a0.2.1,a0.2.2.1,a0.2.2.2.1,a0.2.2.2.2.1,a0.2.2.2.2.2.1,())))))
 (λjO =>
 cond (iEq jO.1 5)
 ((rP jO.2.2.2.1).bind λy157 =>
 cond y157.1
 (some (false,()))
 ((rP jO.2.2.2.2.1).bind λy158 =>
 cond (cond y158.1 true (iLt jO.2.2.2.2.1 jO.2.2.2.1))
 (some (false,()))
 (cond (iEq jO.1 6)
 (some (iEq (aj jO.2.2.2.2.2.1) 1,()))
 (cond (iEq jO.1 7)
 (some (iLe 2 (aj jO.2.2.2.2.2.1),()))
 (cond (iEq jO.1 8)
 (some (iLe 2 (aj jO.2.2.2.2.2.1),()))
 (some (iEq (aj jO.2.2.2.2.2.1) 0,())))))))
 (cond (cond (iNe jO.2.2.2.1 0) true (iNe jO.2.2.2.2.1 0))
 (some (false,()))
 (cond (iEq jO.1 6)
 (some (iEq (aj jO.2.2.2.2.2.1) 1,()))
 (cond (iEq jO.1 7)
 (some (iLe 2 (aj jO.2.2.2.2.2.1),()))
 (cond (iEq jO.1 8)
 (some (iLe 2 (aj jO.2.2.2.2.2.1),()))
 (some (iEq (aj jO.2.2.2.2.2.1) 0,()))))))))))
def i171:PI:=⟨171,[tS0],[.bool],fun(x:DS0×Unit)=>Nf x.1⟩
theorem a0A:PK i171:=pk (.d 3 (.j [] ⟨117,[],[(1,.ptr 0 0 0)],[.box 34 [.d (.int .i64),.d .str,.d (.list .str),.d (.int .i64),.d (.int .i64),.d (.rl 34 6)]]⟩ .o .o)) Tryz.func171 (cP Q9 (cP MQ (cP MP (cP Cg c0)))) (by kernel_rfl) λx=>by kernel_rfl
def Gh(self:(DS0×Unit)->Option (Bool×Unit))(a0:DS0):Option (Bool×Unit) :=
 (Nf (a0.1,a0.2.1,a0.2.2.1,a0.2.2.2.1,a0.2.2.2.2.1,a0.2.2.2.2.2.1,())).bind λa7h =>
 cond (not a7h.1)
 (some (false,()))
 (aJ (S:=Int×Int×ByteArray×(List ByteArray)×Int×Int×(List AV)×Unit) (R:=Bool×Unit) (λnX =>
 cond (iLt nX.1 (aj nX.2.2.2.2.2.2.1))
 (cond (and (bnd nX.1 (aj nX.2.2.2.2.2.2.1)) (jK (atI nX.2.2.2.2.2.2.1 nX.1 AV.any)))
 ((self (aL (atI nX.2.2.2.2.2.2.1 nX.1 AV.any),())).bind λa7g =>
 cond (not a7g.1)
 (some (.inr (false,())))
 (some (.inl (aB .i64 nX.1 1,nX.2.1,nX.2.2.1,nX.2.2.2.1,nX.2.2.2.2.1,nX.2.2.2.2.2.1,nX.2.2.2.2.2.2.1,())))) none)
 (some (.inr (true,()))))
 (0,a0.1,a0.2.1,a0.2.2.1,a0.2.2.2.1,a0.2.2.2.2.1,a0.2.2.2.2.2.1,()))
def a1C(a0:DS0):Option (Bool×Unit):=bg (λself (x:DS0×Unit)=>Gh self x.1) 10000 (a0,())
def i148:PI:=⟨148,[tS0],[.bool],fun(x:DS0×Unit)=>a1C x.1⟩
theorem a0I:PK i148:=gP 10000 (ps:=[tS0]) (rs:=[.bool]) (G:=λself (x:DS0×Unit)=>Gh self x.1) (iA (f:=Tryz.f148) (by kernel_rfl)) λself hr=>pk (.d 2 (.s (.d 1 (.b (.l [] ⟨21,[(3,(.int .i64))],[(1,.ptr 0 0 0)],[.box 34 [.d (.int .i64),.d .str,.d (.list .str),.d (.int .i64),.d (.int .i64),.d (.rl 34 6)]]⟩ .o))) .o)) Tryz.func148 (cP hr (cP a0A c0)) (by kernel_rfl) λx=>by kernel_rfl
def m98(a0:DS0):Option (Bool×Unit) :=
 (a1E (a0.1,a0.2.1,a0.2.2.1,a0.2.2.2.1,a0.2.2.2.2.1,a0.2.2.2.2.2.1,()) 16).bind λa7o =>
 cond (not a7o.1)
 ((a1D (a0.1,a0.2.1,a0.2.2.1,a0.2.2.2.1,a0.2.2.2.2.1,a0.2.2.2.2.2.1,())).bind λa7m =>
 cond (iLe a7m.1 300)
 ((a1C (a0.1,a0.2.1,a0.2.2.1,a0.2.2.2.1,a0.2.2.2.2.1,a0.2.2.2.2.2.1,())).bind λa7f =>
 some (a7f.1,()))
 (some (false,())))
 (some (false,()))
def i98:PI:=⟨98,[tS0],[.bool],fun(x:DS0×Unit)=>m98 x.1⟩
theorem VO:PK i98:=pk .o Tryz.func98 (cP a0K (cP a0J (cP a0I c0))) (by kernel_rfl) λx=>by kernel_rfl
def Aw(self:((List AV)×Unit)->Option (Int×Unit))(a0:List AV):Option (Int×Unit) :=
 aJ (S:=(List AV)×Int×Int×Unit) (R:=Int×Unit) (λqm =>
 cond (cond (iLt qm.2.2.1 (aj qm.1)) (iLe qm.2.1 40) false)
 (cond (and (bnd qm.2.2.1 (aj qm.1)) (eu (atI qm.1 qm.2.2.1 AV.any)))
 ((self ((ay (atI qm.1 qm.2.2.1 AV.any)).2.2.1,())).bind λa7d =>
 some (.inl (qm.1,aB .i64 qm.2.1 a7d.1,aB .i64 qm.2.2.1 1,()))) none)
 (some (.inr (dG qm.2.1 41,()))))
 (a0,aj a0,0,())
def m99(a0:List AV):Option (Int×Unit):=Ej (λself (x:(List AV)×Unit)=>Aw self x.1) (a0,())
def i99:PI:=⟨99,[(.rl 63 8)],[(.int .i64)],fun(x:(List AV)×Unit)=>m99 x.1⟩
theorem a3k:PK i99:=XQ (ps:=[(.rl 63 8)]) (rs:=[(.int .i64)]) (G:=λself (x:(List AV)×Unit)=>Aw self x.1) (iA (f:=Tryz.f99) (by kernel_rfl)) λself hr=>pk (.d 2 (.s (.d 1 (.b (.l [] ⟨27,[(0,(.rl 63 8)),(3,(.int .i64)),(4,(.int .i64))],[],[]⟩ .o))) .o)) Tryz.func99 (cP hr c0) (by kernel_rfl) λx=>by kernel_rfl
def Gt(self:((List AV)×Int×Unit)->Option (Bool×Unit))(a0:List AV)(a1:Int):Option (Bool×Unit) :=
 cond (cond (iLt 0 (aj a0)) (iEq a1 0) false)
 (some (false,()))
 (aJ (S:=(List AV)×Int×Int×Unit) (R:=Bool×Unit) (λgq =>
 cond (iLt gq.2.2.1 (aj gq.1))
 (cond (and (bnd gq.2.2.1 (aj gq.1)) (eu (atI gq.1 gq.2.2.1 AV.any)))
 ((m57 ((ay (atI gq.1 gq.2.2.1 AV.any)).1)).bind λZp =>
 cond (or (and (bnd gq.2.2.1 (aj gq.1)) (eu (atI gq.1 gq.2.2.1 AV.any))) (not (bEq (not Zp.1) false)))
 (cond (not Zp.1)
 (cond (or (and (bnd gq.2.2.1 (aj gq.1)) (eu (atI gq.1 gq.2.2.1 AV.any))) (not (bEq true false)))
 (some (.inr (false,()))) none)
 ((m98 ((ay (atI gq.1 gq.2.2.1 AV.any)).2.1)).bind λZo =>
 cond (or (and (bnd gq.2.2.1 (aj gq.1)) (eu (atI gq.1 gq.2.2.1 AV.any))) (not (bEq (not Zo.1) false)))
 (cond (not Zo.1)
 (some (.inr (false,())))
 ((self ((ay (atI gq.1 gq.2.2.1 AV.any)).2.2.1,bf .i64 gq.2.1 1,())).bind λa7b =>
 cond (not a7b.1)
 (some (.inr (false,())))
 (some (.inl (gq.1,gq.2.1,aB .i64 gq.2.2.1 1,()))))) none)) none) none)
 (some (.inr (true,()))))
 (a0,a1,0,()))
def Ux(a0:List AV)(a1:Int):Option (Bool×Unit):=bg (λself (x:(List AV)×Int×Unit)=>Gt self x.1 x.2.1) 10000 (a0,a1,())
def a8D:PI:=⟨100,[(.rl 63 8),(.int .i64)],[.bool],fun(x:(List AV)×Int×Unit)=>Ux x.1 x.2.1⟩
theorem a0X:PK a8D:=gP 10000 (ps:=[(.rl 63 8),(.int .i64)]) (rs:=[.bool]) (G:=λself (x:(List AV)×Int×Unit)=>Gt self x.1 x.2.1) (iA (f:=Tryz.f100) (by kernel_rfl)) λself hr=>pk (.d 2 (.s (.d 1 (.b (.l [] ⟨46,[(0,(.rl 63 8)),(1,(.int .i64)),(5,(.int .i64))],[],[]⟩ .o))) .o)) Tryz.func100 (cP hr (cP Cg (cP VO c0))) (by kernel_rfl) λx=>by kernel_rfl
def m56(a0:DS1):Option (Bool×Unit) :=
 cond (cond (iLt a0.1 1) true (iLt 10 a0.1))
 (some (false,()))
 ((m57 a0.2.1).bind λa7q =>
 cond (not a7q.1)
 (some (false,()))
 ((m98 (a0.2.2.1.1,a0.2.2.1.2.1,a0.2.2.1.2.2.1,a0.2.2.1.2.2.2.1,a0.2.2.1.2.2.2.2.1,a0.2.2.1.2.2.2.2.2.1,())).bind λa7e =>
 cond (not a7e.1)
 (some (false,()))
 (cond (iLt 0 (aj a0.2.2.2.1))
 (cond (iNe a0.1 3)
 (some (false,()))
 ((m99 a0.2.2.2.1).bind λa7c =>
 cond (iLt 40 a7c.1)
 (some (false,()))
 ((Ux a0.2.2.2.1 16).bind λa7a =>
 cond (not a7a.1)
 (some (false,()))
 ((rQ a0.1).bind λSd =>
 cond (cond (iEq Sd.1 0) (iEq a0.2.2.2.2.1 0) false)
 (some (true,()))
 (some (cond (cond (iLt 0 Sd.1) (iLe 1 a0.2.2.2.2.1) false) (iLe a0.2.2.2.2.1 Sd.1) false,()))))))
 ((rQ a0.1).bind λSc =>
 cond (cond (iEq Sc.1 0) (iEq a0.2.2.2.2.1 0) false)
 (some (true,()))
 (some (cond (cond (iLt 0 Sc.1) (iLe 1 a0.2.2.2.2.1) false) (iLe a0.2.2.2.2.1 Sc.1) false,()))))))
def i56:PI:=⟨56,[tS1],[.bool],fun(x:DS1×Unit)=>m56 x.1⟩
theorem VY:PK i56:=pk .o Tryz.func56 (cP a0X (cP Iz (cP Cg (cP VO (cP a3k c0))))) (by kernel_rfl) λx=>by kernel_rfl
def m9(a0:List DS1)(a1:ByteArray):Option (Int×Bool×Unit) :=
 aJ (S:=(List DS1)×ByteArray×Int×Unit) (R:=Int×Bool×Unit) (λtC =>
 cond (iLt tC.2.2.1 (aj tC.1))
 (cond (bnd tC.2.2.1 (aj tC.1))
 (cond (sEq ((atI tC.1 tC.2.2.1 zS1).2.1) tC.2.1)
 (some (.inr (tC.2.2.1,true,())))
 (some (.inl (tC.1,tC.2.1,aB .i64 tC.2.2.1 1,())))) none)
 (some (.inr (0,false,()))))
 (a0,a1,0,())
def i9:PI:=⟨9,[(.list tS1),.str],[(.int .i64),.bool],fun(x:(List DS1)×ByteArray×Unit)=>m9 x.1 x.2.1⟩
theorem a0v:PK i9:=pk (.d 1 (.s (.d 1 (.b (.l [] ⟨21,[(0,(.list tS1)),(1,.str),(6,(.int .i64))],[],[]⟩ .o))) .o)) Tryz.func9 c0 (by kernel_rfl) λx=>by kernel_rfl
def J2(a0:DS6)(a1:ByteArray):Option (Int×Bool×Unit) :=
 aJ (S:=ByteArray×Int×(List DS5)×Unit) (R:=Int×Bool×Unit) (λtu =>
 cond (iLt tu.2.1 (aj tu.2.2.1))
 (cond (bnd tu.2.1 (aj tu.2.2.1))
 (cond (sEq ((atI tu.2.2.1 tu.2.1 zS5).1) tu.1)
 (some (.inr (tu.2.1,true,())))
 (some (.inl (tu.1,aB .i64 tu.2.1 1,tu.2.2.1,())))) none)
 (some (.inr (0,false,()))))
 (a1,0,a0.1,())
def a8w:PI:=⟨135,[tS6,.str],[(.int .i64),.bool],fun(x:DS6×ByteArray×Unit)=>J2 x.1 x.2.1⟩
theorem Qd:PK a8w:=pk (.d 1 (.s (.d 1 (.b (.l [] ⟨23,[(1,.str),(6,(.int .i64))],[(2,.ptr 0 0 0)],[.box 59 [.d (.list tS5)]]⟩ .o))) .o)) Tryz.func135 c0 (by kernel_rfl) λx=>by kernel_rfl
def DY(a0:List DS1)(a1:ByteArray):Option (Int×Bool×Unit) :=
 aJ (S:=(List DS1)×ByteArray×Int×Unit) (R:=Int×Bool×Unit) (λmG =>
 cond (iLt mG.2.2.1 (aj mG.1))
 (cond (bnd mG.2.2.1 (aj mG.1))
 (cond (or (bnd mG.2.2.1 (aj mG.1)) (not (bEq (iEq ((atI mG.1 mG.2.2.1 zS1).1) 1) true)))
 (cond (cond (iEq ((atI mG.1 mG.2.2.1 zS1).1) 1) (sEq ((atI mG.1 mG.2.2.1 zS1).2.1) mG.2.1) false)
 (some (.inr (mG.2.2.1,true,())))
 (some (.inl (mG.1,mG.2.1,aB .i64 mG.2.2.1 1,())))) none) none)
 (some (.inr (0,false,()))))
 (a0,a1,0,())
def i168:PI:=⟨168,[(.list tS1),.str],[(.int .i64),.bool],fun(x:(List DS1)×ByteArray×Unit)=>DY x.1 x.2.1⟩
theorem Iy:PK i168:=pk (.d 1 (.s (.d 1 (.b (.l [] ⟨29,[(0,(.list tS1)),(1,.str),(6,(.int .i64))],[],[]⟩ .o))) .o)) Tryz.func168 c0 (by kernel_rfl) λx=>by kernel_rfl
def IX(a0:List ByteArray)(a1:ByteArray):Option (Bool×Unit) :=
 aJ (S:=(List ByteArray)×ByteArray×Int×Unit) (R:=Bool×Unit) (λuQ =>
 cond (iLt uQ.2.2.1 (aj uQ.1))
 (cond (bnd uQ.2.2.1 (aj uQ.1))
 (cond (sEq (atI uQ.1 uQ.2.2.1 ByteArray.empty) uQ.2.1)
 (some (.inr (true,())))
 (some (.inl (uQ.1,uQ.2.1,aB .i64 uQ.2.2.1 1,())))) none)
 (some (.inr (false,()))))
 (a0,a1,0,())
def a8r:PI:=⟨144,[(.list .str),.str],[.bool],fun(x:(List ByteArray)×ByteArray×Unit)=>IX x.1 x.2.1⟩
theorem Qa:PK a8r:=pk (.d 1 (.s (.d 1 (.b (.l [] ⟨18,[(0,(.list .str)),(1,.str),(5,(.int .i64))],[],[]⟩ .o))) .o)) Tryz.func144 c0 (by kernel_rfl) λx=>by kernel_rfl
def Nh(a0:DS6)(a1:List DS1)(a2:DS0):Option (Int×Unit) :=
 (J2 (a0.1,()) a2.2.1).bind λlJ =>
 cond (iEq a2.1 3)
 ((DY a1 a2.2.1).bind λa6Z =>
 cond (cond (not lJ.2.1) (not a6Z.2.1) false)
 (some (7,()))
 (cond (or (bnd lJ.1 (aj a0.1)) (not (bEq lJ.2.1 true)))
 (cond (cond lJ.2.1 (iNe ((atI a0.1 lJ.1 zS5).2.1) 3) false)
 (some (9,()))
 (some (0,()))) none))
 (cond (iEq a2.1 4)
 (cond (not lJ.2.1)
 (some (7,()))
 (cond (bnd lJ.1 (aj a0.1))
 (cond (iNe ((atI a0.1 lJ.1 zS5).2.1) 1)
 (some (9,()))
 (aJ (S:=Int×Int×ByteArray×(List ByteArray)×Int×Int×(List AV)×ByteArray×Int×(List ByteArray)×Int×Int×Unit) (R:=Int×Unit) (λkV =>
 cond (iLt kV.1 (aj kV.2.2.2.1))
 (cond (bnd kV.1 (aj kV.2.2.2.1))
 ((IX kV.2.2.2.2.2.2.2.2.2.1 (atI kV.2.2.2.1 kV.1 ByteArray.empty)).bind λa6Y =>
 cond (not a6Y.1)
 (some (.inr (7,())))
 (some (.inl (aB .i64 kV.1 1,kV.2.1,kV.2.2.1,kV.2.2.2.1,kV.2.2.2.2.1,kV.2.2.2.2.2.1,kV.2.2.2.2.2.2.1,kV.2.2.2.2.2.2.2.1,kV.2.2.2.2.2.2.2.2.1,kV.2.2.2.2.2.2.2.2.2.1,kV.2.2.2.2.2.2.2.2.2.2.1,kV.2.2.2.2.2.2.2.2.2.2.2.1,())))) none)
 (some (.inr (0,()))))
 (0,a2.1,a2.2.1,a2.2.2.1,a2.2.2.2.1,a2.2.2.2.2.1,a2.2.2.2.2.2.1,(atI a0.1 lJ.1 zS5).1,(atI a0.1 lJ.1 zS5).2.1,(atI a0.1 lJ.1 zS5).2.2.1,(atI a0.1 lJ.1 zS5).2.2.2.1,(atI a0.1 lJ.1 zS5).2.2.2.2.1,()))) none))
 (cond (iEq a2.1 5)
 (cond (not lJ.2.1)
 (some (7,()))
 (cond (bnd lJ.1 (aj a0.1))
 (cond (iNe ((atI a0.1 lJ.1 zS5).2.1) 2)
 (some (9,()))
 (cond (cond (iLt a2.2.2.2.1 ((atI a0.1 lJ.1 zS5).2.2.2.1)) true (iLt ((atI a0.1 lJ.1 zS5).2.2.2.2.1) a2.2.2.2.2.1))
 (some (1,()))
 (some (0,())))) none))
 (some (0,()))))
def a8m:PI:=⟨166,[tS6,(.list tS1),tS0],[(.int .i64)],fun(x:DS6×(List DS1)×DS0×Unit)=>Nh x.1 x.2.1 x.2.2.1⟩
theorem a0E:PK a8m:=pk (.d 2 (.s (.d 1 (.b (.d 1 (.c .o (.d 1 (.c (.d 4 (.b (.l [] ⟨100,[(12,(.int .i64))],[(5,.ptr 0 0 0),(11,.ptr 1 0 0)],[.box 34 [.d (.int .i64),.d .str,.d (.list .str),.d (.int .i64),.d (.int .i64),.d (.rl 34 6)],.box 106 [.d .str,.d (.int .i64),.d (.list .str),.d (.int .i64),.d (.int .i64)]]⟩ .o))) .o)))))) .o)) Tryz.func166 (cP Qd (cP Qa (cP Iy c0))) (by kernel_rfl) λx=>by kernel_rfl
def Gq(self:(DS6×(List DS1)×DS0×Unit)->Option (Int×Unit))(a0:DS6)(a1:List DS1)(a2:DS0):Option (Int×Unit) :=
 (Nh (a0.1,()) a1 (a2.1,a2.2.1,a2.2.2.1,a2.2.2.2.1,a2.2.2.2.2.1,a2.2.2.2.2.2.1,())).bind λZn =>
 cond (iNe Zn.1 0)
 (some (Zn.1,()))
 (aJ (S:=(List DS1)×Int×(List DS5)×Int×ByteArray×(List ByteArray)×Int×Int×(List AV)×Unit) (R:=Int×Unit) (λkT =>
 cond (iLt kT.2.1 (aj kT.2.2.2.2.2.2.2.2.1))
 (cond (and (bnd kT.2.1 (aj kT.2.2.2.2.2.2.2.2.1)) (jK (atI kT.2.2.2.2.2.2.2.2.1 kT.2.1 AV.any)))
 ((self ((kT.2.2.1,()),kT.1,aL (atI kT.2.2.2.2.2.2.2.2.1 kT.2.1 AV.any),())).bind λZm =>
 cond (iNe Zm.1 0)
 (some (.inr (Zm.1,())))
 (some (.inl (kT.1,aB .i64 kT.2.1 1,kT.2.2.1,kT.2.2.2.1,kT.2.2.2.2.1,kT.2.2.2.2.2.1,kT.2.2.2.2.2.2.1,kT.2.2.2.2.2.2.2.1,kT.2.2.2.2.2.2.2.2.1,())))) none)
 (some (.inr (0,()))))
 (a1,0,a0.1,a2.1,a2.2.1,a2.2.2.1,a2.2.2.2.1,a2.2.2.2.2.1,a2.2.2.2.2.2.1,()))
def Uu(a0:DS6)(a1:List DS1)(a2:DS0):Option (Int×Unit):=bg (λself (x:DS6×(List DS1)×DS0×Unit)=>Gq self x.1 x.2.1 x.2.2.1) 10000 (a0,a1,a2,())
def a8v:PI:=⟨136,[tS6,(.list tS1),tS0],[(.int .i64)],fun(x:DS6×(List DS1)×DS0×Unit)=>Uu x.1 x.2.1 x.2.2.1⟩
theorem Qc:PK a8v:=gP 10000 (ps:=[tS6,(.list tS1),tS0]) (rs:=[(.int .i64)]) (G:=λself (x:DS6×(List DS1)×DS0×Unit)=>Gq self x.1 x.2.1 x.2.2.1) (iA (f:=Tryz.f136) (by kernel_rfl)) λself hr=>pk (.d 2 (.s (.d 1 (.b (.l [] ⟨35,[(1,(.list tS1)),(8,(.int .i64))],[(3,.ptr 0 0 0),(5,.ptr 1 0 0)],[.box 59 [.d (.list tS5)],.box 34 [.d (.int .i64),.d .str,.d (.list .str),.d (.int .i64),.d (.int .i64),.d (.rl 34 6)]]⟩ .o))) .o)) Tryz.func136 (cP hr (cP a0E c0)) (by kernel_rfl) λx=>by kernel_rfl
def Gp(self:(DS6×(List DS1)×(List AV)×Unit)->Option (Int×Unit))(a0:DS6)(a1:List DS1)(a2:List AV):Option (Int×Unit) :=
 aJ (S:=(List DS1)×(List AV)×Int×(List DS5)×Unit) (R:=Int×Unit) (λjl =>
 cond (iLt jl.2.2.1 (aj jl.2.1))
 (cond (and (bnd jl.2.2.1 (aj jl.2.1)) (eu (atI jl.2.1 jl.2.2.1 AV.any)))
 ((Uu (jl.2.2.2.1,()) jl.1 ((ay (atI jl.2.1 jl.2.2.1 AV.any)).2.1)).bind λZl =>
 cond (iNe Zl.1 0)
 (some (.inr (Zl.1,())))
 (cond (and (bnd jl.2.2.1 (aj jl.2.1)) (eu (atI jl.2.1 jl.2.2.1 AV.any)))
 ((self ((jl.2.2.2.1,()),jl.1,(ay (atI jl.2.1 jl.2.2.1 AV.any)).2.2.1,())).bind λZk =>
 cond (iNe Zk.1 0)
 (some (.inr (Zk.1,())))
 (some (.inl (jl.1,jl.2.1,aB .i64 jl.2.2.1 1,jl.2.2.2.1,())))) none)) none)
 (some (.inr (0,()))))
 (a1,a2,0,a0.1,())
def a1H(a0:DS6)(a1:List DS1)(a2:List AV):Option (Int×Unit):=bg (λself (x:DS6×(List DS1)×(List AV)×Unit)=>Gp self x.1 x.2.1 x.2.2.1) 10000 (a0,a1,a2,())
def a8u:PI:=⟨137,[tS6,(.list tS1),(.rl 63 8)],[(.int .i64)],fun(x:DS6×(List DS1)×(List AV)×Unit)=>a1H x.1 x.2.1 x.2.2.1⟩
theorem a0Q:PK a8u:=gP 10000 (ps:=[tS6,(.list tS1),(.rl 63 8)]) (rs:=[(.int .i64)]) (G:=λself (x:DS6×(List DS1)×(List AV)×Unit)=>Gp self x.1 x.2.1 x.2.2.1) (iA (f:=Tryz.f137) (by kernel_rfl)) λself hr=>pk (.d 1 (.s (.d 1 (.b (.l [] ⟨38,[(1,(.list tS1)),(2,(.rl 63 8)),(7,(.int .i64))],[(3,.ptr 0 0 0)],[.box 59 [.d (.list tS5)]]⟩ .o))) .o)) Tryz.func137 (cP hr (cP Qc c0)) (by kernel_rfl) λx=>by kernel_rfl
def Nc(a0:List ByteArray)(a1:ByteArray):Option ((List ByteArray)×Unit) :=
 aJ (S:=(List ByteArray)×ByteArray×Bool×Int×(List ByteArray)×Unit) (R:=(List ByteArray)×Unit) (λbD =>
 cond (iLt bD.2.2.2.1 (aj bD.1))
 (cond (or (bnd bD.2.2.2.1 (aj bD.1)) (not (bEq (not bD.2.2.1) true)))
 (cond (cond (not bD.2.2.1) (or (sLt bD.2.1 (atI bD.1 bD.2.2.2.1 ByteArray.empty)) (sEq bD.2.1 (atI bD.1 bD.2.2.2.1 ByteArray.empty))) false)
 (cond (bnd bD.2.2.2.1 (aj bD.1))
 (cond (sLt bD.2.1 (atI bD.1 bD.2.2.2.1 ByteArray.empty))
 (cond (fits (List.length bD.2.2.2.2.1+List.length ([bD.2.1]:List ByteArray)) 16)
 (cond (bnd bD.2.2.2.1 (aj bD.1))
 (cond (fits (List.length (bD.2.2.2.2.1++([bD.2.1]:List ByteArray))+List.length ([atI bD.1 bD.2.2.2.1 ByteArray.empty]:List ByteArray)) 16)
 (some (.inl (bD.1,bD.2.1,true,aB .i64 bD.2.2.2.1 1,(bD.2.2.2.2.1++([bD.2.1]:List ByteArray))++([atI bD.1 bD.2.2.2.1 ByteArray.empty]:List ByteArray),()))) none) none) none)
 (cond (bnd bD.2.2.2.1 (aj bD.1))
 (cond (fits (List.length bD.2.2.2.2.1+List.length ([atI bD.1 bD.2.2.2.1 ByteArray.empty]:List ByteArray)) 16)
 (some (.inl (bD.1,bD.2.1,true,aB .i64 bD.2.2.2.1 1,bD.2.2.2.2.1++([atI bD.1 bD.2.2.2.1 ByteArray.empty]:List ByteArray),()))) none) none)) none)
 (cond (bnd bD.2.2.2.1 (aj bD.1))
 (cond (fits (List.length bD.2.2.2.2.1+List.length ([atI bD.1 bD.2.2.2.1 ByteArray.empty]:List ByteArray)) 16)
 (some (.inl (bD.1,bD.2.1,bD.2.2.1,aB .i64 bD.2.2.2.1 1,bD.2.2.2.2.1++([atI bD.1 bD.2.2.2.1 ByteArray.empty]:List ByteArray),()))) none) none)) none)
 (Option.map Sum.inr (cond (not bD.2.2.1)
 (cond (fits (List.length bD.2.2.2.2.1+List.length ([bD.2.1]:List ByteArray)) 16)
 (some (bD.2.2.2.2.1++([bD.2.1]:List ByteArray),())) none)
 (some (bD.2.2.2.2.1,())))))
 (a0,a1,false,0,([]:List ByteArray),())
def i193:PI:=⟨193,[(.list .str),.str],[(.list .str)],fun(x:(List ByteArray)×ByteArray×Unit)=>Nc x.1 x.2.1⟩
theorem a0w:PK i193:=pk (.d 3 (.s (.d 1 (.b (.l [.gh 5 9 .str] ⟨48,[(0,(.list .str)),(1,.str),(6,.bool),(7,(.int .i64))],[(5,.row 0)],[.row 9 .str false]⟩ .o))) .o)) Tryz.func193 c0 (by kernel_rfl) λx=>by kernel_rfl
def zq(self:((List ByteArray)×DS0×Unit)->Option ((List ByteArray)×Unit))(a0:List ByteArray)(a1:DS0):Option ((List ByteArray)×Unit) :=
 cond (iEq a1.1 3)
 ((Nc a0 a1.2.1).bind λa6X =>
 aJ (S:=(List ByteArray)×Int×Int×ByteArray×(List ByteArray)×Int×Int×(List AV)×Unit) (R:=(List ByteArray)×Unit) (λmE =>
 cond (iLt mE.2.1 (aj mE.2.2.2.2.2.2.2.1))
 (cond (and (bnd mE.2.1 (aj mE.2.2.2.2.2.2.2.1)) (jK (atI mE.2.2.2.2.2.2.2.1 mE.2.1 AV.any)))
 ((self (mE.1,aL (atI mE.2.2.2.2.2.2.2.1 mE.2.1 AV.any),())).bind λa6W =>
 some (.inl (a6W.1,aB .i64 mE.2.1 1,mE.2.2.1,mE.2.2.2.1,mE.2.2.2.2.1,mE.2.2.2.2.2.1,mE.2.2.2.2.2.2.1,mE.2.2.2.2.2.2.2.1,()))) none)
 (some (.inr (mE.1,()))))
 (a6X.1,0,a1.1,a1.2.1,a1.2.2.1,a1.2.2.2.1,a1.2.2.2.2.1,a1.2.2.2.2.2.1,()))
 (aJ (S:=(List ByteArray)×Int×Int×ByteArray×(List ByteArray)×Int×Int×(List AV)×Unit) (R:=(List ByteArray)×Unit) (λmD =>
 cond (iLt mD.2.1 (aj mD.2.2.2.2.2.2.2.1))
 (cond (and (bnd mD.2.1 (aj mD.2.2.2.2.2.2.2.1)) (jK (atI mD.2.2.2.2.2.2.2.1 mD.2.1 AV.any)))
 ((self (mD.1,aL (atI mD.2.2.2.2.2.2.2.1 mD.2.1 AV.any),())).bind λa6V =>
 some (.inl (a6V.1,aB .i64 mD.2.1 1,mD.2.2.1,mD.2.2.2.1,mD.2.2.2.2.1,mD.2.2.2.2.2.1,mD.2.2.2.2.2.2.1,mD.2.2.2.2.2.2.2.1,()))) none)
 (some (.inr (mD.1,()))))
 (a0,0,a1.1,a1.2.1,a1.2.2.1,a1.2.2.2.1,a1.2.2.2.2.1,a1.2.2.2.2.2.1,()))
def Ur(a0:List ByteArray)(a1:DS0):Option ((List ByteArray)×Unit):=bg (λself (x:(List ByteArray)×DS0×Unit)=>zq self x.1 x.2.1) 10000 (a0,a1,())
def a8j:PI:=⟨184,[(.list .str),tS0],[(.list .str)],fun(x:(List ByteArray)×DS0×Unit)=>Ur x.1 x.2.1⟩
theorem a0z:PK a8j:=gP 10000 (ps:=[(.list .str),tS0]) (rs:=[(.list .str)]) (G:=λself (x:(List ByteArray)×DS0×Unit)=>zq self x.1 x.2.1) (iA (f:=Tryz.f184) (by kernel_rfl)) λself hr=>pk (.d 2 (.s (.d 1 (.b (.l [] ⟨28,[(0,(.list .str)),(5,(.int .i64))],[(3,.ptr 0 0 0)],[.box 34 [.d (.int .i64),.d .str,.d (.list .str),.d (.int .i64),.d (.int .i64),.d (.rl 34 6)]]⟩ .o))) .o)) Tryz.func184 (cP hr (cP a0w c0)) (by kernel_rfl) λx=>by kernel_rfl
def Ng(a0:DS0):Option ((List ByteArray)×Unit) :=
 (Ur ([]:List ByteArray) (a0.1,a0.2.1,a0.2.2.1,a0.2.2.2.1,a0.2.2.2.2.1,a0.2.2.2.2.2.1,())).bind λa6U =>
 some (a6U.1,())
def i167:PI:=⟨167,[tS0],[(.list .str)],fun(x:DS0×Unit)=>Ng x.1⟩
theorem a0D:PK i167:=pk .o Tryz.func167 (cP a0z c0) (by kernel_rfl) λx=>by kernel_rfl
def Nn(a0:List DS1):Option ((List Int)×Int×Unit) :=
 cond (sH (aj a0) 1)
 (aJ (S:=(List DS1)×(List Int)×(List Bool)×Unit) (R:=(List Int)×Int×Unit) (λTx =>
 aJ (S:=(List DS1)×Int×Bool×Int×(List Int)×(List Bool)×Unit) (R:=((List DS1)×(List Int)×(List Bool)×Unit)⊕((List Int)×Int×Unit)) (λcu =>
 cond (cond (iLt cu.2.2.2.1 (aj cu.1)) (iLt cu.2.1 0) false)
 (cond (bnd cu.2.2.2.1 (aj cu.1))
 (cond (or (bnd cu.2.2.2.1 (aj cu.2.2.2.2.2.1)) (not (bEq (iNe ((atI cu.1 cu.2.2.2.1 zS1).1) 1) false)))
 (cond (or (inB (Int.toNat cu.2.2.2.1) cu.2.2.2.2.2.1) (not (bEq (iNe ((atI cu.1 cu.2.2.2.1 zS1).1) 1) false)))
 (cond (cond (iNe ((atI cu.1 cu.2.2.2.1 zS1).1) 1) true (List.getD cu.2.2.2.2.2.1 (Int.toNat cu.2.2.2.1) false))
 (some (.inl (cu.1,cu.2.1,cu.2.2.1,aB .i64 cu.2.2.2.1 1,cu.2.2.2.2.1,cu.2.2.2.2.2.1,())))
 (cond (bnd cu.2.2.2.1 (aj cu.1))
 ((Ng ((atI cu.1 cu.2.2.2.1 zS1).2.2.1)).bind λa6T =>
 aJ (S:=(List DS1)×Int×Bool×Int×Bool×(List ByteArray)×Int×(List Int)×(List Bool)×Unit) (R:=((List DS1)×Int×Bool×Int×(List Int)×(List Bool)×Unit)⊕(((List DS1)×(List Int)×(List Bool)×Unit)⊕((List Int)×Int×Unit))) (λdz =>
 cond (iLt dz.2.2.2.2.2.2.1 (aj dz.2.2.2.2.2.1))
 (cond (bnd dz.2.2.2.2.2.2.1 (aj dz.2.2.2.2.2.1))
 ((DY dz.1 (atI dz.2.2.2.2.2.1 dz.2.2.2.2.2.2.1 ByteArray.empty)).bind λDn =>
 cond dz.2.2.2.2.1
 (cond (or (bnd Dn.1 (aj dz.2.2.2.2.2.2.2.2.1)) (not (bEq (not Dn.2.1) false)))
 (cond (or (inB (Int.toNat Dn.1) dz.2.2.2.2.2.2.2.2.1) (not (bEq (not Dn.2.1) false)))
 (some (.inl (dz.1,dz.2.1,dz.2.2.1,dz.2.2.2.1,cond (not Dn.2.1) true (List.getD dz.2.2.2.2.2.2.2.2.1 (Int.toNat Dn.1) false),dz.2.2.2.2.2.1,aB .i64 dz.2.2.2.2.2.2.1 1,dz.2.2.2.2.2.2.2.1,dz.2.2.2.2.2.2.2.2.1,()))) none) none)
 (some (.inl (dz.1,dz.2.1,dz.2.2.1,dz.2.2.2.1,false,dz.2.2.2.2.2.1,aB .i64 dz.2.2.2.2.2.2.1 1,dz.2.2.2.2.2.2.2.1,dz.2.2.2.2.2.2.2.2.1,())))) none)
 (Option.map Sum.inr (cond dz.2.2.2.2.1
 (some (.inl (dz.1,dz.2.2.2.1,dz.2.2.1,aB .i64 dz.2.2.2.1 1,dz.2.2.2.2.2.2.2.1,dz.2.2.2.2.2.2.2.2.1,())))
 (some (.inl (dz.1,dz.2.1,dz.2.2.1,aB .i64 dz.2.2.2.1 1,dz.2.2.2.2.2.2.2.1,dz.2.2.2.2.2.2.2.2.1,()))))))
 (cu.1,cu.2.1,true,cu.2.2.2.1,true,a6T.1,0,cu.2.2.2.2.1,cu.2.2.2.2.2.1,())) none)) none) none) none)
 (Option.map Sum.inr (cond (iLt cu.2.1 0)
 (cond cu.2.2.1
 (some (.inr (([]:List Int),10,())))
 (some (.inr (cu.2.2.2.2.1,0,()))))
 (cond (fits (List.length cu.2.2.2.2.1+List.length ([cu.2.1]:List Int)) 8)
 (cond (bnd cu.2.1 (aj cu.2.2.2.2.2.1))
 (cond (inB (Int.toNat cu.2.1) cu.2.2.2.2.2.1)
 (some (.inl (cu.1,cu.2.2.2.2.1++([cu.2.1]:List Int),List.set cu.2.2.2.2.2.1 (Int.toNat cu.2.1) true,()))) none) none) none))))
 (Tx.1,(-1),false,0,Tx.2.1,Tx.2.2.1,()))
 (a0,([]:List Int),(List.replicate (Int.toNat (aj a0)) false:List Bool),())) none
def i138:PI:=⟨138,[(.list tS1)],[(.list (.int .i64)),(.int .i64)],fun(x:(List DS1)×Unit)=>Nn x.1⟩
theorem a0P:PK i138:=pk (.d 3 (.b (.l [.gh 4 3 (.int .i64)] ⟨84,[(0,(.list tS1))],[(4,.row 0),(5,.row 1)],[.row 3 (.int .i64) false,.row 4 .bool false]⟩ (.b (.d 1 (.s (.d 1 (.b (.l [.gh 4 3 (.int .i64)] ⟨84,[(0,(.list tS1)),(6,(.int .i64)),(7,.bool),(8,(.int .i64))],[(4,.row 0),(5,.row 1)],[.row 3 (.int .i64) false,.row 4 .bool false]⟩ (.d 1 (.s (.b (.d 4 (.s (.d 1 (.b (.l [.gh 4 3 (.int .i64)] ⟨84,[(0,(.list tS1)),(6,(.int .i64)),(7,.bool),(8,(.int .i64)),(9,.bool),(10,(.list .str)),(11,(.int .i64))],[(4,.row 0),(5,.row 1)],[.row 3 (.int .i64) false,.row 4 .bool false]⟩ .o))) .o))) .o))))) .o)))))) Tryz.func138 (cP a0D (cP Iy c0)) (by kernel_rfl) λx=>by kernel_rfl
def Gg(self:((List DS1)×DS0×Int×Unit)->Option (Int×Unit))(a0:List DS1)(a1:DS0)(a2:Int):Option (Int×Unit) :=
 cond (iLt (aj a0) a2)
 (some (2001,()))
 (cond (iEq a1.1 3)
 ((DY a0 a1.2.1).bind λSb =>
 cond Sb.2.1
 (cond (bnd Sb.1 (aj a0))
 ((self (a0,(atI a0 Sb.1 zS1).2.2.1,aB .i64 a2 1,())).bind λa6S =>
 aJ (S:=(List DS1)×Int×Int×Int×Int×ByteArray×(List ByteArray)×Int×Int×(List AV)×Unit) (R:=Int×Unit) (λjk =>
 cond (cond (iLt jk.2.2.2.1 (aj jk.2.2.2.2.2.2.2.2.2.1)) (iLe jk.2.2.1 2000) false)
 (cond (and (bnd jk.2.2.2.1 (aj jk.2.2.2.2.2.2.2.2.2.1)) (jK (atI jk.2.2.2.2.2.2.2.2.2.1 jk.2.2.2.1 AV.any)))
 ((self (jk.1,aL (atI jk.2.2.2.2.2.2.2.2.2.1 jk.2.2.2.1 AV.any),jk.2.1,())).bind λa6R =>
 some (.inl (jk.1,jk.2.1,aB .i64 jk.2.2.1 a6R.1,aB .i64 jk.2.2.2.1 1,jk.2.2.2.2.1,jk.2.2.2.2.2.1,jk.2.2.2.2.2.2.1,jk.2.2.2.2.2.2.2.1,jk.2.2.2.2.2.2.2.2.1,jk.2.2.2.2.2.2.2.2.2.1,()))) none)
 (some (.inr (dG jk.2.2.1 2001,()))))
 (a0,a2,a6S.1,0,a1.1,a1.2.1,a1.2.2.1,a1.2.2.2.1,a1.2.2.2.2.1,a1.2.2.2.2.2.1,())) none)
 (aJ (S:=(List DS1)×Int×Int×Int×Int×ByteArray×(List ByteArray)×Int×Int×(List AV)×Unit) (R:=Int×Unit) (λji =>
 cond (cond (iLt ji.2.2.2.1 (aj ji.2.2.2.2.2.2.2.2.2.1)) (iLe ji.2.2.1 2000) false)
 (cond (and (bnd ji.2.2.2.1 (aj ji.2.2.2.2.2.2.2.2.2.1)) (jK (atI ji.2.2.2.2.2.2.2.2.2.1 ji.2.2.2.1 AV.any)))
 ((self (ji.1,aL (atI ji.2.2.2.2.2.2.2.2.2.1 ji.2.2.2.1 AV.any),ji.2.1,())).bind λa6Q =>
 some (.inl (ji.1,ji.2.1,aB .i64 ji.2.2.1 a6Q.1,aB .i64 ji.2.2.2.1 1,ji.2.2.2.2.1,ji.2.2.2.2.2.1,ji.2.2.2.2.2.2.1,ji.2.2.2.2.2.2.2.1,ji.2.2.2.2.2.2.2.2.1,ji.2.2.2.2.2.2.2.2.2.1,()))) none)
 (some (.inr (dG ji.2.2.1 2001,()))))
 (a0,a2,1,0,a1.1,a1.2.1,a1.2.2.1,a1.2.2.2.1,a1.2.2.2.2.1,a1.2.2.2.2.2.1,())))
 (aJ (S:=(List DS1)×Int×Int×Int×Int×ByteArray×(List ByteArray)×Int×Int×(List AV)×Unit) (R:=Int×Unit) (λjh =>
 cond (cond (iLt jh.2.2.2.1 (aj jh.2.2.2.2.2.2.2.2.2.1)) (iLe jh.2.2.1 2000) false)
 (cond (and (bnd jh.2.2.2.1 (aj jh.2.2.2.2.2.2.2.2.2.1)) (jK (atI jh.2.2.2.2.2.2.2.2.2.1 jh.2.2.2.1 AV.any)))
 ((self (jh.1,aL (atI jh.2.2.2.2.2.2.2.2.2.1 jh.2.2.2.1 AV.any),jh.2.1,())).bind λa6P =>
 some (.inl (jh.1,jh.2.1,aB .i64 jh.2.2.1 a6P.1,aB .i64 jh.2.2.2.1 1,jh.2.2.2.2.1,jh.2.2.2.2.2.1,jh.2.2.2.2.2.2.1,jh.2.2.2.2.2.2.2.1,jh.2.2.2.2.2.2.2.2.1,jh.2.2.2.2.2.2.2.2.2.1,()))) none)
 (some (.inr (dG jh.2.2.1 2001,()))))
 (a0,a2,1,0,a1.1,a1.2.1,a1.2.2.1,a1.2.2.2.1,a1.2.2.2.2.1,a1.2.2.2.2.2.1,())))
def a1B(a0:List DS1)(a1:DS0)(a2:Int):Option (Int×Unit):=bg (λself (x:(List DS1)×DS0×Int×Unit)=>Gg self x.1 x.2.1 x.2.2.1) 10000 (a0,a1,a2,())
def a8l:PI:=⟨169,[(.list tS1),tS0,(.int .i64)],[(.int .i64)],fun(x:(List DS1)×DS0×Int×Unit)=>a1B x.1 x.2.1 x.2.2.1⟩
theorem a0C:PK a8l:=gP 10000 (ps:=[(.list tS1),tS0,(.int .i64)]) (rs:=[(.int .i64)]) (G:=λself (x:(List DS1)×DS0×Int×Unit)=>Gg self x.1 x.2.1 x.2.2.1) (iA (f:=Tryz.f169) (by kernel_rfl)) λself hr=>pk (.d 2 (.s (.d 1 (.c (.d 2 (.c (.d 1 (.s (.d 1 (.b (.l [] ⟨83,[(0,(.list tS1)),(2,(.int .i64)),(9,(.int .i64)),(10,(.int .i64))],[(4,.ptr 0 0 0)],[.box 34 [.d (.int .i64),.d .str,.d (.list .str),.d (.int .i64),.d (.int .i64),.d (.rl 34 6)]]⟩ .o))) .o)) .o)) .o)) (.d 1 (.s (.d 1 (.b (.l [] ⟨83,[(0,(.list tS1)),(2,(.int .i64)),(11,(.int .i64)),(12,(.int .i64))],[(4,.ptr 0 0 0)],[.box 34 [.d (.int .i64),.d .str,.d (.list .str),.d (.int .i64),.d (.int .i64),.d (.rl 34 6)]]⟩ .o))) .o)))) Tryz.func169 (cP hr (cP Iy c0)) (by kernel_rfl) λx=>by kernel_rfl
def IZ(a0:List DS1)(a1:DS0):Option (Int×Unit) :=
 (a1B a0 (a1.1,a1.2.1,a1.2.2.1,a1.2.2.2.1,a1.2.2.2.2.1,a1.2.2.2.2.2.1,()) 0).bind λa6O =>
 some (a6O.1,())
def i139:PI:=⟨139,[(.list tS1),tS0],[(.int .i64)],fun(x:(List DS1)×DS0×Unit)=>IZ x.1 x.2.1⟩
theorem Qb:PK i139:=pk .o Tryz.func139 (cP a0C c0) (by kernel_rfl) λx=>by kernel_rfl
def Gn(self:((List DS1)×(List AV)×Unit)->Option (Bool×Unit))(a0:List DS1)(a1:List AV):Option (Bool×Unit) :=
 aJ (S:=(List DS1)×(List AV)×Int×Unit) (R:=Bool×Unit) (λkR =>
 cond (iLt kR.2.2.1 (aj kR.2.1))
 (cond (and (bnd kR.2.2.1 (aj kR.2.1)) (eu (atI kR.2.1 kR.2.2.1 AV.any)))
 ((IZ kR.1 ((ay (atI kR.2.1 kR.2.2.1 AV.any)).2.1)).bind λZj =>
 cond (or (and (bnd kR.2.2.1 (aj kR.2.1)) (eu (atI kR.2.1 kR.2.2.1 AV.any))) (not (bEq (iLt 2000 Zj.1) false)))
 (cond (iLt 2000 Zj.1)
 (some (.inr (true,())))
 ((self (kR.1,(ay (atI kR.2.1 kR.2.2.1 AV.any)).2.2.1,())).bind λa6N =>
 cond a6N.1
 (some (.inr (true,())))
 (some (.inl (kR.1,kR.2.1,aB .i64 kR.2.2.1 1,()))))) none) none)
 (some (.inr (false,()))))
 (a0,a1,0,())
def a1G(a0:List DS1)(a1:List AV):Option (Bool×Unit):=bg (λself (x:(List DS1)×(List AV)×Unit)=>Gn self x.1 x.2.1) 10000 (a0,a1,())
def a8t:PI:=⟨140,[(.list tS1),(.rl 63 8)],[.bool],fun(x:(List DS1)×(List AV)×Unit)=>a1G x.1 x.2.1⟩
theorem a0O:PK a8t:=gP 10000 (ps:=[(.list tS1),(.rl 63 8)]) (rs:=[.bool]) (G:=λself (x:(List DS1)×(List AV)×Unit)=>Gn self x.1 x.2.1) (iA (f:=Tryz.f140) (by kernel_rfl)) λself hr=>pk (.d 1 (.s (.d 1 (.b (.l [] ⟨29,[(0,(.list tS1)),(1,(.rl 63 8)),(5,(.int .i64))],[],[]⟩ .o))) .o)) Tryz.func140 (cP hr (cP Qb c0)) (by kernel_rfl) λx=>by kernel_rfl
def m89(a0:DS6)(a1:List DS1):Option (Int×Int×Unit) :=
 (Np (a0.1,())).bind λZi =>
 cond (iNe Zi.1 0)
 (some (0,Zi.1,()))
 (cond (iLt 100 (aj a1))
 (some (0,4,()))
 (aJ (S:=(List DS1)×Int×(List DS5)×Unit) (R:=Int×Int×Unit) (λdF =>
 cond (iLt dF.2.1 (aj dF.1))
 (cond (bnd dF.2.1 (aj dF.1))
 ((m56 (atI dF.1 dF.2.1 zS1)).bind λa6M =>
 cond (not a6M.1)
 (some (.inr (dF.2.1,5,())))
 (cond (bnd dF.2.1 (aj dF.1))
 ((m9 dF.1 ((atI dF.1 dF.2.1 zS1).2.1)).bind λa6L =>
 cond (iLt a6L.1 dF.2.1)
 (some (.inr (dF.2.1,8,())))
 (cond (bnd dF.2.1 (aj dF.1))
 ((J2 (dF.2.2.1,()) ((atI dF.1 dF.2.1 zS1).2.1)).bind λa6K =>
 cond a6K.2.1
 (some (.inr (dF.2.1,8,())))
 (cond (bnd dF.2.1 (aj dF.1))
 ((Uu (dF.2.2.1,()) dF.1 ((atI dF.1 dF.2.1 zS1).2.2.1)).bind λZh =>
 cond (iNe Zh.1 0)
 (some (.inr (dF.2.1,Zh.1,())))
 (cond (bnd dF.2.1 (aj dF.1))
 ((a1H (dF.2.2.1,()) dF.1 ((atI dF.1 dF.2.1 zS1).2.2.2.1)).bind λZg =>
 cond (iNe Zg.1 0)
 (some (.inr (dF.2.1,Zg.1,())))
 (some (.inl (dF.1,aB .i64 dF.2.1 1,dF.2.2.1,())))) none)) none)) none)) none)) none)
 (Option.map Sum.inr ((Nn dF.1).bind λZf =>
 cond (iNe Zf.2.1 0)
 (some (0,Zf.2.1,()))
 (aJ (S:=(List DS1)×Int×Unit) (R:=Int×Int×Unit) (λnD =>
 cond (iLt nD.2.1 (aj nD.1))
 (cond (bnd nD.2.1 (aj nD.1))
 ((IZ nD.1 ((atI nD.1 nD.2.1 zS1).2.2.1)).bind λZe =>
 cond (or (bnd nD.2.1 (aj nD.1)) (not (bEq (iLt 2000 Ze.1) false)))
 (cond (iLt 2000 Ze.1)
 (some (.inr (nD.2.1,4,())))
 ((a1G nD.1 ((atI nD.1 nD.2.1 zS1).2.2.2.1)).bind λa6J =>
 cond a6J.1
 (some (.inr (nD.2.1,4,())))
 (some (.inl (nD.1,aB .i64 nD.2.1 1,()))))) none) none)
 (some (.inr (0,0,()))))
 (dF.1,0,())))))
 (a1,0,a0.1,())))
def i89:PI:=⟨89,[tS6,(.list tS1)],[(.int .i64),(.int .i64)],fun(x:DS6×(List DS1)×Unit)=>m89 x.1 x.2.1⟩
theorem VQ:PK i89:=pk (.d 3 (.s (.d 1 (.b (.l [] ⟨120,[(1,(.list tS1)),(7,(.int .i64))],[(2,.ptr 0 0 0)],[.box 59 [.d (.list tS5)]]⟩ .o))) (.d 1 (.s (.d 1 (.b (.l [] ⟨120,[(1,(.list tS1)),(16,(.int .i64))],[],[]⟩ .o))) .o)))) Tryz.func89 (cP a0R (cP Qd (cP Qc (cP a0Q (cP a0P (cP Qb (cP a0O (cP VY (cP a0v c0))))))))) (by kernel_rfl) λx=>by kernel_rfl
def Cr(a0:DS6)(a1:List Int)(a2:Int)(a3:List ByteArray):Option (DS0×(List Int)×Int×(List ByteArray)×Unit) :=
 cond (iLt 0 (aj a3))
 ((m24 3 a1 a2).bind λH6 =>
 cond (iEq H6.1 0)
 ((m24 (aj a3) H6.2.1 H6.2.2.1).bind λGZ =>
 cond (bnd GZ.1 (aj a3))
 (cond (inB (Int.toNat GZ.1) a3)
 (some ((3,List.getD a3 (Int.toNat GZ.1) ByteArray.empty,([]:List ByteArray),0,0,([]:List AV),()),GZ.2.1,GZ.2.2.1,a3,())) none) none)
 ((m24 (aj a0.1) H6.2.1 H6.2.2.1).bind λdY =>
 cond (bnd dY.1 (aj a0.1))
 (cond (iEq ((atI a0.1 dY.1 zS5).2.1) 3)
 (some ((3,(atI a0.1 dY.1 zS5).1,([]:List ByteArray),0,0,([]:List AV),()),dY.2.1,dY.2.2.1,a3,()))
 (cond (iEq ((atI a0.1 dY.1 zS5).2.1) 1)
 ((m24 (aj ((atI a0.1 dY.1 zS5).2.2.1)) dY.2.1 dY.2.2.1).bind λS9 =>
 (m88 1 (aj ((atI a0.1 dY.1 zS5).2.2.1)) S9.2.1 S9.2.2.1).bind λRZ =>
 aJ (S:=Int×Int×(List Int)×Int×(List ByteArray)×Int×ByteArray×Int×Int×ByteArray×Int×(List ByteArray)×Int×Int×Int×ByteArray×Int×Int×(List ByteArray)×Unit) (R:=DS0×(List Int)×Int×(List ByteArray)×Unit) (λdD =>
 cond (iLt 0 dD.2.1)
 (cond (iNe (aj dD.2.2.2.2.2.2.2.2.2.2.2.1) 0)
 (cond (bnd (eY dD.1 (aj dD.2.2.2.2.2.2.2.2.2.2.2.1)) (aj dD.2.2.2.2.2.2.2.2.2.2.2.1))
 (cond (fits (List.length dD.2.2.2.2.2.2.2.2.2.2.2.2.2.2.2.2.2.2.1+List.length ([atI dD.2.2.2.2.2.2.2.2.2.2.2.1 (eY dD.1 (aj dD.2.2.2.2.2.2.2.2.2.2.2.1)) ByteArray.empty]:List ByteArray)) 16)
 (some (.inl (aB .i64 dD.1 1,bf .i64 dD.2.1 1,dD.2.2.1,dD.2.2.2.1,dD.2.2.2.2.1,dD.2.2.2.2.2.1,dD.2.2.2.2.2.2.1,dD.2.2.2.2.2.2.2.1,dD.2.2.2.2.2.2.2.2.1,dD.2.2.2.2.2.2.2.2.2.1,dD.2.2.2.2.2.2.2.2.2.2.1,dD.2.2.2.2.2.2.2.2.2.2.2.1,dD.2.2.2.2.2.2.2.2.2.2.2.2.1,dD.2.2.2.2.2.2.2.2.2.2.2.2.2.1,dD.2.2.2.2.2.2.2.2.2.2.2.2.2.2.1,dD.2.2.2.2.2.2.2.2.2.2.2.2.2.2.2.1,dD.2.2.2.2.2.2.2.2.2.2.2.2.2.2.2.2.1,dD.2.2.2.2.2.2.2.2.2.2.2.2.2.2.2.2.2.1,dD.2.2.2.2.2.2.2.2.2.2.2.2.2.2.2.2.2.2.1++([atI dD.2.2.2.2.2.2.2.2.2.2.2.1 (eY dD.1 (aj dD.2.2.2.2.2.2.2.2.2.2.2.1)) ByteArray.empty]:List ByteArray),()))) none) none) none)
 (some (.inr ((dD.2.2.2.2.2.2.2.2.2.2.2.2.2.2.1,dD.2.2.2.2.2.2.2.2.2.2.2.2.2.2.2.1,dD.2.2.2.2.2.2.2.2.2.2.2.2.2.2.2.2.2.2.1,dD.2.2.2.2.2.2.2.2.2.2.2.2.2.2.2.2.1,dD.2.2.2.2.2.2.2.2.2.2.2.2.2.2.2.2.2.1,([]:List AV),()),dD.2.2.1,dD.2.2.2.1,dD.2.2.2.2.1,()))))
 (S9.1,RZ.1,RZ.2.1,RZ.2.2.1,a3,0,(bs []),0,0,(atI a0.1 dY.1 zS5).1,(atI a0.1 dY.1 zS5).2.1,(atI a0.1 dY.1 zS5).2.2.1,(atI a0.1 dY.1 zS5).2.2.2.1,(atI a0.1 dY.1 zS5).2.2.2.2.1,4,(atI a0.1 dY.1 zS5).1,0,0,([]:List ByteArray),()))
 ((m24 (aB .i64 (bf .i64 ((atI a0.1 dY.1 zS5).2.2.2.2.1) ((atI a0.1 dY.1 zS5).2.2.2.1)) 1) dY.2.1 dY.2.2.1).bind λRY =>
 jW (S:=Int×(List Int)×Int×(List ByteArray)×Int×ByteArray×Int×Int×ByteArray×Int×(List ByteArray)×Int×Int×Unit) (R:=DS0×(List Int)×Int×(List ByteArray)×Unit)
 ((m24 2 RY.2.1 RY.2.2.1).bind λGY =>
 cond (iEq GY.1 0)
 ((m24 12 GY.2.1 GY.2.2.1).bind λRX =>
 some (.inl (dG (uV (bf .i64 RX.1 4) ((atI a0.1 dY.1 zS5).2.2.2.1)) ((atI a0.1 dY.1 zS5).2.2.2.2.1),RX.2.1,RX.2.2.1,a3,0,(bs []),0,0,(atI a0.1 dY.1 zS5).1,(atI a0.1 dY.1 zS5).2.1,(atI a0.1 dY.1 zS5).2.2.1,(atI a0.1 dY.1 zS5).2.2.2.1,(atI a0.1 dY.1 zS5).2.2.2.2.1,())))
 (some (.inl (aB .i64 ((atI a0.1 dY.1 zS5).2.2.2.1) RY.1,GY.2.1,GY.2.2.1,a3,0,(bs []),0,0,(atI a0.1 dY.1 zS5).1,(atI a0.1 dY.1 zS5).2.1,(atI a0.1 dY.1 zS5).2.2.1,(atI a0.1 dY.1 zS5).2.2.2.1,(atI a0.1 dY.1 zS5).2.2.2.2.1,()))))
 (λqD =>
 (m24 (aB .i64 (bf .i64 qD.2.2.2.2.2.2.2.2.2.2.2.2.1 qD.1) 1) qD.2.1 qD.2.2.1).bind λRU =>
 (m24 2 RU.2.1 RU.2.2.1).bind λGV =>
 cond (iEq GV.1 0)
 ((m24 4 GV.2.1 GV.2.2.1).bind λRS =>
 some ((5,qD.2.2.2.2.2.2.2.2.1,([]:List ByteArray),qD.1,dG (aB .i64 qD.1 RS.1) qD.2.2.2.2.2.2.2.2.2.2.2.2.1,([]:List AV),()),RS.2.1,RS.2.2.1,qD.2.2.2.1,()))
 (some ((5,qD.2.2.2.2.2.2.2.2.1,([]:List ByteArray),qD.1,aB .i64 qD.1 RU.1,([]:List AV),()),GV.2.1,GV.2.2.1,qD.2.2.2.1,())))))) none))
 ((m24 (aj a0.1) a1 a2).bind λaZ =>
 cond (bnd aZ.1 (aj a0.1))
 (cond (iEq ((atI a0.1 aZ.1 zS5).2.1) 3)
 (some ((3,(atI a0.1 aZ.1 zS5).1,([]:List ByteArray),0,0,([]:List AV),()),aZ.2.1,aZ.2.2.1,a3,()))
 (cond (iEq ((atI a0.1 aZ.1 zS5).2.1) 1)
 ((m24 (aj ((atI a0.1 aZ.1 zS5).2.2.1)) aZ.2.1 aZ.2.2.1).bind λAb =>
 (m88 1 (aj ((atI a0.1 aZ.1 zS5).2.2.1)) Ab.2.1 Ab.2.2.1).bind λAa =>
 aJ (S:=Int×Int×(List Int)×Int×(List ByteArray)×Int×ByteArray×Int×Int×ByteArray×Int×(List ByteArray)×Int×Int×Int×ByteArray×Int×Int×(List ByteArray)×Unit) (R:=DS0×(List Int)×Int×(List ByteArray)×Unit) (λaU =>
 cond (iLt 0 aU.2.1)
 (cond (iNe (aj aU.2.2.2.2.2.2.2.2.2.2.2.1) 0)
 (cond (bnd (eY aU.1 (aj aU.2.2.2.2.2.2.2.2.2.2.2.1)) (aj aU.2.2.2.2.2.2.2.2.2.2.2.1))
 (cond (fits (List.length aU.2.2.2.2.2.2.2.2.2.2.2.2.2.2.2.2.2.2.1+List.length ([atI aU.2.2.2.2.2.2.2.2.2.2.2.1 (eY aU.1 (aj aU.2.2.2.2.2.2.2.2.2.2.2.1)) ByteArray.empty]:List ByteArray)) 16)
 (some (.inl (aB .i64 aU.1 1,bf .i64 aU.2.1 1,aU.2.2.1,aU.2.2.2.1,aU.2.2.2.2.1,aU.2.2.2.2.2.1,aU.2.2.2.2.2.2.1,aU.2.2.2.2.2.2.2.1,aU.2.2.2.2.2.2.2.2.1,aU.2.2.2.2.2.2.2.2.2.1,aU.2.2.2.2.2.2.2.2.2.2.1,aU.2.2.2.2.2.2.2.2.2.2.2.1,aU.2.2.2.2.2.2.2.2.2.2.2.2.1,aU.2.2.2.2.2.2.2.2.2.2.2.2.2.1,aU.2.2.2.2.2.2.2.2.2.2.2.2.2.2.1,aU.2.2.2.2.2.2.2.2.2.2.2.2.2.2.2.1,aU.2.2.2.2.2.2.2.2.2.2.2.2.2.2.2.2.1,aU.2.2.2.2.2.2.2.2.2.2.2.2.2.2.2.2.2.1,aU.2.2.2.2.2.2.2.2.2.2.2.2.2.2.2.2.2.2.1++([atI aU.2.2.2.2.2.2.2.2.2.2.2.1 (eY aU.1 (aj aU.2.2.2.2.2.2.2.2.2.2.2.1)) ByteArray.empty]:List ByteArray),()))) none) none) none)
 (some (.inr ((aU.2.2.2.2.2.2.2.2.2.2.2.2.2.2.1,aU.2.2.2.2.2.2.2.2.2.2.2.2.2.2.2.1,aU.2.2.2.2.2.2.2.2.2.2.2.2.2.2.2.2.2.2.1,aU.2.2.2.2.2.2.2.2.2.2.2.2.2.2.2.2.1,aU.2.2.2.2.2.2.2.2.2.2.2.2.2.2.2.2.2.1,([]:List AV),()),aU.2.2.1,aU.2.2.2.1,aU.2.2.2.2.1,()))))
 (Ab.1,Aa.1,Aa.2.1,Aa.2.2.1,a3,0,(bs []),0,0,(atI a0.1 aZ.1 zS5).1,(atI a0.1 aZ.1 zS5).2.1,(atI a0.1 aZ.1 zS5).2.2.1,(atI a0.1 aZ.1 zS5).2.2.2.1,(atI a0.1 aZ.1 zS5).2.2.2.2.1,4,(atI a0.1 aZ.1 zS5).1,0,0,([]:List ByteArray),()))
 ((m24 (aB .i64 (bf .i64 ((atI a0.1 aZ.1 zS5).2.2.2.2.1) ((atI a0.1 aZ.1 zS5).2.2.2.1)) 1) aZ.2.1 aZ.2.2.1).bind λA9 =>
 jW (S:=Int×(List Int)×Int×(List ByteArray)×Int×ByteArray×Int×Int×ByteArray×Int×(List ByteArray)×Int×Int×Unit) (R:=DS0×(List Int)×Int×(List ByteArray)×Unit)
 ((m24 2 A9.2.1 A9.2.2.1).bind λsV =>
 cond (iEq sV.1 0)
 ((m24 12 sV.2.1 sV.2.2.1).bind λA8 =>
 some (.inl (dG (uV (bf .i64 A8.1 4) ((atI a0.1 aZ.1 zS5).2.2.2.1)) ((atI a0.1 aZ.1 zS5).2.2.2.2.1),A8.2.1,A8.2.2.1,a3,0,(bs []),0,0,(atI a0.1 aZ.1 zS5).1,(atI a0.1 aZ.1 zS5).2.1,(atI a0.1 aZ.1 zS5).2.2.1,(atI a0.1 aZ.1 zS5).2.2.2.1,(atI a0.1 aZ.1 zS5).2.2.2.2.1,())))
 (some (.inl (aB .i64 ((atI a0.1 aZ.1 zS5).2.2.2.1) A9.1,sV.2.1,sV.2.2.1,a3,0,(bs []),0,0,(atI a0.1 aZ.1 zS5).1,(atI a0.1 aZ.1 zS5).2.1,(atI a0.1 aZ.1 zS5).2.2.1,(atI a0.1 aZ.1 zS5).2.2.2.1,(atI a0.1 aZ.1 zS5).2.2.2.2.1,()))))
 (λgQ =>
 (m24 (aB .i64 (bf .i64 gQ.2.2.2.2.2.2.2.2.2.2.2.2.1 gQ.1) 1) gQ.2.1 gQ.2.2.1).bind λzZ =>
 (m24 2 zZ.2.1 zZ.2.2.1).bind λsU =>
 cond (iEq sU.1 0)
 ((m24 4 sU.2.1 sU.2.2.1).bind λzY =>
 some ((5,gQ.2.2.2.2.2.2.2.2.1,([]:List ByteArray),gQ.1,dG (aB .i64 gQ.1 zY.1) gQ.2.2.2.2.2.2.2.2.2.2.2.2.1,([]:List AV),()),zY.2.1,zY.2.2.1,gQ.2.2.2.1,()))
 (some ((5,gQ.2.2.2.2.2.2.2.2.1,([]:List ByteArray),gQ.1,aB .i64 gQ.1 zZ.1,([]:List AV),()),sU.2.1,sU.2.2.1,gQ.2.2.2.1,())))))) none)
def UE:Sh:=⟨3,[(1,tS6)],[(0,.ptr 0 0 0),(2,.row 1)],[.box 65 [.d (.list (.int .i64)),.d (.int .i64)],.row 9 .str false]⟩
def TY:Sh:=⟨1,[(0,tS0)],[],[.box 65 [.d (.list (.int .i64)),.d (.int .i64)],.row 9 .str false]⟩
def a2a:HI:=⟨164,UE,TY,fun(x:DS6×(List Int)×Int×(List ByteArray)×Unit)=>Cr x.1 x.2.1 x.2.2.1 x.2.2.2.1,[1]⟩
theorem U9:HK a2a:=hkz (.d 2 (.s (.u [0]) (.s (.d 1 (.b (.d 1 (.c .o (.d 1 (.c (.d 2 (.s (.d 1 (.b (.l [.ghc 8 2 9 .str] ⟨128,[(9,(.int .i64)),(10,(.int .i64))],[(6,.ptr 2 0 0),(7,.ptr 3 0 0),(8,.ptr 4 0 0)],[.box 65 [.d (.list (.int .i64)),.d (.int .i64)],.row 9 .str false,.box 34 [.d (.int .i64),.d .str,.nil,.d (.int .i64),.d (.int .i64),.nil],.box 106 [.d .str,.d (.int .i64),.d (.list .str),.d (.int .i64),.d (.int .i64)],.box 34 [.d (.int .i64),.d .str,.row 5,.d (.int .i64),.d (.int .i64),.nil],.row 9 .str false]⟩ .o))) .o)) .o)))))) (.s (.u [0]) (.j [] ⟨128,[(11,(.int .i64))],[(0,.ptr 0 0 0),(6,.ptr 2 0 0),(7,.ptr 3 0 0)],[.box 65 [.d (.list (.int .i64)),.d (.int .i64)],.row 9 .str false,.box 34 [.d (.int .i64),.d .str,.nil,.d (.int .i64),.d (.int .i64),.nil],.box 106 [.d .str,.d (.int .i64),.d (.list .str),.d (.int .i64),.d (.int .i64)]]⟩ (.d 1 (.c (.u [0]) .o)) (.d 1 (.s (.d 1 (.c (.u [0]) .o)) .o))))))) [] tS0 Tryz.func164 (cH ni (cH Ci c0)) (by kernel_rfl) λx=>by kernel_rfl
def zw(self:(DS6×Int×(List Int)×Int×(List ByteArray)×Unit)->Option (DS0×(List Int)×Int×(List ByteArray)×Unit))(a0:DS6)(a1:Int)(a2:List Int)(a3:Int)(a4:List ByteArray):Option (DS0×(List Int)×Int×(List ByteArray)×Unit) :=
 (m24 8 a2 a3).bind λvU =>
 cond (cond (iLt a1 2) true (iLt vU.1 4))
 ((m24 12 vU.2.1 vU.2.2.1).bind λwX =>
 cond (iEq wX.1 10)
 (some ((1,(bs []),([]:List ByteArray),0,0,([]:List AV),()),wX.2.1,wX.2.2.1,a4,()))
 (cond (iEq wX.1 11)
 (some ((2,(bs []),([]:List ByteArray),0,0,([]:List AV),()),wX.2.1,wX.2.2.1,a4,()))
 ((Cr (a0.1,()) wX.2.1 wX.2.2.1 a4).bind λuN =>
 cond (and (Nat.beq (List.length a4) (List.length uN.2.2.2.1)) true)
 (some ((uN.1.1,uN.1.2.1,uN.1.2.2.1,uN.1.2.2.2.1,uN.1.2.2.2.2.1,uN.1.2.2.2.2.2.1,()),uN.2.1,uN.2.2.1,uN.2.2.2.1,())) none)))
 (cond (iLt vU.1 6)
 ((self ((a0.1,()),bf .i64 a1 1,vU.2.1,vU.2.2.1,a4,())).bind λGU =>
 cond (and (Nat.beq (List.length a4) (List.length GU.2.2.2.1)) true)
 (some ((6,(bs []),([]:List ByteArray),0,0,pF ([GU.1]:List DS0),()),GU.2.1,GU.2.2.1,GU.2.2.2.1,())) none)
 ((m88 2 3 vU.2.1 vU.2.2.1).bind λRQ =>
 aJ (S:=Int×Int×(List Int)×Int×(List ByteArray)×(List DS5)×Int×ByteArray×Int×Int×Int×ByteArray×Int×Int×(List DS0)×Unit) (R:=DS0×(List Int)×Int×(List ByteArray)×Unit) (λfZ =>
 cond (iLt 0 fZ.2.1)
 ((self ((fZ.2.2.2.2.2.1,()),bf .i64 fZ.1 1,fZ.2.2.1,fZ.2.2.2.1,fZ.2.2.2.2.1,())).bind λDm =>
 cond (and (Nat.beq (List.length fZ.2.2.2.2.1) (List.length Dm.2.2.2.1)) true)
 (cond (fits (List.length fZ.2.2.2.2.2.2.2.2.2.2.2.2.2.2.1+List.length ([Dm.1]:List DS0)) 88)
 (some (.inl (fZ.1,bf .i64 fZ.2.1 1,Dm.2.1,Dm.2.2.1,Dm.2.2.2.1,fZ.2.2.2.2.2.1,fZ.2.2.2.2.2.2.1,fZ.2.2.2.2.2.2.2.1,fZ.2.2.2.2.2.2.2.2.1,fZ.2.2.2.2.2.2.2.2.2.1,fZ.2.2.2.2.2.2.2.2.2.2.1,fZ.2.2.2.2.2.2.2.2.2.2.2.1,fZ.2.2.2.2.2.2.2.2.2.2.2.2.1,fZ.2.2.2.2.2.2.2.2.2.2.2.2.2.1,fZ.2.2.2.2.2.2.2.2.2.2.2.2.2.2.1++([Dm.1]:List DS0),()))) none) none)
 (some (.inr ((fZ.2.2.2.2.2.2.2.2.2.2.1,fZ.2.2.2.2.2.2.2.2.2.2.2.1,([]:List ByteArray),fZ.2.2.2.2.2.2.2.2.2.2.2.2.1,fZ.2.2.2.2.2.2.2.2.2.2.2.2.2.1,pF fZ.2.2.2.2.2.2.2.2.2.2.2.2.2.2.1,()),fZ.2.2.1,fZ.2.2.2.1,fZ.2.2.2.2.1,()))))
 (a1,RQ.1,RQ.2.1,RQ.2.2.1,a4,a0.1,0,(bs []),0,0,aB .i64 vU.1 1,(bs []),0,0,([]:List DS0),())))
def yu(a0:DS6)(a1:Int)(a2:List Int)(a3:Int)(a4:List ByteArray):Option (DS0×(List Int)×Int×(List ByteArray)×Unit):=bg (λself (x:DS6×Int×(List Int)×Int×(List ByteArray)×Unit)=>zw self x.1 x.2.1 x.2.2.1 x.2.2.2.1 x.2.2.2.2.1) 10000 (a0,a1,a2,a3,a4,())
def Ja:Sh:=⟨4,[(1,tS6),(3,(.int .i64))],[(0,.ptr 0 0 0),(2,.row 1)],[.box 65 [.d (.list (.int .i64)),.d (.int .i64)],.row 9 .str false]⟩
def Iq:Sh:=⟨1,[(0,tS0)],[],[.box 65 [.d (.list (.int .i64)),.d (.int .i64)],.row 9 .str false]⟩
def a2c:HI:=⟨131,Ja,Iq,fun(x:DS6×Int×(List Int)×Int×(List ByteArray)×Unit)=>yu x.1 x.2.1 x.2.2.1 x.2.2.2.1 x.2.2.2.2.1,[1]⟩
theorem IB:HK a2c:=qF 10000 (ish:=Ja) (osh:=Iq) (G:=λself (x:DS6×Int×(List Int)×Int×(List ByteArray)×Unit)=>zw self x.1 x.2.1 x.2.2.1 x.2.2.2.1 x.2.2.2.2.1) (iA (f:=Tryz.f131) (by kernel_rfl)) λself hr=>hkz (.d 4 (.s (.d 1 (.b (.l [.ghc 10 5 34 tS0] ⟨65,[(3,(.int .i64)),(11,(.int .i64))],[(0,.ptr 0 0 0),(2,.row 1),(5,.ptr 2 0 0),(8,.ptr 3 0 0),(10,.ptr 4 0 0)],[.box 65 [.d (.list (.int .i64)),.d (.int .i64)],.row 9 .str false,.box 59 [.d (.list tS5)],.box 34 [.d (.int .i64),.d .str,.nil,.d (.int .i64),.d (.int .i64),.nil],.box 34 [.d (.int .i64),.d .str,.nil,.d (.int .i64),.d (.int .i64),.row 5],.row 34 tS0 false]⟩ (.d 1 (.s (.b (.u [0,1])) .o))))) .o)) [] tS0 Tryz.func131 (cH hr (cH U9 (cH ni (cH Ci c0)))) (by kernel_rfl) λx=>by kernel_rfl
def zu(self:(DS6×Int×(List Int)×Int×(List ByteArray)×Unit)->Option ((List AV)×(List Int)×Int×(List ByteArray)×Unit))(a0:DS6)(a1:Int)(a2:List Int)(a3:Int)(a4:List ByteArray):Option ((List AV)×(List Int)×Int×(List ByteArray)×Unit) :=
 (m24 3 a2 a3).bind λRO =>
 aJ (S:=Int×Int×(List Int)×Int×(List ByteArray)×(List DS5)×(List DS7)×Unit) (R:=(List AV)×(List Int)×Int×(List ByteArray)×Unit) (λlK =>
 cond (cond (iLt 0 lK.2.1) (iLt 0 lK.1) false)
 ((m24 3 lK.2.2.1 lK.2.2.2.1).bind λGR =>
 cond (bnd GR.1 (aj ([(bs [119]),(bs [120]),(bs [121])]:List ByteArray)))
 ((yu (lK.2.2.2.2.2.1,()) 2 GR.2.1 GR.2.2.1 lK.2.2.2.2.1).bind λmh =>
 cond (and (Nat.beq (List.length lK.2.2.2.2.1) (List.length mh.2.2.2.1)) true)
 ((self ((lK.2.2.2.2.2.1,()),bf .i64 lK.1 1,mh.2.1,mh.2.2.1,mh.2.2.2.1,())).bind λDl =>
 cond (and (Nat.beq (List.length mh.2.2.2.1) (List.length Dl.2.2.2.1)) true)
 (cond (fits (List.length lK.2.2.2.2.2.2.1+List.length ([(atI ([(bs [119]),(bs [120]),(bs [121])]:List ByteArray) GR.1 ByteArray.empty,(mh.1.1,mh.1.2.1,mh.1.2.2.1,mh.1.2.2.2.1,mh.1.2.2.2.2.1,mh.1.2.2.2.2.2.1,()),Dl.1,())]:List DS7)) 128)
 (some (.inl (lK.1,bf .i64 lK.2.1 1,Dl.2.1,Dl.2.2.1,Dl.2.2.2.1,lK.2.2.2.2.2.1,lK.2.2.2.2.2.2.1++([(atI ([(bs [119]),(bs [120]),(bs [121])]:List ByteArray) GR.1 ByteArray.empty,(mh.1.1,mh.1.2.1,mh.1.2.2.1,mh.1.2.2.2.1,mh.1.2.2.2.2.1,mh.1.2.2.2.2.2.1,()),Dl.1,())]:List DS7),()))) none) none) none) none)
 (some (.inr (zG lK.2.2.2.2.2.2.1,lK.2.2.1,lK.2.2.2.1,lK.2.2.2.2.1,()))))
 (a1,RO.1,RO.2.1,RO.2.2.1,a4,a0.1,([]:List DS7),())
def Ct(a0:DS6)(a1:Int)(a2:List Int)(a3:Int)(a4:List ByteArray):Option ((List AV)×(List Int)×Int×(List ByteArray)×Unit):=bg (λself (x:DS6×Int×(List Int)×Int×(List ByteArray)×Unit)=>zu self x.1 x.2.1 x.2.2.1 x.2.2.2.1 x.2.2.2.2.1) 10000 (a0,a1,a2,a3,a4,())
def J9:Sh:=⟨4,[(1,tS6),(3,(.int .i64))],[(0,.ptr 0 0 0),(2,.row 1)],[.box 65 [.d (.list (.int .i64)),.d (.int .i64)],.row 9 .str false]⟩
def Ip:Sh:=⟨1,[(0,(.rl 63 8))],[],[.box 65 [.d (.list (.int .i64)),.d (.int .i64)],.row 9 .str false]⟩
def a2b:HI:=⟨132,J9,Ip,fun(x:DS6×Int×(List Int)×Int×(List ByteArray)×Unit)=>Ct x.1 x.2.1 x.2.2.1 x.2.2.2.1 x.2.2.2.2.1,[1]⟩
theorem Ua:HK a2b:=qF 10000 (ish:=J9) (osh:=Ip) (G:=λself (x:DS6×Int×(List Int)×Int×(List ByteArray)×Unit)=>zu self x.1 x.2.1 x.2.2.1 x.2.2.2.1 x.2.2.2.2.1) (iA (f:=Tryz.f132) (by kernel_rfl)) λself hr=>hkz (.d 2 (.s (.d 1 (.b (.l [.gh 9 63 tS7] ⟨41,[(3,(.int .i64)),(10,(.int .i64))],[(0,.ptr 0 0 0),(2,.row 1),(5,.ptr 2 0 0),(9,.row 3)],[.box 65 [.d (.list (.int .i64)),.d (.int .i64)],.row 9 .str false,.box 59 [.d (.list tS5)],.row 63 tS7 false]⟩ (.d 1 (.s (.b (.u [0,1])) .o))))) .o)) [] (.rl 63 8) Tryz.func132 (cH hr (cH IB (cH ni c0))) (by kernel_rfl) λx=>by kernel_rfl
def Cq(a0:DS6)(a1:Int)(a2:ByteArray)(a3:List Int)(a4:Int)(a5:List ByteArray):Option (DS1×(List Int)×Int×(List ByteArray)×Unit) :=
 (yu (a0.1,()) 3 a3 a4 a5).bind λdO =>
 cond (and (Nat.beq (List.length a5) (List.length dO.2.2.2.1)) true)
 (cond (iEq a1 3)
 ((Ct (a0.1,()) 2 dO.2.1 dO.2.2.1 dO.2.2.2.1).bind λvS =>
 cond (and (Nat.beq (List.length dO.2.2.2.1) (List.length vS.2.2.2.1)) true)
 ((rQ a1).bind λZd =>
 cond (iLt 0 Zd.1)
 ((yj (bf .i64 Zd.1 1) vS.2.1 vS.2.2.1).bind λRN =>
 some ((a1,a2,(dO.1.1,dO.1.2.1,dO.1.2.2.1,dO.1.2.2.2.1,dO.1.2.2.2.2.1,dO.1.2.2.2.2.2.1,()),vS.1,aB .i64 1 RN.1,()),RN.2.1,RN.2.2.1,vS.2.2.2.1,()))
 (some ((a1,a2,(dO.1.1,dO.1.2.1,dO.1.2.2.1,dO.1.2.2.2.1,dO.1.2.2.2.2.1,dO.1.2.2.2.2.2.1,()),vS.1,0,()),vS.2.1,vS.2.2.1,vS.2.2.2.1,()))) none)
 ((rQ a1).bind λZc =>
 cond (iLt 0 Zc.1)
 ((yj (bf .i64 Zc.1 1) dO.2.1 dO.2.2.1).bind λRJ =>
 some ((a1,a2,(dO.1.1,dO.1.2.1,dO.1.2.2.1,dO.1.2.2.2.1,dO.1.2.2.2.2.1,dO.1.2.2.2.2.2.1,()),([]:List AV),aB .i64 1 RJ.1,()),RJ.2.1,RJ.2.2.1,dO.2.2.2.1,()))
 (some ((a1,a2,(dO.1.1,dO.1.2.1,dO.1.2.2.1,dO.1.2.2.2.1,dO.1.2.2.2.2.1,dO.1.2.2.2.2.2.1,()),([]:List AV),0,()),dO.2.1,dO.2.2.1,dO.2.2.2.1,())))) none
def Yp:Sh:=⟨5,[(1,tS6),(2,(.int .i64)),(3,.str)],[(0,.ptr 0 0 0),(4,.row 1)],[.box 65 [.d (.list (.int .i64)),.d (.int .i64)],.row 9 .str false]⟩
def XU:Sh:=⟨1,[(0,tS1)],[],[.box 65 [.d (.list (.int .i64)),.d (.int .i64)],.row 9 .str false]⟩
def a4D:HI:=⟨85,Yp,XU,fun(x:DS6×Int×ByteArray×(List Int)×Int×(List ByteArray)×Unit)=>Cq x.1 x.2.1 x.2.2.1 x.2.2.2.1 x.2.2.2.2.1 x.2.2.2.2.2.1,[1]⟩
theorem XZ:HK a4D:=hkz .o [] tS1 Tryz.func85 (cP Iz (cH IB (cH Ua (cH Qe c0)))) (by kernel_rfl) λx=>by kernel_rfl
def m48(a0:DS6)(a1:Int)(a2:ByteArray)(a3:List Int)(a4:Int):Option ((List Int)×Int×(List DS1)×Unit) :=
 (m86 a2 0).bind λa6I =>
 (m85 (a0.1,()) 2 a6I.1 a3 a4).bind λuM =>
 jW (S:=Int×ByteArray×(List Int)×Int×(List DS5)×(List DS1)×Unit) (R:=(List Int)×Int×(List DS1)×Unit)
 ((m24 3 uM.2.1 uM.2.2.1).bind λGQ =>
 cond (iLt 0 GQ.1)
 (cond (bnd 0 (aj ([uM.1]:List DS1)))
 (cond (inB (Int.toNat 0) ([uM.1]:List DS1))
 (some (.inl (a1,a2,GQ.2.1,GQ.2.2.1,a0.1,List.set ([uM.1]:List DS1) (Int.toNat 0) ((List.getD ([uM.1]:List DS1) (Int.toNat 0) zS1).1,(List.getD ([uM.1]:List DS1) (Int.toNat 0) zS1).2.1,(1,(bs []),([]:List ByteArray),0,0,([]:List AV),()),(List.getD ([uM.1]:List DS1) (Int.toNat 0) zS1).2.2.2.1,(List.getD ([uM.1]:List DS1) (Int.toNat 0) zS1).2.2.2.2.1,()),()))) none) none)
 (some (.inl (a1,a2,GQ.2.1,GQ.2.2.1,a0.1,([uM.1]:List DS1),()))))
 (λE9 =>
 aJ (S:=Int×ByteArray×Int×(List Int)×Int×(List DS5)×(List ByteArray)×(List DS1)×Unit) (R:=(List Int)×Int×(List DS1)×Unit) (λeH =>
 cond (iLe eH.2.2.1 eH.1)
 ((m87 eH.2.2.2.1 eH.2.2.2.2.1).bind λGN =>
 cond GN.1
 ((m88 1 10 GN.2.1 GN.2.2.1).bind λRI =>
 (m86 eH.2.1 eH.2.2.1).bind λa6H =>
 (Cq (eH.2.2.2.2.2.1,()) RI.1 a6H.1 RI.2.1 RI.2.2.1 eH.2.2.2.2.2.2.1).bind λbK =>
 cond (and (Nat.beq (List.length eH.2.2.2.2.2.2.1) (List.length bK.2.2.2.1)) true)
 (cond (fits (List.length ([]:List DS1)+List.length eH.2.2.2.2.2.2.2.1) 144)
 (cond (fits (List.length (([]:List DS1)++eH.2.2.2.2.2.2.2.1)+List.length ([(bK.1.1,bK.1.2.1,(bK.1.2.2.1.1,bK.1.2.2.1.2.1,bK.1.2.2.1.2.2.1,bK.1.2.2.1.2.2.2.1,bK.1.2.2.1.2.2.2.2.1,bK.1.2.2.1.2.2.2.2.2.1,()),bK.1.2.2.2.1,bK.1.2.2.2.2.1,())]:List DS1)) 144)
 ((m89 (eH.2.2.2.2.2.1,()) ((([]:List DS1)++eH.2.2.2.2.2.2.2.1)++([(bK.1.1,bK.1.2.1,(bK.1.2.2.1.1,bK.1.2.2.1.2.1,bK.1.2.2.1.2.2.1,bK.1.2.2.1.2.2.2.1,bK.1.2.2.1.2.2.2.2.1,bK.1.2.2.1.2.2.2.2.2.1,()),bK.1.2.2.2.1,bK.1.2.2.2.2.1,())]:List DS1))).bind λa6G =>
 cond (iNe a6G.2.1 0)
 (some (.inl (eH.1,eH.2.1,aB .i64 eH.2.2.1 1,bK.2.1,bK.2.2.1,eH.2.2.2.2.2.1,bK.2.2.2.1,eH.2.2.2.2.2.2.2.1,())))
 (cond (iEq bK.1.1 1)
 (cond (fits (List.length bK.2.2.2.1+List.length ([bK.1.2.1]:List ByteArray)) 16)
 (some (.inl (eH.1,eH.2.1,aB .i64 eH.2.2.1 1,bK.2.1,bK.2.2.1,eH.2.2.2.2.2.1,bK.2.2.2.1++([bK.1.2.1]:List ByteArray),(([]:List DS1)++eH.2.2.2.2.2.2.2.1)++([(bK.1.1,bK.1.2.1,(bK.1.2.2.1.1,bK.1.2.2.1.2.1,bK.1.2.2.1.2.2.1,bK.1.2.2.1.2.2.2.1,bK.1.2.2.1.2.2.2.2.1,bK.1.2.2.1.2.2.2.2.2.1,()),bK.1.2.2.2.1,bK.1.2.2.2.2.1,())]:List DS1),()))) none)
 (some (.inl (eH.1,eH.2.1,aB .i64 eH.2.2.1 1,bK.2.1,bK.2.2.1,eH.2.2.2.2.2.1,bK.2.2.2.1,(([]:List DS1)++eH.2.2.2.2.2.2.2.1)++([(bK.1.1,bK.1.2.1,(bK.1.2.2.1.1,bK.1.2.2.1.2.1,bK.1.2.2.1.2.2.1,bK.1.2.2.1.2.2.2.1,bK.1.2.2.1.2.2.2.2.1,bK.1.2.2.1.2.2.2.2.2.1,()),bK.1.2.2.2.1,bK.1.2.2.2.2.1,())]:List DS1),()))))) none) none) none)
 (some (.inr (GN.2.1,GN.2.2.1,eH.2.2.2.2.2.2.2.1,()))))
 (some (.inr (eH.2.2.2.1,eH.2.2.2.2.1,eH.2.2.2.2.2.2.2.1,()))))
 (E9.1,E9.2.1,1,E9.2.2.1,E9.2.2.2.1,E9.2.2.2.2.1,([]:List ByteArray),E9.2.2.2.2.2.1,()))
def a4q:Sh:=⟨4,[(1,tS6),(2,(.int .i64)),(3,.str)],[(0,.ptr 0 0 0)],[.box 65 [.d (.list (.int .i64)),.d (.int .i64)]]⟩
def a3d:Sh:=⟨1,[],[(0,.row 1)],[.box 65 [.d (.list (.int .i64)),.d (.int .i64)],.row 37 tS1 false]⟩
def h48:HI:=⟨48,a4q,a3d,fun(x:DS6×Int×ByteArray×(List Int)×Int×Unit)=>m48 x.1 x.2.1 x.2.2.1 x.2.2.2.1 x.2.2.2.2.1,[]⟩
theorem a3T:HK h48:=hk (.d 2 (.s (.u [0]) (.j [] ⟨71,[(2,(.int .i64)),(3,.str)],[(0,.ptr 0 0 0),(5,.ptr 1 0 0),(9,.nil),(10,.row 2)],[.box 65 [.d (.list (.int .i64)),.d (.int .i64)],.box 59 [.d (.list tS5)],.row 37 tS1 false]⟩ .o (.s (.d 1 (.b (.l [.gh 9 9 .str] ⟨71,[(2,(.int .i64)),(3,.str),(11,(.int .i64))],[(0,.ptr 0 0 0),(5,.ptr 1 0 0),(9,.row 2),(10,.row 3)],[.box 65 [.d (.list (.int .i64)),.d (.int .i64)],.box 59 [.d (.list tS5)],.row 9 .str false,.row 37 tS1 false]⟩ (.d 1 (.s (.b (.s (.u [0,2]) .o)) .o))))) .o)))) [] Tryz.func48 (cP a3q (cP VQ (cH ni (cH a3R (cH XZ (cH a3Q (cH Ci c0))))))) (by kernel_rfl) λx=>by kernel_rfl
def m90(a0:List Int)(a1:Int):Option (Int×(List Int)×Int×Unit) :=
 (m24 4 a0 a1).bind λsS =>
 cond (iEq sS.1 0)
 ((m24 60 sS.2.1 sS.2.2.1).bind λRH =>
 some (RH.1,RH.2.1,RH.2.2.1,()))
 (cond (iEq sS.1 1)
 ((m24 20000 sS.2.1 sS.2.2.1).bind λRG =>
 some (RG.1,RG.2.1,RG.2.2.1,()))
 (cond (iEq sS.1 2)
 ((m24 50 sS.2.1 sS.2.2.1).bind λRF =>
 some (bf .i64 876599 RF.1,RF.2.1,RF.2.2.1,()))
 ((m24 876600 sS.2.1 sS.2.2.1).bind λRD =>
 some (RD.1,RD.2.1,RD.2.2.1,()))))
def a4l:Sh:=⟨1,[],[(0,.ptr 0 0 0)],[.box 65 [.d (.list (.int .i64)),.d (.int .i64)]]⟩
def a2Y:Sh:=⟨1,[(0,(.int .i64))],[],[.box 65 [.d (.list (.int .i64)),.d (.int .i64)]]⟩
def h90:HI:=⟨90,a4l,a2Y,fun(x:(List Int)×Int×Unit)=>m90 x.1 x.2.1,[]⟩
theorem a3P:HK h90:=hk .o [] Tryz.func90 (cH ni c0) (by kernel_rfl) λx=>by kernel_rfl
def m49(a0:List Int)(a1:Int):Option (Int×Int×(List Int)×Int×Unit) :=
 (m90 a0 a1).bind λLJ =>
 (m90 LJ.2.1 LJ.2.2.1).bind λLH =>
 some (dG LJ.1 LH.1,aB .i64 (uV LJ.1 LH.1) 1,LH.2.1,LH.2.2.1,())
def a4p:Sh:=⟨1,[],[(0,.ptr 0 0 0)],[.box 65 [.d (.list (.int .i64)),.d (.int .i64)]]⟩
def a3c:Sh:=⟨1,[],[(0,.agg [.d (.int .i64),.d (.int .i64)])],[.box 65 [.d (.list (.int .i64)),.d (.int .i64)]]⟩
def h49:HI:=⟨49,a4p,a3c,fun(x:(List Int)×Int×Unit)=>m49 x.1 x.2.1,[]⟩
theorem a3S:HK h49:=hk .o [] Tryz.func49 (cH a3P c0) (by kernel_rfl) λx=>by kernel_rfl
def m27(a0:List DS1):Option (Bool×Unit) :=
 cond (iLt 40 (aj a0))
 (some (false,()))
 (aJ (S:=(List DS1)×Int×Unit) (R:=Bool×Unit) (λxJ =>
 cond (iLt xJ.2.1 (aj xJ.1))
 (cond (bnd xJ.2.1 (aj xJ.1))
 ((m56 (atI xJ.1 xJ.2.1 zS1)).bind λa6F =>
 cond (not a6F.1)
 (some (.inr (false,())))
 (some (.inl (xJ.1,aB .i64 xJ.2.1 1,())))) none)
 (some (.inr (true,()))))
 (a0,0,()))
def i27:PI:=⟨27,[(.list tS1)],[.bool],fun(x:(List DS1)×Unit)=>m27 x.1⟩
theorem a3F:PK i27:=pk (.d 2 (.s (.d 1 (.b (.l [] ⟨19,[(0,(.list tS1)),(3,(.int .i64))],[],[]⟩ .o))) .o)) Tryz.func27 (cP VY c0) (by kernel_rfl) λx=>by kernel_rfl
def m28(a0:DS2):Option (Bool×Unit) :=
 some (cond (cond (iLe 0 a0.1) (iLt a0.1 a0.2.1) false) (iLe a0.2.1 876600) false,())
def i28:PI:=⟨28,[tS2],[.bool],fun(x:DS2×Unit)=>m28 x.1⟩
theorem Wh:PK i28:=pk .o Tryz.func28 c0 (by kernel_rfl) λx=>by kernel_rfl
def m16(a0:DS4):Option (Bool×Unit) :=
 cond (iLt 12 (aj a0.2.1))
 (some (false,()))
 ((m27 a0.1).bind λa6E =>
 cond (not a6E.1)
 (some (false,()))
 (aJ (S:=Int×(List DS1)×(List DS3)×Unit) (R:=Bool×Unit) (λjJ =>
 cond (iLt jJ.1 (aj jJ.2.2.1))
 (cond (bnd jJ.1 (aj jJ.2.2.1))
 ((m28 (((atI jJ.2.2.1 jJ.1 zS3).1).1,((atI jJ.2.2.1 jJ.1 zS3).1).2.1,())).bind λa6D =>
 cond (cond (cond (not a6D.1) true (iLt 876599 (((atI jJ.2.2.1 jJ.1 zS3).1).2.1))) true (iLt 40 (aj ((atI jJ.2.2.1 jJ.1 zS3).2.1))))
 (some (.inr (false,())))
 ((m29 ((atI jJ.2.2.1 jJ.1 zS3).2.1)).bind λa6C =>
 cond (not a6C.1)
 (some (.inr (false,())))
 ((m30 ((atI jJ.2.2.1 jJ.1 zS3).2.1)).bind λa6B =>
 cond (not a6B.1)
 (some (.inr (false,())))
 ((m27 ((atI jJ.2.2.1 jJ.1 zS3).2.2.1)).bind λa6A =>
 cond (not a6A.1)
 (some (.inr (false,())))
 (some (.inl (aB .i64 jJ.1 1,jJ.2.1,jJ.2.2.1,()))))))) none)
 (some (.inr (true,()))))
 (0,a0.1,a0.2.1,())))
def i16:PI:=⟨16,[tS4],[.bool],fun(x:DS4×Unit)=>m16 x.1⟩
theorem Gd:PK i16:=pk (.d 2 (.s (.d 1 (.b (.l [] ⟨61,[(3,(.int .i64))],[(1,.ptr 0 0 0)],[.box 29 [.d (.list tS1),.d (.list tS3)]]⟩ .o))) .o)) Tryz.func16 (cP a3F (cP Wh (cP MQ (cP MP c0)))) (by kernel_rfl) λx=>by kernel_rfl
def IY(a0:List Int)(a1:Int):Option ((List Int)×Unit) :=
 aJ (S:=(List Int)×Int×Bool×Int×(List Int)×Unit) (R:=(List Int)×Unit) (λbE =>
 cond (iLt bE.2.2.2.1 (aj bE.1))
 (cond (or (bnd bE.2.2.2.1 (aj bE.1)) (not (bEq (not bE.2.2.1) true)))
 (cond (cond (not bE.2.2.1) (iLe bE.2.1 (atI bE.1 bE.2.2.2.1 0)) false)
 (cond (bnd bE.2.2.2.1 (aj bE.1))
 (cond (iLt bE.2.1 (atI bE.1 bE.2.2.2.1 0))
 (cond (fits (List.length bE.2.2.2.2.1+List.length ([bE.2.1]:List Int)) 8)
 (cond (bnd bE.2.2.2.1 (aj bE.1))
 (cond (fits (List.length (bE.2.2.2.2.1++([bE.2.1]:List Int))+List.length ([atI bE.1 bE.2.2.2.1 0]:List Int)) 8)
 (some (.inl (bE.1,bE.2.1,true,aB .i64 bE.2.2.2.1 1,(bE.2.2.2.2.1++([bE.2.1]:List Int))++([atI bE.1 bE.2.2.2.1 0]:List Int),()))) none) none) none)
 (cond (bnd bE.2.2.2.1 (aj bE.1))
 (cond (fits (List.length bE.2.2.2.2.1+List.length ([atI bE.1 bE.2.2.2.1 0]:List Int)) 8)
 (some (.inl (bE.1,bE.2.1,true,aB .i64 bE.2.2.2.1 1,bE.2.2.2.2.1++([atI bE.1 bE.2.2.2.1 0]:List Int),()))) none) none)) none)
 (cond (bnd bE.2.2.2.1 (aj bE.1))
 (cond (fits (List.length bE.2.2.2.2.1+List.length ([atI bE.1 bE.2.2.2.1 0]:List Int)) 8)
 (some (.inl (bE.1,bE.2.1,bE.2.2.1,aB .i64 bE.2.2.2.1 1,bE.2.2.2.2.1++([atI bE.1 bE.2.2.2.1 0]:List Int),()))) none) none)) none)
 (Option.map Sum.inr (cond (not bE.2.2.1)
 (cond (fits (List.length bE.2.2.2.2.1+List.length ([bE.2.1]:List Int)) 8)
 (some (bE.2.2.2.2.1++([bE.2.1]:List Int),())) none)
 (some (bE.2.2.2.2.1,())))))
 (a0,a1,false,0,([]:List Int),())
def i141:PI:=⟨141,[(.list (.int .i64)),(.int .i64)],[(.list (.int .i64))],fun(x:(List Int)×Int×Unit)=>IY x.1 x.2.1⟩
theorem a0N:PK i141:=pk (.d 3 (.s (.d 1 (.b (.l [.gh 5 3 (.int .i64)] ⟨48,[(0,(.list (.int .i64))),(1,(.int .i64)),(6,.bool),(7,(.int .i64))],[(5,.row 0)],[.row 3 (.int .i64) false]⟩ .o))) .o)) Tryz.func141 c0 (by kernel_rfl) λx=>by kernel_rfl
def m91(a0:DS4):Option ((List Int)×Unit) :=
 (m16 (a0.1,a0.2.1,())).bind λa6z =>
 cond (not a6z.1)
 (some (([]:List Int),()))
 (aJ (S:=(List Int)×Int×(List DS1)×(List DS3)×Unit) (R:=(List Int)×Unit) (λql =>
 cond (iLt ql.2.1 (aj ql.2.2.2.1))
 (cond (bnd ql.2.1 (aj ql.2.2.2.1))
 ((IY ql.1 (((atI ql.2.2.2.1 ql.2.1 zS3).1).1)).bind λa6y =>
 (IY a6y.1 (((atI ql.2.2.2.1 ql.2.1 zS3).1).2.1)).bind λa6x =>
 some (.inl (a6x.1,aB .i64 ql.2.1 1,ql.2.2.1,ql.2.2.2.1,()))) none)
 (some (.inr (ql.1,()))))
 (([0]:List Int),0,a0.1,a0.2.1,()))
def i91:PI:=⟨91,[tS4],[(.list (.int .i64))],fun(x:DS4×Unit)=>m91 x.1⟩
theorem a3p:PK i91:=pk (.d 3 (.s (.d 1 (.b (.l [.fz 3 (.list (.int .i64))] ⟨31,[(3,(.list (.int .i64))),(4,(.int .i64))],[(1,.ptr 0 0 0)],[.box 29 [.d (.list tS1),.d (.list tS3)]]⟩ .o))) .o)) Tryz.func91 (cP a0N (cP Gd c0)) (by kernel_rfl) λx=>by kernel_rfl
def Ut(a0:Int):Option (Bool×Unit) :=
 some (cond (iLe 0 a0) (iLe a0 876599) false,())
def a8s:PI:=⟨142,[(.int .i64)],[.bool],fun(x:Int×Unit)=>Ut x.1⟩
theorem a0M:PK a8s:=pk .o Tryz.func142 c0 (by kernel_rfl) λx=>by kernel_rfl
def Us(a0:DS2)(a1:Int):Option (Bool×Unit) :=
 (m28 (a0.1,a0.2.1,())).bind λa6w =>
 some (cond (cond a6w.1 (iLe a0.1 a1) false) (iLt a1 a0.2.1) false,())
def i143:PI:=⟨143,[tS2,(.int .i64)],[.bool],fun(x:DS2×Int×Unit)=>Us x.1 x.2.1⟩
theorem a0L:PK i143:=pk .o Tryz.func143 (cP Wh c0) (by kernel_rfl) λx=>by kernel_rfl
def m92(a0:DS4)(a1:Int):Option ((List DS1)×Int×Unit) :=
 (m16 (a0.1,a0.2.1,())).bind λa6v =>
 cond (not a6v.1)
 (some (([]:List DS1),5,()))
 ((Ut a1).bind λa6u =>
 cond (not a6u.1)
 (some (([]:List DS1),1,()))
 (aJ (S:=Int×Int×(List DS1)×(List DS3)×(List DS1)×Unit) (R:=(List DS1)×Int×Unit) (λiW =>
 cond (iLt iW.2.1 (aj iW.2.2.1))
 (cond (bnd iW.2.1 (aj iW.2.2.1))
 ((m9 iW.2.2.2.2.1 ((atI iW.2.2.1 iW.2.1 zS1).2.1)).bind λa6t =>
 cond a6t.2.1
 (some (.inr (([]:List DS1),8,())))
 (cond (bnd iW.2.1 (aj iW.2.2.1))
 (cond (fits (List.length iW.2.2.2.2.1+List.length ([atI iW.2.2.1 iW.2.1 zS1]:List DS1)) 144)
 (some (.inl (iW.1,aB .i64 iW.2.1 1,iW.2.2.1,iW.2.2.2.1,iW.2.2.2.2.1++([atI iW.2.2.1 iW.2.1 zS1]:List DS1),()))) none) none)) none)
 (Option.map Sum.inr (aJ (S:=Int×Int×(List DS1)×(List DS3)×(List DS1)×Unit) (R:=(List DS1)×Int×Unit) (λfV =>
 cond (iLt fV.2.1 (aj fV.2.2.2.1))
 (cond (bnd fV.2.1 (aj fV.2.2.2.1))
 ((Us (((atI fV.2.2.2.1 fV.2.1 zS3).1).1,((atI fV.2.2.2.1 fV.2.1 zS3).1).2.1,()) fV.1).bind λa6s =>
 cond (not a6s.1)
 (some (.inl (fV.1,aB .i64 fV.2.1 1,fV.2.2.1,fV.2.2.2.1,fV.2.2.2.2.1,())))
 (aJ (S:=Int×Int×Int×(List DS1)×(List DS3)×(List DS1)×Int×Int×(List ByteArray)×(List DS1)×Unit) (R:=(Int×Int×(List DS1)×(List DS3)×(List DS1)×Unit)⊕((List DS1)×Int×Unit)) (λgZ =>
 cond (iLt gZ.2.2.1 (aj gZ.2.2.2.2.2.2.2.2.1))
 (cond (bnd gZ.2.2.1 (aj gZ.2.2.2.2.2.2.2.2.1))
 ((m9 gZ.2.2.2.2.2.1 (atI gZ.2.2.2.2.2.2.2.2.1 gZ.2.2.1 ByteArray.empty)).bind λa6r =>
 cond (not a6r.2.1)
 (some (.inr (.inr (([]:List DS1),7,()))))
 (some (.inl (gZ.1,gZ.2.1,aB .i64 gZ.2.2.1 1,gZ.2.2.2.1,gZ.2.2.2.2.1,gZ.2.2.2.2.2.1,gZ.2.2.2.2.2.2.1,gZ.2.2.2.2.2.2.2.1,gZ.2.2.2.2.2.2.2.2.1,gZ.2.2.2.2.2.2.2.2.2.1,())))) none)
 (Option.map Sum.inr (aJ (S:=Int×Int×Int×(List DS1)×(List DS3)×(List DS1)×Int×Int×(List ByteArray)×(List DS1)×(List DS1)×Unit) (R:=(Int×Int×(List DS1)×(List DS3)×(List DS1)×Unit)⊕((List DS1)×Int×Unit)) (λbU =>
 cond (iLt bU.2.2.1 (aj bU.2.2.2.2.2.1))
 (cond (bnd bU.2.2.1 (aj bU.2.2.2.2.2.1))
 (cond (inB (Int.toNat bU.2.2.1) bU.2.2.2.2.2.1)
 ((IX bU.2.2.2.2.2.2.2.2.1 ((List.getD bU.2.2.2.2.2.1 (Int.toNat bU.2.2.1) zS1).2.1)).bind λa6q =>
 cond (not a6q.1)
 (cond (bnd bU.2.2.1 (aj bU.2.2.2.2.2.1))
 (cond (inB (Int.toNat bU.2.2.1) bU.2.2.2.2.2.1)
 (cond (fits (List.length bU.2.2.2.2.2.2.2.2.2.2.1+List.length ([List.getD bU.2.2.2.2.2.1 (Int.toNat bU.2.2.1) zS1]:List DS1)) 144)
 (some (.inl (bU.1,bU.2.1,aB .i64 bU.2.2.1 1,bU.2.2.2.1,bU.2.2.2.2.1,bU.2.2.2.2.2.1,bU.2.2.2.2.2.2.1,bU.2.2.2.2.2.2.2.1,bU.2.2.2.2.2.2.2.2.1,bU.2.2.2.2.2.2.2.2.2.1,bU.2.2.2.2.2.2.2.2.2.2.1++([List.getD bU.2.2.2.2.2.1 (Int.toNat bU.2.2.1) zS1]:List DS1),()))) none) none) none)
 (some (.inl (bU.1,bU.2.1,aB .i64 bU.2.2.1 1,bU.2.2.2.1,bU.2.2.2.2.1,bU.2.2.2.2.2.1,bU.2.2.2.2.2.2.1,bU.2.2.2.2.2.2.2.1,bU.2.2.2.2.2.2.2.2.1,bU.2.2.2.2.2.2.2.2.2.1,bU.2.2.2.2.2.2.2.2.2.2.1,())))) none) none)
 (Option.map Sum.inr (aJ (S:=Int×Int×Int×(List DS1)×(List DS3)×Int×Int×(List ByteArray)×(List DS1)×(List DS1)×Unit) (R:=(Int×Int×(List DS1)×(List DS3)×(List DS1)×Unit)⊕((List DS1)×Int×Unit)) (λfG =>
 cond (iLt fG.2.2.1 (aj fG.2.2.2.2.2.2.2.2.1))
 (cond (bnd fG.2.2.1 (aj fG.2.2.2.2.2.2.2.2.1))
 ((m9 fG.2.2.2.2.2.2.2.2.2.1 ((atI fG.2.2.2.2.2.2.2.2.1 fG.2.2.1 zS1).2.1)).bind λa6p =>
 cond a6p.2.1
 (some (.inr (.inr (([]:List DS1),8,()))))
 (cond (bnd fG.2.2.1 (aj fG.2.2.2.2.2.2.2.2.1))
 (cond (fits (List.length fG.2.2.2.2.2.2.2.2.2.1+List.length ([atI fG.2.2.2.2.2.2.2.2.1 fG.2.2.1 zS1]:List DS1)) 144)
 (some (.inl (fG.1,fG.2.1,aB .i64 fG.2.2.1 1,fG.2.2.2.1,fG.2.2.2.2.1,fG.2.2.2.2.2.1,fG.2.2.2.2.2.2.1,fG.2.2.2.2.2.2.2.1,fG.2.2.2.2.2.2.2.2.1,fG.2.2.2.2.2.2.2.2.2.1++([atI fG.2.2.2.2.2.2.2.2.1 fG.2.2.1 zS1]:List DS1),()))) none) none)) none)
 (Option.map Sum.inr (cond (iLt 100 (aj fG.2.2.2.2.2.2.2.2.2.1))
 (some (.inr (([]:List DS1),4,())))
 (some (.inl (fG.1,aB .i64 fG.2.1 1,fG.2.2.2.1,fG.2.2.2.2.1,fG.2.2.2.2.2.2.2.2.2.1,()))))))
 (bU.1,bU.2.1,0,bU.2.2.2.1,bU.2.2.2.2.1,bU.2.2.2.2.2.2.1,bU.2.2.2.2.2.2.2.1,bU.2.2.2.2.2.2.2.2.1,bU.2.2.2.2.2.2.2.2.2.1,bU.2.2.2.2.2.2.2.2.2.2.1,()))))
 (gZ.1,gZ.2.1,0,gZ.2.2.2.1,gZ.2.2.2.2.1,gZ.2.2.2.2.2.1,gZ.2.2.2.2.2.2.1,gZ.2.2.2.2.2.2.2.1,gZ.2.2.2.2.2.2.2.2.1,gZ.2.2.2.2.2.2.2.2.2.1,([]:List DS1),()))))
 (fV.1,fV.2.1,0,fV.2.2.1,fV.2.2.2.1,fV.2.2.2.2.1,((atI fV.2.2.2.1 fV.2.1 zS3).1).1,((atI fV.2.2.2.1 fV.2.1 zS3).1).2.1,(atI fV.2.2.2.1 fV.2.1 zS3).2.1,(atI fV.2.2.2.1 fV.2.1 zS3).2.2.1,()))) none)
 (some (.inr (fV.2.2.2.2.1,0,()))))
 (iW.1,0,iW.2.2.1,iW.2.2.2.1,iW.2.2.2.2.1,()))))
 (a1,0,a0.1,a0.2.1,([]:List DS1),())))
def i92:PI:=⟨92,[tS4,(.int .i64)],[(.list tS1),(.int .i64)],fun(x:DS4×Int×Unit)=>m92 x.1 x.2.1⟩
theorem a3o:PK i92:=pk (.d 4 (.s (.d 1 (.b (.l [.gh 6 37 tS1] ⟨143,[(1,(.int .i64)),(7,(.int .i64))],[(2,.ptr 0 0 0),(6,.row 1)],[.box 29 [.d (.list tS1),.d (.list tS3)],.row 37 tS1 false]⟩ .o))) (.s (.d 1 (.b (.l [.gh 6 37 tS1] ⟨143,[(1,(.int .i64)),(10,(.int .i64))],[(2,.ptr 0 0 0),(6,.row 1)],[.box 29 [.d (.list tS1),.d (.list tS3)],.row 37 tS1 false]⟩ (.d 1 (.s (.b (.d 2 (.s (.d 1 (.b (.l [.gh 6 37 tS1] ⟨143,[(1,(.int .i64)),(10,(.int .i64)),(12,(.int .i64))],[(2,.ptr 0 0 0),(6,.row 1),(11,.ptr 2 0 0)],[.box 29 [.d (.list tS1),.d (.list tS3)],.row 37 tS1 false,.box 55 [.d (.int .i64),.d (.int .i64),.d (.list .str),.d (.list tS1)]]⟩ .o))) (.d 1 (.s (.d 1 (.b (.l [.gh 6 37 tS1,.gh 15 37 tS1] ⟨143,[(1,(.int .i64)),(10,(.int .i64)),(16,(.int .i64))],[(2,.ptr 0 0 0),(6,.row 1),(11,.ptr 2 0 0),(15,.row 3)],[.box 29 [.d (.list tS1),.d (.list tS3)],.row 37 tS1 false,.box 55 [.d (.int .i64),.d (.int .i64),.d (.list .str),.d (.list tS1)],.row 37 tS1 false]⟩ .o))) (.s (.d 1 (.b (.l [.gh 15 37 tS1] ⟨143,[(1,(.int .i64)),(10,(.int .i64)),(17,(.int .i64))],[(2,.ptr 0 0 0),(11,.ptr 1 0 0),(15,.row 2)],[.box 29 [.d (.list tS1),.d (.list tS3)],.box 55 [.d (.int .i64),.d (.int .i64),.d (.list .str),.d (.list tS1)],.row 37 tS1 false]⟩ .o))) .o)))))) .o))))) .o))) Tryz.func92 (cP a0M (cP a0L (cP Qa (cP Gd (cP a0v c0))))) (by kernel_rfl) λx=>by kernel_rfl
def m50(a0:DS6)(a1:DS4):Option (Int×Int×Int×Unit) :=
 (m16 (a1.1,a1.2.1,())).bind λa6o =>
 cond (not a6o.1)
 (some (0,0,5,()))
 ((m91 (a1.1,a1.2.1,())).bind λa6n =>
 aJ (S:=(List Int)×Int×(List DS5)×(List DS1)×(List DS3)×Unit) (R:=Int×Int×Int×Unit) (λjg =>
 cond (iLt jg.2.1 (aj jg.1))
 (cond (bnd jg.2.1 (aj jg.1))
 ((m92 (jg.2.2.2.1,jg.2.2.2.2.1,()) (atI jg.1 jg.2.1 0)).bind λRB =>
 cond (iNe RB.2.1 0)
 (cond (bnd jg.2.1 (aj jg.1))
 (some (.inr (atI jg.1 jg.2.1 0,0,RB.2.1,()))) none)
 ((m89 (jg.2.2.1,()) RB.1).bind λRA =>
 cond (iNe RA.2.1 0)
 (cond (bnd jg.2.1 (aj jg.1))
 (some (.inr (atI jg.1 jg.2.1 0,RA.1,RA.2.1,()))) none)
 (some (.inl (jg.1,aB .i64 jg.2.1 1,jg.2.2.1,jg.2.2.2.1,jg.2.2.2.2.1,()))))) none)
 (some (.inr (0,0,0,()))))
 (a6n.1,0,a0.1,a1.1,a1.2.1,()))
def i50:PI:=⟨50,[tS6,tS4],[(.int .i64),(.int .i64),(.int .i64)],fun(x:DS6×DS4×Unit)=>m50 x.1 x.2.1⟩
theorem a3A:PK i50:=pk (.d 3 (.s (.d 1 (.b (.l [] ⟨54,[(7,(.list (.int .i64))),(8,(.int .i64))],[(2,.ptr 0 0 0),(3,.ptr 1 0 0)],[.box 59 [.d (.list tS5)],.box 29 [.d (.list tS1),.d (.list tS3)]]⟩ .o))) .o)) Tryz.func50 (cP Gd (cP VQ (cP a3p (cP a3o c0)))) (by kernel_rfl) λx=>by kernel_rfl
def m22(a0:DS6)(a1:Int)(a2:Bool)(a3:List Int)(a4:Int):Option ((List Int)×Int×(List DS1)×(List DS3)×Unit) :=
 (m48 (a0.1,()) a1 (bs [99,45]) a3 a4).bind λRz =>
 (m24 3 Rz.1 Rz.2.1).bind λRy =>
 aJ (S:=Bool×Int×(List Int)×Int×(List DS5)×(List DS1)×(List DS3)×Unit) (R:=(List Int)×Int×(List DS1)×(List DS3)×Unit) (λjI =>
 cond (iLt 0 jI.2.1)
 ((m49 jI.2.2.1 jI.2.2.2.1).bind λwW =>
 cond (iLe (dG wW.2.1 876599) wW.1)
 (some (.inl (jI.1,bf .i64 jI.2.1 1,wW.2.2.1,wW.2.2.2.1,jI.2.2.2.2.1,jI.2.2.2.2.2.1,jI.2.2.2.2.2.2.1,())))
 (cond (zf (bs [101]) (bsI ([IntKind.wrap .u8 (aB .i64 48 jI.2.1)]:List Int)))
 (cond (zf (wo (bs [101]) (bsI ([IntKind.wrap .u8 (aB .i64 48 jI.2.1)]:List Int))) (bs [45]))
 ((m48 (jI.2.2.2.2.1,()) 2 (wo (wo (bs [101]) (bsI ([IntKind.wrap .u8 (aB .i64 48 jI.2.1)]:List Int))) (bs [45])) wW.2.2.1 wW.2.2.2.1).bind λRx =>
 aJ (S:=Bool×Int×Int×(List Int)×Int×(List DS5)×Int×Int×(List DS1)×(List DS3)×(List ByteArray)×(List DS1)×Unit) (R:=(Bool×Int×(List Int)×Int×(List DS5)×(List DS1)×(List DS3)×Unit)⊕((List Int)×Int×(List DS1)×(List DS3)×Unit)) (λbG =>
 cond (iLt bG.2.2.1 (aj bG.2.2.2.2.2.2.2.2.1))
 ((m24 4 bG.2.2.2.1 bG.2.2.2.2.1).bind λGL =>
 cond (iEq GL.1 1)
 (cond (bnd bG.2.2.1 (aj bG.2.2.2.2.2.2.2.2.1))
 (cond (inB (Int.toNat bG.2.2.1) bG.2.2.2.2.2.2.2.2.1)
 (cond (fits (List.length bG.2.2.2.2.2.2.2.2.2.2.1+List.length ([(List.getD bG.2.2.2.2.2.2.2.2.1 (Int.toNat bG.2.2.1) zS1).2.1]:List ByteArray)) 16)
 (some (.inl (bG.1,bG.2.1,aB .i64 bG.2.2.1 1,GL.2.1,GL.2.2.1,bG.2.2.2.2.2.1,bG.2.2.2.2.2.2.1,bG.2.2.2.2.2.2.2.1,bG.2.2.2.2.2.2.2.2.1,bG.2.2.2.2.2.2.2.2.2.1,bG.2.2.2.2.2.2.2.2.2.2.1++([(List.getD bG.2.2.2.2.2.2.2.2.1 (Int.toNat bG.2.2.1) zS1).2.1]:List ByteArray),bG.2.2.2.2.2.2.2.2.2.2.2.1,()))) none) none) none)
 (some (.inl (bG.1,bG.2.1,aB .i64 bG.2.2.1 1,GL.2.1,GL.2.2.1,bG.2.2.2.2.2.1,bG.2.2.2.2.2.2.1,bG.2.2.2.2.2.2.2.1,bG.2.2.2.2.2.2.2.2.1,bG.2.2.2.2.2.2.2.2.2.1,bG.2.2.2.2.2.2.2.2.2.2.1,bG.2.2.2.2.2.2.2.2.2.2.2.1,()))))
 (Option.map Sum.inr ((m24 6 bG.2.2.2.1 bG.2.2.2.2.1).bind λGK =>
 cond (iEq GK.1 5)
 (cond (bnd 0 (aj bG.2.2.2.2.2.2.2.2.1))
 (cond (inB (Int.toNat 0) bG.2.2.2.2.2.2.2.2.1)
 (cond (fits (List.length ([]:List DS1)+List.length ([List.getD bG.2.2.2.2.2.2.2.2.1 (Int.toNat 0) zS1]:List DS1)) 144)
 (jW (S:=Bool×Int×(List Int)×Int×(List DS5)×Int×Int×(List ByteArray)×(List DS1)×(List DS1)×(List DS3)×Unit) (R:=(Bool×Int×(List Int)×Int×(List DS5)×(List DS1)×(List DS3)×Unit)⊕((List Int)×Int×(List DS1)×(List DS3)×Unit))
 (some (.inl (bG.1,bG.2.1,GK.2.1,GK.2.2.1,bG.2.2.2.2.2.1,bG.2.2.2.2.2.2.1,bG.2.2.2.2.2.2.2.1,bG.2.2.2.2.2.2.2.2.2.2.1,([]:List DS1)++([List.getD bG.2.2.2.2.2.2.2.2.1 (Int.toNat 0) zS1]:List DS1),bG.2.2.2.2.2.2.2.2.1,bG.2.2.2.2.2.2.2.2.2.1,())))
 (λeX =>
 cond (fits (List.length ([]:List DS3)+List.length eX.2.2.2.2.2.2.2.2.2.2.1) 64)
 (cond (fits (List.length (([]:List DS3)++eX.2.2.2.2.2.2.2.2.2.2.1)+List.length ([((eX.2.2.2.2.2.1,eX.2.2.2.2.2.2.1,()),eX.2.2.2.2.2.2.2.1,eX.2.2.2.2.2.2.2.2.1,())]:List DS3)) 64)
 ((m50 (eX.2.2.2.2.1,()) (eX.2.2.2.2.2.2.2.2.2.1,(([]:List DS3)++eX.2.2.2.2.2.2.2.2.2.2.1)++([((eX.2.2.2.2.2.1,eX.2.2.2.2.2.2.1,()),eX.2.2.2.2.2.2.2.1,eX.2.2.2.2.2.2.2.2.1,())]:List DS3),())).bind λa6m =>
 cond (cond (iEq a6m.2.2.1 0) true (not eX.1))
 (some (.inl (eX.1,bf .i64 eX.2.1 1,eX.2.2.1,eX.2.2.2.1,eX.2.2.2.2.1,eX.2.2.2.2.2.2.2.2.2.1,(([]:List DS3)++eX.2.2.2.2.2.2.2.2.2.2.1)++([((eX.2.2.2.2.2.1,eX.2.2.2.2.2.2.1,()),eX.2.2.2.2.2.2.2.1,eX.2.2.2.2.2.2.2.2.1,())]:List DS3),())))
 (some (.inl (eX.1,bf .i64 eX.2.1 1,eX.2.2.1,eX.2.2.2.1,eX.2.2.2.2.1,eX.2.2.2.2.2.2.2.2.2.1,eX.2.2.2.2.2.2.2.2.2.2.1,())))) none) none)) none) none) none)
 (jW (S:=Bool×Int×(List Int)×Int×(List DS5)×Int×Int×(List ByteArray)×(List DS1)×(List DS1)×(List DS3)×Unit) (R:=(Bool×Int×(List Int)×Int×(List DS5)×(List DS1)×(List DS3)×Unit)⊕((List Int)×Int×(List DS1)×(List DS3)×Unit))
 (some (.inl (bG.1,bG.2.1,GK.2.1,GK.2.2.1,bG.2.2.2.2.2.1,bG.2.2.2.2.2.2.1,bG.2.2.2.2.2.2.2.1,bG.2.2.2.2.2.2.2.2.2.2.1,bG.2.2.2.2.2.2.2.2.2.2.2.1,bG.2.2.2.2.2.2.2.2.1,bG.2.2.2.2.2.2.2.2.2.1,())))
 (λeU =>
 cond (fits (List.length ([]:List DS3)+List.length eU.2.2.2.2.2.2.2.2.2.2.1) 64)
 (cond (fits (List.length (([]:List DS3)++eU.2.2.2.2.2.2.2.2.2.2.1)+List.length ([((eU.2.2.2.2.2.1,eU.2.2.2.2.2.2.1,()),eU.2.2.2.2.2.2.2.1,eU.2.2.2.2.2.2.2.2.1,())]:List DS3)) 64)
 ((m50 (eU.2.2.2.2.1,()) (eU.2.2.2.2.2.2.2.2.2.1,(([]:List DS3)++eU.2.2.2.2.2.2.2.2.2.2.1)++([((eU.2.2.2.2.2.1,eU.2.2.2.2.2.2.1,()),eU.2.2.2.2.2.2.2.1,eU.2.2.2.2.2.2.2.2.1,())]:List DS3),())).bind λRw =>
 cond (cond (iEq Rw.2.2.1 0) true (not eU.1))
 (some (.inl (eU.1,bf .i64 eU.2.1 1,eU.2.2.1,eU.2.2.2.1,eU.2.2.2.2.1,eU.2.2.2.2.2.2.2.2.2.1,(([]:List DS3)++eU.2.2.2.2.2.2.2.2.2.2.1)++([((eU.2.2.2.2.2.1,eU.2.2.2.2.2.2.1,()),eU.2.2.2.2.2.2.2.1,eU.2.2.2.2.2.2.2.2.1,())]:List DS3),())))
 (some (.inl (eU.1,bf .i64 eU.2.1 1,eU.2.2.1,eU.2.2.2.1,eU.2.2.2.2.1,eU.2.2.2.2.2.2.2.2.2.1,eU.2.2.2.2.2.2.2.2.2.2.1,())))) none) none)))))
 (jI.1,jI.2.1,0,Rx.1,Rx.2.1,jI.2.2.2.2.1,wW.1,dG wW.2.1 876599,jI.2.2.2.2.2.1,jI.2.2.2.2.2.2.1,([]:List ByteArray),Rx.2.2.1,())) none) none))
 (some (.inr (jI.2.2.1,jI.2.2.2.1,jI.2.2.2.2.2.1,jI.2.2.2.2.2.2.1,()))))
 (a2,Ry.1,Ry.2.1,Ry.2.2.1,a0.1,Rz.2.2.1,([]:List DS3),())
def a4s:Sh:=⟨4,[(1,tS6),(2,(.int .i64)),(3,.bool)],[(0,.ptr 0 0 0)],[.box 65 [.d (.list (.int .i64)),.d (.int .i64)]]⟩
def a3f:Sh:=⟨1,[],[(0,.agg [.row 1,.row 2])],[.box 65 [.d (.list (.int .i64)),.d (.int .i64)],.row 37 tS1 false,.row 55 tS3 false]⟩
def h22:HI:=⟨22,a4s,a3f,fun(x:DS6×Int×Bool×(List Int)×Int×Unit)=>m22 x.1 x.2.1 x.2.2.1 x.2.2.2.1 x.2.2.2.2.1,[]⟩
theorem a3U:HK h22:=hk (.d 2 (.s (.d 1 (.b (.l [.ghc 9 1 55 tS3] ⟨108,[(3,.bool),(10,(.int .i64))],[(0,.ptr 0 0 0),(5,.ptr 1 0 0),(8,.ptr 2 0 0),(9,.ptr 3 0 0)],[.box 65 [.d (.list (.int .i64)),.d (.int .i64)],.box 59 [.d (.list tS5)],.box 29 [.nil,.nil],.box 29 [.row 4,.row 5],.row 37 tS1 false,.row 55 tS3 false]⟩ (.d 1 (.s (.b (.d 3 (.s (.u [0]) (.s (.d 1 (.b (.l [.ghc 12 2 9 .str,.ghc 9 1 55 tS3] ⟨108,[(3,.bool),(10,(.int .i64)),(13,(.int .i64))],[(0,.ptr 0 0 0),(5,.ptr 1 0 0),(8,.ptr 2 0 0),(9,.ptr 3 0 0),(12,.ptr 4 0 0)],[.box 65 [.d (.list (.int .i64)),.d (.int .i64)],.box 59 [.d (.list tS5)],.box 29 [.nil,.nil],.box 29 [.row 5,.row 6],.box 55 [.d (.int .i64),.d (.int .i64),.row 7,.row 8],.row 37 tS1 false,.row 55 tS3 false,.row 9 .str false,.row 37 tS1 false]⟩ .o))) (.d 1 (.j [.fzc 12 2 (.list .str),.fzc 12 3 (.list tS1),.ghc 12 2 9 .str,.ghc 14 1 55 tS3,.ghc 9 1 55 tS3] ⟨108,[(3,.bool),(10,(.int .i64))],[(0,.ptr 0 0 0),(5,.ptr 1 0 0),(8,.ptr 2 0 0),(9,.ptr 3 0 0),(12,.ptr 4 0 0),(14,.ptr 5 0 0)],[.box 65 [.d (.list (.int .i64)),.d (.int .i64)],.box 59 [.d (.list tS5)],.box 29 [.nil,.nil],.box 29 [.row 6,.row 7],.box 55 [.d (.int .i64),.d (.int .i64),.d (.list .str),.d (.list tS1)],.box 29 [.row 6,.row 7],.row 37 tS1 false,.row 55 tS3 false]⟩ .o .o)))))) .o))))) .o)) [.ghc 8 1 55 tS3] Tryz.func22 (cP a3A (cH ni (cH a3T (cH a3S c0)))) (by kernel_rfl) λx=>by kernel_rfl
def m10(a0:List Int):Option (DS4×Unit) :=
 (m14 a0).bind λy3 =>
 (m24 6 y3.1 y3.2.1).bind λy4 =>
 (m23 y4.1).bind λy8 =>
 (m22 y8.1 6 false y4.2.1 y4.2.2.1).bind λZb =>
 some ((Zb.2.2.1,Zb.2.2.2.1,()),())
def i10:PI:=⟨10,[(.list (.int .i64))],[tS4],fun(x:(List Int)×Unit)=>m10 x.1⟩
theorem a3N:PK i10:=pk .o Tryz.func10 (cP a3H (cH Wj (cH a3U (cH ni c0)))) (by kernel_rfl) λx=>by kernel_rfl
def m13(a0:DS4)(a1:DS1)(a2:List Int)(a3:Int):Option (DS4×(List Int)×Int×Unit) :=
 cond (fits (List.length ([]:List DS1)+List.length a0.1) 144)
 ((m24 (aj (([]:List DS1)++a0.1)) a2 a3).bind λaN =>
 cond (bnd aN.1 (aj (([]:List DS1)++a0.1)))
 (cond (inB (Int.toNat aN.1) (([]:List DS1)++a0.1))
 ((m24 8 aN.2.1 aN.2.2.1).bind λiK =>
 cond (iEq iK.1 0)
 (cond (bnd aN.1 (aj (([]:List DS1)++a0.1)))
 (cond (inB (Int.toNat aN.1) (([]:List DS1)++a0.1))
 (some ((List.set (([]:List DS1)++a0.1) (Int.toNat aN.1) (a1.1,a1.2.1,(a1.2.2.1.1,a1.2.2.1.2.1,a1.2.2.1.2.2.1,a1.2.2.1.2.2.2.1,a1.2.2.1.2.2.2.2.1,a1.2.2.1.2.2.2.2.2.1,()),a1.2.2.2.1,a1.2.2.2.2.1,()),a0.2.1,()),iK.2.1,iK.2.2.1,())) none) none)
 (cond (iEq iK.1 1)
 ((m24 12 iK.2.1 iK.2.2.1).bind λRv =>
 cond (bnd aN.1 (aj (([]:List DS1)++a0.1)))
 (cond (inB (Int.toNat aN.1) (([]:List DS1)++a0.1))
 (some ((List.set (([]:List DS1)++a0.1) (Int.toNat aN.1) (Rv.1,(List.getD (([]:List DS1)++a0.1) (Int.toNat aN.1) zS1).2.1,(((List.getD (([]:List DS1)++a0.1) (Int.toNat aN.1) zS1).2.2.1).1,((List.getD (([]:List DS1)++a0.1) (Int.toNat aN.1) zS1).2.2.1).2.1,((List.getD (([]:List DS1)++a0.1) (Int.toNat aN.1) zS1).2.2.1).2.2.1,((List.getD (([]:List DS1)++a0.1) (Int.toNat aN.1) zS1).2.2.1).2.2.2.1,((List.getD (([]:List DS1)++a0.1) (Int.toNat aN.1) zS1).2.2.1).2.2.2.2.1,((List.getD (([]:List DS1)++a0.1) (Int.toNat aN.1) zS1).2.2.1).2.2.2.2.2.1,()),(List.getD (([]:List DS1)++a0.1) (Int.toNat aN.1) zS1).2.2.2.1,(List.getD (([]:List DS1)++a0.1) (Int.toNat aN.1) zS1).2.2.2.2.1,()),a0.2.1,()),Rv.2.1,Rv.2.2.1,())) none) none)
 (cond (iEq iK.1 2)
 ((m24 4 iK.2.1 iK.2.2.1).bind λGJ =>
 cond (bnd GJ.1 (aj ([(bs []),(bs [101,110,100]),(bs [81]),(bs [102,105,110,101])]:List ByteArray)))
 (cond (inB (Int.toNat GJ.1) ([(bs []),(bs [101,110,100]),(bs [81]),(bs [102,105,110,101])]:List ByteArray))
 (cond (bnd aN.1 (aj (([]:List DS1)++a0.1)))
 (cond (inB (Int.toNat aN.1) (([]:List DS1)++a0.1))
 (some ((List.set (([]:List DS1)++a0.1) (Int.toNat aN.1) ((List.getD (([]:List DS1)++a0.1) (Int.toNat aN.1) zS1).1,List.getD ([(bs []),(bs [101,110,100]),(bs [81]),(bs [102,105,110,101])]:List ByteArray) (Int.toNat GJ.1) ByteArray.empty,(((List.getD (([]:List DS1)++a0.1) (Int.toNat aN.1) zS1).2.2.1).1,((List.getD (([]:List DS1)++a0.1) (Int.toNat aN.1) zS1).2.2.1).2.1,((List.getD (([]:List DS1)++a0.1) (Int.toNat aN.1) zS1).2.2.1).2.2.1,((List.getD (([]:List DS1)++a0.1) (Int.toNat aN.1) zS1).2.2.1).2.2.2.1,((List.getD (([]:List DS1)++a0.1) (Int.toNat aN.1) zS1).2.2.1).2.2.2.2.1,((List.getD (([]:List DS1)++a0.1) (Int.toNat aN.1) zS1).2.2.1).2.2.2.2.2.1,()),(List.getD (([]:List DS1)++a0.1) (Int.toNat aN.1) zS1).2.2.2.1,(List.getD (([]:List DS1)++a0.1) (Int.toNat aN.1) zS1).2.2.2.2.1,()),a0.2.1,()),GJ.2.1,GJ.2.2.1,())) none) none) none) none)
 (cond (iEq iK.1 3)
 ((m24 7 iK.2.1 iK.2.2.1).bind λGI =>
 cond (bnd GI.1 (aj ([0,1,(-1),1000000,1000001,1073741824,1073741825]:List Int)))
 (cond (inB (Int.toNat GI.1) ([0,1,(-1),1000000,1000001,1073741824,1073741825]:List Int))
 (cond (bnd aN.1 (aj (([]:List DS1)++a0.1)))
 (cond (inB (Int.toNat aN.1) (([]:List DS1)++a0.1))
 (some ((List.set (([]:List DS1)++a0.1) (Int.toNat aN.1) ((List.getD (([]:List DS1)++a0.1) (Int.toNat aN.1) zS1).1,(List.getD (([]:List DS1)++a0.1) (Int.toNat aN.1) zS1).2.1,(((List.getD (([]:List DS1)++a0.1) (Int.toNat aN.1) zS1).2.2.1).1,((List.getD (([]:List DS1)++a0.1) (Int.toNat aN.1) zS1).2.2.1).2.1,((List.getD (([]:List DS1)++a0.1) (Int.toNat aN.1) zS1).2.2.1).2.2.1,((List.getD (([]:List DS1)++a0.1) (Int.toNat aN.1) zS1).2.2.1).2.2.2.1,((List.getD (([]:List DS1)++a0.1) (Int.toNat aN.1) zS1).2.2.1).2.2.2.2.1,((List.getD (([]:List DS1)++a0.1) (Int.toNat aN.1) zS1).2.2.1).2.2.2.2.2.1,()),(List.getD (([]:List DS1)++a0.1) (Int.toNat aN.1) zS1).2.2.2.1,List.getD ([0,1,(-1),1000000,1000001,1073741824,1073741825]:List Int) (Int.toNat GI.1) 0,()),a0.2.1,()),GI.2.1,GI.2.2.1,())) none) none) none) none)
 (cond (iEq iK.1 4)
 (cond (and (Wm ((List.getD (([]:List DS1)++a0.1) (Int.toNat aN.1) zS1).2.2.2.1)) (fits (List.length ([]:List DS7)+List.length (qZ ((List.getD (([]:List DS1)++a0.1) (Int.toNat aN.1) zS1).2.2.2.1))) 128))
 ((m24 3 iK.2.1 iK.2.2.1).bind λLG =>
 cond (fits (List.length (([]:List DS7)++(qZ ((List.getD (([]:List DS1)++a0.1) (Int.toNat aN.1) zS1).2.2.2.1)))+List.length ([((bs [119]),(LG.1,(bs []),([]:List ByteArray),0,0,([]:List AV),()),([]:List AV),())]:List DS7)) 128)
 (cond (bnd aN.1 (aj (([]:List DS1)++a0.1)))
 (cond (inB (Int.toNat aN.1) (([]:List DS1)++a0.1))
 (some ((List.set (([]:List DS1)++a0.1) (Int.toNat aN.1) ((List.getD (([]:List DS1)++a0.1) (Int.toNat aN.1) zS1).1,(List.getD (([]:List DS1)++a0.1) (Int.toNat aN.1) zS1).2.1,(((List.getD (([]:List DS1)++a0.1) (Int.toNat aN.1) zS1).2.2.1).1,((List.getD (([]:List DS1)++a0.1) (Int.toNat aN.1) zS1).2.2.1).2.1,((List.getD (([]:List DS1)++a0.1) (Int.toNat aN.1) zS1).2.2.1).2.2.1,((List.getD (([]:List DS1)++a0.1) (Int.toNat aN.1) zS1).2.2.1).2.2.2.1,((List.getD (([]:List DS1)++a0.1) (Int.toNat aN.1) zS1).2.2.1).2.2.2.2.1,((List.getD (([]:List DS1)++a0.1) (Int.toNat aN.1) zS1).2.2.1).2.2.2.2.2.1,()),zG ((([]:List DS7)++(qZ ((List.getD (([]:List DS1)++a0.1) (Int.toNat aN.1) zS1).2.2.2.1)))++([((bs [119]),(LG.1,(bs []),([]:List ByteArray),0,0,([]:List AV),()),([]:List AV),())]:List DS7)),(List.getD (([]:List DS1)++a0.1) (Int.toNat aN.1) zS1).2.2.2.2.1,()),a0.2.1,()),LG.2.1,LG.2.2.1,())) none) none) none) none)
 (cond (iEq iK.1 5)
 (cond (bnd aN.1 (aj (([]:List DS1)++a0.1)))
 (cond (inB (Int.toNat aN.1) (([]:List DS1)++a0.1))
 (some ((List.set (([]:List DS1)++a0.1) (Int.toNat aN.1) ((List.getD (([]:List DS1)++a0.1) (Int.toNat aN.1) zS1).1,(List.getD (([]:List DS1)++a0.1) (Int.toNat aN.1) zS1).2.1,(6,(bs []),([]:List ByteArray),0,0,pF ([(((List.getD (([]:List DS1)++a0.1) (Int.toNat aN.1) zS1).2.2.1).1,((List.getD (([]:List DS1)++a0.1) (Int.toNat aN.1) zS1).2.2.1).2.1,((List.getD (([]:List DS1)++a0.1) (Int.toNat aN.1) zS1).2.2.1).2.2.1,((List.getD (([]:List DS1)++a0.1) (Int.toNat aN.1) zS1).2.2.1).2.2.2.1,((List.getD (([]:List DS1)++a0.1) (Int.toNat aN.1) zS1).2.2.1).2.2.2.2.1,((List.getD (([]:List DS1)++a0.1) (Int.toNat aN.1) zS1).2.2.1).2.2.2.2.2.1,())]:List DS0),()),(List.getD (([]:List DS1)++a0.1) (Int.toNat aN.1) zS1).2.2.2.1,(List.getD (([]:List DS1)++a0.1) (Int.toNat aN.1) zS1).2.2.2.2.1,()),a0.2.1,()),iK.2.1,iK.2.2.1,())) none) none)
 (jW (S:=Int×Bool×(List Int)×Int×(List DS1)×(List DS3)×(List DS1)×Int×ByteArray×Int×ByteArray×(List ByteArray)×Int×Int×(List AV)×(List AV)×Int×Unit) (R:=DS4×(List Int)×Int×Unit)
 (cond (iEq iK.1 6)
 (some (.inl (aN.1,true,iK.2.1,iK.2.2.1,a0.1,a0.2.1,([]:List DS1)++a0.1,(List.getD (([]:List DS1)++a0.1) (Int.toNat aN.1) zS1).1,(List.getD (([]:List DS1)++a0.1) (Int.toNat aN.1) zS1).2.1,((List.getD (([]:List DS1)++a0.1) (Int.toNat aN.1) zS1).2.2.1).1,((List.getD (([]:List DS1)++a0.1) (Int.toNat aN.1) zS1).2.2.1).2.1,((List.getD (([]:List DS1)++a0.1) (Int.toNat aN.1) zS1).2.2.1).2.2.1,((List.getD (([]:List DS1)++a0.1) (Int.toNat aN.1) zS1).2.2.1).2.2.2.1,((List.getD (([]:List DS1)++a0.1) (Int.toNat aN.1) zS1).2.2.1).2.2.2.2.1,((List.getD (([]:List DS1)++a0.1) (Int.toNat aN.1) zS1).2.2.1).2.2.2.2.2.1,(List.getD (([]:List DS1)++a0.1) (Int.toNat aN.1) zS1).2.2.2.1,(List.getD (([]:List DS1)++a0.1) (Int.toNat aN.1) zS1).2.2.2.2.1,())))
 (some (.inl (aN.1,iEq iK.1 7,iK.2.1,iK.2.2.1,a0.1,a0.2.1,([]:List DS1)++a0.1,(List.getD (([]:List DS1)++a0.1) (Int.toNat aN.1) zS1).1,(List.getD (([]:List DS1)++a0.1) (Int.toNat aN.1) zS1).2.1,((List.getD (([]:List DS1)++a0.1) (Int.toNat aN.1) zS1).2.2.1).1,((List.getD (([]:List DS1)++a0.1) (Int.toNat aN.1) zS1).2.2.1).2.1,((List.getD (([]:List DS1)++a0.1) (Int.toNat aN.1) zS1).2.2.1).2.2.1,((List.getD (([]:List DS1)++a0.1) (Int.toNat aN.1) zS1).2.2.1).2.2.2.1,((List.getD (([]:List DS1)++a0.1) (Int.toNat aN.1) zS1).2.2.1).2.2.2.2.1,((List.getD (([]:List DS1)++a0.1) (Int.toNat aN.1) zS1).2.2.1).2.2.2.2.2.1,(List.getD (([]:List DS1)++a0.1) (Int.toNat aN.1) zS1).2.2.2.1,(List.getD (([]:List DS1)++a0.1) (Int.toNat aN.1) zS1).2.2.2.2.1,()))))
 (λdx =>
 cond dx.2.1
 (cond (fits (List.length ([]:List DS3)+List.length dx.2.2.2.2.2.1) 64)
 ((m24 4 dx.2.2.1 dx.2.2.2.1).bind λLD =>
 (m24 4 LD.2.1 LD.2.2.1).bind λLC =>
 (m24 3 LC.2.1 LC.2.2.1).bind λDk =>
 cond (bnd Dk.1 (aj ([(bs [98]),(bs [97]),(bs [116,111])]:List ByteArray)))
 (cond (inB (Int.toNat Dk.1) ([(bs [98]),(bs [97]),(bs [116,111])]:List ByteArray))
 (cond (fits (List.length (([]:List DS3)++dx.2.2.2.2.2.1)+List.length ([((LD.1,LC.1,()),([(bs [97]),List.getD ([(bs [98]),(bs [97]),(bs [116,111])]:List ByteArray) (Int.toNat Dk.1) ByteArray.empty]:List ByteArray),([]:List DS1),())]:List DS3)) 64)
 (cond (bnd dx.1 (aj dx.2.2.2.2.2.2.1))
 (cond (inB (Int.toNat dx.1) dx.2.2.2.2.2.2.1)
 (some ((List.set dx.2.2.2.2.2.2.1 (Int.toNat dx.1) (dx.2.2.2.2.2.2.2.1,dx.2.2.2.2.2.2.2.2.1,(dx.2.2.2.2.2.2.2.2.2.1,dx.2.2.2.2.2.2.2.2.2.2.1,dx.2.2.2.2.2.2.2.2.2.2.2.1,dx.2.2.2.2.2.2.2.2.2.2.2.2.1,dx.2.2.2.2.2.2.2.2.2.2.2.2.2.1,dx.2.2.2.2.2.2.2.2.2.2.2.2.2.2.1,()),dx.2.2.2.2.2.2.2.2.2.2.2.2.2.2.2.1,dx.2.2.2.2.2.2.2.2.2.2.2.2.2.2.2.2.1,()),(([]:List DS3)++dx.2.2.2.2.2.1)++([((LD.1,LC.1,()),([(bs [97]),List.getD ([(bs [98]),(bs [97]),(bs [116,111])]:List ByteArray) (Int.toNat Dk.1) ByteArray.empty]:List ByteArray),([]:List DS1),())]:List DS3),()),Dk.2.1,Dk.2.2.1,())) none) none) none) none) none) none)
 (cond (bnd dx.1 (aj dx.2.2.2.2.2.2.1))
 (cond (inB (Int.toNat dx.1) dx.2.2.2.2.2.2.1)
 (some ((List.set dx.2.2.2.2.2.2.1 (Int.toNat dx.1) (dx.2.2.2.2.2.2.2.1,dx.2.2.2.2.2.2.2.2.1,(dx.2.2.2.2.2.2.2.2.2.1,dx.2.2.2.2.2.2.2.2.2.2.1,dx.2.2.2.2.2.2.2.2.2.2.2.1,dx.2.2.2.2.2.2.2.2.2.2.2.2.1,dx.2.2.2.2.2.2.2.2.2.2.2.2.2.1,dx.2.2.2.2.2.2.2.2.2.2.2.2.2.2.1,()),dx.2.2.2.2.2.2.2.2.2.2.2.2.2.2.2.1,dx.2.2.2.2.2.2.2.2.2.2.2.2.2.2.2.2.1,()),dx.2.2.2.2.2.1,()),dx.2.2.1,dx.2.2.2.1,())) none) none))))))))) none) none) none
def a4u:Sh:=⟨3,[(0,tS4),(2,tS1)],[(1,.ptr 0 0 0)],[.box 65 [.d (.list (.int .i64)),.d (.int .i64)]]⟩
def a3h:Sh:=⟨1,[(0,tS4)],[],[.box 65 [.d (.list (.int .i64)),.d (.int .i64)]]⟩
def h13:HI:=⟨13,a4u,a3h,fun(x:DS4×DS1×(List Int)×Int×Unit)=>m13 x.1 x.2.1 x.2.2.1 x.2.2.2.1,[]⟩
theorem a3V:HK h13:=hkz (.d 4 (.s (.d 1 (.b (.d 1 (.c .o (.d 1 (.c .o (.d 1 (.c .o (.d 1 (.c .o (.d 1 (.c .o (.d 1 (.c .o (.j [] ⟨100,[(8,(.int .i64)),(69,.bool)],[(1,.ptr 0 0 0),(3,.ptr 1 0 0),(6,.ptr 2 0 0),(7,.row 3),(9,.ptr 4 0 0)],[.box 65 [.d (.list (.int .i64)),.d (.int .i64)],.box 29 [.d (.list tS1),.d (.list tS3)],.box 29 [.nil,.nil],.row 37 tS1 false,.box 37 [.d (.int .i64),.d .str,.d (.int .i64),.d .str,.d (.list .str),.d (.int .i64),.d (.int .i64),.d (.rl 34 6),.d (.rl 63 8),.d (.int .i64)]]⟩ .o .o))))))))))))))) .o)) [] tS4 Tryz.func13 (cH ni c0) (by kernel_rfl) λx=>by kernel_rfl
def m64(a0:Int):Option (ByteArray×Unit) :=
 cond (iEq a0 1)
 (some ((bs [100,101,102,105,110,101]),()))
 (cond (iEq a0 2)
 (some ((bs [99,111,118,101,114]),()))
 (cond (iEq a0 3)
 (some ((bs [101,120,99,108,117,100,101]),()))
 (cond (iEq a0 4)
 (some ((bs [99,111,110,100,105,116,105,111,110]),()))
 (cond (iEq a0 5)
 (some ((bs [108,105,109,105,116]),()))
 (cond (iEq a0 6)
 (some ((bs [100,101,100,117,99,116,105,98,108,101]),()))
 (cond (iEq a0 7)
 (some ((bs [102,114,97,110,99,104,105,115,101]),()))
 (cond (iEq a0 8)
 (some ((bs [99,111,105,110,115,117,114,97,110,99,101]),()))
 (cond (iEq a0 9)
 (some ((bs [97,118,101,114,97,103,101]),()))
 (cond (iEq a0 10)
 (some ((bs [115,117,98,108,105,109,105,116]),()))
 (some ((bs []),())))))))))))
def i64:PI:=⟨64,[(.int .i64)],[.str],fun(x:Int×Unit)=>m64 x.1⟩
theorem a3t:PK i64:=pk .o Tryz.func64 c0 (by kernel_rfl) λx=>by kernel_rfl
def m80(a0:Int):Option (Bool×Unit) :=
 some (cond (iLe 97 a0) (iLe a0 122) false,())
def i80:PI:=⟨80,[(.int .u8)],[.bool],fun(x:Int×Unit)=>m80 x.1⟩
theorem VR:PK i80:=pk .o Tryz.func80 c0 (by kernel_rfl) λx=>by kernel_rfl
def Uv(a0:Int):Option (Bool×Unit) :=
 some (cond (iLe 48 a0) (iLe a0 57) false,())
def a8y:PI:=⟨118,[(.int .u8)],[.bool],fun(x:Int×Unit)=>Uv x.1⟩
theorem a0S:PK a8y:=pk .o Tryz.func118 c0 (by kernel_rfl) λx=>by kernel_rfl
def Nr(a0:Int):Option (Bool×Unit) :=
 (m80 a0).bind λa6k =>
 cond a6k.1
 (some (true,()))
 ((Uv a0).bind λa6j =>
 some (cond a6j.1 true (iEq a0 45),()))
def i117:PI:=⟨117,[(.int .u8)],[.bool],fun(x:Int×Unit)=>Nr x.1⟩
theorem a0T:PK i117:=pk .o Tryz.func117 (cP a0S (cP VR c0)) (by kernel_rfl) λx=>by kernel_rfl
def m77(a0:ByteArray)(a1:Int)(a2:Unit):Option (Int×Unit) :=
 aJ (S:=ByteArray×Int×Unit×Unit) (R:=Int×Unit) (λqj =>
 cond (or (bnd qj.2.1 (sLen qj.1)) (not (bEq (iLt qj.2.1 (sLen qj.1)) true)))
 (cond (iLt qj.2.1 (sLen qj.1))
 ((Nr (sAt qj.1 qj.2.1)).bind λa6i =>
 cond a6i.1
 (some (.inl (qj.1,aB .i64 qj.2.1 1,qj.2.2.1,())))
 (some (.inr (qj.2.1,()))))
 (some (.inr (qj.2.1,())))) none)
 (a0,a1,(),())
def i77:PI:=⟨77,[.str,(.int .i64),(.fnc 117)],[(.int .i64)],fun(x:ByteArray×Int×Unit×Unit)=>m77 x.1 x.2.1 x.2.2.1⟩
theorem a3r:PK i77:=pk (.d 1 (.s (.b (.l [] ⟨21,[(0,.str),(1,(.int .i64)),(2,(.fnc 117))],[],[]⟩ .o)) .o)) Tryz.func77 (cP a0T c0) (by kernel_rfl) λx=>by kernel_rfl
def m95(a0:ByteArray):Option (Bool×Unit) :=
 cond (or (bnd 0 (sLen a0)) (not (bEq (cond (iEq (sLen a0) 0) true (iLt 16 (sLen a0))) false)))
 (cond (cond (iEq (sLen a0) 0) true (iLt 16 (sLen a0)))
 (cond (or (bnd (bf .i64 (sLen a0) 1) (sLen a0)) (not (bEq true false)))
 (some (false,())) none)
 ((m80 (sAt a0 0)).bind λZ9 =>
 cond (or (bnd (bf .i64 (sLen a0) 1) (sLen a0)) (not (bEq (not Z9.1) false)))
 (cond (cond (not Z9.1) true (iEq (sAt a0 (bf .i64 (sLen a0) 1)) 45))
 (some (false,()))
 ((m77 a0 0 ()).bind λa6h =>
 some (iEq a6h.1 (sLen a0),()))) none)) none
def i95:PI:=⟨95,[.str],[.bool],fun(x:ByteArray×Unit)=>m95 x.1⟩
theorem a3n:PK i95:=pk .o Tryz.func95 (cP a3r (cP VR c0)) (by kernel_rfl) λx=>by kernel_rfl
def m96(a0:ByteArray):Option (Bool×Unit) :=
 cond (sEq a0 (bs [97,110,100]))
 (some (true,()))
 (cond (sEq a0 (bs [97,118,101,114,97,103,101]))
 (some (true,()))
 (cond (sEq a0 (bs [99,111,105,110,115,117,114,97,110,99,101]))
 (some (true,()))
 (cond (sEq a0 (bs [99,111,110,100,105,116,105,111,110]))
 (some (true,()))
 (cond (sEq a0 (bs [99,111,118,101,114]))
 (some (true,()))
 (cond (sEq a0 (bs [100,101,100,117,99,116,105,98,108,101]))
 (some (true,()))
 (cond (sEq a0 (bs [100,101,102,105,110,101]))
 (some (true,()))
 (cond (sEq a0 (bs [101,110,100]))
 (some (true,()))
 (cond (sEq a0 (bs [101,110,100,111,114,115,101]))
 (some (true,()))
 (cond (sEq a0 (bs [101,120,99,108,117,100,101]))
 (some (true,()))
 (cond (sEq a0 (bs [102,97,108,115,101]))
 (some (true,()))
 (cond (sEq a0 (bs [102,114,97,110,99,104,105,115,101]))
 (some (true,()))
 (cond (sEq a0 (bs [102,114,111,109]))
 (some (true,()))
 (cond (sEq a0 (bs [105,110]))
 (some (true,()))
 (cond (sEq a0 (bs [108,105,109,105,116]))
 (some (true,()))
 (cond (sEq a0 (bs [110,111,116]))
 (some (true,()))
 (cond (sEq a0 (bs [111,114]))
 (some (true,()))
 (cond (sEq a0 (bs [114,101,109,111,118,101]))
 (some (true,()))
 (cond (sEq a0 (bs [115,117,98,108,105,109,105,116]))
 (some (true,()))
 (cond (sEq a0 (bs [116,111]))
 (some (true,()))
 (cond (sEq a0 (bs [116,114,117,101]))
 (some (true,()))
 (cond (sEq a0 (bs [117,110,108,101,115,115]))
 (some (true,()))
 (cond (sEq a0 (bs [119,104,101,110]))
 (some (true,()))
 (some (false,()))))))))))))))))))))))))
def i96:PI:=⟨96,[.str],[.bool],fun(x:ByteArray×Unit)=>m96 x.1⟩
theorem a3m:PK i96:=pk .o Tryz.func96 c0 (by kernel_rfl) λx=>by kernel_rfl
def m54(a0:ByteArray):Option (Bool×Unit) :=
 (m95 a0).bind λa6g =>
 cond a6g.1
 ((m96 a0).bind λa6f =>
 some (not a6f.1,()))
 (some (false,()))
def i54:PI:=⟨54,[.str],[.bool],fun(x:ByteArray×Unit)=>m54 x.1⟩
theorem Ch:PK i54:=pk .o Tryz.func54 (cP a3n (cP a3m c0)) (by kernel_rfl) λx=>by kernel_rfl
def m97(a0:List ByteArray)(a1:ByteArray):Option (Int×Unit) :=
 aJ (S:=(List ByteArray)×ByteArray×Int×Int×Unit) (R:=Int×Unit) (λrF =>
 cond (iLt rF.2.2.2.1 rF.2.2.1)
 (cond (bnd rF.2.2.2.1 (aj rF.1))
 (cond (sEq rF.2.1 (atI rF.1 rF.2.2.2.1 ByteArray.empty))
 (some (.inr (rF.2.2.2.1,())))
 (some (.inl (rF.1,rF.2.1,rF.2.2.1,aB .i64 rF.2.2.2.1 1,())))) none)
 (some (.inr ((-1),()))))
 (a0,a1,aj a0,0,())
def i97:PI:=⟨97,[(.list .str),.str],[(.int .i64)],fun(x:(List ByteArray)×ByteArray×Unit)=>m97 x.1 x.2.1⟩
theorem a3l:PK i97:=pk (.d 1 (.s (.d 1 (.b (.l [] ⟨19,[(0,(.list .str)),(1,.str),(7,(.int .i64)),(8,(.int .i64))],[],[]⟩ .o))) .o)) Tryz.func97 c0 (by kernel_rfl) λx=>by kernel_rfl
def m55(a0:List ByteArray)(a1:ByteArray):Option (Bool×Unit) :=
 (m97 a0 a1).bind λa6d =>
 some (iLe 0 a6d.1,())
def i55:PI:=⟨55,[(.list .str),.str],[.bool],fun(x:(List ByteArray)×ByteArray×Unit)=>m55 x.1 x.2.1⟩
theorem VZ:PK i55:=pk .o Tryz.func55 (cP a3l c0) (by kernel_rfl) λx=>by kernel_rfl
def DX(a0:List ByteArray):Option (Bool×Unit) :=
 cond (cond (iEq (aj a0) 0) true (iLt 12 (aj a0)))
 (some (false,()))
 (aJ (S:=(List ByteArray)×(List ByteArray)×Int×Int×Unit) (R:=Bool×Unit) (λnC =>
 cond (iLt nC.2.2.2.1 nC.2.2.1)
 (cond (bnd nC.2.2.2.1 (aj nC.2.1))
 ((m54 (atI nC.2.1 nC.2.2.2.1 ByteArray.empty)).bind λZ8 =>
 cond (or (pI 0 nC.2.2.2.1 (List.length nC.1)) (not (bEq (not Z8.1) false)))
 (cond (not Z8.1)
 (some (.inr (false,())))
 ((m55 (jQ 0 nC.2.2.2.1 nC.1) (atI nC.2.1 nC.2.2.2.1 ByteArray.empty)).bind λa6c =>
 cond a6c.1
 (some (.inr (false,())))
 (some (.inl (nC.1,nC.2.1,nC.2.2.1,aB .i64 nC.2.2.2.1 1,()))))) none) none)
 (some (.inr (true,()))))
 (a0,a0,aj a0,0,()))
def a8i:PI:=⟨185,[(.list .str)],[.bool],fun(x:(List ByteArray)×Unit)=>DX x.1⟩
theorem a0y:PK a8i:=pk (.d 2 (.s (.d 1 (.b (.l [] ⟨31,[(0,(.list .str)),(13,(.list .str)),(14,(.int .i64)),(15,(.int .i64))],[],[]⟩ .o))) .o)) Tryz.func185 (cP Ch (cP VZ c0)) (by kernel_rfl) λx=>by kernel_rfl
def yh(a0:Int):Option (Bool×Unit) :=
 some (cond (iLe (-1000000000) a0) (iLe a0 1000000000) false,())
def a8h:PI:=⟨186,[(.int .i64)],[.bool],fun(x:Int×Unit)=>yh x.1⟩
theorem a0x:PK a8h:=pk .o Tryz.func186 c0 (by kernel_rfl) λx=>by kernel_rfl
def IW(a0:DS0):Option (Bool×Unit) :=
 cond (cond (iLt a0.1 1) true (iLt 8 a0.1))
 (some (false,()))
 (cond (bnd a0.1 ((9:Nat):Int))
 (cond (cond (iLt (aj a0.2.2.2.2.2.1) ((atI ([((bs []),false,0,0,0,()),((bs [116,114,117,101]),false,0,0,0,()),((bs [102,97,108,115,101]),false,0,0,0,()),((bs []),true,0,0,0,()),((bs [105,110]),true,0,0,0,()),((bs [102,114,111,109]),true,0,0,0,()),((bs [110,111,116]),false,1,1,3,()),((bs [97,110,100]),false,2,300,2,()),((bs [111,114]),false,2,300,1,())]:List DS8) a0.1 (ByteArray.empty,false,0,0,0,())).2.2.1)) true (iLt ((atI ([((bs []),false,0,0,0,()),((bs [116,114,117,101]),false,0,0,0,()),((bs [102,97,108,115,101]),false,0,0,0,()),((bs []),true,0,0,0,()),((bs [105,110]),true,0,0,0,()),((bs [102,114,111,109]),true,0,0,0,()),((bs [110,111,116]),false,1,1,3,()),((bs [97,110,100]),false,2,300,2,()),((bs [111,114]),false,2,300,1,())]:List DS8) a0.1 (ByteArray.empty,false,0,0,0,())).2.2.2.1) (aj a0.2.2.2.2.2.1)))
 (some (false,()))
 (cond ((atI ([((bs []),false,0,0,0,()),((bs [116,114,117,101]),false,0,0,0,()),((bs [102,97,108,115,101]),false,0,0,0,()),((bs []),true,0,0,0,()),((bs [105,110]),true,0,0,0,()),((bs [102,114,111,109]),true,0,0,0,()),((bs [110,111,116]),false,1,1,3,()),((bs [97,110,100]),false,2,300,2,()),((bs [111,114]),false,2,300,1,())]:List DS8) a0.1 (ByteArray.empty,false,0,0,0,())).2.1)
 ((m54 a0.2.1).bind λa6b =>
 cond (not a6b.1)
 (some (false,()))
 (cond (cond (not ((atI ([((bs []),false,0,0,0,()),((bs [116,114,117,101]),false,0,0,0,()),((bs [102,97,108,115,101]),false,0,0,0,()),((bs []),true,0,0,0,()),((bs [105,110]),true,0,0,0,()),((bs [102,114,111,109]),true,0,0,0,()),((bs [110,111,116]),false,1,1,3,()),((bs [97,110,100]),false,2,300,2,()),((bs [111,114]),false,2,300,1,())]:List DS8) a0.1 (ByteArray.empty,false,0,0,0,())).2.1)) (not (sEq a0.2.1 (bs []))) false)
 (some (false,()))
 (jW (S:=Int×ByteArray×(List ByteArray)×Int×Int×(List AV)×Unit) (R:=Bool×Unit)
 (cond (iEq a0.1 4)
 ((DX a0.2.2.1).bind λa6a =>
 cond (not a6a.1)
 (some (.inr (false,())))
 (some (.inl (a0.1,a0.2.1,a0.2.2.1,a0.2.2.2.1,a0.2.2.2.2.1,a0.2.2.2.2.2.1,()))))
 (cond (iLt 0 (aj a0.2.2.1))
 (some (.inr (false,())))
 (some (.inl (a0.1,a0.2.1,a0.2.2.1,a0.2.2.2.1,a0.2.2.2.2.1,a0.2.2.2.2.2.1,())))))
 (λAB =>
 cond (iEq AB.1 5)
 ((yh AB.2.2.2.1).bind λa5Z =>
 cond a5Z.1
 ((yh AB.2.2.2.2.1).bind λa5Y =>
 some (cond a5Y.1 (iLe AB.2.2.2.1 AB.2.2.2.2.1) false,()))
 (some (false,())))
 (some (cond (iEq AB.2.2.2.1 0) (iEq AB.2.2.2.2.1 0) false,()))))))
 (cond (cond (not ((atI ([((bs []),false,0,0,0,()),((bs [116,114,117,101]),false,0,0,0,()),((bs [102,97,108,115,101]),false,0,0,0,()),((bs []),true,0,0,0,()),((bs [105,110]),true,0,0,0,()),((bs [102,114,111,109]),true,0,0,0,()),((bs [110,111,116]),false,1,1,3,()),((bs [97,110,100]),false,2,300,2,()),((bs [111,114]),false,2,300,1,())]:List DS8) a0.1 (ByteArray.empty,false,0,0,0,())).2.1)) (not (sEq a0.2.1 (bs []))) false)
 (some (false,()))
 (jW (S:=Int×ByteArray×(List ByteArray)×Int×Int×(List AV)×Unit) (R:=Bool×Unit)
 (cond (iEq a0.1 4)
 ((DX a0.2.2.1).bind λa5X =>
 cond (not a5X.1)
 (some (.inr (false,())))
 (some (.inl (a0.1,a0.2.1,a0.2.2.1,a0.2.2.2.1,a0.2.2.2.2.1,a0.2.2.2.2.2.1,()))))
 (cond (iLt 0 (aj a0.2.2.1))
 (some (.inr (false,())))
 (some (.inl (a0.1,a0.2.1,a0.2.2.1,a0.2.2.2.1,a0.2.2.2.2.1,a0.2.2.2.2.2.1,())))))
 (λAA =>
 cond (iEq AA.1 5)
 ((yh AA.2.2.2.1).bind λa5W =>
 cond a5W.1
 ((yh AA.2.2.2.2.1).bind λa5V =>
 some (cond a5V.1 (iLe AA.2.2.2.1 AA.2.2.2.2.1) false,()))
 (some (false,())))
 (some (cond (iEq AA.2.2.2.1 0) (iEq AA.2.2.2.2.1 0) false,()))))))) none)
def a8k:PI:=⟨170,[tS0],[.bool],fun(x:DS0×Unit)=>IW x.1⟩
theorem a0B:PK a8k:=pk (.d 5 (.j [] ⟨85,[],[(1,.ptr 0 0 0)],[.box 34 [.d (.int .i64),.d .str,.d (.list .str),.d (.int .i64),.d (.int .i64),.d (.rl 34 6)]]⟩ .o .o)) Tryz.func170 (cP a0y (cP a0x (cP Ch c0))) (by kernel_rfl) λx=>by kernel_rfl
def Gm(self:(DS0×Int×Int×Unit)->Option (Bool×Int×Unit))(a0:DS0)(a1:Int)(a2:Int):Option (Bool×Int×Unit) :=
 cond (cond (iLt 300 (aB .i64 a2 1)) true (iLt 16 a1))
 (some (false,aB .i64 a2 1,()))
 ((IW (a0.1,a0.2.1,a0.2.2.1,a0.2.2.2.1,a0.2.2.2.2.1,a0.2.2.2.2.2.1,())).bind λa5U =>
 cond (not a5U.1)
 (some (false,aB .i64 a2 1,()))
 (aJ (S:=Int×(List AV)×Int×Int×Int×Unit) (R:=Bool×Int×Unit) (λiD =>
 cond (iLt iD.2.2.2.1 iD.2.2.1)
 (cond (and (bnd iD.2.2.2.1 (aj iD.2.1)) (jK (atI iD.2.1 iD.2.2.2.1 AV.any)))
 ((self (((aL (atI iD.2.1 iD.2.2.2.1 AV.any)).1,(aL (atI iD.2.1 iD.2.2.2.1 AV.any)).2.1,(aL (atI iD.2.1 iD.2.2.2.1 AV.any)).2.2.1,(aL (atI iD.2.1 iD.2.2.2.1 AV.any)).2.2.2.1,(aL (atI iD.2.1 iD.2.2.2.1 AV.any)).2.2.2.2.1,(aL (atI iD.2.1 iD.2.2.2.1 AV.any)).2.2.2.2.2.1,()),aB .i64 iD.1 1,iD.2.2.2.2.1,())).bind λRu =>
 cond (not Ru.1)
 (some (.inr (false,Ru.2.1,())))
 (some (.inl (iD.1,iD.2.1,iD.2.2.1,aB .i64 iD.2.2.2.1 1,Ru.2.1,())))) none)
 (some (.inr (true,iD.2.2.2.2.1,()))))
 (a1,a0.2.2.2.2.2.1,aj a0.2.2.2.2.2.1,0,aB .i64 a2 1,())))
def a1F(a0:DS0)(a1:Int)(a2:Int):Option (Bool×Int×Unit):=bg (λself (x:DS0×Int×Int×Unit)=>Gm self x.1 x.2.1 x.2.2.1) 10000 (a0,a1,a2,())
def QC:Sh:=⟨3,[(0,tS0),(1,(.int .i64))],[(2,.ptr 0 0 0)],[.box 3 [.d (.int .i64)]]⟩
def PY:Sh:=⟨1,[(0,.bool)],[],[.box 3 [.d (.int .i64)]]⟩
def a8V:HI:=⟨145,QC,PY,fun(x:DS0×Int×Int×Unit)=>a1F x.1 x.2.1 x.2.2.1,[]⟩
theorem a0Z:HK a8V:=qF 10000 (ish:=QC) (osh:=PY) (G:=λself (x:DS0×Int×Int×Unit)=>Gm self x.1 x.2.1 x.2.2.1) (iA (f:=Tryz.f145) (by kernel_rfl)) λself hr=>hk (.d 3 (.s (.d 1 (.b (.l [] ⟨41,[(1,(.int .i64)),(28,(.rl 34 6)),(29,(.int .i64)),(30,(.int .i64))],[(2,.ptr 0 0 0)],[.box 3 [.d (.int .i64)]]⟩ .o))) .o)) [] Tryz.func145 (cH hr (cP a0B c0)) (by kernel_rfl) λx=>by kernel_rfl
def m93(a0:DS0):Option (Bool×Unit) :=
 (a1F (a0.1,a0.2.1,a0.2.2.1,a0.2.2.2.1,a0.2.2.2.2.1,a0.2.2.2.2.2.1,()) 1 0).bind λa5T =>
 some (a5T.1,())
def i93:PI:=⟨93,[tS0],[.bool],fun(x:DS0×Unit)=>m93 x.1⟩
theorem VP:PK i93:=pk .o Tryz.func93 (cH a0Z c0) (by kernel_rfl) λx=>by kernel_rfl
def m65(a0:Int):Option (Int×Unit) :=
 cond (iEq a0 5)
 (some (1073741824,()))
 (cond (iEq a0 6)
 (some (1073741824,()))
 (cond (iEq a0 7)
 (some (1073741824,()))
 (cond (iEq a0 10)
 (some (1073741824,()))
 (cond (iEq a0 8)
 (some (1000000,()))
 (some (0,()))))))
def i65:PI:=⟨65,[(.int .i64)],[(.int .i64)],fun(x:Int×Unit)=>m65 x.1⟩
theorem a3s:PK i65:=pk .o Tryz.func65 c0 (by kernel_rfl) λx=>by kernel_rfl
def MW(self:((List AV)×Int×Int×Unit)->Option (Bool×Int×Unit))(a0:List AV)(a1:Int)(a2:Int):Option (Bool×Int×Unit) :=
 aJ (S:=Int×(List AV)×Int×Int×Int×Unit) (R:=Bool×Int×Unit) (λdS =>
 cond (iLt dS.2.2.2.1 dS.2.2.1)
 (cond (and (bnd dS.2.2.2.1 (aj dS.2.1)) (eu (atI dS.2.1 dS.2.2.2.1 AV.any)))
 (cond (cond (iLt 16 dS.1) true (iLt 40 (aB .i64 dS.2.2.2.2.1 1)))
 (some (.inr (false,aB .i64 dS.2.2.2.2.1 1,())))
 ((m54 ((ay (atI dS.2.1 dS.2.2.2.1 AV.any)).1)).bind λa5R =>
 cond (not a5R.1)
 (some (.inr (false,aB .i64 dS.2.2.2.2.1 1,())))
 ((m93 (((ay (atI dS.2.1 dS.2.2.2.1 AV.any)).2.1).1,((ay (atI dS.2.1 dS.2.2.2.1 AV.any)).2.1).2.1,((ay (atI dS.2.1 dS.2.2.2.1 AV.any)).2.1).2.2.1,((ay (atI dS.2.1 dS.2.2.2.1 AV.any)).2.1).2.2.2.1,((ay (atI dS.2.1 dS.2.2.2.1 AV.any)).2.1).2.2.2.2.1,((ay (atI dS.2.1 dS.2.2.2.1 AV.any)).2.1).2.2.2.2.2.1,())).bind λa5Q =>
 cond (not a5Q.1)
 (some (.inr (false,aB .i64 dS.2.2.2.2.1 1,())))
 ((self ((ay (atI dS.2.1 dS.2.2.2.1 AV.any)).2.2.1,aB .i64 dS.1 1,aB .i64 dS.2.2.2.2.1 1,())).bind λRt =>
 cond (not Rt.1)
 (some (.inr (false,Rt.2.1,())))
 (some (.inl (dS.1,dS.2.1,dS.2.2.1,aB .i64 dS.2.2.2.1 1,Rt.2.1,()))))))) none)
 (some (.inr (true,dS.2.2.2.2.1,()))))
 (a1,a0,aj a0,0,a2,())
def m94(a0:List AV)(a1:Int)(a2:Int):Option (Bool×Int×Unit):=bg (λself (x:(List AV)×Int×Int×Unit)=>MW self x.1 x.2.1 x.2.2.1) 10000 (a0,a1,a2,())
def Wv:Sh:=⟨3,[(0,(.rl 63 8)),(1,(.int .i64))],[(2,.ptr 0 0 0)],[.box 3 [.d (.int .i64)]]⟩
def VN:Sh:=⟨1,[(0,.bool)],[],[.box 3 [.d (.int .i64)]]⟩
def h94:HI:=⟨94,Wv,VN,fun(x:(List AV)×Int×Int×Unit)=>m94 x.1 x.2.1 x.2.2.1,[]⟩
theorem a3O:HK h94:=qF 10000 (ish:=Wv) (osh:=VN) (G:=λself (x:(List AV)×Int×Int×Unit)=>MW self x.1 x.2.1 x.2.2.1) (iA (f:=Tryz.f94) (by kernel_rfl)) λself hr=>hk (.d 1 (.s (.d 1 (.b (.l [] ⟨48,[(1,(.int .i64)),(9,(.rl 63 8)),(10,(.int .i64)),(11,(.int .i64))],[(2,.ptr 0 0 0)],[.box 3 [.d (.int .i64)]]⟩ .o))) .o)) [] Tryz.func94 (cH hr (cP Ch (cP VP c0))) (by kernel_rfl) λx=>by kernel_rfl
def m52(a0:DS1):Option (Bool×Unit) :=
 (m64 a0.1).bind λa6l =>
 cond (sEq a6l.1 (bs []))
 (some (false,()))
 ((m54 a0.2.1).bind λa6e =>
 cond (not a6e.1)
 (some (false,()))
 ((m93 (a0.2.2.1.1,a0.2.2.1.2.1,a0.2.2.1.2.2.1,a0.2.2.1.2.2.2.1,a0.2.2.1.2.2.2.2.1,a0.2.2.1.2.2.2.2.2.1,())).bind λa5S =>
 cond (not a5S.1)
 (some (false,()))
 (cond (cond (iNe a0.1 3) (iLt 0 (aj a0.2.2.2.1)) false)
 (some (false,()))
 ((m65 a0.1).bind λZ7 =>
 cond (cond (iLt a0.2.2.2.2.1 (dG 1 Z7.1)) true (iLt Z7.1 a0.2.2.2.2.1))
 (some (false,()))
 ((m94 a0.2.2.2.1 1 0).bind λa5P =>
 some (a5P.1,()))))))
def i52:PI:=⟨52,[tS1],[.bool],fun(x:DS1×Unit)=>m52 x.1⟩
theorem a3y:PK i52:=pk .o Tryz.func52 (cP Ch (cP a3t (cP a3s (cP VP (cH a3O c0))))) (by kernel_rfl) λx=>by kernel_rfl
def m25(a0:List DS1):Option (Bool×Unit) :=
 cond (iLt 40 (aj a0))
 (some (false,()))
 (aJ (S:=(List DS1)×Int×Int×Unit) (R:=Bool×Unit) (λgN =>
 cond (iLt gN.2.2.1 gN.2.1)
 (cond (bnd gN.2.2.1 (aj gN.1))
 ((m52 ((atI gN.1 gN.2.2.1 zS1).1,(atI gN.1 gN.2.2.1 zS1).2.1,(((atI gN.1 gN.2.2.1 zS1).2.2.1).1,((atI gN.1 gN.2.2.1 zS1).2.2.1).2.1,((atI gN.1 gN.2.2.1 zS1).2.2.1).2.2.1,((atI gN.1 gN.2.2.1 zS1).2.2.1).2.2.2.1,((atI gN.1 gN.2.2.1 zS1).2.2.1).2.2.2.2.1,((atI gN.1 gN.2.2.1 zS1).2.2.1).2.2.2.2.2.1,()),(atI gN.1 gN.2.2.1 zS1).2.2.2.1,(atI gN.1 gN.2.2.1 zS1).2.2.2.2.1,())).bind λa5O =>
 cond (not a5O.1)
 (some (.inr (false,())))
 (some (.inl (gN.1,gN.2.1,aB .i64 gN.2.2.1 1,())))) none)
 (some (.inr (true,()))))
 (a0,aj a0,0,()))
def i25:PI:=⟨25,[(.list tS1)],[.bool],fun(x:(List DS1)×Unit)=>m25 x.1⟩
theorem Wi:PK i25:=pk (.d 2 (.s (.d 1 (.b (.l [] ⟨18,[(8,(.list tS1)),(9,(.int .i64)),(10,(.int .i64))],[],[]⟩ .o))) .o)) Tryz.func25 (cP a3y c0) (by kernel_rfl) λx=>by kernel_rfl
def m53(a0:DS2):Option (Bool×Unit) :=
 some (cond (cond (iLe 0 a0.1) (iLt a0.1 a0.2.1) false) (iLe a0.2.1 876600) false,())
def i53:PI:=⟨53,[tS2],[.bool],fun(x:DS2×Unit)=>m53 x.1⟩
theorem a3x:PK i53:=pk .o Tryz.func53 c0 (by kernel_rfl) λx=>by kernel_rfl
def m26(a0:DS3):Option (Bool×Unit) :=
 (m53 (a0.1.1,a0.1.2.1,())).bind λa5N =>
 cond (cond (cond (not a5N.1) true (iLt 876599 a0.1.2.1)) true (iLt 40 (aj a0.2.1)))
 (some (false,()))
 (aJ (S:=(List ByteArray)×Int×Int×Int×Int×(List ByteArray)×(List DS1)×Unit) (R:=Bool×Unit) (λko =>
 cond (iLt ko.2.2.1 ko.2.1)
 (cond (bnd ko.2.2.1 (aj ko.1))
 ((m54 (atI ko.1 ko.2.2.1 ByteArray.empty)).bind λZ6 =>
 cond (or (pI 0 ko.2.2.1 (List.length ko.2.2.2.2.2.1)) (not (bEq (not Z6.1) false)))
 (cond (not Z6.1)
 (some (.inr (false,())))
 ((m55 (jQ 0 ko.2.2.1 ko.2.2.2.2.2.1) (atI ko.1 ko.2.2.1 ByteArray.empty)).bind λa5M =>
 cond a5M.1
 (some (.inr (false,())))
 (some (.inl (ko.1,ko.2.1,aB .i64 ko.2.2.1 1,ko.2.2.2.1,ko.2.2.2.2.1,ko.2.2.2.2.2.1,ko.2.2.2.2.2.2.1,()))))) none) none)
 (Option.map Sum.inr ((m25 ko.2.2.2.2.2.2.1).bind λa5L =>
 some (a5L.1,()))))
 (a0.2.1,aj a0.2.1,0,a0.1.1,a0.1.2.1,a0.2.1,a0.2.2.1,()))
def i26:PI:=⟨26,[tS3],[.bool],fun(x:DS3×Unit)=>m26 x.1⟩
theorem a3G:PK i26:=pk (.d 2 (.s (.d 1 (.b (.l [] ⟨44,[(22,(.list .str)),(23,(.int .i64)),(24,(.int .i64))],[(1,.ptr 0 0 0)],[.box 55 [.d (.int .i64),.d (.int .i64),.d (.list .str),.d (.list tS1)]]⟩ .o))) .o)) Tryz.func26 (cP Wi (cP a3x (cP Ch (cP VZ c0)))) (by kernel_rfl) λx=>by kernel_rfl
def m15(a0:DS4):Option (Bool×Unit) :=
 cond (iLt 12 (aj a0.2.1))
 (some (false,()))
 ((m25 a0.1).bind λa5K =>
 cond (not a5K.1)
 (some (false,()))
 (aJ (S:=(List DS3)×Int×Int×Unit) (R:=Bool×Unit) (λnW =>
 cond (iLt nW.2.2.1 nW.2.1)
 (cond (bnd nW.2.2.1 (aj nW.1))
 ((m26 ((((atI nW.1 nW.2.2.1 zS3).1).1,((atI nW.1 nW.2.2.1 zS3).1).2.1,()),(atI nW.1 nW.2.2.1 zS3).2.1,(atI nW.1 nW.2.2.1 zS3).2.2.1,())).bind λa5J =>
 cond (not a5J.1)
 (some (.inr (false,())))
 (some (.inl (nW.1,nW.2.1,aB .i64 nW.2.2.1 1,())))) none)
 (some (.inr (true,()))))
 (a0.2.1,aj a0.2.1,0,())))
def i15:PI:=⟨15,[tS4],[.bool],fun(x:DS4×Unit)=>m15 x.1⟩
theorem a3K:PK i15:=pk (.d 2 (.s (.d 1 (.b (.l [] ⟨26,[(16,(.list tS3)),(17,(.int .i64)),(18,(.int .i64))],[],[]⟩ .o))) .o)) Tryz.func15 (cP Wi (cP a3G c0)) (by kernel_rfl) λx=>by kernel_rfl
def m61(a0:List ByteArray)(a1:List ByteArray):Option (Bool×Unit) :=
 cond (iNe (aj a0) (aj a1))
 (some (false,()))
 (aJ (S:=(List ByteArray)×(List ByteArray)×Int×Int×Unit) (R:=Bool×Unit) (λoK =>
 cond (iLt oK.2.2.2.1 oK.2.2.1)
 (cond (bnd oK.2.2.2.1 (aj oK.1))
 (cond (bnd oK.2.2.2.1 (aj oK.2.1))
 (cond (not (sEq (atI oK.1 oK.2.2.2.1 ByteArray.empty) (atI oK.2.1 oK.2.2.2.1 ByteArray.empty)))
 (some (.inr (false,())))
 (some (.inl (oK.1,oK.2.1,oK.2.2.1,aB .i64 oK.2.2.2.1 1,())))) none) none)
 (some (.inr (true,()))))
 (a0,a1,aj a0,0,()))
def i61:PI:=⟨61,[(.list .str),(.list .str)],[.bool],fun(x:(List ByteArray)×(List ByteArray)×Unit)=>m61 x.1 x.2.1⟩
theorem VW:PK i61:=pk (.d 2 (.s (.d 1 (.b (.l [] ⟨26,[(0,(.list .str)),(1,(.list .str)),(12,(.int .i64)),(13,(.int .i64))],[],[]⟩ .o))) .o)) Tryz.func61 c0 (by kernel_rfl) λx=>by kernel_rfl
def Uw(self:(DS0×DS0×Unit)->Option (Bool×Unit))(a0:List AV)(a1:List AV)(a2:Unit):Option (Bool×Unit) :=
 cond (iNe (aj a0) (aj a1))
 (some (false,()))
 (aJ (S:=(List AV)×Unit×(List AV)×Int×Int×Unit) (R:=Bool×Unit) (λdB =>
 cond (iLt dB.2.2.2.2.1 dB.2.2.2.1)
 (cond (and (bnd dB.2.2.2.2.1 (aj dB.2.2.1)) (jK (atI dB.2.2.1 dB.2.2.2.2.1 AV.any)))
 (cond (and (bnd dB.2.2.2.2.1 (aj dB.1)) (jK (atI dB.1 dB.2.2.2.2.1 AV.any)))
 ((self (((aL (atI dB.2.2.1 dB.2.2.2.2.1 AV.any)).1,(aL (atI dB.2.2.1 dB.2.2.2.2.1 AV.any)).2.1,(aL (atI dB.2.2.1 dB.2.2.2.2.1 AV.any)).2.2.1,(aL (atI dB.2.2.1 dB.2.2.2.2.1 AV.any)).2.2.2.1,(aL (atI dB.2.2.1 dB.2.2.2.2.1 AV.any)).2.2.2.2.1,(aL (atI dB.2.2.1 dB.2.2.2.2.1 AV.any)).2.2.2.2.2.1,()),((aL (atI dB.1 dB.2.2.2.2.1 AV.any)).1,(aL (atI dB.1 dB.2.2.2.2.1 AV.any)).2.1,(aL (atI dB.1 dB.2.2.2.2.1 AV.any)).2.2.1,(aL (atI dB.1 dB.2.2.2.2.1 AV.any)).2.2.2.1,(aL (atI dB.1 dB.2.2.2.2.1 AV.any)).2.2.2.2.1,(aL (atI dB.1 dB.2.2.2.2.1 AV.any)).2.2.2.2.2.1,()),())).bind λa5C =>
 cond (not a5C.1)
 (some (.inr (false,())))
 (some (.inl (dB.1,dB.2.1,dB.2.2.1,dB.2.2.2.1,aB .i64 dB.2.2.2.2.1 1,())))) none) none)
 (some (.inr (true,()))))
 (a1,(),a0,aj a0,0,()))
def a8z(self:(DS0×DS0×Unit)->Option (Bool×Unit)):PI:=⟨104,[(.rl 34 6),(.rl 34 6),(.fnc 58)],[.bool],fun(x:(List AV)×(List AV)×Unit×Unit)=>Uw self x.1 x.2.1 x.2.2.1⟩
theorem a0U(self:(DS0×DS0×Unit)->Option (Bool×Unit))(hr:PK ⟨58,[tS0,tS0],[.bool],self⟩):PK (a8z self):=pk (.d 2 (.s (.d 1 (.b (.l [] ⟨32,[(1,(.rl 34 6)),(2,(.fnc 58)),(15,(.rl 34 6)),(16,(.int .i64)),(17,(.int .i64))],[],[]⟩ .o))) .o)) Tryz.func104 (cP hr c0) (by kernel_rfl) λx=>by kernel_rfl
def N8(self:(DS0×DS0×Unit)->Option (Bool×Unit))(a0:DS0)(a1:DS0):Option (Bool×Unit) :=
 cond (cond (iEq a0.1 a1.1) (sEq a0.2.1 a1.2.1) false)
 ((m61 a0.2.2.1 a1.2.2.1).bind λa5D =>
 cond (cond (cond a5D.1 (iEq a0.2.2.2.1 a1.2.2.2.1) false) (iEq a0.2.2.2.2.1 a1.2.2.2.2.1) false)
 ((Uw self a0.2.2.2.2.2.1 a1.2.2.2.2.2.1 ()).bind λa5B =>
 some (a5B.1,()))
 (some (false,())))
 (some (false,()))
def m58(a0:DS0)(a1:DS0):Option (Bool×Unit):=bg (λself (x:DS0×DS0×Unit)=>N8 self x.1 x.2.1) 10000 (a0,a1,())
def i58:PI:=⟨58,[tS0,tS0],[.bool],fun(x:DS0×DS0×Unit)=>m58 x.1 x.2.1⟩
theorem VX:PK i58:=gP 10000 (ps:=[tS0,tS0]) (rs:=[.bool]) (G:=λself (x:DS0×DS0×Unit)=>N8 self x.1 x.2.1) (iA (f:=Tryz.f58) (by kernel_rfl)) λself hr=>pk .o Tryz.func58 (cP hr (cP (a0U self hr) (cP VW c0))) (by kernel_rfl) λx=>by kernel_rfl
def m60(self:((List AV)×(List AV)×Unit×Unit)->Option (Bool×Unit))(a0:DS7)(a1:DS7):Option (Bool×Unit) :=
 cond (sEq a0.1 a1.1)
 ((m58 (a0.2.1.1,a0.2.1.2.1,a0.2.1.2.2.1,a0.2.1.2.2.2.1,a0.2.1.2.2.2.2.1,a0.2.1.2.2.2.2.2.1,()) (a1.2.1.1,a1.2.1.2.1,a1.2.1.2.2.1,a1.2.1.2.2.2.1,a1.2.1.2.2.2.2.1,a1.2.1.2.2.2.2.2.1,())).bind λa5z =>
 cond a5z.1
 ((self (a0.2.2.1,a1.2.2.1,(),())).bind λa5y =>
 some (a5y.1,()))
 (some (false,())))
 (some (false,()))
def i60(self:((List AV)×(List AV)×Unit×Unit)->Option (Bool×Unit)):PI:=⟨60,[tS7,tS7],[.bool],fun(x:DS7×DS7×Unit)=>m60 self x.1 x.2.1⟩
theorem a3v(self:((List AV)×(List AV)×Unit×Unit)->Option (Bool×Unit))(hr:PK ⟨59,[(.rl 63 8),(.rl 63 8),(.fnc 60)],[.bool],self⟩):PK (i60 self):=pk .o Tryz.func60 (cP hr (cP VX c0)) (by kernel_rfl) λx=>by kernel_rfl
def N7(self:((List AV)×(List AV)×Unit×Unit)->Option (Bool×Unit))(a0:List AV)(a1:List AV)(a2:Unit):Option (Bool×Unit) :=
 cond (iNe (aj a0) (aj a1))
 (some (false,()))
 (aJ (S:=(List AV)×Unit×(List AV)×Int×Int×Unit) (R:=Bool×Unit) (λbW =>
 cond (iLt bW.2.2.2.2.1 bW.2.2.2.1)
 (cond (and (bnd bW.2.2.2.2.1 (aj bW.2.2.1)) (eu (atI bW.2.2.1 bW.2.2.2.2.1 AV.any)))
 (cond (and (bnd bW.2.2.2.2.1 (aj bW.1)) (eu (atI bW.1 bW.2.2.2.2.1 AV.any)))
 ((m60 self ((ay (atI bW.2.2.1 bW.2.2.2.2.1 AV.any)).1,(((ay (atI bW.2.2.1 bW.2.2.2.2.1 AV.any)).2.1).1,((ay (atI bW.2.2.1 bW.2.2.2.2.1 AV.any)).2.1).2.1,((ay (atI bW.2.2.1 bW.2.2.2.2.1 AV.any)).2.1).2.2.1,((ay (atI bW.2.2.1 bW.2.2.2.2.1 AV.any)).2.1).2.2.2.1,((ay (atI bW.2.2.1 bW.2.2.2.2.1 AV.any)).2.1).2.2.2.2.1,((ay (atI bW.2.2.1 bW.2.2.2.2.1 AV.any)).2.1).2.2.2.2.2.1,()),(ay (atI bW.2.2.1 bW.2.2.2.2.1 AV.any)).2.2.1,()) ((ay (atI bW.1 bW.2.2.2.2.1 AV.any)).1,(((ay (atI bW.1 bW.2.2.2.2.1 AV.any)).2.1).1,((ay (atI bW.1 bW.2.2.2.2.1 AV.any)).2.1).2.1,((ay (atI bW.1 bW.2.2.2.2.1 AV.any)).2.1).2.2.1,((ay (atI bW.1 bW.2.2.2.2.1 AV.any)).2.1).2.2.2.1,((ay (atI bW.1 bW.2.2.2.2.1 AV.any)).2.1).2.2.2.2.1,((ay (atI bW.1 bW.2.2.2.2.1 AV.any)).2.1).2.2.2.2.2.1,()),(ay (atI bW.1 bW.2.2.2.2.1 AV.any)).2.2.1,())).bind λa5x =>
 cond (not a5x.1)
 (some (.inr (false,())))
 (some (.inl (bW.1,bW.2.1,bW.2.2.1,bW.2.2.2.1,aB .i64 bW.2.2.2.2.1 1,())))) none) none)
 (some (.inr (true,()))))
 (a1,(),a0,aj a0,0,()))
def m59(a0:List AV)(a1:List AV)(a2:Unit):Option (Bool×Unit):=bg (λself (x:(List AV)×(List AV)×Unit×Unit)=>N7 self x.1 x.2.1 x.2.2.1) 10000 (a0,a1,a2,())
def i59:PI:=⟨59,[(.rl 63 8),(.rl 63 8),(.fnc 60)],[.bool],fun(x:(List AV)×(List AV)×Unit×Unit)=>m59 x.1 x.2.1 x.2.2.1⟩
theorem a3w:PK i59:=gP 10000 (ps:=[(.rl 63 8),(.rl 63 8),(.fnc 60)]) (rs:=[.bool]) (G:=λself (x:(List AV)×(List AV)×Unit×Unit)=>N7 self x.1 x.2.1 x.2.2.1) (iA (f:=Tryz.f59) (by kernel_rfl)) λself hr=>pk (.d 2 (.s (.d 1 (.b (.l [] ⟨32,[(1,(.rl 63 8)),(2,(.fnc 60)),(15,(.rl 63 8)),(16,(.int .i64)),(17,(.int .i64))],[],[]⟩ .o))) .o)) Tryz.func59 (cP hr (cP (a3v self hr) c0)) (by kernel_rfl) λx=>by kernel_rfl
def m32(a0:DS1)(a1:DS1):Option (Bool×Unit) :=
 cond (cond (cond (iEq a0.1 a1.1) (sEq a0.2.1 a1.2.1) false) (iEq a0.2.2.2.2.1 a1.2.2.2.2.1) false)
 ((m58 (a0.2.2.1.1,a0.2.2.1.2.1,a0.2.2.1.2.2.1,a0.2.2.1.2.2.2.1,a0.2.2.1.2.2.2.2.1,a0.2.2.1.2.2.2.2.2.1,()) (a1.2.2.1.1,a1.2.2.1.2.1,a1.2.2.1.2.2.1,a1.2.2.1.2.2.2.1,a1.2.2.1.2.2.2.2.1,a1.2.2.1.2.2.2.2.2.1,())).bind λa5A =>
 cond a5A.1
 ((m59 a0.2.2.2.1 a1.2.2.2.1 ()).bind λa5w =>
 some (a5w.1,()))
 (some (false,())))
 (some (false,()))
def i32:PI:=⟨32,[tS1,tS1],[.bool],fun(x:DS1×DS1×Unit)=>m32 x.1 x.2.1⟩
theorem a3E:PK i32:=pk .o Tryz.func32 (cP VX (cP a3w c0)) (by kernel_rfl) λx=>by kernel_rfl
def m31(a0:List DS1)(a1:List DS1)(a2:Unit):Option (Bool×Unit) :=
 cond (iNe (aj a0) (aj a1))
 (some (false,()))
 (aJ (S:=(List DS1)×Unit×(List DS1)×Int×Int×Unit) (R:=Bool×Unit) (λbR =>
 cond (iLt bR.2.2.2.2.1 bR.2.2.2.1)
 (cond (bnd bR.2.2.2.2.1 (aj bR.2.2.1))
 (cond (bnd bR.2.2.2.2.1 (aj bR.1))
 ((m32 ((atI bR.2.2.1 bR.2.2.2.2.1 zS1).1,(atI bR.2.2.1 bR.2.2.2.2.1 zS1).2.1,(((atI bR.2.2.1 bR.2.2.2.2.1 zS1).2.2.1).1,((atI bR.2.2.1 bR.2.2.2.2.1 zS1).2.2.1).2.1,((atI bR.2.2.1 bR.2.2.2.2.1 zS1).2.2.1).2.2.1,((atI bR.2.2.1 bR.2.2.2.2.1 zS1).2.2.1).2.2.2.1,((atI bR.2.2.1 bR.2.2.2.2.1 zS1).2.2.1).2.2.2.2.1,((atI bR.2.2.1 bR.2.2.2.2.1 zS1).2.2.1).2.2.2.2.2.1,()),(atI bR.2.2.1 bR.2.2.2.2.1 zS1).2.2.2.1,(atI bR.2.2.1 bR.2.2.2.2.1 zS1).2.2.2.2.1,()) ((atI bR.1 bR.2.2.2.2.1 zS1).1,(atI bR.1 bR.2.2.2.2.1 zS1).2.1,(((atI bR.1 bR.2.2.2.2.1 zS1).2.2.1).1,((atI bR.1 bR.2.2.2.2.1 zS1).2.2.1).2.1,((atI bR.1 bR.2.2.2.2.1 zS1).2.2.1).2.2.1,((atI bR.1 bR.2.2.2.2.1 zS1).2.2.1).2.2.2.1,((atI bR.1 bR.2.2.2.2.1 zS1).2.2.1).2.2.2.2.1,((atI bR.1 bR.2.2.2.2.1 zS1).2.2.1).2.2.2.2.2.1,()),(atI bR.1 bR.2.2.2.2.1 zS1).2.2.2.1,(atI bR.1 bR.2.2.2.2.1 zS1).2.2.2.2.1,())).bind λa5v =>
 cond (not a5v.1)
 (some (.inr (false,())))
 (some (.inl (bR.1,bR.2.1,bR.2.2.1,bR.2.2.2.1,aB .i64 bR.2.2.2.2.1 1,())))) none) none)
 (some (.inr (true,()))))
 (a1,(),a0,aj a0,0,()))
def i31:PI:=⟨31,[(.list tS1),(.list tS1),(.fnc 32)],[.bool],fun(x:(List DS1)×(List DS1)×Unit×Unit)=>m31 x.1 x.2.1 x.2.2.1⟩
theorem Wd:PK i31:=pk (.d 2 (.s (.d 1 (.b (.l [] ⟨32,[(1,(.list tS1)),(2,(.fnc 32)),(15,(.list tS1)),(16,(.int .i64)),(17,(.int .i64))],[],[]⟩ .o))) .o)) Tryz.func31 (cP a3E c0) (by kernel_rfl) λx=>by kernel_rfl
def m34(a0:DS3)(a1:DS3):Option (Bool×Unit) :=
 cond (and (iEq a0.1.1 a1.1.1) (and (iEq a0.1.2.1 a1.1.2.1) true))
 ((m61 a0.2.1 a1.2.1).bind λa5t =>
 cond a5t.1
 ((m31 a0.2.2.1 a1.2.2.1 ()).bind λa5s =>
 some (a5s.1,()))
 (some (false,())))
 (some (false,()))
def i34:PI:=⟨34,[tS3,tS3],[.bool],fun(x:DS3×DS3×Unit)=>m34 x.1 x.2.1⟩
theorem a3C:PK i34:=pk .o Tryz.func34 (cP Wd (cP VW c0)) (by kernel_rfl) λx=>by kernel_rfl
def m33(a0:List DS3)(a1:List DS3)(a2:Unit):Option (Bool×Unit) :=
 cond (iNe (aj a0) (aj a1))
 (some (false,()))
 (aJ (S:=(List DS3)×Unit×(List DS3)×Int×Int×Unit) (R:=Bool×Unit) (λgM =>
 cond (iLt gM.2.2.2.2.1 gM.2.2.2.1)
 (cond (bnd gM.2.2.2.2.1 (aj gM.2.2.1))
 (cond (bnd gM.2.2.2.2.1 (aj gM.1))
 ((m34 ((((atI gM.2.2.1 gM.2.2.2.2.1 zS3).1).1,((atI gM.2.2.1 gM.2.2.2.2.1 zS3).1).2.1,()),(atI gM.2.2.1 gM.2.2.2.2.1 zS3).2.1,(atI gM.2.2.1 gM.2.2.2.2.1 zS3).2.2.1,()) ((((atI gM.1 gM.2.2.2.2.1 zS3).1).1,((atI gM.1 gM.2.2.2.2.1 zS3).1).2.1,()),(atI gM.1 gM.2.2.2.2.1 zS3).2.1,(atI gM.1 gM.2.2.2.2.1 zS3).2.2.1,())).bind λa5r =>
 cond (not a5r.1)
 (some (.inr (false,())))
 (some (.inl (gM.1,gM.2.1,gM.2.2.1,gM.2.2.2.1,aB .i64 gM.2.2.2.2.1 1,())))) none) none)
 (some (.inr (true,()))))
 (a1,(),a0,aj a0,0,()))
def i33:PI:=⟨33,[(.list tS3),(.list tS3),(.fnc 34)],[.bool],fun(x:(List DS3)×(List DS3)×Unit×Unit)=>m33 x.1 x.2.1 x.2.2.1⟩
theorem a3D:PK i33:=pk (.d 2 (.s (.d 1 (.b (.l [] ⟨32,[(1,(.list tS3)),(2,(.fnc 34)),(15,(.list tS3)),(16,(.int .i64)),(17,(.int .i64))],[],[]⟩ .o))) .o)) Tryz.func33 (cP a3C c0) (by kernel_rfl) λx=>by kernel_rfl
def m17(a0:DS4)(a1:DS4):Option (Bool×Unit) :=
 (m31 a0.1 a1.1 ()).bind λa5u =>
 cond a5u.1
 ((m33 a0.2.1 a1.2.1 ()).bind λa5q =>
 some (a5q.1,()))
 (some (false,()))
def i17:PI:=⟨17,[tS4,tS4],[.bool],fun(x:DS4×DS4×Unit)=>m17 x.1 x.2.1⟩
theorem a3J:PK i17:=pk .o Tryz.func17 (cP Wd (cP a3D c0)) (by kernel_rfl) λx=>by kernel_rfl
def m36(a0:List ByteArray)(a1:List ByteArray):Option (Bool×Unit) :=
 cond (iNe (aj a0) (aj a1))
 (some (false,()))
 (aJ (S:=(List ByteArray)×(List ByteArray)×Int×Unit) (R:=Bool×Unit) (λqh =>
 cond (iLt qh.2.2.1 (aj qh.1))
 (cond (bnd qh.2.2.1 (aj qh.1))
 (cond (bnd qh.2.2.1 (aj qh.2.1))
 (cond (not (sEq (atI qh.1 qh.2.2.1 ByteArray.empty) (atI qh.2.1 qh.2.2.1 ByteArray.empty)))
 (some (.inr (false,())))
 (some (.inl (qh.1,qh.2.1,aB .i64 qh.2.2.1 1,())))) none) none)
 (some (.inr (true,()))))
 (a0,a1,0,()))
def i36:PI:=⟨36,[(.list .str),(.list .str)],[.bool],fun(x:(List ByteArray)×(List ByteArray)×Unit)=>m36 x.1 x.2.1⟩
theorem W9:PK i36:=pk (.d 2 (.s (.d 1 (.b (.l [] ⟨26,[(0,(.list .str)),(1,(.list .str)),(5,(.int .i64))],[],[]⟩ .o))) .o)) Tryz.func36 c0 (by kernel_rfl) λx=>by kernel_rfl
def MZ(self:(DS0×DS0×Unit)->Option (Bool×Unit))(a0:DS0)(a1:DS0):Option (Bool×Unit) :=
 cond (cond (cond (cond (iNe a0.1 a1.1) true (not (sEq a0.2.1 a1.2.1))) true (iNe a0.2.2.2.1 a1.2.2.2.1)) true (iNe a0.2.2.2.2.1 a1.2.2.2.2.1))
 (some (false,()))
 ((m36 a0.2.2.1 a1.2.2.1).bind λa5n =>
 cond (cond (not a5n.1) true (iNe (aj a0.2.2.2.2.2.1) (aj a1.2.2.2.2.2.1)))
 (some (false,()))
 (aJ (S:=Int×Int×ByteArray×(List ByteArray)×Int×Int×(List AV)×Int×ByteArray×(List ByteArray)×Int×Int×(List AV)×Unit) (R:=Bool×Unit) (λgL =>
 cond (iLt gL.1 (aj gL.2.2.2.2.2.2.1))
 (cond (and (bnd gL.1 (aj gL.2.2.2.2.2.2.1)) (jK (atI gL.2.2.2.2.2.2.1 gL.1 AV.any)))
 (cond (and (bnd gL.1 (aj gL.2.2.2.2.2.2.2.2.2.2.2.2.1)) (jK (atI gL.2.2.2.2.2.2.2.2.2.2.2.2.1 gL.1 AV.any)))
 ((self (aL (atI gL.2.2.2.2.2.2.1 gL.1 AV.any),aL (atI gL.2.2.2.2.2.2.2.2.2.2.2.2.1 gL.1 AV.any),())).bind λa5m =>
 cond (not a5m.1)
 (some (.inr (false,())))
 (some (.inl (aB .i64 gL.1 1,gL.2.1,gL.2.2.1,gL.2.2.2.1,gL.2.2.2.2.1,gL.2.2.2.2.2.1,gL.2.2.2.2.2.2.1,gL.2.2.2.2.2.2.2.1,gL.2.2.2.2.2.2.2.2.1,gL.2.2.2.2.2.2.2.2.2.1,gL.2.2.2.2.2.2.2.2.2.2.1,gL.2.2.2.2.2.2.2.2.2.2.2.1,gL.2.2.2.2.2.2.2.2.2.2.2.2.1,())))) none) none)
 (some (.inr (true,()))))
 (0,a0.1,a0.2.1,a0.2.2.1,a0.2.2.2.1,a0.2.2.2.2.1,a0.2.2.2.2.2.1,a1.1,a1.2.1,a1.2.2.1,a1.2.2.2.1,a1.2.2.2.2.1,a1.2.2.2.2.2.1,())))
def m62(a0:DS0)(a1:DS0):Option (Bool×Unit):=bg (λself (x:DS0×DS0×Unit)=>MZ self x.1 x.2.1) 10000 (a0,a1,())
def i62:PI:=⟨62,[tS0,tS0],[.bool],fun(x:DS0×DS0×Unit)=>m62 x.1 x.2.1⟩
theorem VU:PK i62:=gP 10000 (ps:=[tS0,tS0]) (rs:=[.bool]) (G:=λself (x:DS0×DS0×Unit)=>MZ self x.1 x.2.1) (iA (f:=Tryz.f62) (by kernel_rfl)) λself hr=>pk (.d 2 (.s (.d 1 (.b (.l [] ⟨68,[(5,(.int .i64))],[(2,.ptr 0 0 0),(3,.ptr 1 0 0)],[.box 34 [.d (.int .i64),.d .str,.d (.list .str),.d (.int .i64),.d (.int .i64),.d (.rl 34 6)],.box 34 [.d (.int .i64),.d .str,.d (.list .str),.d (.int .i64),.d (.int .i64),.d (.rl 34 6)]]⟩ .o))) .o)) Tryz.func62 (cP hr (cP W9 c0)) (by kernel_rfl) λx=>by kernel_rfl
def MX(self:((List AV)×(List AV)×Unit)->Option (Bool×Unit))(a0:List AV)(a1:List AV):Option (Bool×Unit) :=
 cond (iNe (aj a0) (aj a1))
 (some (false,()))
 (aJ (S:=(List AV)×(List AV)×Int×Unit) (R:=Bool×Unit) (λbF =>
 cond (iLt bF.2.2.1 (aj bF.1))
 (cond (and (bnd bF.2.2.1 (aj bF.1)) (eu (atI bF.1 bF.2.2.1 AV.any)))
 (cond (and (bnd bF.2.2.1 (aj bF.2.1)) (eu (atI bF.2.1 bF.2.2.1 AV.any)))
 (cond (or (and (bnd bF.2.2.1 (aj bF.1)) (eu (atI bF.1 bF.2.2.1 AV.any))) (not (bEq (not (sEq ((ay (atI bF.1 bF.2.2.1 AV.any)).1) ((ay (atI bF.2.1 bF.2.2.1 AV.any)).1))) false)))
 (cond (or (and (bnd bF.2.2.1 (aj bF.2.1)) (eu (atI bF.2.1 bF.2.2.1 AV.any))) (not (bEq (not (sEq ((ay (atI bF.1 bF.2.2.1 AV.any)).1) ((ay (atI bF.2.1 bF.2.2.1 AV.any)).1))) false)))
 (cond (not (sEq ((ay (atI bF.1 bF.2.2.1 AV.any)).1) ((ay (atI bF.2.1 bF.2.2.1 AV.any)).1)))
 (cond (or (and (bnd bF.2.2.1 (aj bF.1)) (eu (atI bF.1 bF.2.2.1 AV.any))) (not (bEq true false)))
 (cond (or (and (bnd bF.2.2.1 (aj bF.2.1)) (eu (atI bF.2.1 bF.2.2.1 AV.any))) (not (bEq true false)))
 (some (.inr (false,()))) none) none)
 ((m62 ((ay (atI bF.1 bF.2.2.1 AV.any)).2.1) ((ay (atI bF.2.1 bF.2.2.1 AV.any)).2.1)).bind λRs =>
 cond (or (and (bnd bF.2.2.1 (aj bF.1)) (eu (atI bF.1 bF.2.2.1 AV.any))) (not (bEq (not Rs.1) false)))
 (cond (or (and (bnd bF.2.2.1 (aj bF.2.1)) (eu (atI bF.2.1 bF.2.2.1 AV.any))) (not (bEq (not Rs.1) false)))
 (cond (not Rs.1)
 (some (.inr (false,())))
 ((self ((ay (atI bF.1 bF.2.2.1 AV.any)).2.2.1,(ay (atI bF.2.1 bF.2.2.1 AV.any)).2.2.1,())).bind λa5l =>
 cond (not a5l.1)
 (some (.inr (false,())))
 (some (.inl (bF.1,bF.2.1,aB .i64 bF.2.2.1 1,()))))) none) none)) none) none) none) none)
 (some (.inr (true,()))))
 (a0,a1,0,()))
def m63(a0:List AV)(a1:List AV):Option (Bool×Unit):=bg (λself (x:(List AV)×(List AV)×Unit)=>MX self x.1 x.2.1) 10000 (a0,a1,())
def i63:PI:=⟨63,[(.rl 63 8),(.rl 63 8)],[.bool],fun(x:(List AV)×(List AV)×Unit)=>m63 x.1 x.2.1⟩
theorem a3u:PK i63:=gP 10000 (ps:=[(.rl 63 8),(.rl 63 8)]) (rs:=[.bool]) (G:=λself (x:(List AV)×(List AV)×Unit)=>MX self x.1 x.2.1) (iA (f:=Tryz.f63) (by kernel_rfl)) λself hr=>pk (.d 2 (.s (.d 1 (.b (.l [] ⟨56,[(0,(.rl 63 8)),(1,(.rl 63 8)),(5,(.int .i64))],[],[]⟩ .o))) .o)) Tryz.func63 (cP hr (cP VU c0)) (by kernel_rfl) λx=>by kernel_rfl
def m35(a0:List DS1)(a1:List DS1):Option (Bool×Unit) :=
 cond (iNe (aj a0) (aj a1))
 (some (false,()))
 (aJ (S:=(List DS1)×(List DS1)×Int×Unit) (R:=Bool×Unit) (λaM =>
 cond (iLt aM.2.2.1 (aj aM.1))
 (cond (bnd aM.2.2.1 (aj aM.1))
 (cond (bnd aM.2.2.1 (aj aM.2.1))
 (cond (or (bnd aM.2.2.1 (aj aM.1)) (not (bEq (iNe ((atI aM.1 aM.2.2.1 zS1).1) ((atI aM.2.1 aM.2.2.1 zS1).1)) false)))
 (cond (or (bnd aM.2.2.1 (aj aM.2.1)) (not (bEq (iNe ((atI aM.1 aM.2.2.1 zS1).1) ((atI aM.2.1 aM.2.2.1 zS1).1)) false)))
 (cond (or (bnd aM.2.2.1 (aj aM.1)) (not (bEq (cond (iNe ((atI aM.1 aM.2.2.1 zS1).1) ((atI aM.2.1 aM.2.2.1 zS1).1)) true (not (sEq ((atI aM.1 aM.2.2.1 zS1).2.1) ((atI aM.2.1 aM.2.2.1 zS1).2.1)))) false)))
 (cond (or (bnd aM.2.2.1 (aj aM.2.1)) (not (bEq (cond (iNe ((atI aM.1 aM.2.2.1 zS1).1) ((atI aM.2.1 aM.2.2.1 zS1).1)) true (not (sEq ((atI aM.1 aM.2.2.1 zS1).2.1) ((atI aM.2.1 aM.2.2.1 zS1).2.1)))) false)))
 (cond (or (bnd aM.2.2.1 (aj aM.1)) (not (bEq (cond (cond (iNe ((atI aM.1 aM.2.2.1 zS1).1) ((atI aM.2.1 aM.2.2.1 zS1).1)) true (not (sEq ((atI aM.1 aM.2.2.1 zS1).2.1) ((atI aM.2.1 aM.2.2.1 zS1).2.1)))) true (iNe ((atI aM.1 aM.2.2.1 zS1).2.2.2.2.1) ((atI aM.2.1 aM.2.2.1 zS1).2.2.2.2.1))) false)))
 (cond (or (bnd aM.2.2.1 (aj aM.2.1)) (not (bEq (cond (cond (iNe ((atI aM.1 aM.2.2.1 zS1).1) ((atI aM.2.1 aM.2.2.1 zS1).1)) true (not (sEq ((atI aM.1 aM.2.2.1 zS1).2.1) ((atI aM.2.1 aM.2.2.1 zS1).2.1)))) true (iNe ((atI aM.1 aM.2.2.1 zS1).2.2.2.2.1) ((atI aM.2.1 aM.2.2.1 zS1).2.2.2.2.1))) false)))
 (cond (cond (cond (iNe ((atI aM.1 aM.2.2.1 zS1).1) ((atI aM.2.1 aM.2.2.1 zS1).1)) true (not (sEq ((atI aM.1 aM.2.2.1 zS1).2.1) ((atI aM.2.1 aM.2.2.1 zS1).2.1)))) true (iNe ((atI aM.1 aM.2.2.1 zS1).2.2.2.2.1) ((atI aM.2.1 aM.2.2.1 zS1).2.2.2.2.1)))
 (cond (or (bnd aM.2.2.1 (aj aM.1)) (not (bEq true false)))
 (cond (or (bnd aM.2.2.1 (aj aM.2.1)) (not (bEq true false)))
 (some (.inr (false,()))) none) none)
 ((m62 ((atI aM.1 aM.2.2.1 zS1).2.2.1) ((atI aM.2.1 aM.2.2.1 zS1).2.2.1)).bind λRq =>
 cond (or (bnd aM.2.2.1 (aj aM.1)) (not (bEq (not Rq.1) false)))
 (cond (or (bnd aM.2.2.1 (aj aM.2.1)) (not (bEq (not Rq.1) false)))
 (cond (not Rq.1)
 (some (.inr (false,())))
 ((m63 ((atI aM.1 aM.2.2.1 zS1).2.2.2.1) ((atI aM.2.1 aM.2.2.1 zS1).2.2.2.1)).bind λa5k =>
 cond (not a5k.1)
 (some (.inr (false,())))
 (some (.inl (aM.1,aM.2.1,aB .i64 aM.2.2.1 1,()))))) none) none)) none) none) none) none) none) none) none) none)
 (some (.inr (true,()))))
 (a0,a1,0,()))
def i35:PI:=⟨35,[(.list tS1),(.list tS1)],[.bool],fun(x:(List DS1)×(List DS1)×Unit)=>m35 x.1 x.2.1⟩
theorem a3B:PK i35:=pk (.d 2 (.s (.d 1 (.b (.l [] ⟨82,[(0,(.list tS1)),(1,(.list tS1)),(5,(.int .i64))],[],[]⟩ .o))) .o)) Tryz.func35 (cP VU (cP a3u c0)) (by kernel_rfl) λx=>by kernel_rfl
def m18(a0:DS4)(a1:DS4):Option (Bool×Unit) :=
 (m35 a0.1 a1.1).bind λa5j =>
 cond (cond (not a5j.1) true (iNe (aj a0.2.1) (aj a1.2.1)))
 (some (false,()))
 (aJ (S:=Int×(List DS1)×(List DS3)×(List DS1)×(List DS3)×Unit) (R:=Bool×Unit) (λgJ =>
 cond (iLt gJ.1 (aj gJ.2.2.1))
 (cond (bnd gJ.1 (aj gJ.2.2.1))
 (cond (bnd gJ.1 (aj gJ.2.2.2.2.1))
 (cond (not (and (iEq (((atI gJ.2.2.1 gJ.1 zS3).1).1) (((atI gJ.2.2.2.2.1 gJ.1 zS3).1).1)) (and (iEq (((atI gJ.2.2.1 gJ.1 zS3).1).2.1) (((atI gJ.2.2.2.2.1 gJ.1 zS3).1).2.1)) true)))
 (some (.inr (false,())))
 ((m36 ((atI gJ.2.2.1 gJ.1 zS3).2.1) ((atI gJ.2.2.2.2.1 gJ.1 zS3).2.1)).bind λa5i =>
 cond (not a5i.1)
 (some (.inr (false,())))
 ((m35 ((atI gJ.2.2.1 gJ.1 zS3).2.2.1) ((atI gJ.2.2.2.2.1 gJ.1 zS3).2.2.1)).bind λa5h =>
 cond (not a5h.1)
 (some (.inr (false,())))
 (some (.inl (aB .i64 gJ.1 1,gJ.2.1,gJ.2.2.1,gJ.2.2.2.1,gJ.2.2.2.2.1,())))))) none) none)
 (some (.inr (true,()))))
 (0,a0.1,a0.2.1,a1.1,a1.2.1,()))
def i18:PI:=⟨18,[tS4,tS4],[.bool],fun(x:DS4×DS4×Unit)=>m18 x.1 x.2.1⟩
theorem a3I:PK i18:=pk (.d 2 (.s (.d 1 (.b (.l [] ⟨61,[(5,(.int .i64))],[(2,.ptr 0 0 0),(3,.ptr 1 0 0)],[.box 29 [.d (.list tS1),.d (.list tS3)],.box 29 [.d (.list tS1),.d (.list tS3)]]⟩ .o))) .o)) Tryz.func18 (cP a3B (cP W9 c0)) (by kernel_rfl) λx=>by kernel_rfl
def m4(a0:DS4)(a1:DS1)(a2:List Int)(a3:List Int):Option (Bool×Unit) :=
 (m12 (a0.1,a0.2.1,())).bind λy1 =>
 cond (not y1.1)
 ((m7).bind λy2 =>
 some (y2.1,()))
 ((m10 a2).bind λrA =>
 (m14 a3).bind λZa =>
 (m13 (rA.1.1,rA.1.2.1,()) (a1.1,a1.2.1,(a1.2.2.1.1,a1.2.2.1.2.1,a1.2.2.1.2.2.1,a1.2.2.1.2.2.2.1,a1.2.2.1.2.2.2.2.1,a1.2.2.1.2.2.2.2.2.1,()),a1.2.2.2.1,a1.2.2.2.2.1,()) Za.1 Za.2.1).bind λwV =>
 (m15 (rA.1.1,rA.1.2.1,())).bind λa5I =>
 cond a5I.1
 ((m15 (a0.1,a0.2.1,())).bind λa5H =>
 (m16 (a0.1,a0.2.1,())).bind λa5G =>
 cond (bEq a5H.1 a5G.1)
 ((m15 (wV.1.1,wV.1.2.1,())).bind λa5F =>
 (m16 (wV.1.1,wV.1.2.1,())).bind λa5E =>
 cond (bEq a5F.1 a5E.1)
 ((m17 (rA.1.1,rA.1.2.1,()) (rA.1.1,rA.1.2.1,())).bind λa5p =>
 cond a5p.1
 ((m17 (rA.1.1,rA.1.2.1,()) (wV.1.1,wV.1.2.1,())).bind λa5o =>
 (m18 (rA.1.1,rA.1.2.1,()) (wV.1.1,wV.1.2.1,())).bind λa5g =>
 cond (bEq a5o.1 a5g.1)
 ((m7).bind λa5f =>
 some (a5f.1,()))
 (some (false,())))
 (some (false,())))
 (some (false,())))
 (some (false,())))
 (some (false,())))
def i4:PI:=⟨4,[tS4,tS1,(.list (.int .i64)),(.list (.int .i64))],[.bool],fun(x:DS4×DS1×(List Int)×(List Int)×Unit)=>m4 x.1 x.2.1 x.2.2.1 x.2.2.2.1⟩
theorem a7K:PK i4:=pk .o Tryz.func4 (cP a3N (cP a3L (cP a3K (cP Gd (cP a3J (cP a3I (cP a7J (cH a3V (cH Wj c0))))))))) (by kernel_rfl) λx=>by kernel_rfl
end
end Abs
end Go.Proofs.YtnhgeocdffhkjaaGreatDoor
