/- Merged and trimmed by a program: Models. -/
import Derived.Test.YtgfnhpadmifiiaaDoorZAF
import Derived.Test.YtgfnhpadmifiiaaDoorProg
import Derived.KernelRfl
set_option linter.unusedVariables false
set_option linter.unusedSimpArgs false
set_option linter.defProp false
namespace Go.Proofs.YtgfnhpadmifiiaaDoor
namespace Abs
set_option maxRecDepth 100000
theorem mixed:Tryd.prog.follows .mixedOrders=true:=by kernel_rfl
abbrev tS0:Ty:=.tup [.str,(.int .i64),(.list .str),(.int .i64),(.int .i64)]
abbrev DS0:Type:=ByteArray×Int×(List ByteArray)×Int×Int×Unit
abbrev tS1:Ty:=.tup [(.int .i64),(.list (.int .i64)),(.list (.int .i64))]
abbrev DS1:Type:=Int×(List Int)×(List Int)×Unit
abbrev tS2:Ty:=.tup [(.list tS1),(.int .i64)]
abbrev DS2:Type:=(List DS1)×Int×Unit
abbrev tS3:Ty:=.tup [(.int .i64),(.int .i64)]
abbrev DS3:Type:=Int×Int×Unit
abbrev tS4:Ty:=.tup [.str,.bool]
abbrev DS4:Type:=ByteArray×Bool×Unit
abbrev tS5:Ty:=.tup [(.list tS0)]
abbrev DS5:Type:=(List DS0)×Unit
abbrev tS6:Ty:=.tup [tS3,(.int .i64)]
abbrev DS6:Type:=DS3×Int×Unit
abbrev tS7:Ty:=.tup [.str,(.int .i64)]
abbrev DS7:Type:=ByteArray×Int×Unit
abbrev tS8:Ty:=.tup [(.int .u64),(.int .u64),(.int .u64),(.int .u64),(.int .u64),(.int .u64),(.int .u64),(.int .u64),(.int .u64),(.int .u64),(.int .u64),(.int .u64),(.int .u64),(.int .u64),(.int .u64),(.int .u64),(.int .u64),(.int .u64),(.int .u64),(.int .u64)]
abbrev DS8:Type:=Int×Int×Int×Int×Int×Int×Int×Int×Int×Int×Int×Int×Int×Int×Int×Int×Int×Int×Int×Int×Unit
instance (n:Nat):OfNat Opd n:=⟨.t n⟩
def cO:Nat->Option Ty:=fun n=>if Nat.beq n 3=true then some (.int .i64) else if Nat.beq n 9=true then some .str else if Nat.beq n 37=true then some (.list (.int .i64)) else if Nat.beq n 64=true then some tS0 else if Nat.beq n 70=true then some tS1 else if Nat.beq n 82=true then some tS3 else if Nat.beq n 86=true then some tS3 else if Nat.beq n 95=true then some tS4 else if Nat.beq n 102=true then some tS6 else if Nat.beq n 103=true then some tS7 else none
def aJ:GXT:=fun n=>if Nat.beq n 0=true then some ⟨tS8,(show DS8 from (1,10,100,1000,10000,100000,1000000,10000000,100000000,1000000000,10000000000,100000000000,1000000000000,10000000000000,100000000000000,1000000000000000,10000000000000000,100000000000000000,1000000000000000000,10000000000000000000,()))⟩ else none
def hcl:List Nat:=[18,19,24,29,45,51,55,58,66,67,68,70,80,81,86,97,127,128,129,130,131,134]
noncomputable def xoF (f:Func) (a:AT):XC:=xo Tryd.prog hcl f a
theorem fnX {f n:Nat} {fn:Func} {a:AT} {rs:List RV} (h1:Tryd.prog.funcs[f]?=some fn) (h2:(fn.body.bind (cC Tryd.prog hcl)).isSome=true) (h3:pz Tryd.prog fn.results.toList=some rs) (h4:fn.ntmps=n) (h5:callable Tryd.prog f=true):Fn Tryd.prog f n (xoF fn a).er rs:=⟨fn,hcl,h1,ZO h2,h3,h4,h5⟩
theorem Mk:POk Tryd.prog (gx aJ) Ku:=XQ (by rfl)
noncomputable def x16:XC:=xoF Tryd.f16 .o
theorem F16:Fn Tryd.prog 16 12 x16.er [.t 4]:=by unfold x16;exact fnX Tryd.func16 (by kernel_rfl) (by kernel_rfl) (by kernel_rfl) (by kernel_rfl)
noncomputable def m16 (a0:Int) (a1:Int):Option (Int×Unit) :=
 cond (iNe a1 0)
 (cond (iNe a1 0)
 (some (oZ (aM .i64 (oZ a0 a1) a1) a1,())) none) none
noncomputable def TJ:Cfg:=⟨cO,aJ,[],[]⟩
theorem a1V (x:Int×Int×Unit):dR TJ x16 12 [.t 4] [(.int .i64),(.int .i64)] [(.int .i64)] x=m16 x.1 x.2.1:=by kernel_rfl
noncomputable def i16:PI:=⟨16,[(.int .i64),(.int .i64)],[(.int .i64)],fun (x:Int×Int×Unit)=>m16 x.1 x.2.1⟩
theorem a0D:POk Tryd.prog (gx aJ) i16:=pok mixed (aK _ _:aW _ (TJ)) F16 (a1V)
noncomputable def x43:XC:=xoF Tryd.f43 .o
theorem F43:Fn Tryd.prog 43 3 x43.er [.c 0 5 true]:=by unfold x43;exact fnX Tryd.func43 (by kernel_rfl) (by kernel_rfl) (by kernel_rfl) (by kernel_rfl)
noncomputable def m43:Option (DS0×Unit) :=
 some (((bs [112,101,114,105,108]),1,([(bs [102,105,114,101]),(bs [102,108,111,111,100]),(bs [119,105,110,100]),(bs [116,104,101,102,116])]:List ByteArray),0,0,()),())
noncomputable def Tn:Cfg:=⟨cO,aJ,[],[]⟩
theorem a1G (x:Unit):dR Tn x43 3 [.c 0 5 true] [] [tS0] x=m43:=by kernel_rfl
noncomputable def i43:PI:=⟨43,[],[tS0],fun (x:Unit)=>m43⟩
theorem a0y:POk Tryd.prog (gx aJ) i43:=pok mixed (aK _ _:aW _ (Tn)) F43 (a1G)
noncomputable def x15:XC:=xoF Tryd.f15 .o
theorem F15:Fn Tryd.prog 15 43 x15.er [.c 2 1 true]:=by unfold x15;exact fnX Tryd.func15 (by kernel_rfl) (by kernel_rfl) (by kernel_rfl) (by kernel_rfl)
noncomputable def m15 (a0:Int):Option (DS5×Unit) :=
 (m16 a0 6).bind fun y1 =>
 cond (iEq y1.1 0)
 ((m43).bind fun y2 =>
 some ((([y2.1,((bs [115,116,111,114,101,121,115]),2,([]:List ByteArray),1,9,()),((bs [97,108,97,114,109]),3,([]:List ByteArray),0,0,())]:List DS0),()),()))
 (cond (iEq y1.1 1)
 (some ((([((bs [110]),2,([]:List ByteArray),(-5),20,())]:List DS0),()),()))
 (cond (iEq y1.1 2)
 (some ((([((bs [97]),3,([]:List ByteArray),0,0,()),((bs [114,111,108,101]),1,([(bs [99,114,101,119]),(bs [103,117,101,115,116])]:List ByteArray),0,0,()),((bs [98]),3,([]:List ByteArray),0,0,())]:List DS0),()),()))
 (cond (iEq y1.1 3)
 (some ((([((bs [110]),2,([]:List ByteArray),(-1000000000),1000000000,()),((bs [116]),3,([]:List ByteArray),0,0,())]:List DS0),()),()))
 (cond (iEq y1.1 4)
 ((m43).bind fun y3 =>
 some ((([((bs [111,110,101]),1,([(bs [111,110,108,121])]:List ByteArray),0,0,()),y3.1,((bs [110]),2,([]:List ByteArray),0,6,()),((bs [116]),3,([]:List ByteArray),0,0,())]:List DS0),()),()))
 (some ((([((bs [116]),3,([]:List ByteArray),0,0,())]:List DS0),()),()))))))
noncomputable def TK:Cfg:=⟨cO,aJ,[i16,i43],[]⟩
theorem a1W (x:Int×Unit):dR TK x15 43 [.c 2 1 true] [(.int .i64)] [tS5] x=m15 x.1:=by kernel_rfl
noncomputable def i15:PI:=⟨15,[(.int .i64)],[tS5],fun (x:Int×Unit)=>m15 x.1⟩
theorem a0E:POk Tryd.prog (gx aJ) i15:=pok mixed (aZ a0D (aZ a0y (aK _ _)):aW _ (TK)) F15 (a1W)
noncomputable def x19:XC:=xoF Tryd.f19 .o
theorem F19:Fn Tryd.prog 19 6 x19.er [.t 2]:=by unfold x19;exact fnX Tryd.func19 (by kernel_rfl) (by kernel_rfl) (by kernel_rfl) (by kernel_rfl)
noncomputable def m19 (a0:List Int):Option ((List Int)×Int×Unit) :=
 some (a0,0,())
noncomputable def TG:Cfg:=⟨cO,aJ,[],[]⟩
def S9:Sh:=⟨1,[(0,(.list (.int .i64)))],[],[]⟩
def Rw:Sh:=⟨1,[],[(0,.ptr 0 0 0)],[.box 78 [.d (.list (.int .i64)),.d (.int .i64)]]⟩
theorem a1S (x:(List Int)×Unit):kD TG x19 6 [.t 2] [] S9 Rw x=m19 x.1:=by kernel_rfl
noncomputable def h19:HI:=⟨19,S9,Rw,fun (x:(List Int)×Unit)=>m19 x.1,[]⟩
theorem a0N:HOk Tryd.prog (gx aJ) h19:=hok mixed (aK _ _:aW _ (TG)) F19 (a1S)
noncomputable def x103:XC:=xoF Tryd.f103 .o
theorem a3W:Fn Tryd.prog 103 9 x103.er [.t 2]:=by unfold x103;exact fnX Tryd.func103 (by kernel_rfl) (by kernel_rfl) (by kernel_rfl) (by kernel_rfl)
noncomputable def BR (a0:Int):Option (Bool×Unit) :=
 some (cond (iLe 97 a0) (iLe a0 122) false,())
noncomputable def NI:Cfg:=⟨cO,aJ,[],[]⟩
theorem Z8 (x:Int×Unit):dR NI x103 9 [.t 2] [(.int .u8)] [.bool] x=BR x.1:=by kernel_rfl
noncomputable def Yv:PI:=⟨103,[(.int .u8)],[.bool],fun (x:Int×Unit)=>BR x.1⟩
theorem XK:POk Tryd.prog (gx aJ) Yv:=pok mixed (aK _ _:aW _ (NI)) a3W (Z8)
noncomputable def x104:XC:=xoF Tryd.f104 .o
theorem a3V:Fn Tryd.prog 104 9 x104.er [.t 2]:=by unfold x104;exact fnX Tryd.func104 (by kernel_rfl) (by kernel_rfl) (by kernel_rfl) (by kernel_rfl)
noncomputable def FH (a0:Int):Option (Bool×Unit) :=
 some (cond (iLe 48 a0) (iLe a0 57) false,())
noncomputable def NH:Cfg:=⟨cO,aJ,[],[]⟩
theorem Z7 (x:Int×Unit):dR NH x104 9 [.t 2] [(.int .u8)] [.bool] x=FH x.1:=by kernel_rfl
noncomputable def Yu:PI:=⟨104,[(.int .u8)],[.bool],fun (x:Int×Unit)=>FH x.1⟩
theorem XJ:POk Tryd.prog (gx aJ) Yu:=pok mixed (aK _ _:aW _ (NH)) a3V (Z7)
noncomputable def x91:XC:=xoF Tryd.f91 (.d 2 (.s (.d 1 (.b (.l [] ⟨50,[(0,.str),(3,(.int .i64))],[],[]⟩ .o))) .o))
theorem F91:Fn Tryd.prog 91 50 x91.er [.t 2]:=by unfold x91;exact fnX Tryd.func91 (by kernel_rfl) (by kernel_rfl) (by kernel_rfl) (by kernel_rfl)
noncomputable def m91 (a0:ByteArray):Option (Bool×Unit) :=
 cond (or (bnd 0 (sLen a0)) (not (bEq (cond (iLt (sLen a0) 1) true (iLt 16 (sLen a0))) false)))
 (cond (cond (iLt (sLen a0) 1) true (iLt 16 (sLen a0)))
 (cond (or (bnd (dS .i64 (sLen a0) 1) (sLen a0)) (not (bEq true false)))
 (some (false,())) none)
 ((BR (sAt a0 0)).bind fun y12 =>
 cond (or (bnd (dS .i64 (sLen a0) 1) (sLen a0)) (not (bEq (not y12.1) false)))
 (cond (cond (not y12.1) true (iEq (sAt a0 (dS .i64 (sLen a0) 1)) 45))
 (some (false,()))
 (bX (S:=ByteArray×Int×Unit) (R:=Bool×Unit) (fun s13 =>
 cond (iLt s13.2.1 (sLen s13.1))
 (cond (bnd s13.2.1 (sLen s13.1))
 ((BR (sAt s13.1 s13.2.1)).bind fun y14 =>
 cond (or (bnd s13.2.1 (sLen s13.1)) (not (bEq (not y14.1) true)))
 (cond (not y14.1)
 ((FH (sAt s13.1 s13.2.1)).bind fun y15 =>
 cond (or (bnd s13.2.1 (sLen s13.1)) (not (bEq (not y15.1) true)))
 (cond (cond (not y15.1) (iNe (sAt s13.1 s13.2.1) 45) false)
 (some (.inr (false,())))
 (some (.inl (s13.1,aM .i64 s13.2.1 1,())))) none)
 (cond (or (bnd s13.2.1 (sLen s13.1)) (not (bEq false true)))
 (some (.inl (s13.1,aM .i64 s13.2.1 1,()))) none)) none) none)
 (some (.inr (true,()))))
 (a0,0,()))) none)) none
noncomputable def Sv:Cfg:=⟨cO,aJ,[Yv,Yu],[]⟩
theorem a1d (x:ByteArray×Unit):dR Sv x91 50 [.t 2] [.str] [.bool] x=m91 x.1:=by kernel_rfl
noncomputable def i91:PI:=⟨91,[.str],[.bool],fun (x:ByteArray×Unit)=>m91 x.1⟩
theorem a0j:POk Tryd.prog (gx aJ) i91:=pok mixed (aZ XK (aZ XJ (aK _ _)):aW _ (Sv)) F91 (a1d)
noncomputable def x92:XC:=xoF Tryd.f92 .o
theorem F92:Fn Tryd.prog 92 28 x92.er [.t 2]:=by unfold x92;exact fnX Tryd.func92 (by kernel_rfl) (by kernel_rfl) (by kernel_rfl) (by kernel_rfl)
noncomputable def m92 (a0:ByteArray):Option (Bool×Unit) :=
 cond (sEq a0 (bs [97,110,100]))
 (some (true,()))
 (cond (sEq a0 (bs [97,118,101,114,97,103,101]))
 (some (true,()))
 (cond (sEq a0 (bs [99,111,105,110,115,117,114,97,110,99,101]))
 (some (true,()))
 (cond (sEq a0 (bs [99,111,110,100,105,116,105,111,110]))
 (some (true,()))
 (cond (sEq a0 (bs [99,111,118,101,114]))
 (some (true,()))
 (cond (sEq a0 (bs [100,101,100,117,99,116,105,98,108,101]))
 (some (true,()))
 (cond (sEq a0 (bs [100,101,102,105,110,101]))
 (some (true,()))
 (cond (sEq a0 (bs [101,110,100]))
 (some (true,()))
 (cond (sEq a0 (bs [101,110,100,111,114,115,101]))
 (some (true,()))
 (cond (sEq a0 (bs [101,120,99,108,117,100,101]))
 (some (true,()))
 (cond (sEq a0 (bs [102,97,108,115,101]))
 (some (true,()))
 (cond (sEq a0 (bs [102,114,97,110,99,104,105,115,101]))
 (some (true,()))
 (cond (sEq a0 (bs [102,114,111,109]))
 (some (true,()))
 (cond (sEq a0 (bs [105,110]))
 (some (true,()))
 (cond (sEq a0 (bs [108,105,109,105,116]))
 (some (true,()))
 (cond (sEq a0 (bs [110,111,116]))
 (some (true,()))
 (cond (sEq a0 (bs [111,114]))
 (some (true,()))
 (cond (sEq a0 (bs [114,101,109,111,118,101]))
 (some (true,()))
 (cond (sEq a0 (bs [115,117,98,108,105,109,105,116]))
 (some (true,()))
 (cond (sEq a0 (bs [116,111]))
 (some (true,()))
 (cond (sEq a0 (bs [116,114,117,101]))
 (some (true,()))
 (cond (sEq a0 (bs [117,110,108,101,115,115]))
 (some (true,()))
 (cond (sEq a0 (bs [119,104,101,110]))
 (some (true,()))
 (some (false,()))))))))))))))))))))))))
noncomputable def Sr:Cfg:=⟨cO,aJ,[],[]⟩
theorem a1c (x:ByteArray×Unit):dR Sr x92 28 [.t 2] [.str] [.bool] x=m92 x.1:=by kernel_rfl
noncomputable def i92:PI:=⟨92,[.str],[.bool],fun (x:ByteArray×Unit)=>m92 x.1⟩
theorem a0i:POk Tryd.prog (gx aJ) i92:=pok mixed (aK _ _:aW _ (Sr)) F92 (a1c)
noncomputable def x77:XC:=xoF Tryd.f77 .o
theorem F77:Fn Tryd.prog 77 10 x77.er [.t 2]:=by unfold x77;exact fnX Tryd.func77 (by kernel_rfl) (by kernel_rfl) (by kernel_rfl) (by kernel_rfl)
noncomputable def m77 (a0:ByteArray):Option (Bool×Unit) :=
 (m91 a0).bind fun y16 =>
 cond y16.1
 ((m92 a0).bind fun y17 =>
 some (not y17.1,()))
 (some (false,()))
noncomputable def SK:Cfg:=⟨cO,aJ,[i91,i92],[]⟩
theorem a1o (x:ByteArray×Unit):dR SK x77 10 [.t 2] [.str] [.bool] x=m77 x.1:=by kernel_rfl
noncomputable def i77:PI:=⟨77,[.str],[.bool],fun (x:ByteArray×Unit)=>m77 x.1⟩
theorem RD:POk Tryd.prog (gx aJ) i77:=pok mixed (aZ a0j (aZ a0i (aK _ _)):aW _ (SK)) F77 (a1o)
noncomputable def x93:XC:=xoF Tryd.f93 (.d 1 (.s (.d 1 (.b (.l [] ⟨16,[(0,(.list .str)),(3,(.int .i64))],[],[]⟩ .o))) .o))
theorem F93:Fn Tryd.prog 93 16 x93.er [.t 2]:=by unfold x93;exact fnX Tryd.func93 (by kernel_rfl) (by kernel_rfl) (by kernel_rfl) (by kernel_rfl)
noncomputable def m93 (a0:List ByteArray):Option (Bool×Unit) :=
 bX (S:=(List ByteArray)×Int×Unit) (R:=Bool×Unit) (fun s22 =>
 cond (iLt s22.2.1 (aj s22.1))
 (cond (bnd s22.2.1 (aj s22.1))
 ((m77 (atI s22.1 s22.2.1 ByteArray.empty)).bind fun y23 =>
 cond (not y23.1)
 (some (.inr (false,())))
 (some (.inl (s22.1,aM .i64 s22.2.1 1,())))) none)
 (some (.inr (true,()))))
 (a0,0,())
noncomputable def Sq:Cfg:=⟨cO,aJ,[i77],[]⟩
theorem a1b (x:(List ByteArray)×Unit):dR Sq x93 16 [.t 2] [(.list .str)] [.bool] x=m93 x.1:=by kernel_rfl
noncomputable def i93:PI:=⟨93,[(.list .str)],[.bool],fun (x:(List ByteArray)×Unit)=>m93 x.1⟩
theorem a0h:POk Tryd.prog (gx aJ) i93:=pok mixed (aZ RD (aK _ _):aW _ (Sq)) F93 (a1b)
noncomputable def x94:XC:=xoF Tryd.f94 (.d 1 (.s (.d 1 (.b (.l [] ⟨25,[(0,(.list .str)),(3,(.int .i64))],[],[]⟩ (.d 1 (.s (.b (.d 1 (.b (.l [] ⟨25,[(0,(.list .str)),(3,(.int .i64)),(4,(.int .i64))],[],[]⟩ .o)))) .o))))) .o))
theorem F94:Fn Tryd.prog 94 25 x94.er [.t 2]:=by unfold x94;exact fnX Tryd.func94 (by kernel_rfl) (by kernel_rfl) (by kernel_rfl) (by kernel_rfl)
noncomputable def m94 (a0:List ByteArray):Option (Bool×Unit) :=
 bX (S:=(List ByteArray)×Int×Unit) (R:=Bool×Unit) (fun s27 =>
 cond (iLt s27.2.1 (aj s27.1))
 (bX (S:=(List ByteArray)×Int×Int×Unit) (R:=((List ByteArray)×Int×Unit)⊕(Bool×Unit)) (fun s28 =>
 cond (iLt s28.2.2.1 s28.2.1)
 (cond (bnd s28.2.1 (aj s28.1))
 (cond (bnd s28.2.2.1 (aj s28.1))
 (cond (sEq (atI s28.1 s28.2.1 ByteArray.empty) (atI s28.1 s28.2.2.1 ByteArray.empty))
 (some (.inr (.inr (false,()))))
 (some (.inl (s28.1,s28.2.1,aM .i64 s28.2.2.1 1,())))) none) none)
 (some (.inr (.inl (s28.1,aM .i64 s28.2.1 1,())))))
 (s27.1,s27.2.1,0,()))
 (some (.inr (true,()))))
 (a0,0,())
noncomputable def Sn:Cfg:=⟨cO,aJ,[],[]⟩
theorem a1a (x:(List ByteArray)×Unit):dR Sn x94 25 [.t 2] [(.list .str)] [.bool] x=m94 x.1:=by kernel_rfl
noncomputable def i94:PI:=⟨94,[(.list .str)],[.bool],fun (x:(List ByteArray)×Unit)=>m94 x.1⟩
theorem a0g:POk Tryd.prog (gx aJ) i94:=pok mixed (aK _ _:aW _ (Sn)) F94 (a1a)
noncomputable def x95:XC:=xoF Tryd.f95 .o
theorem F95:Fn Tryd.prog 95 9 x95.er [.t 2]:=by unfold x95;exact fnX Tryd.func95 (by kernel_rfl) (by kernel_rfl) (by kernel_rfl) (by kernel_rfl)
noncomputable def m95 (a0:Int):Option (Bool×Unit) :=
 some (cond (iLt 1000000000 a0) true (iLt a0 (-1000000000)),())
noncomputable def Sm:Cfg:=⟨cO,aJ,[],[]⟩
theorem a09 (x:Int×Unit):dR Sm x95 9 [.t 2] [(.int .i64)] [.bool] x=m95 x.1:=by kernel_rfl
noncomputable def i95:PI:=⟨95,[(.int .i64)],[.bool],fun (x:Int×Unit)=>m95 x.1⟩
theorem a0f:POk Tryd.prog (gx aJ) i95:=pok mixed (aK _ _:aW _ (Sm)) F95 (a09)
noncomputable def x78:XC:=xoF Tryd.f78 .o
theorem F78:Fn Tryd.prog 78 73 x78.er [.t 2]:=by unfold x78;exact fnX Tryd.func78 (by kernel_rfl) (by kernel_rfl) (by kernel_rfl) (by kernel_rfl)
noncomputable def m78 (a0:DS0):Option (Int×Unit) :=
 cond (iEq a0.2.1 1)
 (cond (cond (iNe a0.2.2.2.1 0) true (iNe a0.2.2.2.2.1 0))
 (some (20,()))
 (cond (iEq (aj a0.2.2.1) 0)
 (some (19,()))
 (cond (iLt 12 (aj a0.2.2.1))
 (some (4,()))
 ((m93 a0.2.2.1).bind fun y24 =>
 cond (not y24.1)
 (some (6,()))
 ((m94 a0.2.2.1).bind fun y29 =>
 cond (not y29.1)
 (some (8,()))
 (some (0,())))))))
 (cond (iEq a0.2.1 2)
 (cond (iLt 0 (aj a0.2.2.1))
 (some (20,()))
 (cond (iLt a0.2.2.2.2.1 a0.2.2.2.1)
 (some (1,()))
 ((m95 a0.2.2.2.1).bind fun y30 =>
 cond y30.1
 (some (1,()))
 ((m95 a0.2.2.2.2.1).bind fun y31 =>
 cond y31.1
 (some (1,()))
 (some (0,()))))))
 (cond (iEq a0.2.1 3)
 (cond (cond (cond (iLt 0 (aj a0.2.2.1)) true (iNe a0.2.2.2.1 0)) true (iNe a0.2.2.2.2.1 0))
 (some (20,()))
 (some (0,())))
 (some (11,()))))
noncomputable def SI:Cfg:=⟨cO,aJ,[i93,i94,i95],[]⟩
theorem a1n (x:DS0×Unit):dR SI x78 73 [.t 2] [tS0] [(.int .i64)] x=m78 x.1:=by kernel_rfl
noncomputable def i78:PI:=⟨78,[tS0],[(.int .i64)],fun (x:DS0×Unit)=>m78 x.1⟩
theorem a0o:POk Tryd.prog (gx aJ) i78:=pok mixed (aZ a0h (aZ a0g (aZ a0f (aK _ _))):aW _ (SI)) F78 (a1n)
noncomputable def x41:XC:=xoF Tryd.f41 (.d 3 (.s (.d 1 (.b (.l [] ⟨50,[(3,(.int .i64))],[(1,.ptr 0 0 0)],[.box 24 [.d (.list tS0)]]⟩ (.d 1 (.s (.b (.d 2 (.s (.d 1 (.b (.l [] ⟨50,[(3,(.int .i64)),(5,(.int .i64))],[(1,.ptr 0 0 0),(4,.ptr 1 0 0)],[.box 24 [.d (.list tS0)],.box 64 [.d .str,.d (.int .i64),.d (.list .str),.d (.int .i64),.d (.int .i64)]]⟩ .o))) .o))) .o))))) .o))
theorem F41:Fn Tryd.prog 41 50 x41.er [.t 2]:=by unfold x41;exact fnX Tryd.func41 (by kernel_rfl) (by kernel_rfl) (by kernel_rfl) (by kernel_rfl)
noncomputable def m41 (a0:DS5):Option (Int×Unit) :=
 cond (iEq (aj a0.1) 0)
 (some (19,()))
 (cond (iLt 6 (aj a0.1))
 (some (4,()))
 (bX (S:=Int×(List DS0)×Unit) (R:=Int×Unit) (fun s33 =>
 cond (iLt s33.1 (aj s33.2.1))
 (cond (bnd s33.1 (aj s33.2.1))
 ((m77 ((atI s33.2.1 s33.1 (ByteArray.empty,0,[],0,0,())).1)).bind fun y34 =>
 cond (not y34.1)
 (some (.inr (6,())))
 (bX (S:=Int×Int×(List DS0)×ByteArray×Int×(List ByteArray)×Int×Int×Unit) (R:=(Int×(List DS0)×Unit)⊕(Int×Unit)) (fun s35 =>
 cond (iLt s35.2.1 s35.1)
 (cond (bnd s35.2.1 (aj s35.2.2.1))
 (cond (sEq ((atI s35.2.2.1 s35.2.1 (ByteArray.empty,0,[],0,0,())).1) s35.2.2.2.1)
 (some (.inr (.inr (8,()))))
 (some (.inl (s35.1,aM .i64 s35.2.1 1,s35.2.2.1,s35.2.2.2.1,s35.2.2.2.2.1,s35.2.2.2.2.2.1,s35.2.2.2.2.2.2.1,s35.2.2.2.2.2.2.2.1,())))) none)
 (Option.map Sum.inr ((m78 (s35.2.2.2.1,s35.2.2.2.2.1,s35.2.2.2.2.2.1,s35.2.2.2.2.2.2.1,s35.2.2.2.2.2.2.2.1,())).bind fun y36 =>
 cond (iNe y36.1 0)
 (some (.inr (y36.1,())))
 (some (.inl (aM .i64 s35.1 1,s35.2.2.1,()))))))
 (s33.1,0,s33.2.1,(atI s33.2.1 s33.1 (ByteArray.empty,0,[],0,0,())).1,(atI s33.2.1 s33.1 (ByteArray.empty,0,[],0,0,())).2.1,(atI s33.2.1 s33.1 (ByteArray.empty,0,[],0,0,())).2.2.1,(atI s33.2.1 s33.1 (ByteArray.empty,0,[],0,0,())).2.2.2.1,(atI s33.2.1 s33.1 (ByteArray.empty,0,[],0,0,())).2.2.2.2.1,()))) none)
 (some (.inr (0,()))))
 (0,a0.1,())))
noncomputable def Tq:Cfg:=⟨cO,aJ,[i77,i78],[]⟩
theorem a1I (x:DS5×Unit):dR Tq x41 50 [.t 2] [tS5] [(.int .i64)] x=m41 x.1:=by kernel_rfl
noncomputable def i41:PI:=⟨41,[tS5],[(.int .i64)],fun (x:DS5×Unit)=>m41 x.1⟩
theorem a0z:POk Tryd.prog (gx aJ) i41:=pok mixed (aZ RD (aZ a0o (aK _ _)):aW _ (Tq)) F41 (a1I)
noncomputable def x42:XC:=xoF Tryd.f42 .o
theorem F42:Fn Tryd.prog 42 40 x42.er [.t 4,.t 5]:=by unfold x42;exact fnX Tryd.func42 (by kernel_rfl) (by kernel_rfl) (by kernel_rfl) (by kernel_rfl)
noncomputable def m42 (a0:DS5) (a1:Int):Option (Int×Int×Unit) :=
 (m41 (a0.1,())).bind fun y37 =>
 cond (cond (cond (iNe y37.1 0) true (iLt a1 0)) true (iLe (aj a0.1) a1))
 (some (0,(-1),()))
 (cond (bnd a1 (aj a0.1))
 (cond (iEq ((atI a0.1 a1 (ByteArray.empty,0,[],0,0,())).2.1) 1)
 (some (0,dS .i64 (aj ((atI a0.1 a1 (ByteArray.empty,0,[],0,0,())).2.2.1)) 1,()))
 (cond (iEq ((atI a0.1 a1 (ByteArray.empty,0,[],0,0,())).2.1) 2)
 (some ((atI a0.1 a1 (ByteArray.empty,0,[],0,0,())).2.2.2.1,(atI a0.1 a1 (ByteArray.empty,0,[],0,0,())).2.2.2.2.1,()))
 (some (0,1,())))) none)
noncomputable def Tp:Cfg:=⟨cO,aJ,[i41],[]⟩
theorem a1H (x:DS5×Int×Unit):dR Tp x42 40 [.t 4,.t 5] [tS5,(.int .i64)] [(.int .i64),(.int .i64)] x=m42 x.1 x.2.1:=by kernel_rfl
noncomputable def i42:PI:=⟨42,[tS5,(.int .i64)],[(.int .i64),(.int .i64)],fun (x:DS5×Int×Unit)=>m42 x.1 x.2.1⟩
theorem Ka:POk Tryd.prog (gx aJ) i42:=pok mixed (aZ a0z (aK _ _):aW _ (Tp)) F42 (a1H)
noncomputable def x44:XC:=xoF Tryd.f44 (.d 2 (.s (.d 1 (.b (.l [.gh 3 37 (.list (.int .i64))] ⟨26,[(4,(.int .i64))],[(1,.ptr 0 0 0),(3,.row 1)],[.box 24 [.d (.list tS0)],.row 37 (.list (.int .i64)) false]⟩ .o))) .o))
theorem F44:Fn Tryd.prog 44 26 x44.er [.t 2]:=by unfold x44;exact fnX Tryd.func44 (by kernel_rfl) (by kernel_rfl) (by kernel_rfl) (by kernel_rfl)
noncomputable def m44 (a0:DS5):Option ((List (List Int))×Unit) :=
 bX (S:=Int×(List DS0)×(List (List Int))×Unit) (R:=(List (List Int))×Unit) (fun s39 =>
 cond (iLt s39.1 (aj s39.2.1))
 ((m42 (s39.2.1,()) s39.1).bind fun y40 =>
 cond (fits (List.length s39.2.2.1+List.length ([([y40.1]:List Int)]:List (List Int))) 24)
 (some (.inl (aM .i64 s39.1 1,s39.2.1,s39.2.2.1++([([y40.1]:List Int)]:List (List Int)),()))) none)
 (some (.inr (s39.2.2.1,()))))
 (0,a0.1,([]:List (List Int)),())
noncomputable def Tm:Cfg:=⟨cO,aJ,[i42],[]⟩
theorem a1F (x:DS5×Unit):dR Tm x44 26 [.t 2] [tS5] [(.list (.list (.int .i64)))] x=m44 x.1:=by kernel_rfl
noncomputable def i44:PI:=⟨44,[tS5],[(.list (.list (.int .i64)))],fun (x:DS5×Unit)=>m44 x.1⟩
theorem a0x:POk Tryd.prog (gx aJ) i44:=pok mixed (aZ Ka (aK _ _):aW _ (Tm)) F44 (a1F)
noncomputable def x45:XC:=xoF Tryd.f45 .o
theorem F45:Fn Tryd.prog 45 39 x45.er [.t 4]:=by unfold x45;exact fnX Tryd.func45 (by kernel_rfl) (by kernel_rfl) (by kernel_rfl) (by kernel_rfl)
noncomputable def m45 (a0:Int) (a1:List Int) (a2:Int):Option (Int×(List Int)×Int×Unit) :=
 cond (iLe (aj a1) a2)
 (some (0,a1,a2,()))
 (cond (bnd (dS .i64 (aM .i64 a2 1) 1) (aj a1))
 (cond (iNe a0 0)
 (cond (iNe a0 0)
 (some (oZ (aM .i64 (oZ (atI a1 (dS .i64 (aM .i64 a2 1) 1) 0) a0) a0) a0,a1,aM .i64 a2 1,())) none) none) none)
noncomputable def Tj:Cfg:=⟨cO,aJ,[],[]⟩
def RY:Sh:=⟨2,[(1,(.int .i64))],[(0,.ptr 0 0 0)],[.box 78 [.d (.list (.int .i64)),.d (.int .i64)]]⟩
def Ru:Sh:=⟨1,[(0,(.int .i64))],[],[.box 78 [.d (.list (.int .i64)),.d (.int .i64)]]⟩
theorem a1E (x:Int×(List Int)×Int×Unit):kD Tj x45 39 [.t 4] [] RY Ru x=m45 x.1 x.2.1 x.2.2.1:=by kernel_rfl
noncomputable def h45:HI:=⟨45,RY,Ru,fun (x:Int×(List Int)×Int×Unit)=>m45 x.1 x.2.1 x.2.2.1,[]⟩
theorem RO:HOk Tryd.prog (gx aJ) h45:=hok mixed (aK _ _:aW _ (Tj)) F45 (a1E)
noncomputable def x24:XC:=xoF Tryd.f24 (.d 2 (.s (.d 1 (.b (.l [.gh 5 3 (.int .i64)] ⟨53,[(6,(.int .i64))],[(0,.ptr 0 0 0),(3,.ptr 1 0 0),(5,.row 2)],[.box 78 [.d (.list (.int .i64)),.d (.int .i64)],.box 24 [.d (.list tS0)],.row 3 (.int .i64) false]⟩ .o))) .o))
theorem F24:Fn Tryd.prog 24 53 x24.er [.t 4]:=by unfold x24;exact fnX Tryd.func24 (by kernel_rfl) (by kernel_rfl) (by kernel_rfl) (by kernel_rfl)
noncomputable def m24 (a0:DS5) (a1:List Int) (a2:Int):Option ((List Int)×Int×(List Int)×Unit) :=
 bX (S:=Int×(List Int)×Int×(List DS0)×(List Int)×Unit) (R:=(List Int)×Int×(List Int)×Unit) (fun s55 =>
 cond (iLt s55.1 (aj s55.2.2.2.1))
 ((m42 (s55.2.2.2.1,()) s55.1).bind fun y56 =>
 (m45 (aM .i64 (dS .i64 y56.2.1 y56.1) 1) s55.2.1 s55.2.2.1).bind fun y57 =>
 (m45 5 y57.2.1 y57.2.2.1).bind fun y58 =>
 cond (iEq y58.1 0)
 (cond (fits (List.length s55.2.2.2.2.1+List.length ([y56.1]:List Int)) 8)
 (some (.inl (aM .i64 s55.1 1,y58.2.1,y58.2.2.1,s55.2.2.2.1,s55.2.2.2.2.1++([y56.1]:List Int),()))) none)
 (cond (iEq y58.1 1)
 (cond (fits (List.length s55.2.2.2.2.1+List.length ([y56.2.1]:List Int)) 8)
 (some (.inl (aM .i64 s55.1 1,y58.2.1,y58.2.2.1,s55.2.2.2.1,s55.2.2.2.2.1++([y56.2.1]:List Int),()))) none)
 (cond (iEq y58.1 2)
 ((m45 12 y58.2.1 y58.2.2.1).bind fun y59 =>
 cond (fits (List.length s55.2.2.2.2.1+List.length ([kP (o7 (dS .i64 y59.1 4) y56.1) y56.2.1]:List Int)) 8)
 (some (.inl (aM .i64 s55.1 1,y59.2.1,y59.2.2.1,s55.2.2.2.1,s55.2.2.2.2.1++([kP (o7 (dS .i64 y59.1 4) y56.1) y56.2.1]:List Int),()))) none)
 (cond (fits (List.length s55.2.2.2.2.1+List.length ([aM .i64 y56.1 y57.1]:List Int)) 8)
 (some (.inl (aM .i64 s55.1 1,y58.2.1,y58.2.2.1,s55.2.2.2.1,s55.2.2.2.2.1++([aM .i64 y56.1 y57.1]:List Int),()))) none))))
 (some (.inr (s55.2.1,s55.2.2.1,s55.2.2.2.2.1,()))))
 (0,a1,a2,a0.1,([]:List Int),())
noncomputable def TB:Cfg:=⟨cO,aJ,[i42],[h45]⟩
def RZ:Sh:=⟨2,[(1,tS5)],[(0,.ptr 0 0 0)],[.box 78 [.d (.list (.int .i64)),.d (.int .i64)]]⟩
def Rv:Sh:=⟨1,[],[(0,.row 1)],[.box 78 [.d (.list (.int .i64)),.d (.int .i64)],.row 3 (.int .i64) false]⟩
theorem a1P (x:DS5×(List Int)×Int×Unit):kD TB x24 53 [.t 4] [.gh 4 3 (.int .i64)] RZ Rv x=m24 x.1 x.2.1 x.2.2.1:=by kernel_rfl
noncomputable def h24:HI:=⟨24,RZ,Rv,fun (x:DS5×(List Int)×Int×Unit)=>m24 x.1 x.2.1 x.2.2.1,[]⟩
theorem a0M:HOk Tryd.prog (gx aJ) h24:=hok mixed (aZ Ka (gT RO (aK _ _)):aW _ (TB)) F24 (a1P)
noncomputable def x96:XC:=xoF Tryd.f96 (.d 3 (.s (.d 1 (.b (.l [.gh 5 3 (.int .i64)] ⟨48,[(0,(.list (.int .i64))),(1,(.int .i64)),(6,.bool),(7,(.int .i64))],[(5,.row 0)],[.row 3 (.int .i64) false]⟩ .o))) .o))
theorem F96:Fn Tryd.prog 96 48 x96.er [.t 4]:=by unfold x96;exact fnX Tryd.func96 (by kernel_rfl) (by kernel_rfl) (by kernel_rfl) (by kernel_rfl)
noncomputable def m96 (a0:List Int) (a1:Int):Option ((List Int)×Unit) :=
 bX (S:=(List Int)×Int×Bool×Int×(List Int)×Unit) (R:=(List Int)×Unit) (fun s63 =>
 cond (iLt s63.2.2.2.1 (aj s63.1))
 (cond (or (bnd s63.2.2.2.1 (aj s63.1)) (not (bEq (not s63.2.2.1) true)))
 (cond (cond (not s63.2.2.1) (iLe s63.2.1 (atI s63.1 s63.2.2.2.1 0)) false)
 (cond (bnd s63.2.2.2.1 (aj s63.1))
 (cond (iLt s63.2.1 (atI s63.1 s63.2.2.2.1 0))
 (cond (fits (List.length s63.2.2.2.2.1+List.length ([s63.2.1]:List Int)) 8)
 (cond (bnd s63.2.2.2.1 (aj s63.1))
 (cond (fits (List.length (s63.2.2.2.2.1++([s63.2.1]:List Int))+List.length ([atI s63.1 s63.2.2.2.1 0]:List Int)) 8)
 (some (.inl (s63.1,s63.2.1,true,aM .i64 s63.2.2.2.1 1,(s63.2.2.2.2.1++([s63.2.1]:List Int))++([atI s63.1 s63.2.2.2.1 0]:List Int),()))) none) none) none)
 (cond (bnd s63.2.2.2.1 (aj s63.1))
 (cond (fits (List.length s63.2.2.2.2.1+List.length ([atI s63.1 s63.2.2.2.1 0]:List Int)) 8)
 (some (.inl (s63.1,s63.2.1,true,aM .i64 s63.2.2.2.1 1,s63.2.2.2.2.1++([atI s63.1 s63.2.2.2.1 0]:List Int),()))) none) none)) none)
 (cond (bnd s63.2.2.2.1 (aj s63.1))
 (cond (fits (List.length s63.2.2.2.2.1+List.length ([atI s63.1 s63.2.2.2.1 0]:List Int)) 8)
 (some (.inl (s63.1,s63.2.1,s63.2.2.1,aM .i64 s63.2.2.2.1 1,s63.2.2.2.2.1++([atI s63.1 s63.2.2.2.1 0]:List Int),()))) none) none)) none)
 (Option.map Sum.inr (cond (not s63.2.2.1)
 (cond (fits (List.length s63.2.2.2.2.1+List.length ([s63.2.1]:List Int)) 8)
 (some (s63.2.2.2.2.1++([s63.2.1]:List Int),())) none)
 (some (s63.2.2.2.2.1,())))))
 (a0,a1,false,0,([]:List Int),())
noncomputable def Sl:Cfg:=⟨cO,aJ,[],[]⟩
theorem a08 (x:(List Int)×Int×Unit):dR Sl x96 48 [.t 4] [(.list (.int .i64)),(.int .i64)] [(.list (.int .i64))] x=m96 x.1 x.2.1:=by kernel_rfl
noncomputable def i96:PI:=⟨96,[(.list (.int .i64)),(.int .i64)],[(.list (.int .i64))],fun (x:(List Int)×Int×Unit)=>m96 x.1 x.2.1⟩
theorem a0e:POk Tryd.prog (gx aJ) i96:=pok mixed (aK _ _:aW _ (Sl)) F96 (a08)
noncomputable def x79:XC:=xoF Tryd.f79 .o
theorem F79:Fn Tryd.prog 79 8 x79.er [.t 4]:=by unfold x79;exact fnX Tryd.func79 (by kernel_rfl) (by kernel_rfl) (by kernel_rfl) (by kernel_rfl)
noncomputable def m79 (a0:List Int) (a1:Int):Option ((List Int)×Unit) :=
 (m96 a0 a1).bind fun y64 =>
 some (y64.1,())
noncomputable def SH:Cfg:=⟨cO,aJ,[i96],[]⟩
theorem a1m (x:(List Int)×Int×Unit):dR SH x79 8 [.t 4] [(.list (.int .i64)),(.int .i64)] [(.list (.int .i64))] x=m79 x.1 x.2.1:=by kernel_rfl
noncomputable def i79:PI:=⟨79,[(.list (.int .i64)),(.int .i64)],[(.list (.int .i64))],fun (x:(List Int)×Int×Unit)=>m79 x.1 x.2.1⟩
theorem a0n:POk Tryd.prog (gx aJ) i79:=pok mixed (aZ a0e (aK _ _):aW _ (SH)) F79 (a1m)
noncomputable def x46:XC:=xoF Tryd.f46 .o
theorem F46:Fn Tryd.prog 46 40 x46.er [.t 8]:=by unfold x46;exact fnX Tryd.func46 (by kernel_rfl) (by kernel_rfl) (by kernel_rfl) (by kernel_rfl)
noncomputable def m46 (a0:DS5) (a1:List (List Int)) (a2:Int) (a3:Int):Option ((List (List Int))×Unit) :=
 (m42 (a0.1,()) a2).bind fun y61 =>
 cond (cond (iLe a3 y61.1) true (iLt y61.2.1 a3))
 (some (a1,()))
 (cond (fits (List.length ([]:List (List Int))+List.length a1) 24)
 (cond (bnd a2 (aj a1))
 ((m79 (atI a1 a2 []) a3).bind fun y65 =>
 cond (bnd a2 (aj (([]:List (List Int))++a1)))
 (cond (inB (Int.toNat a2) (([]:List (List Int))++a1))
 (some (List.set (([]:List (List Int))++a1) (Int.toNat a2) y65.1,())) none) none) none) none)
noncomputable def Ti:Cfg:=⟨cO,aJ,[i42,i79],[]⟩
theorem a1D (x:DS5×(List (List Int))×Int×Int×Unit):dR Ti x46 40 [.t 8] [tS5,(.list (.list (.int .i64))),(.int .i64),(.int .i64)] [(.list (.list (.int .i64)))] x=m46 x.1 x.2.1 x.2.2.1 x.2.2.2.1:=by kernel_rfl
noncomputable def i46:PI:=⟨46,[tS5,(.list (.list (.int .i64))),(.int .i64),(.int .i64)],[(.list (.list (.int .i64)))],fun (x:DS5×(List (List Int))×Int×Int×Unit)=>m46 x.1 x.2.1 x.2.2.1 x.2.2.2.1⟩
theorem a0w:POk Tryd.prog (gx aJ) i46:=pok mixed (aZ Ka (aZ a0n (aK _ _)):aW _ (Ti)) F46 (a1D)
noncomputable def x47:XC:=xoF Tryd.f47 (.d 2 (.s (.d 1 (.b (.l [] ⟨20,[(0,(.list (.list (.int .i64)))),(3,(.int .i64)),(4,(.int .i64))],[],[]⟩ .o))) .o))
theorem F47:Fn Tryd.prog 47 20 x47.er [.t 2]:=by unfold x47;exact fnX Tryd.func47 (by kernel_rfl) (by kernel_rfl) (by kernel_rfl) (by kernel_rfl)
noncomputable def m47 (a0:List (List Int)):Option (Int×Unit) :=
 bX (S:=(List (List Int))×Int×Int×Unit) (R:=Int×Unit) (fun s68 =>
 cond (iLt s68.2.2.1 (aj s68.1))
 (cond (bnd s68.2.2.1 (aj s68.1))
 (some (.inl (s68.1,kP (wX .i64 s68.2.1 (aj (atI s68.1 s68.2.2.1 []))) 8193,aM .i64 s68.2.2.1 1,()))) none)
 (some (.inr (s68.2.1,()))))
 (a0,1,0,())
noncomputable def Tg:Cfg:=⟨cO,aJ,[],[]⟩
theorem a1C (x:(List (List Int))×Unit):dR Tg x47 20 [.t 2] [(.list (.list (.int .i64)))] [(.int .i64)] x=m47 x.1:=by kernel_rfl
noncomputable def i47:PI:=⟨47,[(.list (.list (.int .i64)))],[(.int .i64)],fun (x:(List (List Int))×Unit)=>m47 x.1⟩
theorem a0v:POk Tryd.prog (gx aJ) i47:=pok mixed (aK _ _:aW _ (Tg)) F47 (a1C)
noncomputable def x23:XC:=xoF Tryd.f23 (.d 2 (.s (.d 1 (.b (.l [] ⟨26,[(0,(.list (.int .i64))),(1,(.list (.int .i64))),(5,(.int .i64))],[],[]⟩ .o))) .o))
theorem F23:Fn Tryd.prog 23 26 x23.er [.t 4]:=by unfold x23;exact fnX Tryd.func23 (by kernel_rfl) (by kernel_rfl) (by kernel_rfl) (by kernel_rfl)
noncomputable def m23 (a0:List Int) (a1:List Int):Option (Bool×Unit) :=
 cond (iNe (aj a0) (aj a1))
 (some (false,()))
 (bX (S:=(List Int)×(List Int)×Int×Unit) (R:=Bool×Unit) (fun s94 =>
 cond (iLt s94.2.2.1 (aj s94.1))
 (cond (bnd s94.2.2.1 (aj s94.1))
 (cond (bnd s94.2.2.1 (aj s94.2.1))
 (cond (iNe (atI s94.1 s94.2.2.1 0) (atI s94.2.1 s94.2.2.1 0))
 (some (.inr (false,())))
 (some (.inl (s94.1,s94.2.1,aM .i64 s94.2.2.1 1,())))) none) none)
 (some (.inr (true,()))))
 (a0,a1,0,()))
noncomputable def TD:Cfg:=⟨cO,aJ,[],[]⟩
theorem a1Q (x:(List Int)×(List Int)×Unit):dR TD x23 26 [.t 4] [(.list (.int .i64)),(.list (.int .i64))] [.bool] x=m23 x.1 x.2.1:=by kernel_rfl
noncomputable def i23:PI:=⟨23,[(.list (.int .i64)),(.list (.int .i64))],[.bool],fun (x:(List Int)×(List Int)×Unit)=>m23 x.1 x.2.1⟩
theorem RI:POk Tryd.prog (gx aJ) i23:=pok mixed (aK _ _:aW _ (TD)) F23 (a1Q)
noncomputable def Jy:XC:=xoF Tryd.f97 (.d 3 (.s (.d 1 (.b (.l [.gh 9 3 (.int .i64)] ⟨107,[(1,(.int .i64)),(2,(.list (.int .i64))),(11,(.int .i64))],[(0,.ptr 0 0 0),(3,.row 1),(9,.row 3),(10,.row 4)],[.box 93 [.d (.list (.list (.int .i64))),.d (.list (.int .i64)),.row 2],.row 3 (.int .i64) false,.row 70 tS1 false,.row 3 (.int .i64) false,.row 3 (.int .i64) false]⟩ (.d 1 (.s (.b (.d 1 (.c (.u [3]) .o))) .o))))) (.d 1 (.s (.d 1 (.b (.l [.gh 9 3 (.int .i64)] ⟨107,[(1,(.int .i64)),(12,(.int .i64))],[(0,.ptr 0 0 0),(9,.row 3),(10,.row 4)],[.box 93 [.d (.list (.list (.int .i64))),.d (.list (.int .i64)),.row 2],.row 3 (.int .i64) false,.row 70 tS1 false,.row 3 (.int .i64) false,.row 3 (.int .i64) false]⟩ .o))) .o))))
theorem a2h:Fn Tryd.prog 97 107 Jy.er [.t 8]:=by unfold Jy;exact fnX Tryd.func97 (by kernel_rfl) (by kernel_rfl) (by kernel_rfl) (by kernel_rfl)
noncomputable def xW (a0:Int) (a1:List Int) (a2:List (List Int)) (a3:List Int) (a4:List Int) (a5:List DS1):Option (Int×(List (List Int))×(List Int)×(List Int)×(List DS1)×Unit) :=
 cond (bnd 0 (aj a4))
 (cond (inB (Int.toNat 0) a4)
 (bX (S:=Int×(List Int)×Int×(List (List Int))×(List Int)×(List Int)×(List DS1)×(List Int)×(List Int)×Unit) (R:=Int×(List (List Int))×(List Int)×(List Int)×(List DS1)×Unit) (fun dn =>
 cond (iLt dn.2.2.1 (aj dn.2.2.2.2.2.1))
 (cond (bnd dn.2.2.1 (aj dn.2.2.2.2.2.1))
 (cond (inB (Int.toNat dn.2.2.1) dn.2.2.2.2.2.1)
 (cond (bnd (dS .i64 (aj dn.2.2.2.2.2.2.2.2.1) 1) (aj dn.2.2.2.2.2.2.2.2.1))
 (cond (inB (Int.toNat (dS .i64 (aj dn.2.2.2.2.2.2.2.2.1) 1)) dn.2.2.2.2.2.2.2.2.1)
 (cond (iNe (List.getD dn.2.2.2.2.2.1 (Int.toNat dn.2.2.1) 0) (List.getD dn.2.2.2.2.2.2.2.2.1 (Int.toNat (dS .i64 (aj dn.2.2.2.2.2.2.2.2.1) 1)) 0))
 (cond (bnd dn.2.2.1 (aj dn.2.1))
 (cond (fits (List.length dn.2.2.2.2.2.2.2.1+List.length ([atI dn.2.1 dn.2.2.1 0]:List Int)) 8)
 (cond (bnd dn.2.2.1 (aj dn.2.2.2.2.2.1))
 (cond (inB (Int.toNat dn.2.2.1) dn.2.2.2.2.2.1)
 (cond (fits (List.length dn.2.2.2.2.2.2.2.2.1+List.length ([List.getD dn.2.2.2.2.2.1 (Int.toNat dn.2.2.1) 0]:List Int)) 8)
 (some (.inl (dn.1,dn.2.1,aM .i64 dn.2.2.1 1,dn.2.2.2.1,dn.2.2.2.2.1,dn.2.2.2.2.2.1,dn.2.2.2.2.2.2.1,dn.2.2.2.2.2.2.2.1++([atI dn.2.1 dn.2.2.1 0]:List Int),dn.2.2.2.2.2.2.2.2.1++([List.getD dn.2.2.2.2.2.1 (Int.toNat dn.2.2.1) 0]:List Int),()))) none) none) none) none) none)
 (some (.inl (dn.1,dn.2.1,aM .i64 dn.2.2.1 1,dn.2.2.2.1,dn.2.2.2.2.1,dn.2.2.2.2.2.1,dn.2.2.2.2.2.2.1,dn.2.2.2.2.2.2.2.1,dn.2.2.2.2.2.2.2.2.1,())))) none) none) none) none)
 (Option.map Sum.inr (cond (iEq (aj dn.2.2.2.2.2.2.2.2.1) 1)
 (cond (bnd 0 (aj dn.2.2.2.2.2.2.2.2.1))
 (cond (inB (Int.toNat 0) dn.2.2.2.2.2.2.2.2.1)
 (some (List.getD dn.2.2.2.2.2.2.2.2.1 (Int.toNat 0) 0,dn.2.2.2.1,dn.2.2.2.2.1,dn.2.2.2.2.2.1,dn.2.2.2.2.2.2.1,())) none) none)
 (bX (S:=Int×Int×(List (List Int))×(List Int)×(List Int)×(List DS1)×(List Int)×(List Int)×Unit) (R:=Int×(List (List Int))×(List Int)×(List Int)×(List DS1)×Unit) (fun dF =>
 cond (iLt dF.2.1 (aj dF.2.2.2.2.2.1))
 (cond (bnd dF.2.1 (aj dF.2.2.2.2.2.1))
 (cond (inB (Int.toNat dF.2.1) dF.2.2.2.2.2.1)
 (cond (iEq ((List.getD dF.2.2.2.2.2.1 (Int.toNat dF.2.1) (0,[],[],())).1) dF.1)
 ((m23 ((List.getD dF.2.2.2.2.2.1 (Int.toNat dF.2.1) (0,[],[],())).2.1) dF.2.2.2.2.2.2.1).bind fun a3m =>
 cond a3m.1
 ((m23 ((List.getD dF.2.2.2.2.2.1 (Int.toNat dF.2.1) (0,[],[],())).2.2.1) dF.2.2.2.2.2.2.2.1).bind fun y104 =>
 cond y104.1
 (some (.inr (dF.2.1,dF.2.2.1,dF.2.2.2.1,dF.2.2.2.2.1,dF.2.2.2.2.2.1,())))
 (some (.inl (dF.1,aM .i64 dF.2.1 1,dF.2.2.1,dF.2.2.2.1,dF.2.2.2.2.1,dF.2.2.2.2.2.1,dF.2.2.2.2.2.2.1,dF.2.2.2.2.2.2.2.1,()))))
 (some (.inl (dF.1,aM .i64 dF.2.1 1,dF.2.2.1,dF.2.2.2.1,dF.2.2.2.2.1,dF.2.2.2.2.2.1,dF.2.2.2.2.2.2.1,dF.2.2.2.2.2.2.2.1,()))))
 (some (.inl (dF.1,aM .i64 dF.2.1 1,dF.2.2.1,dF.2.2.2.1,dF.2.2.2.2.1,dF.2.2.2.2.2.1,dF.2.2.2.2.2.2.1,dF.2.2.2.2.2.2.2.1,())))) none) none)
 (Option.map Sum.inr (cond (fits (List.length dF.2.2.2.2.2.1+List.length ([(dF.1,dF.2.2.2.2.2.2.1,dF.2.2.2.2.2.2.2.1,())]:List DS1)) 56)
 (some (dS .i64 (aj (dF.2.2.2.2.2.1++([(dF.1,dF.2.2.2.2.2.2.1,dF.2.2.2.2.2.2.2.1,())]:List DS1))) 1,dF.2.2.1,dF.2.2.2.1,dF.2.2.2.2.1,dF.2.2.2.2.2.1++([(dF.1,dF.2.2.2.2.2.2.1,dF.2.2.2.2.2.2.2.1,())]:List DS1),())) none)))
 (dn.1,0,dn.2.2.2.1,dn.2.2.2.2.1,dn.2.2.2.2.2.1,dn.2.2.2.2.2.2.1,dn.2.2.2.2.2.2.2.1,dn.2.2.2.2.2.2.2.2.1,())))))
 (a0,a1,1,a2,a3,a4,a5,([]:List Int),([List.getD a4 (Int.toNat 0) 0]:List Int),())) none) none
noncomputable def Je:Cfg:=⟨cO,aJ,[i23],[]⟩
def IK:Sh:=⟨4,[(1,(.int .i64)),(2,(.list (.int .i64)))],[(0,.ptr 0 0 0),(3,.row 1)],[.box 93 [.d (.list (.list (.int .i64))),.d (.list (.int .i64)),.row 2],.row 3 (.int .i64) false,.row 70 tS1 false]⟩
def Ij:Sh:=⟨1,[(0,(.int .i64))],[],[.box 93 [.d (.list (.list (.int .i64))),.d (.list (.int .i64)),.row 2],.row 3 (.int .i64) false,.row 70 tS1 false]⟩
theorem VF (x:Int×(List Int)×(List (List Int))×(List Int)×(List Int)×(List DS1)×Unit):kD Je Jy 107 [.t 8] [] IK Ij x=xW x.1 x.2.1 x.2.2.1 x.2.2.2.1 x.2.2.2.2.1 x.2.2.2.2.2.1:=by kernel_rfl
noncomputable def KF:HI:=⟨97,IK,Ij,fun (x:Int×(List Int)×(List (List Int))×(List Int)×(List Int)×(List DS1)×Unit)=>xW x.1 x.2.1 x.2.2.1 x.2.2.2.1 x.2.2.2.2.1 x.2.2.2.2.2.1,[1]⟩
theorem Iq:HOk Tryd.prog (gx aJ) KF:=hok mixed (aZ RI (aK _ _):aW _ (Je)) a2h (VF)
noncomputable def x80:XC:=xoF Tryd.f80 (.d 4 (.s (.d 1 (.b (.l [.gh 10 3 (.int .i64)] ⟨73,[(1,(.int .i64)),(2,(.int .i64)),(9,(.int .i64)),(11,(.int .i64))],[(0,.ptr 0 0 0),(10,.row 2)],[.box 93 [.d (.list (.list (.int .i64))),.d (.list (.int .i64)),.row 1],.row 70 tS1 false,.row 3 (.int .i64) false]⟩ .o))) .o))
theorem F80:Fn Tryd.prog 80 73 x80.er [.t 8]:=by unfold x80;exact fnX Tryd.func80 (by kernel_rfl) (by kernel_rfl) (by kernel_rfl) (by kernel_rfl)
noncomputable def BL (self:(Int×Int×Int×(List (List Int))×(List Int)×(List DS1)×Unit)->Option (Int×(List (List Int))×(List Int)×(List DS1)×Unit)) (a0:Int) (a1:Int) (a2:Int) (a3:List (List Int)) (a4:List Int) (a5:List DS1):Option (Int×(List (List Int))×(List Int)×(List DS1)×Unit) :=
 cond (iEq a0 (aj a3))
 (cond (bnd a1 (aj a4))
 (some (dS .i64 (-1) (atI a4 a1 0),a3,a4,a5,())) none)
 (cond (bnd a0 (aj a3))
 (cond (iNe (aj (atI a3 a0 [])) 0)
 (bX (S:=Int×Int×Int×Int×(List (List Int))×(List Int)×(List DS1)×(List Int)×Unit) (R:=Int×(List (List Int))×(List Int)×(List DS1)×Unit) (fun s89 =>
 cond (bnd s89.1 (aj s89.2.2.2.2.1))
 (cond (iLt s89.2.2.2.1 (aj (atI s89.2.2.2.2.1 s89.1 [])))
 ((self (aM .i64 s89.1 1,aM .i64 s89.2.1 (wX .i64 s89.2.2.2.1 s89.2.2.1),s89.2.2.1,s89.2.2.2.2.1,s89.2.2.2.2.2.1,s89.2.2.2.2.2.2.1,())).bind fun y90 =>
 cond (fits (List.length s89.2.2.2.2.2.2.2.1+List.length ([y90.1]:List Int)) 8)
 (some (.inl (s89.1,s89.2.1,s89.2.2.1,aM .i64 s89.2.2.2.1 1,y90.2.1,y90.2.2.1,y90.2.2.2.1,s89.2.2.2.2.2.2.2.1++([y90.1]:List Int),()))) none)
 (Option.map Sum.inr (cond (bnd s89.1 (aj s89.2.2.2.2.1))
 ((xW s89.1 (atI s89.2.2.2.2.1 s89.1 []) s89.2.2.2.2.1 s89.2.2.2.2.2.1 s89.2.2.2.2.2.2.2.1 s89.2.2.2.2.2.2.1).bind fun yR =>
 cond (and (Nat.beq (List.length s89.2.2.2.2.2.2.2.1) (List.length yR.2.2.2.1)) true)
 (some (yR.1,yR.2.1,yR.2.2.1,yR.2.2.2.2.1,())) none) none))) none)
 (a0,a1,qD .i64 a2 (aj (atI a3 a0 [])),0,a3,a4,a5,([]:List Int),())) none) none)
def DW:Sh:=⟨4,[(1,(.int .i64)),(2,(.int .i64)),(3,(.int .i64))],[(0,.ptr 0 0 0)],[.box 93 [.d (.list (.list (.int .i64))),.d (.list (.int .i64)),.row 1],.row 70 tS1 false]⟩
def DJ:Sh:=⟨1,[(0,(.int .i64))],[],[.box 93 [.d (.list (.list (.int .i64))),.d (.list (.int .i64)),.row 1],.row 70 tS1 false]⟩
noncomputable def SG (self:(Int×Int×Int×(List (List Int))×(List Int)×(List DS1)×Unit)->Option (Int×(List (List Int))×(List Int)×(List DS1)×Unit)):Cfg:=⟨cO,aJ,[],[⟨80,DW,DJ,self,[]⟩,KF]⟩
theorem a1l (self:(Int×Int×Int×(List (List Int))×(List Int)×(List DS1)×Unit)->Option (Int×(List (List Int))×(List Int)×(List DS1)×Unit)) (x:Int×Int×Int×(List (List Int))×(List Int)×(List DS1)×Unit):kD (SG self) x80 73 [.t 8] [] DW DJ x=BL self x.1 x.2.1 x.2.2.1 x.2.2.2.1 x.2.2.2.2.1 x.2.2.2.2.2.1:=by kernel_rfl
noncomputable def m80 (a0:Int) (a1:Int) (a2:Int) (a3:List (List Int)) (a4:List Int) (a5:List DS1):Option (Int×(List (List Int))×(List Int)×(List DS1)×Unit):=qG (fun self (x:Int×Int×Int×(List (List Int))×(List Int)×(List DS1)×Unit)=>BL self x.1 x.2.1 x.2.2.1 x.2.2.2.1 x.2.2.2.2.1 x.2.2.2.2.2.1) (a0,a1,a2,a3,a4,a5,())
noncomputable def h80:HI:=⟨80,DW,DJ,fun (x:Int×Int×Int×(List (List Int))×(List Int)×(List DS1)×Unit)=>m80 x.1 x.2.1 x.2.2.1 x.2.2.2.1 x.2.2.2.2.1 x.2.2.2.2.2.1,[]⟩
theorem a0J:HOk Tryd.prog (gx aJ) h80:=yc (f:=80) (ish:=DW) (osh:=DJ) (G:=fun self (x:Int×Int×Int×(List (List Int))×(List Int)×(List DS1)×Unit)=>BL self x.1 x.2.1 x.2.2.1 x.2.2.2.1 x.2.2.2.2.1 x.2.2.2.2.2.1) F80.callable (fun run hr=>hok mixed (gT hr (gT Iq (aK _ _)):aW _ (SG run)) F80 (a1l run))
noncomputable def JA:XC:=xoF Tryd.f80 (.d 4 (.s (.d 1 (.b (.l [.gh 10 3 (.int .i64),.ghc 0 2 70 tS1] ⟨73,[(1,(.int .i64)),(2,(.int .i64)),(9,(.int .i64)),(11,(.int .i64))],[(0,.ptr 0 0 0),(10,.row 1)],[.box 93 [.d (.list (.list (.int .i64))),.d (.list (.int .i64)),.row 2],.row 3 (.int .i64) false,.row 70 tS1 false]⟩ .o))) .o))
theorem a2j:Fn Tryd.prog 80 73 JA.er [.t 8]:=by unfold JA;exact fnX Tryd.func80 (by kernel_rfl) (by kernel_rfl) (by kernel_rfl) (by kernel_rfl)
noncomputable def Ap (a0:Int) (a1:Int) (a2:Int) (a3:List (List Int)) (a4:List Int):Option (Int×(List (List Int))×(List Int)×(List DS1)×Unit) :=
 cond (iEq a0 (aj a3))
 (cond (bnd a1 (aj a4))
 (some (dS .i64 (-1) (atI a4 a1 0),a3,a4,([]:List DS1),())) none)
 (cond (bnd a0 (aj a3))
 (cond (iNe (aj (atI a3 a0 [])) 0)
 (bX (S:=Int×Int×Int×Int×(List (List Int))×(List Int)×(List Int)×(List DS1)×Unit) (R:=Int×(List (List Int))×(List Int)×(List DS1)×Unit) (fun s86 =>
 cond (bnd s86.1 (aj s86.2.2.2.2.1))
 (cond (iLt s86.2.2.2.1 (aj (atI s86.2.2.2.2.1 s86.1 [])))
 ((m80 (aM .i64 s86.1 1) (aM .i64 s86.2.1 (wX .i64 s86.2.2.2.1 s86.2.2.1)) s86.2.2.1 s86.2.2.2.2.1 s86.2.2.2.2.2.1 s86.2.2.2.2.2.2.2.1).bind fun Er =>
 cond (fits (List.length s86.2.2.2.2.2.2.1+List.length ([Er.1]:List Int)) 8)
 (some (.inl (s86.1,s86.2.1,s86.2.2.1,aM .i64 s86.2.2.2.1 1,Er.2.1,Er.2.2.1,s86.2.2.2.2.2.2.1++([Er.1]:List Int),Er.2.2.2.1,()))) none)
 (Option.map Sum.inr (cond (bnd s86.1 (aj s86.2.2.2.2.1))
 ((xW s86.1 (atI s86.2.2.2.2.1 s86.1 []) s86.2.2.2.2.1 s86.2.2.2.2.2.1 s86.2.2.2.2.2.2.1 s86.2.2.2.2.2.2.2.1).bind fun Ep =>
 cond (and (Nat.beq (List.length s86.2.2.2.2.2.2.1) (List.length Ep.2.2.2.1)) true)
 (some (Ep.1,Ep.2.1,Ep.2.2.1,Ep.2.2.2.2.1,())) none) none))) none)
 (a0,a1,qD .i64 a2 (aj (atI a3 a0 [])),0,a3,a4,([]:List Int),([]:List DS1),())) none) none)
noncomputable def Jg:Cfg:=⟨cO,aJ,[],[h80,KF]⟩
def IQ:Sh:=⟨4,[(1,(.int .i64)),(2,(.int .i64)),(3,(.int .i64))],[(0,.ptr 0 0 0)],[.box 93 [.d (.list (.list (.int .i64))),.d (.list (.int .i64)),.nil]]⟩
def Il:Sh:=⟨1,[(0,(.int .i64))],[],[.box 93 [.d (.list (.list (.int .i64))),.d (.list (.int .i64)),.row 1],.row 70 tS1 false]⟩
theorem VI (x:Int×Int×Int×(List (List Int))×(List Int)×Unit):kD Jg JA 73 [.t 8] [.ghc 0 2 70 tS1] IQ Il x=Ap x.1 x.2.1 x.2.2.1 x.2.2.2.1 x.2.2.2.2.1:=by kernel_rfl
noncomputable def Sd:HI:=⟨80,IQ,Il,fun (x:Int×Int×Int×(List (List Int))×(List Int)×Unit)=>Ap x.1 x.2.1 x.2.2.1 x.2.2.2.1 x.2.2.2.2.1,[]⟩
theorem UH:HOk Tryd.prog (gx aJ) Sd:=hok mixed (gT a0J (gT Iq (aK _ _)):aW _ (Jg)) a2j (VI)
noncomputable def x58:XC:=xoF Tryd.f58 (.d 4 (.s (.d 1 (.b (.l [] ⟨64,[(3,(.int .i64)),(9,(.int .i64))],[(0,.ptr 0 0 0),(1,.row 1),(2,.row 2)],[.box 93 [.d (.list (.list (.int .i64))),.d (.list (.int .i64)),.row 3],.row 70 tS1 false,.row 3 (.int .i64) false,.row 70 tS1 false]⟩ .o))) .o))
theorem F58:Fn Tryd.prog 58 64 x58.er [.t 8]:=by unfold x58;exact fnX Tryd.func58 (by kernel_rfl) (by kernel_rfl) (by kernel_rfl) (by kernel_rfl)
noncomputable def BO (self:(Int×(List (List Int))×(List Int)×(List DS1)×(List Int)×(List DS1)×Unit)->Option ((List (List Int))×(List Int)×(List DS1)×(List Int)×(List DS1)×Unit)) (a0:Int) (a1:List (List Int)) (a2:List Int) (a3:List DS1) (a4:List Int) (a5:List DS1):Option ((List (List Int))×(List Int)×(List DS1)×(List Int)×(List DS1)×Unit) :=
 cond (or (bnd a0 (aj a4)) (not (bEq (iLt a0 0) false)))
 (cond (or (inB (Int.toNat a0) a4) (not (bEq (iLt a0 0) false)))
 (cond (cond (iLt a0 0) true (iLe 0 (List.getD a4 (Int.toNat a0) 0)))
 (some (a1,a2,a3,a4,a5,()))
 (cond (bnd a0 (aj a4))
 (cond (inB (Int.toNat a0) a4)
 (cond (bnd a0 (aj a5))
 (cond (inB (Int.toNat a0) a5)
 (cond (fits (List.length a3+List.length ([List.getD a5 (Int.toNat a0) (0,[],[],())]:List DS1)) 56)
 (bX (S:=Int×Int×(List (List Int))×(List Int)×(List DS1)×(List Int)×(List DS1)×Unit) (R:=(List (List Int))×(List Int)×(List DS1)×(List Int)×(List DS1)×Unit) (fun iF =>
 cond (bnd iF.1 (aj iF.2.2.2.2.2.2.1))
 (cond (inB (Int.toNat iF.1) iF.2.2.2.2.2.2.1)
 (cond (iLt iF.2.1 (aj ((List.getD iF.2.2.2.2.2.2.1 (Int.toNat iF.1) (0,[],[],())).2.2.1)))
 (cond (bnd iF.1 (aj iF.2.2.2.2.2.2.1))
 (cond (inB (Int.toNat iF.1) iF.2.2.2.2.2.2.1)
 (cond (bnd iF.2.1 (aj ((List.getD iF.2.2.2.2.2.2.1 (Int.toNat iF.1) (0,[],[],())).2.2.1)))
 ((self (atI ((List.getD iF.2.2.2.2.2.2.1 (Int.toNat iF.1) (0,[],[],())).2.2.1) iF.2.1 0,iF.2.2.1,iF.2.2.2.1,iF.2.2.2.2.1,iF.2.2.2.2.2.1,iF.2.2.2.2.2.2.1,())).bind fun y114 =>
 cond (and (Nat.beq (List.length iF.2.2.2.2.2.1) (List.length y114.2.2.2.1)) true)
 (some (.inl (iF.1,aM .i64 iF.2.1 1,y114.1,y114.2.1,y114.2.2.1,y114.2.2.2.1,y114.2.2.2.2.1,()))) none) none) none) none)
 (some (.inr (iF.2.2.1,iF.2.2.2.1,iF.2.2.2.2.1,iF.2.2.2.2.2.1,iF.2.2.2.2.2.2.1,())))) none) none)
 (a0,0,a1,a2,a3++([List.getD a5 (Int.toNat a0) (0,[],[],())]:List DS1),List.set a4 (Int.toNat a0) (aj a3),a5,())) none) none) none) none) none)) none) none
def DY:Sh:=⟨4,[(3,(.int .i64))],[(0,.ptr 0 0 0),(1,.row 1),(2,.row 2)],[.box 93 [.d (.list (.list (.int .i64))),.d (.list (.int .i64)),.row 3],.row 70 tS1 false,.row 3 (.int .i64) false,.row 70 tS1 false]⟩
def DL:Sh:=⟨1,[],[(0,.row 1)],[.box 93 [.d (.list (.list (.int .i64))),.d (.list (.int .i64)),.row 3],.row 70 tS1 false,.row 3 (.int .i64) false,.row 70 tS1 false]⟩
noncomputable def Tc (self:(Int×(List (List Int))×(List Int)×(List DS1)×(List Int)×(List DS1)×Unit)->Option ((List (List Int))×(List Int)×(List DS1)×(List Int)×(List DS1)×Unit)):Cfg:=⟨cO,aJ,[],[⟨58,DY,DL,self,[2]⟩]⟩
theorem a1y (self:(Int×(List (List Int))×(List Int)×(List DS1)×(List Int)×(List DS1)×Unit)->Option ((List (List Int))×(List Int)×(List DS1)×(List Int)×(List DS1)×Unit)) (x:Int×(List (List Int))×(List Int)×(List DS1)×(List Int)×(List DS1)×Unit):kD (Tc self) x58 64 [.t 8] [] DY DL x=BO self x.1 x.2.1 x.2.2.1 x.2.2.2.1 x.2.2.2.2.1 x.2.2.2.2.2.1:=by kernel_rfl
noncomputable def m58 (a0:Int) (a1:List (List Int)) (a2:List Int) (a3:List DS1) (a4:List Int) (a5:List DS1):Option ((List (List Int))×(List Int)×(List DS1)×(List Int)×(List DS1)×Unit):=qG (fun self (x:Int×(List (List Int))×(List Int)×(List DS1)×(List Int)×(List DS1)×Unit)=>BO self x.1 x.2.1 x.2.2.1 x.2.2.2.1 x.2.2.2.2.1 x.2.2.2.2.2.1) (a0,a1,a2,a3,a4,a5,())
noncomputable def h58:HI:=⟨58,DY,DL,fun (x:Int×(List (List Int))×(List Int)×(List DS1)×(List Int)×(List DS1)×Unit)=>m58 x.1 x.2.1 x.2.2.1 x.2.2.2.1 x.2.2.2.2.1 x.2.2.2.2.2.1,[2]⟩
theorem a0L:HOk Tryd.prog (gx aJ) h58:=yc (f:=58) (ish:=DY) (osh:=DL) (G:=fun self (x:Int×(List (List Int))×(List Int)×(List DS1)×(List Int)×(List DS1)×Unit)=>BO self x.1 x.2.1 x.2.2.1 x.2.2.2.1 x.2.2.2.2.1 x.2.2.2.2.2.1) F58.callable (fun run hr=>hok mixed (gT hr (aK _ _):aW _ (Tc run)) F58 (a1y run))
noncomputable def JD:XC:=xoF Tryd.f58 (.d 4 (.s (.d 1 (.b (.l [] ⟨64,[(3,(.int .i64)),(9,(.int .i64))],[(0,.ptr 0 0 0),(1,.row 3),(2,.row 1)],[.box 93 [.d (.list (.list (.int .i64))),.d (.list (.int .i64)),.row 2],.row 3 (.int .i64) false,.row 70 tS1 false,.row 70 tS1 false]⟩ .o))) .o))
theorem a2m:Fn Tryd.prog 58 64 JD.er [.t 8]:=by unfold JD;exact fnX Tryd.func58 (by kernel_rfl) (by kernel_rfl) (by kernel_rfl) (by kernel_rfl)
noncomputable def Aq (a0:Int) (a1:List (List Int)) (a2:List Int) (a3:List Int) (a4:List DS1):Option ((List (List Int))×(List Int)×(List Int)×(List DS1)×(List DS1)×Unit) :=
 cond (or (bnd a0 (aj a3)) (not (bEq (iLt a0 0) false)))
 (cond (or (inB (Int.toNat a0) a3) (not (bEq (iLt a0 0) false)))
 (cond (cond (iLt a0 0) true (iLe 0 (List.getD a3 (Int.toNat a0) 0)))
 (some (a1,a2,a3,a4,([]:List DS1),()))
 (cond (bnd a0 (aj a3))
 (cond (inB (Int.toNat a0) a3)
 (cond (bnd a0 (aj a4))
 (cond (inB (Int.toNat a0) a4)
 (cond (fits (List.length ([List.getD a4 (Int.toNat a0) (0,[],[],())]:List DS1)) 56)
 (bX (S:=Int×Int×(List (List Int))×(List Int)×(List Int)×(List DS1)×(List DS1)×Unit) (R:=(List (List Int))×(List Int)×(List Int)×(List DS1)×(List DS1)×Unit) (fun iE =>
 cond (bnd iE.1 (aj iE.2.2.2.2.2.1))
 (cond (inB (Int.toNat iE.1) iE.2.2.2.2.2.1)
 (cond (iLt iE.2.1 (aj ((List.getD iE.2.2.2.2.2.1 (Int.toNat iE.1) (0,[],[],())).2.2.1)))
 (cond (bnd iE.1 (aj iE.2.2.2.2.2.1))
 (cond (inB (Int.toNat iE.1) iE.2.2.2.2.2.1)
 (cond (bnd iE.2.1 (aj ((List.getD iE.2.2.2.2.2.1 (Int.toNat iE.1) (0,[],[],())).2.2.1)))
 ((m58 (atI ((List.getD iE.2.2.2.2.2.1 (Int.toNat iE.1) (0,[],[],())).2.2.1) iE.2.1 0) iE.2.2.1 iE.2.2.2.1 iE.2.2.2.2.2.2.1 iE.2.2.2.2.1 iE.2.2.2.2.2.1).bind fun Bp =>
 cond (and (Nat.beq (List.length iE.2.2.2.2.1) (List.length Bp.2.2.2.1)) true)
 (some (.inl (iE.1,aM .i64 iE.2.1 1,Bp.1,Bp.2.1,Bp.2.2.2.1,Bp.2.2.2.2.1,Bp.2.2.1,()))) none) none) none) none)
 (some (.inr (iE.2.2.1,iE.2.2.2.1,iE.2.2.2.2.1,iE.2.2.2.2.2.1,iE.2.2.2.2.2.2.1,())))) none) none)
 (a0,0,a1,a2,List.set a3 (Int.toNat a0) 0,a4,([List.getD a4 (Int.toNat a0) (0,[],[],())]:List DS1),())) none) none) none) none) none)) none) none
noncomputable def Jj:Cfg:=⟨cO,aJ,[],[h58]⟩
def IW:Sh:=⟨4,[(3,(.int .i64))],[(0,.ptr 0 0 0),(1,.nil),(2,.row 1)],[.box 93 [.d (.list (.list (.int .i64))),.d (.list (.int .i64)),.row 2],.row 3 (.int .i64) false,.row 70 tS1 false]⟩
def Ip:Sh:=⟨1,[],[(0,.row 3)],[.box 93 [.d (.list (.list (.int .i64))),.d (.list (.int .i64)),.row 2],.row 3 (.int .i64) false,.row 70 tS1 false,.row 70 tS1 false]⟩
theorem VL (x:Int×(List (List Int))×(List Int)×(List Int)×(List DS1)×Unit):kD Jj JD 64 [.t 8] [.gh 8 70 tS1] IW Ip x=Aq x.1 x.2.1 x.2.2.1 x.2.2.2.1 x.2.2.2.2.1:=by kernel_rfl
noncomputable def Si:HI:=⟨58,IW,Ip,fun (x:Int×(List (List Int))×(List Int)×(List Int)×(List DS1)×Unit)=>Aq x.1 x.2.1 x.2.2.1 x.2.2.2.1 x.2.2.2.2.1,[1]⟩
theorem UK:HOk Tryd.prog (gx aJ) Si:=hok mixed (gT a0L (aK _ _):aW _ (Jj)) a2m (VL)
noncomputable def x48:XC:=xoF Tryd.f48 (.d 5 (.s (.d 1 (.b (.l [] ⟨107,[(7,(.int .i64)),(9,(.int .i64))],[(4,.ptr 0 0 0),(6,.ptr 1 0 0),(8,.row 2)],[.box 28 [.nil,.d (.int .i64)],.box 93 [.d (.list (.list (.int .i64))),.d (.list (.int .i64)),.row 3],.row 3 (.int .i64) false,.row 70 tS1 false]⟩ .o))) (.d 1 (.s (.d 1 (.b (.l [] ⟨107,[(7,(.int .i64)),(11,(.int .i64))],[(4,.ptr 0 0 0),(8,.row 1),(10,.row 2)],[.box 28 [.nil,.d (.int .i64)],.row 3 (.int .i64) false,.row 70 tS1 false]⟩ (.d 1 (.s (.b (.d 1 (.s (.d 1 (.b (.l [.gh 12 3 (.int .i64)] ⟨107,[(7,(.int .i64)),(11,(.int .i64)),(13,(.int .i64))],[(4,.ptr 0 0 0),(8,.row 1),(10,.row 2),(12,.row 3)],[.box 28 [.nil,.d (.int .i64)],.row 3 (.int .i64) false,.row 70 tS1 false,.row 3 (.int .i64) false]⟩ .o))) .o))) .o))))) .o))))
theorem F48:Fn Tryd.prog 48 107 x48.er [.c 4 2 true,.t 5]:=by unfold x48;exact fnX Tryd.func48 (by kernel_rfl) (by kernel_rfl) (by kernel_rfl) (by kernel_rfl)
noncomputable def m48 (a0:List (List Int)) (a1:List Int):Option (DS2×Int×Unit) :=
 (Ap 0 0 (aj a1) a0 a1).bind fun yQ =>
 cond (iLt 1000 (aj yQ.2.2.2.1))
 (some ((([]:List DS1),0,()),4,()))
 (cond (lX (aj yQ.2.2.2.1) 8)
 (bX (S:=Int×Int×Int×(List (List Int))×(List Int)×(List Int)×(List DS1)×Unit) (R:=DS2×Int×Unit) (fun jI =>
 cond (iLt jI.2.1 (aj jI.2.2.2.2.2.1))
 (cond (bnd jI.2.1 (aj jI.2.2.2.2.2.1))
 (cond (inB (Int.toNat jI.2.1) jI.2.2.2.2.2.1)
 (some (.inl (jI.1,aM .i64 jI.2.1 1,jI.2.2.1,jI.2.2.2.1,jI.2.2.2.2.1,List.set jI.2.2.2.2.2.1 (Int.toNat jI.2.1) (-1),jI.2.2.2.2.2.2.1,()))) none) none)
 (Option.map Sum.inr ((Aq jI.1 jI.2.2.2.1 jI.2.2.2.2.1 jI.2.2.2.2.2.1 jI.2.2.2.2.2.2.1).bind fun Oc =>
 cond (and (Nat.beq (List.length jI.2.2.2.2.2.1) (List.length Oc.2.2.1)) true)
 (bX (S:=Int×Int×Int×(List Int)×(List DS1)×Unit) (R:=DS2×Int×Unit) (fun lI =>
 cond (iLt lI.2.1 (aj lI.2.2.2.2.1))
 (bX (S:=Int×Int×Int×Int×(List Int)×(List DS1)×(List Int)×Unit) (R:=(Int×Int×Int×(List Int)×(List DS1)×Unit)⊕(DS2×Int×Unit)) (fun bQ =>
 cond (bnd bQ.2.1 (aj bQ.2.2.2.2.2.1))
 (cond (inB (Int.toNat bQ.2.1) bQ.2.2.2.2.2.1)
 (cond (iLt bQ.2.2.1 (aj ((List.getD bQ.2.2.2.2.2.1 (Int.toNat bQ.2.1) (0,[],[],())).2.2.1)))
 (cond (bnd bQ.2.1 (aj bQ.2.2.2.2.2.1))
 (cond (inB (Int.toNat bQ.2.1) bQ.2.2.2.2.2.1)
 (cond (bnd bQ.2.2.1 (aj ((List.getD bQ.2.2.2.2.2.1 (Int.toNat bQ.2.1) (0,[],[],())).2.2.1)))
 (cond (iLe 0 (atI ((List.getD bQ.2.2.2.2.2.1 (Int.toNat bQ.2.1) (0,[],[],())).2.2.1) bQ.2.2.1 0))
 (cond (bnd (atI ((List.getD bQ.2.2.2.2.2.1 (Int.toNat bQ.2.1) (0,[],[],())).2.2.1) bQ.2.2.1 0) (aj bQ.2.2.2.2.1))
 (cond (inB (Int.toNat (atI ((List.getD bQ.2.2.2.2.2.1 (Int.toNat bQ.2.1) (0,[],[],())).2.2.1) bQ.2.2.1 0)) bQ.2.2.2.2.1)
 (cond (fits (List.length bQ.2.2.2.2.2.2.1+List.length ([List.getD bQ.2.2.2.2.1 (Int.toNat (atI ((List.getD bQ.2.2.2.2.2.1 (Int.toNat bQ.2.1) (0,[],[],())).2.2.1) bQ.2.2.1 0)) 0]:List Int)) 8)
 (some (.inl (bQ.1,bQ.2.1,aM .i64 bQ.2.2.1 1,bQ.2.2.2.1,bQ.2.2.2.2.1,bQ.2.2.2.2.2.1,bQ.2.2.2.2.2.2.1++([List.getD bQ.2.2.2.2.1 (Int.toNat (atI ((List.getD bQ.2.2.2.2.2.1 (Int.toNat bQ.2.1) (0,[],[],())).2.2.1) bQ.2.2.1 0)) 0]:List Int),()))) none) none) none)
 (cond (fits (List.length bQ.2.2.2.2.2.2.1+List.length ([atI ((List.getD bQ.2.2.2.2.2.1 (Int.toNat bQ.2.1) (0,[],[],())).2.2.1) bQ.2.2.1 0]:List Int)) 8)
 (some (.inl (bQ.1,bQ.2.1,aM .i64 bQ.2.2.1 1,bQ.2.2.2.1,bQ.2.2.2.2.1,bQ.2.2.2.2.2.1,bQ.2.2.2.2.2.2.1++([atI ((List.getD bQ.2.2.2.2.2.1 (Int.toNat bQ.2.1) (0,[],[],())).2.2.1) bQ.2.2.1 0]:List Int),()))) none)) none) none) none)
 (Option.map Sum.inr (cond (bnd bQ.2.1 (aj bQ.2.2.2.2.2.1))
 (cond (inB (Int.toNat bQ.2.1) bQ.2.2.2.2.2.1)
 (cond (bnd bQ.2.1 (aj bQ.2.2.2.2.2.1))
 (cond (inB (Int.toNat bQ.2.1) bQ.2.2.2.2.2.1)
 (cond (bnd bQ.2.1 (aj bQ.2.2.2.2.2.1))
 (cond (inB (Int.toNat bQ.2.1) bQ.2.2.2.2.2.1)
 (some (.inl (bQ.1,aM .i64 bQ.2.1 1,bQ.2.2.2.1,bQ.2.2.2.2.1,List.set bQ.2.2.2.2.2.1 (Int.toNat bQ.2.1) ((List.getD bQ.2.2.2.2.2.1 (Int.toNat bQ.2.1) (0,[],[],())).1,(List.getD bQ.2.2.2.2.2.1 (Int.toNat bQ.2.1) (0,[],[],())).2.1,bQ.2.2.2.2.2.2.1,()),()))) none) none) none) none) none) none))) none) none)
 (lI.1,lI.2.1,0,lI.2.2.1,lI.2.2.2.1,lI.2.2.2.2.1,([]:List Int),()))
 (Option.map Sum.inr (cond (iLe 0 lI.1)
 (cond (bnd lI.1 (aj lI.2.2.2.1))
 (cond (inB (Int.toNat lI.1) lI.2.2.2.1)
 (some ((lI.2.2.2.2.1,List.getD lI.2.2.2.1 (Int.toNat lI.1) 0,()),0,())) none) none)
 (some ((lI.2.2.2.2.1,lI.1,()),0,())))))
 (jI.1,0,jI.2.2.1,Oc.2.2.1,Oc.2.2.2.2.1,())) none)))
 (yQ.1,0,0,yQ.2.1,yQ.2.2.1,(List.replicate (Int.toNat (aj yQ.2.2.2.1)) 0:List Int),yQ.2.2.2.1,())) none)
noncomputable def Tf:Cfg:=⟨cO,aJ,[],[Si,Sd]⟩
theorem a1B (x:(List (List Int))×(List Int)×Unit):dR Tf x48 107 [.c 4 2 true,.t 5] [(.list (.list (.int .i64))),(.list (.int .i64))] [tS2,(.int .i64)] x=m48 x.1 x.2.1:=by kernel_rfl
noncomputable def i48:PI:=⟨48,[(.list (.list (.int .i64))),(.list (.int .i64))],[tS2,(.int .i64)],fun (x:(List (List Int))×(List Int)×Unit)=>m48 x.1 x.2.1⟩
theorem a0u:POk Tryd.prog (gx aJ) i48:=pok mixed (gT UK (gT UH (aK _ _)):aW _ (Tf)) F48 (a1B)
noncomputable def x18:XC:=xoF Tryd.f18 (.d 2 (.s (.d 1 (.b (.l [] ⟨58,[(2,(.int .i64)),(7,(.list (.list (.int .i64)))),(8,(.int .i64))],[(1,.ptr 0 0 0),(3,.ptr 1 0 0),(6,.ptr 2 0 0)],[.box 78 [.d (.list (.int .i64)),.d (.int .i64)],.box 24 [.d (.list tS0)],.box 28 [.nil,.d (.int .i64)]]⟩ .o))) (.d 1 (.s (.d 1 (.b (.l [.gh 11 3 (.int .i64)] ⟨58,[(2,(.int .i64)),(7,(.list (.list (.int .i64)))),(12,(.int .i64))],[(1,.ptr 0 0 0),(6,.ptr 1 0 0),(11,.row 2)],[.box 78 [.d (.list (.int .i64)),.d (.int .i64)],.box 28 [.nil,.d (.int .i64)],.row 3 (.int .i64) false]⟩ .o))) .o))))
theorem F18:Fn Tryd.prog 18 58 x18.er [.c 6 2 true]:=by unfold x18;exact fnX Tryd.func18 (by kernel_rfl) (by kernel_rfl) (by kernel_rfl) (by kernel_rfl)
noncomputable def m18 (a0:DS5) (a1:Int) (a2:List Int) (a3:Int):Option ((List DS1)×Int×(List Int)×Int×Unit) :=
 (m44 (a0.1,())).bind fun a3l =>
 (m45 5 a2 a3).bind fun Ob =>
 bX (S:=Int×(List (List Int))×Int×(List Int)×Int×(List DS0)×Int×Unit) (R:=(List DS1)×Int×(List Int)×Int×Unit) (fun lH =>
 cond (iLt 0 lH.2.2.1)
 ((m45 (aj lH.2.2.2.2.2.1) lH.2.2.2.1 lH.2.2.2.2.1).bind fun Bo =>
 (m24 (lH.2.2.2.2.2.1,()) Bo.2.1 Bo.2.2.1).bind fun Eo =>
 cond (bnd Bo.1 (aj Eo.2.2.1))
 (cond (inB (Int.toNat Bo.1) Eo.2.2.1)
 ((m46 (lH.2.2.2.2.2.1,()) lH.2.1 Bo.1 (List.getD Eo.2.2.1 (Int.toNat Bo.1) 0)).bind fun a3k =>
 some (.inl (lH.1,a3k.1,dS .i64 lH.2.2.1 1,Eo.1,Eo.2.1,lH.2.2.2.2.2.1,lH.2.2.2.2.2.2.1,()))) none) none)
 (Option.map Sum.inr ((m47 lH.2.1).bind fun a3j =>
 bX (S:=Int×(List (List Int))×Int×(List Int)×Int×Int×(List Int)×Unit) (R:=(List DS1)×Int×(List Int)×Int×Unit) (fun nS =>
 cond (iLt 0 nS.2.2.1)
 ((m45 nS.1 nS.2.2.2.1 nS.2.2.2.2.1).bind fun Js =>
 cond (fits (List.length nS.2.2.2.2.2.2.1+List.length ([Js.1]:List Int)) 8)
 (some (.inl (nS.1,nS.2.1,dS .i64 nS.2.2.1 1,Js.2.1,Js.2.2.1,nS.2.2.2.2.2.1,nS.2.2.2.2.2.2.1++([Js.1]:List Int),()))) none)
 (Option.map Sum.inr ((m48 nS.2.1 nS.2.2.2.2.2.2.1).bind fun WX =>
 some (WX.1.1,WX.1.2.1,nS.2.2.2.1,nS.2.2.2.2.1,()))))
 (lH.1,lH.2.1,a3j.1,lH.2.2.2.1,lH.2.2.2.2.1,lH.2.2.2.2.2.2.1,([]:List Int),()))))
 (a1,a3l.1,Ob.1,Ob.2.1,Ob.2.2.1,a0.1,0,())
noncomputable def TH:Cfg:=⟨cO,aJ,[i44,i46,i47,i48],[h24,h45]⟩
def Sb:Sh:=⟨3,[(0,tS5),(2,(.int .i64))],[(1,.ptr 0 0 0)],[.box 78 [.d (.list (.int .i64)),.d (.int .i64)]]⟩
def Rx:Sh:=⟨1,[],[(0,.agg [.d (.list tS1),.d (.int .i64)])],[.box 78 [.d (.list (.int .i64)),.d (.int .i64)]]⟩
theorem a1T (x:DS5×Int×(List Int)×Int×Unit):kD TH x18 58 [.c 6 2 true] [] Sb Rx x=m18 x.1 x.2.1 x.2.2.1 x.2.2.2.1:=by kernel_rfl
noncomputable def h18:HI:=⟨18,Sb,Rx,fun (x:DS5×Int×(List Int)×Int×Unit)=>m18 x.1 x.2.1 x.2.2.1 x.2.2.2.1,[]⟩
theorem a0O:HOk Tryd.prog (gx aJ) h18:=hok mixed (aZ a0x (aZ a0w (aZ a0v (aZ a0u (gT a0M (gT RO (aK _ _)))))):aW _ (TH)) F18 (a1T)
noncomputable def x40:XC:=xoF Tryd.f40 .o
theorem F40:Fn Tryd.prog 40 5 x40.er [.t 2]:=by unfold x40;exact fnX Tryd.func40 (by kernel_rfl) (by kernel_rfl) (by kernel_rfl) (by kernel_rfl)
noncomputable def m40 (a0:Int):Option (Int×Unit) :=
 some (dS .i64 (-1) a0,())
noncomputable def Tt:Cfg:=⟨cO,aJ,[],[]⟩
theorem a1J (x:Int×Unit):dR Tt x40 5 [.t 2] [(.int .i64)] [(.int .i64)] x=m40 x.1:=by kernel_rfl
noncomputable def i40:PI:=⟨40,[(.int .i64)],[(.int .i64)],fun (x:Int×Unit)=>m40 x.1⟩
theorem Ak:POk Tryd.prog (gx aJ) i40:=pok mixed (aK _ _:aW _ (Tt)) F40 (a1J)
noncomputable def x17:XC:=xoF Tryd.f17 .o
theorem F17:Fn Tryd.prog 17 8 x17.er [.c 2 2 true]:=by unfold x17;exact fnX Tryd.func17 (by kernel_rfl) (by kernel_rfl) (by kernel_rfl) (by kernel_rfl)
noncomputable def m17 (a0:Int):Option (DS2×Unit) :=
 (m40 (o7 0 (kP a0 255))).bind fun a3i =>
 some ((([]:List DS1),a3i.1,()),())
noncomputable def TI:Cfg:=⟨cO,aJ,[i40],[]⟩
theorem a1U (x:Int×Unit):dR TI x17 8 [.c 2 2 true] [(.int .i64)] [tS2] x=m17 x.1:=by kernel_rfl
noncomputable def i17:PI:=⟨17,[(.int .i64)],[tS2],fun (x:Int×Unit)=>m17 x.1⟩
theorem RJ:POk Tryd.prog (gx aJ) i17:=pok mixed (aZ Ak (aK _ _):aW _ (TI)) F17 (a1U)
noncomputable def x99:XC:=xoF Tryd.f99 .o
theorem F99:Fn Tryd.prog 99 9 x99.er [.t 2]:=by unfold x99;exact fnX Tryd.func99 (by kernel_rfl) (by kernel_rfl) (by kernel_rfl) (by kernel_rfl)
noncomputable def m99 (a0:Int):Option (Bool×Unit) :=
 some (cond (iLe 97 a0) (iLe a0 122) false,())
noncomputable def Sk:Cfg:=⟨cO,aJ,[],[]⟩
theorem a07 (x:Int×Unit):dR Sk x99 9 [.t 2] [(.int .u8)] [.bool] x=m99 x.1:=by kernel_rfl
noncomputable def i99:PI:=⟨99,[(.int .u8)],[.bool],fun (x:Int×Unit)=>m99 x.1⟩
theorem Ry:POk Tryd.prog (gx aJ) i99:=pok mixed (aK _ _:aW _ (Sk)) F99 (a07)
noncomputable def Om:XC:=xoF Tryd.f106 .o
theorem a3U:Fn Tryd.prog 106 9 Om.er [.t 2]:=by unfold Om;exact fnX Tryd.func106 (by kernel_rfl) (by kernel_rfl) (by kernel_rfl) (by kernel_rfl)
noncomputable def FE (a0:Int):Option (Bool×Unit) :=
 some (cond (iLe 48 a0) (iLe a0 57) false,())
noncomputable def NC:Cfg:=⟨cO,aJ,[],[]⟩
theorem Z6 (x:Int×Unit):dR NC Om 9 [.t 2] [(.int .u8)] [.bool] x=FE x.1:=by kernel_rfl
noncomputable def Yt:PI:=⟨106,[(.int .u8)],[.bool],fun (x:Int×Unit)=>FE x.1⟩
theorem XI:POk Tryd.prog (gx aJ) Yt:=pok mixed (aK _ _:aW _ (NC)) a3U (Z6)
noncomputable def x101:XC:=xoF Tryd.f101 .o
theorem a3Y:Fn Tryd.prog 101 13 x101.er [.t 2]:=by unfold x101;exact fnX Tryd.func101 (by kernel_rfl) (by kernel_rfl) (by kernel_rfl) (by kernel_rfl)
noncomputable def FJ (a0:Int):Option (Bool×Unit) :=
 (m99 a0).bind fun a3h =>
 cond a3h.1
 (some (true,()))
 ((FE a0).bind fun a3g =>
 some (cond a3g.1 true (iEq a0 45),()))
noncomputable def NK:Cfg:=⟨cO,aJ,[Yt,i99],[]⟩
theorem Za (x:Int×Unit):dR NK x101 13 [.t 2] [(.int .u8)] [.bool] x=FJ x.1:=by kernel_rfl
noncomputable def Yx:PI:=⟨101,[(.int .u8)],[.bool],fun (x:Int×Unit)=>FJ x.1⟩
theorem XM:POk Tryd.prog (gx aJ) Yx:=pok mixed (aZ XI (aZ Ry (aK _ _)):aW _ (NK)) a3Y (Za)
noncomputable def x100:XC:=xoF Tryd.f100 (.d 1 (.s (.b (.l [] ⟨21,[(0,.str),(1,(.int .i64)),(2,(.fnc 101))],[],[]⟩ .o)) .o))
theorem a3Z:Fn Tryd.prog 100 21 x100.er [.t 6]:=by unfold x100;exact fnX Tryd.func100 (by kernel_rfl) (by kernel_rfl) (by kernel_rfl) (by kernel_rfl)
noncomputable def FK (a0:ByteArray) (a1:Int) (a2:Unit):Option (Int×Unit) :=
 bX (S:=ByteArray×Int×Unit×Unit) (R:=Int×Unit) (fun oM =>
 cond (or (bnd oM.2.1 (sLen oM.1)) (not (bEq (iLt oM.2.1 (sLen oM.1)) true)))
 (cond (iLt oM.2.1 (sLen oM.1))
 ((FJ (sAt oM.1 oM.2.1)).bind fun a3f =>
 cond a3f.1
 (some (.inl (oM.1,aM .i64 oM.2.1 1,oM.2.2.1,())))
 (some (.inr (oM.2.1,()))))
 (some (.inr (oM.2.1,())))) none)
 (a0,a1,(),())
noncomputable def NM:Cfg:=⟨cO,aJ,[Yx],[]⟩
theorem Zb (x:ByteArray×Int×Unit×Unit):dR NM x100 21 [.t 6] [.str,(.int .i64),(.fnc 101)] [(.int .i64)] x=FK x.1 x.2.1 x.2.2.1:=by kernel_rfl
noncomputable def Yy:PI:=⟨100,[.str,(.int .i64),(.fnc 101)],[(.int .i64)],fun (x:ByteArray×Int×Unit×Unit)=>FK x.1 x.2.1 x.2.2.1⟩
theorem XP:POk Tryd.prog (gx aJ) Yy:=pok mixed (aZ XM (aK _ _):aW _ (NM)) a3Z (Zb)
noncomputable def x88:XC:=xoF Tryd.f88 .o
theorem F88:Fn Tryd.prog 88 30 x88.er [.t 2]:=by unfold x88;exact fnX Tryd.func88 (by kernel_rfl) (by kernel_rfl) (by kernel_rfl) (by kernel_rfl)
noncomputable def m88 (a0:ByteArray):Option (Bool×Unit) :=
 cond (or (bnd 0 (sLen a0)) (not (bEq (cond (iEq (sLen a0) 0) true (iLt 16 (sLen a0))) false)))
 (cond (cond (iEq (sLen a0) 0) true (iLt 16 (sLen a0)))
 (cond (or (bnd (dS .i64 (sLen a0) 1) (sLen a0)) (not (bEq true false)))
 (some (false,())) none)
 ((m99 (sAt a0 0)).bind fun WW =>
 cond (or (bnd (dS .i64 (sLen a0) 1) (sLen a0)) (not (bEq (not WW.1) false)))
 (cond (cond (not WW.1) true (iEq (sAt a0 (dS .i64 (sLen a0) 1)) 45))
 (some (false,()))
 ((FK a0 0 ()).bind fun a3e =>
 some (iEq a3e.1 (sLen a0),()))) none)) none
noncomputable def Sz:Cfg:=⟨cO,aJ,[Yy,i99],[]⟩
theorem a1g (x:ByteArray×Unit):dR Sz x88 30 [.t 2] [.str] [.bool] x=m88 x.1:=by kernel_rfl
noncomputable def i88:PI:=⟨88,[.str],[.bool],fun (x:ByteArray×Unit)=>m88 x.1⟩
theorem a0m:POk Tryd.prog (gx aJ) i88:=pok mixed (aZ XP (aZ Ry (aK _ _)):aW _ (Sz)) F88 (a1g)
noncomputable def x89:XC:=xoF Tryd.f89 .o
theorem F89:Fn Tryd.prog 89 28 x89.er [.t 2]:=by unfold x89;exact fnX Tryd.func89 (by kernel_rfl) (by kernel_rfl) (by kernel_rfl) (by kernel_rfl)
noncomputable def m89 (a0:ByteArray):Option (Bool×Unit) :=
 cond (sEq a0 (bs [97,110,100]))
 (some (true,()))
 (cond (sEq a0 (bs [97,118,101,114,97,103,101]))
 (some (true,()))
 (cond (sEq a0 (bs [99,111,105,110,115,117,114,97,110,99,101]))
 (some (true,()))
 (cond (sEq a0 (bs [99,111,110,100,105,116,105,111,110]))
 (some (true,()))
 (cond (sEq a0 (bs [99,111,118,101,114]))
 (some (true,()))
 (cond (sEq a0 (bs [100,101,100,117,99,116,105,98,108,101]))
 (some (true,()))
 (cond (sEq a0 (bs [100,101,102,105,110,101]))
 (some (true,()))
 (cond (sEq a0 (bs [101,110,100]))
 (some (true,()))
 (cond (sEq a0 (bs [101,110,100,111,114,115,101]))
 (some (true,()))
 (cond (sEq a0 (bs [101,120,99,108,117,100,101]))
 (some (true,()))
 (cond (sEq a0 (bs [102,97,108,115,101]))
 (some (true,()))
 (cond (sEq a0 (bs [102,114,97,110,99,104,105,115,101]))
 (some (true,()))
 (cond (sEq a0 (bs [102,114,111,109]))
 (some (true,()))
 (cond (sEq a0 (bs [105,110]))
 (some (true,()))
 (cond (sEq a0 (bs [108,105,109,105,116]))
 (some (true,()))
 (cond (sEq a0 (bs [110,111,116]))
 (some (true,()))
 (cond (sEq a0 (bs [111,114]))
 (some (true,()))
 (cond (sEq a0 (bs [114,101,109,111,118,101]))
 (some (true,()))
 (cond (sEq a0 (bs [115,117,98,108,105,109,105,116]))
 (some (true,()))
 (cond (sEq a0 (bs [116,111]))
 (some (true,()))
 (cond (sEq a0 (bs [116,114,117,101]))
 (some (true,()))
 (cond (sEq a0 (bs [117,110,108,101,115,115]))
 (some (true,()))
 (cond (sEq a0 (bs [119,104,101,110]))
 (some (true,()))
 (some (false,()))))))))))))))))))))))))
noncomputable def Sy:Cfg:=⟨cO,aJ,[],[]⟩
theorem a1f (x:ByteArray×Unit):dR Sy x89 28 [.t 2] [.str] [.bool] x=m89 x.1:=by kernel_rfl
noncomputable def i89:PI:=⟨89,[.str],[.bool],fun (x:ByteArray×Unit)=>m89 x.1⟩
theorem a0l:POk Tryd.prog (gx aJ) i89:=pok mixed (aK _ _:aW _ (Sy)) F89 (a1f)
noncomputable def x73:XC:=xoF Tryd.f73 .o
theorem F73:Fn Tryd.prog 73 10 x73.er [.t 2]:=by unfold x73;exact fnX Tryd.func73 (by kernel_rfl) (by kernel_rfl) (by kernel_rfl) (by kernel_rfl)
noncomputable def m73 (a0:ByteArray):Option (Bool×Unit) :=
 (m88 a0).bind fun y150 =>
 cond y150.1
 ((m89 a0).bind fun y151 =>
 some (not y151.1,()))
 (some (false,()))
noncomputable def SS:Cfg:=⟨cO,aJ,[i88,i89],[]⟩
theorem a1s (x:ByteArray×Unit):dR SS x73 10 [.t 2] [.str] [.bool] x=m73 x.1:=by kernel_rfl
noncomputable def i73:PI:=⟨73,[.str],[.bool],fun (x:ByteArray×Unit)=>m73 x.1⟩
theorem RF:POk Tryd.prog (gx aJ) i73:=pok mixed (aZ a0m (aZ a0l (aK _ _)):aW _ (SS)) F73 (a1s)
noncomputable def x74:XC:=xoF Tryd.f74 (.d 1 (.s (.d 1 (.b (.l [] ⟨22,[(1,.str),(9,(.list tS0)),(10,(.int .i64)),(11,(.int .i64))],[],[]⟩ .o))) .o))
theorem F74:Fn Tryd.prog 74 22 x74.er [.t 4,.t 5]:=by unfold x74;exact fnX Tryd.func74 (by kernel_rfl) (by kernel_rfl) (by kernel_rfl) (by kernel_rfl)
noncomputable def m74 (a0:DS5) (a1:ByteArray):Option (Int×Bool×Unit) :=
 bX (S:=ByteArray×(List DS0)×Int×Int×Unit) (R:=Int×Bool×Unit) (fun qy =>
 cond (iLt qy.2.2.2.1 qy.2.2.1)
 (cond (bnd qy.2.2.2.1 (aj qy.2.1))
 (cond (sEq ((atI qy.2.1 qy.2.2.2.1 (ByteArray.empty,0,[],0,0,())).1) qy.1)
 (some (.inr (qy.2.2.2.1,true,())))
 (some (.inl (qy.1,qy.2.1,qy.2.2.1,aM .i64 qy.2.2.2.1 1,())))) none)
 (some (.inr (0,false,()))))
 (a1,a0.1,aj a0.1,0,())
noncomputable def SQ:Cfg:=⟨cO,aJ,[],[]⟩
theorem a1r (x:DS5×ByteArray×Unit):dR SQ x74 22 [.t 4,.t 5] [tS5,.str] [(.int .i64),.bool] x=m74 x.1 x.2.1:=by kernel_rfl
noncomputable def i74:PI:=⟨74,[tS5,.str],[(.int .i64),.bool],fun (x:DS5×ByteArray×Unit)=>m74 x.1 x.2.1⟩
theorem a0r:POk Tryd.prog (gx aJ) i74:=pok mixed (aK _ _:aW _ (SQ)) F74 (a1r)
noncomputable def x107:XC:=xoF Tryd.f107 (.d 1 (.s (.d 1 (.b (.l [] ⟨19,[(0,(.list .str)),(1,.str),(7,(.int .i64)),(8,(.int .i64))],[],[]⟩ .o))) .o))
theorem a3T:Fn Tryd.prog 107 19 x107.er [.t 4]:=by unfold x107;exact fnX Tryd.func107 (by kernel_rfl) (by kernel_rfl) (by kernel_rfl) (by kernel_rfl)
noncomputable def Kh (a0:List ByteArray) (a1:ByteArray):Option (Int×Unit) :=
 bX (S:=(List ByteArray)×ByteArray×Int×Int×Unit) (R:=Int×Unit) (fun qx =>
 cond (iLt qx.2.2.2.1 qx.2.2.1)
 (cond (bnd qx.2.2.2.1 (aj qx.1))
 (cond (sEq qx.2.1 (atI qx.1 qx.2.2.2.1 ByteArray.empty))
 (some (.inr (qx.2.2.2.1,())))
 (some (.inl (qx.1,qx.2.1,qx.2.2.1,aM .i64 qx.2.2.2.1 1,())))) none)
 (some (.inr ((-1),()))))
 (a0,a1,aj a0,0,())
noncomputable def NA:Cfg:=⟨cO,aJ,[],[]⟩
theorem Z5 (x:(List ByteArray)×ByteArray×Unit):dR NA x107 19 [.t 4] [(.list .str),.str] [(.int .i64)] x=Kh x.1 x.2.1:=by kernel_rfl
noncomputable def i107:PI:=⟨107,[(.list .str),.str],[(.int .i64)],fun (x:(List ByteArray)×ByteArray×Unit)=>Kh x.1 x.2.1⟩
theorem XH:POk Tryd.prog (gx aJ) i107:=pok mixed (aK _ _:aW _ (NA)) a3T (Z5)
noncomputable def x102:XC:=xoF Tryd.f102 .o
theorem a3X:Fn Tryd.prog 102 9 x102.er [.t 4]:=by unfold x102;exact fnX Tryd.func102 (by kernel_rfl) (by kernel_rfl) (by kernel_rfl) (by kernel_rfl)
noncomputable def FI (a0:List ByteArray) (a1:ByteArray):Option (Bool×Unit) :=
 (Kh a0 a1).bind fun a3d =>
 some (iLe 0 a3d.1,())
noncomputable def NJ:Cfg:=⟨cO,aJ,[i107],[]⟩
theorem Z9 (x:(List ByteArray)×ByteArray×Unit):dR NJ x102 9 [.t 4] [(.list .str),.str] [.bool] x=FI x.1 x.2.1:=by kernel_rfl
noncomputable def Yw:PI:=⟨102,[(.list .str),.str],[.bool],fun (x:(List ByteArray)×ByteArray×Unit)=>FI x.1 x.2.1⟩
theorem XL:POk Tryd.prog (gx aJ) Yw:=pok mixed (aZ XH (aK _ _):aW _ (NJ)) a3X (Z9)
noncomputable def x90:XC:=xoF Tryd.f90 (.d 3 (.s (.d 1 (.b (.l [] ⟨36,[(0,(.list .str)),(13,(.list .str)),(14,(.int .i64)),(15,(.int .i64))],[],[]⟩ .o))) (.s (.d 1 (.b (.l [] ⟨36,[(0,(.list .str)),(23,(.list .str)),(24,(.int .i64)),(25,(.int .i64))],[],[]⟩ .o))) .o)))
theorem F90:Fn Tryd.prog 90 36 x90.er [.t 2]:=by unfold x90;exact fnX Tryd.func90 (by kernel_rfl) (by kernel_rfl) (by kernel_rfl) (by kernel_rfl)
noncomputable def m90 (a0:List ByteArray):Option (Int×Unit) :=
 cond (iEq (aj a0) 0)
 (some (19,()))
 (cond (iLt 12 (aj a0))
 (some (4,()))
 (bX (S:=(List ByteArray)×(List ByteArray)×Int×Int×Unit) (R:=Int×Unit) (fun oL =>
 cond (iLt oL.2.2.2.1 oL.2.2.1)
 (cond (bnd oL.2.2.2.1 (aj oL.2.1))
 ((m73 (atI oL.2.1 oL.2.2.2.1 ByteArray.empty)).bind fun a3c =>
 cond (not a3c.1)
 (some (.inr (6,())))
 (some (.inl (oL.1,oL.2.1,oL.2.2.1,aM .i64 oL.2.2.2.1 1,())))) none)
 (Option.map Sum.inr (bX (S:=(List ByteArray)×(List ByteArray)×Int×Int×Unit) (R:=Int×Unit) (fun nR =>
 cond (iLt nR.2.2.2.1 nR.2.2.1)
 (cond (bnd nR.2.2.2.1 (aj nR.2.1))
 (cond (ni 0 nR.2.2.2.1 (List.length nR.1))
 ((FI (nG 0 nR.2.2.2.1 nR.1) (atI nR.2.1 nR.2.2.2.1 ByteArray.empty)).bind fun a3b =>
 cond a3b.1
 (some (.inr (8,())))
 (some (.inl (nR.1,nR.2.1,nR.2.2.1,aM .i64 nR.2.2.2.1 1,())))) none) none)
 (some (.inr (0,()))))
 (oL.1,oL.1,aj oL.1,0,()))))
 (a0,a0,aj a0,0,())))
noncomputable def Sw:Cfg:=⟨cO,aJ,[Yw,i73],[]⟩
theorem a1e (x:(List ByteArray)×Unit):dR Sw x90 36 [.t 2] [(.list .str)] [(.int .i64)] x=m90 x.1:=by kernel_rfl
noncomputable def i90:PI:=⟨90,[(.list .str)],[(.int .i64)],fun (x:(List ByteArray)×Unit)=>m90 x.1⟩
theorem a0k:POk Tryd.prog (gx aJ) i90:=pok mixed (aZ XL (aZ RF (aK _ _)):aW _ (Sw)) F90 (a1e)
noncomputable def x75:XC:=xoF Tryd.f75 .o
theorem F75:Fn Tryd.prog 75 55 x75.er [.t 2]:=by unfold x75;exact fnX Tryd.func75 (by kernel_rfl) (by kernel_rfl) (by kernel_rfl) (by kernel_rfl)
noncomputable def m75 (a0:DS0):Option (Int×Unit) :=
 cond (iEq a0.2.1 1)
 (cond (cond (iNe a0.2.2.2.1 0) true (iNe a0.2.2.2.2.1 0))
 (some (20,()))
 ((m90 a0.2.2.1).bind fun y167 =>
 some (y167.1,())))
 (cond (iEq a0.2.1 2)
 (cond (iLt 0 (aj a0.2.2.1))
 (some (20,()))
 (cond (cond (cond (iLt a0.2.2.2.2.1 a0.2.2.2.1) true (iLt a0.2.2.2.1 (-1000000000))) true (iLt 1000000000 a0.2.2.2.2.1))
 (some (1,()))
 (some (0,()))))
 (cond (iEq a0.2.1 3)
 (cond (cond (cond (iLt 0 (aj a0.2.2.1)) true (iNe a0.2.2.2.1 0)) true (iNe a0.2.2.2.2.1 0))
 (some (20,()))
 (some (0,())))
 (some (11,()))))
noncomputable def SN:Cfg:=⟨cO,aJ,[i90],[]⟩
theorem a1q (x:DS0×Unit):dR SN x75 55 [.t 2] [tS0] [(.int .i64)] x=m75 x.1:=by kernel_rfl
noncomputable def i75:PI:=⟨75,[tS0],[(.int .i64)],fun (x:DS0×Unit)=>m75 x.1⟩
theorem a0q:POk Tryd.prog (gx aJ) i75:=pok mixed (aZ a0k (aK _ _):aW _ (SN)) F75 (a1q)
noncomputable def x38:XC:=xoF Tryd.f38 (.d 3 (.s (.d 1 (.b (.l [] ⟨44,[(17,(.list tS0)),(18,(.int .i64)),(19,(.int .i64))],[(1,.ptr 0 0 0)],[.box 24 [.d (.list tS0)]]⟩ .o))) .o))
theorem F38:Fn Tryd.prog 38 44 x38.er [.t 2]:=by unfold x38;exact fnX Tryd.func38 (by kernel_rfl) (by kernel_rfl) (by kernel_rfl) (by kernel_rfl)
noncomputable def m38 (a0:DS5):Option (Int×Unit) :=
 cond (iEq (aj a0.1) 0)
 (some (19,()))
 (cond (iLt 6 (aj a0.1))
 (some (4,()))
 (bX (S:=(List DS0)×Int×Int×(List DS0)×Unit) (R:=Int×Unit) (fun jv =>
 cond (iLt jv.2.2.1 jv.2.1)
 (cond (bnd jv.2.2.1 (aj jv.1))
 ((m73 ((atI jv.1 jv.2.2.1 (ByteArray.empty,0,[],0,0,())).1)).bind fun a3a =>
 cond (not a3a.1)
 (some (.inr (6,())))
 ((m74 (jv.2.2.2.1,()) ((atI jv.1 jv.2.2.1 (ByteArray.empty,0,[],0,0,())).1)).bind fun a2Z =>
 cond (iLt a2Z.1 jv.2.2.1)
 (some (.inr (8,())))
 ((m75 ((atI jv.1 jv.2.2.1 (ByteArray.empty,0,[],0,0,())).1,(atI jv.1 jv.2.2.1 (ByteArray.empty,0,[],0,0,())).2.1,(atI jv.1 jv.2.2.1 (ByteArray.empty,0,[],0,0,())).2.2.1,(atI jv.1 jv.2.2.1 (ByteArray.empty,0,[],0,0,())).2.2.2.1,(atI jv.1 jv.2.2.1 (ByteArray.empty,0,[],0,0,())).2.2.2.2.1,())).bind fun WV =>
 cond (iNe WV.1 0)
 (some (.inr (WV.1,())))
 (some (.inl (jv.1,jv.2.1,aM .i64 jv.2.2.1 1,jv.2.2.2.1,())))))) none)
 (some (.inr (0,()))))
 (a0.1,aj a0.1,0,a0.1,())))
noncomputable def Tw:Cfg:=⟨cO,aJ,[i73,i74,i75],[]⟩
theorem a1L (x:DS5×Unit):dR Tw x38 44 [.t 2] [tS5] [(.int .i64)] x=m38 x.1:=by kernel_rfl
noncomputable def i38:PI:=⟨38,[tS5],[(.int .i64)],fun (x:DS5×Unit)=>m38 x.1⟩
theorem DR:POk Tryd.prog (gx aJ) i38:=pok mixed (aZ RF (aZ a0r (aZ a0q (aK _ _))):aW _ (Tw)) F38 (a1L)
noncomputable def x59:XC:=xoF Tryd.f59 .o
theorem F59:Fn Tryd.prog 59 15 x59.er [.t 4]:=by unfold x59;exact fnX Tryd.func59 (by kernel_rfl) (by kernel_rfl) (by kernel_rfl) (by kernel_rfl)
noncomputable def m59 (a0:DS2) (a1:Int):Option (Bool×Unit) :=
 (m40 255).bind fun a2Y =>
 some (cond (iLe a2Y.1 a1) (iLt a1 (aj a0.1)) false,())
noncomputable def Ta:Cfg:=⟨cO,aJ,[i40],[]⟩
theorem a1x (x:DS2×Int×Unit):dR Ta x59 15 [.t 4] [tS2,(.int .i64)] [.bool] x=m59 x.1 x.2.1:=by kernel_rfl
noncomputable def i59:PI:=⟨59,[tS2,(.int .i64)],[.bool],fun (x:DS2×Int×Unit)=>m59 x.1 x.2.1⟩
theorem RG:POk Tryd.prog (gx aJ) i59:=pok mixed (aZ Ak (aK _ _):aW _ (Ta)) F59 (a1x)
noncomputable def x76:XC:=xoF Tryd.f76 .o
theorem F76:Fn Tryd.prog 76 18 x76.er [.t 2,.t 3]:=by unfold x76;exact fnX Tryd.func76 (by kernel_rfl) (by kernel_rfl) (by kernel_rfl) (by kernel_rfl)
noncomputable def m76 (a0:DS0):Option (Int×Int×Unit) :=
 cond (iEq a0.2.1 1)
 (some (0,dS .i64 (aj a0.2.2.1) 1,()))
 (cond (iEq a0.2.1 2)
 (some (a0.2.2.2.1,a0.2.2.2.2.1,()))
 (some (0,1,())))
noncomputable def SL:Cfg:=⟨cO,aJ,[],[]⟩
theorem a1p (x:DS0×Unit):dR SL x76 18 [.t 2,.t 3] [tS0] [(.int .i64),(.int .i64)] x=m76 x.1:=by kernel_rfl
noncomputable def i76:PI:=⟨76,[tS0],[(.int .i64),(.int .i64)],fun (x:DS0×Unit)=>m76 x.1⟩
theorem a0p:POk Tryd.prog (gx aJ) i76:=pok mixed (aK _ _:aW _ (SL)) F76 (a1p)
noncomputable def x39:XC:=xoF Tryd.f39 .o
theorem F39:Fn Tryd.prog 39 28 x39.er [.t 4,.t 5]:=by unfold x39;exact fnX Tryd.func39 (by kernel_rfl) (by kernel_rfl) (by kernel_rfl) (by kernel_rfl)
noncomputable def m39 (a0:DS5) (a1:Int):Option (Int×Int×Unit) :=
 (m38 (a0.1,())).bind fun a2X =>
 cond (cond (cond (iNe a2X.1 0) true (iLt a1 0)) true (iLe (aj a0.1) a1))
 (some (0,(-1),()))
 (cond (bnd a1 (aj a0.1))
 ((m76 (atI a0.1 a1 (ByteArray.empty,0,[],0,0,()))).bind fun WT =>
 some (WT.1,WT.2.1,())) none)
noncomputable def Tv:Cfg:=⟨cO,aJ,[i38,i76],[]⟩
theorem a1K (x:DS5×Int×Unit):dR Tv x39 28 [.t 4,.t 5] [tS5,(.int .i64)] [(.int .i64),(.int .i64)] x=m39 x.1 x.2.1:=by kernel_rfl
noncomputable def i39:PI:=⟨39,[tS5,(.int .i64)],[(.int .i64),(.int .i64)],fun (x:DS5×Int×Unit)=>m39 x.1 x.2.1⟩
theorem RH:POk Tryd.prog (gx aJ) i39:=pok mixed (aZ DR (aZ a0p (aK _ _)):aW _ (Tv)) F39 (a1K)
noncomputable def x50:XC:=xoF Tryd.f50 (.d 2 (.s (.d 1 (.b (.l [] ⟨30,[(10,(.int .i64)),(11,(.int .i64))],[(1,.ptr 0 0 0),(3,.row 1)],[.box 24 [.d (.list tS0)],.row 86 tS3 false]⟩ .o))) .o))
theorem F50:Fn Tryd.prog 50 30 x50.er [.t 2]:=by unfold x50;exact fnX Tryd.func50 (by kernel_rfl) (by kernel_rfl) (by kernel_rfl) (by kernel_rfl)
noncomputable def m50 (a0:DS5):Option ((List DS3)×Unit) :=
 cond (lX (aj a0.1) 16)
 (bX (S:=Int×Int×(List DS0)×(List DS3)×Unit) (R:=(List DS3)×Unit) (fun gW =>
 cond (iLt gW.2.1 gW.1)
 ((m39 (gW.2.2.1,()) gW.2.1).bind fun En =>
 cond (bnd gW.2.1 (aj gW.2.2.2.1))
 (cond (inB (Int.toNat gW.2.1) gW.2.2.2.1)
 (cond (bnd gW.2.1 (aj (List.set gW.2.2.2.1 (Int.toNat gW.2.1) (En.1,(List.getD gW.2.2.2.1 (Int.toNat gW.2.1) (0,0,())).2.1,()))))
 (cond (inB (Int.toNat gW.2.1) (List.set gW.2.2.2.1 (Int.toNat gW.2.1) (En.1,(List.getD gW.2.2.2.1 (Int.toNat gW.2.1) (0,0,())).2.1,())))
 (some (.inl (gW.1,aM .i64 gW.2.1 1,gW.2.2.1,List.set (List.set gW.2.2.2.1 (Int.toNat gW.2.1) (En.1,(List.getD gW.2.2.2.1 (Int.toNat gW.2.1) (0,0,())).2.1,())) (Int.toNat gW.2.1) ((List.getD (List.set gW.2.2.2.1 (Int.toNat gW.2.1) (En.1,(List.getD gW.2.2.2.1 (Int.toNat gW.2.1) (0,0,())).2.1,())) (Int.toNat gW.2.1) (0,0,())).1,En.2.1,()),()))) none) none) none) none)
 (some (.inr (gW.2.2.2.1,()))))
 (aj (List.replicate (Int.toNat (aj a0.1)) (0,0,()):List DS3),0,a0.1,(List.replicate (Int.toNat (aj a0.1)) (0,0,()):List DS3),())) none
noncomputable def Te:Cfg:=⟨cO,aJ,[i39],[]⟩
theorem a1A (x:DS5×Unit):dR Te x50 30 [.t 2] [tS5] [(.list tS3)] x=m50 x.1:=by kernel_rfl
noncomputable def i50:PI:=⟨50,[tS5],[(.list tS3)],fun (x:DS5×Unit)=>m50 x.1⟩
theorem K9:POk Tryd.prog (gx aJ) i50:=pok mixed (aZ RH (aK _ _):aW _ (Te)) F50 (a1A)
noncomputable def x60:XC:=xoF Tryd.f60 (.d 3 (.s (.d 1 (.b (.l [] ⟨106,[(2,(.list tS3)),(7,(.int .i64)),(45,(.list (.int .i64))),(46,(.int .i64)),(47,(.int .i64))],[(3,.ptr 0 0 0),(4,.ptr 1 0 0)],[.box 28 [.d (.list tS1),.d (.int .i64)],.box 70 [.d (.int .i64),.d (.list (.int .i64)),.d (.list (.int .i64))]]⟩ .o))) (.s (.d 1 (.b (.l [] ⟨106,[(67,(.list (.int .i64))),(68,(.int .i64)),(69,(.int .i64))],[(3,.ptr 0 0 0),(4,.ptr 1 0 0)],[.box 28 [.d (.list tS1),.d (.int .i64)],.box 70 [.d (.int .i64),.d (.list (.int .i64)),.d (.list (.int .i64))]]⟩ .o))) .o)))
theorem F60:Fn Tryd.prog 60 106 x60.er [.t 6]:=by unfold x60;exact fnX Tryd.func60 (by kernel_rfl) (by kernel_rfl) (by kernel_rfl) (by kernel_rfl)
noncomputable def m60 (a0:DS2) (a1:DS1) (a2:List DS3):Option (Bool×Unit) :=
 cond (cond (cond (cond (iLt a1.1 0) true (iLe (aj a2) a1.1)) true (iEq (aj a1.2.1) 0)) true (iNe (aj a1.2.2.1) (aM .i64 (aj a1.2.1) 1)))
 (some (false,()))
 (cond (bnd a1.1 (aj a2))
 (bX (S:=(List DS3)×Int×(List Int)×Int×Int×(List DS1)×Int×Int×(List Int)×(List Int)×Unit) (R:=Bool×Unit) (fun gI =>
 cond (iLt gI.2.2.2.2.1 gI.2.2.2.1)
 (cond (bnd gI.2.2.2.2.1 (aj gI.2.2.1))
 (cond (or (bnd gI.2.2.2.2.2.2.2.1 (aj gI.1)) (not (bEq (iLe (atI gI.2.2.1 gI.2.2.2.2.1 0) gI.2.1) false)))
 (cond (cond (iLe (atI gI.2.2.1 gI.2.2.2.2.1 0) gI.2.1) true (iLt ((atI gI.1 gI.2.2.2.2.2.2.2.1 (0,0,())).2.1) (atI gI.2.2.1 gI.2.2.2.2.1 0)))
 (some (.inr (false,())))
 (some (.inl (gI.1,atI gI.2.2.1 gI.2.2.2.2.1 0,gI.2.2.1,gI.2.2.2.1,aM .i64 gI.2.2.2.2.1 1,gI.2.2.2.2.2.1,gI.2.2.2.2.2.2.1,gI.2.2.2.2.2.2.2.1,gI.2.2.2.2.2.2.2.2.1,gI.2.2.2.2.2.2.2.2.2.1,())))) none) none)
 (Option.map Sum.inr (bX (S:=(List Int)×Int×Int×(List DS1)×Int×Int×(List Int)×(List Int)×Unit) (R:=Bool×Unit) (fun gF =>
 cond (iLt gF.2.2.1 gF.2.1)
 (cond (bnd gF.2.2.1 (aj gF.1))
 ((m59 (gF.2.2.2.1,gF.2.2.2.2.1,()) (atI gF.1 gF.2.2.1 0)).bind fun a2W =>
 cond (not a2W.1)
 (some (.inr (false,())))
 (cond (or (bnd (dS .i64 gF.2.2.1 1) (aj gF.2.2.2.2.2.2.2.1)) (not (bEq (iLt 0 gF.2.2.1) true)))
 (cond (cond (iLt 0 gF.2.2.1) (iEq (atI gF.1 gF.2.2.1 0) (atI gF.2.2.2.2.2.2.2.1 (dS .i64 gF.2.2.1 1) 0)) false)
 (some (.inr (false,())))
 (cond (or (bnd (atI gF.1 gF.2.2.1 0) (aj gF.2.2.2.1)) (not (bEq (iLe 0 (atI gF.1 gF.2.2.1 0)) true)))
 (cond (cond (iLe 0 (atI gF.1 gF.2.2.1 0)) (iLe ((atI gF.2.2.2.1 (atI gF.1 gF.2.2.1 0) (0,[],[],())).1) gF.2.2.2.2.2.1) false)
 (some (.inr (false,())))
 (some (.inl (gF.1,gF.2.1,aM .i64 gF.2.2.1 1,gF.2.2.2.1,gF.2.2.2.2.1,gF.2.2.2.2.2.1,gF.2.2.2.2.2.2.1,gF.2.2.2.2.2.2.2.1,())))) none)) none)) none)
 (some (.inr (true,()))))
 (gI.2.2.2.2.2.2.2.2.2.1,aj gI.2.2.2.2.2.2.2.2.2.1,0,gI.2.2.2.2.2.1,gI.2.2.2.2.2.2.1,gI.2.2.2.2.2.2.2.1,gI.2.2.2.2.2.2.2.2.1,gI.2.2.2.2.2.2.2.2.2.1,()))))
 (a2,(atI a2 a1.1 (0,0,())).1,a1.2.1,aj a1.2.1,0,a0.1,a0.2.1,a1.1,a1.2.1,a1.2.2.1,())) none)
noncomputable def T9:Cfg:=⟨cO,aJ,[i59],[]⟩
theorem a1w (x:DS2×DS1×(List DS3)×Unit):dR T9 x60 106 [.t 6] [tS2,tS1,(.list tS3)] [.bool] x=m60 x.1 x.2.1 x.2.2.1:=by kernel_rfl
noncomputable def i60:PI:=⟨60,[tS2,tS1,(.list tS3)],[.bool],fun (x:DS2×DS1×(List DS3)×Unit)=>m60 x.1 x.2.1 x.2.2.1⟩
theorem a0t:POk Tryd.prog (gx aJ) i60:=pok mixed (aZ RG (aK _ _):aW _ (T9)) F60 (a1w)
noncomputable def x62:XC:=xoF Tryd.f62 (.d 4 (.s (.d 1 (.b (.l [] ⟨44,[(2,(.int .i64)),(26,(.list (.int .i64))),(27,(.int .i64)),(28,(.int .i64))],[(3,.ptr 0 0 0)],[.box 28 [.d (.list tS1),.d (.int .i64)]]⟩ .o))) .o))
theorem F62:Fn Tryd.prog 62 44 x62.er [.t 6,.t 7]:=by unfold x62;exact fnX Tryd.func62 (by kernel_rfl) (by kernel_rfl) (by kernel_rfl) (by kernel_rfl)
noncomputable def BN (self:(DS2×Int×Int×Unit)->Option (Int×Bool×Unit)) (a0:DS2) (a1:Int) (a2:Int):Option (Int×Bool×Unit) :=
 cond (iLt a1 a2)
 (some (a2,true,()))
 (cond (iLt a2 a1)
 (some (a2,false,()))
 (cond (bnd a1 (aj a0.1))
 (bX (S:=Int×(List Int)×Int×Int×(List DS1)×Int×Unit) (R:=Int×Bool×Unit) (fun ny =>
 cond (iLt ny.2.2.2.1 ny.2.2.1)
 (cond (bnd ny.2.2.2.1 (aj ny.2.1))
 ((self ((ny.2.2.2.2.1,ny.2.2.2.2.2.1,()),atI ny.2.1 ny.2.2.2.1 0,ny.1,())).bind fun Oa =>
 cond (not Oa.2.1)
 (some (.inr (Oa.1,false,())))
 (some (.inl (Oa.1,ny.2.1,ny.2.2.1,aM .i64 ny.2.2.2.1 1,ny.2.2.2.2.1,ny.2.2.2.2.2.1,())))) none)
 (some (.inr (ny.1,true,()))))
 (aM .i64 a2 1,(atI a0.1 a1 (0,[],[],())).2.2.1,aj ((atI a0.1 a1 (0,[],[],())).2.2.1),0,a0.1,a0.2.1,())) none))
noncomputable def SY (self:(DS2×Int×Int×Unit)->Option (Int×Bool×Unit)):Cfg:=⟨cO,aJ,[⟨62,[tS2,(.int .i64),(.int .i64)],[(.int .i64),.bool],self⟩],[]⟩
theorem a1v (self:(DS2×Int×Int×Unit)->Option (Int×Bool×Unit)) (x:DS2×Int×Int×Unit):dR (SY self) x62 44 [.t 6,.t 7] [tS2,(.int .i64),(.int .i64)] [(.int .i64),.bool] x=BN self x.1 x.2.1 x.2.2.1:=by kernel_rfl
noncomputable def m62 (a0:DS2) (a1:Int) (a2:Int):Option (Int×Bool×Unit):=qG (fun self (x:DS2×Int×Int×Unit)=>BN self x.1 x.2.1 x.2.2.1) (a0,a1,a2,())
noncomputable def i62:PI:=⟨62,[tS2,(.int .i64),(.int .i64)],[(.int .i64),.bool],fun (x:DS2×Int×Int×Unit)=>m62 x.1 x.2.1 x.2.2.1⟩
theorem a0s:POk Tryd.prog (gx aJ) i62:=UF (f:=62) (ps:=[tS2,(.int .i64),(.int .i64)]) (rs:=[(.int .i64),.bool]) (G:=fun self (x:DS2×Int×Int×Unit)=>BN self x.1 x.2.1 x.2.2.1) F62.callable (fun run hr=>pok mixed (aZ hr (aK _ _):aW _ (SY run)) F62 (a1v run))
noncomputable def x31:XC:=xoF Tryd.f31 (.d 4 (.s (.d 1 (.b (.l [] ⟨74,[(5,(.list tS3)),(35,(.list tS1)),(36,(.int .i64)),(37,(.int .i64))],[(3,.ptr 0 0 0),(6,.mp 1)],[.box 28 [.d (.list tS1),.d (.int .i64)],.map 95 .str .bool]⟩ .o))) .o))
theorem F31:Fn Tryd.prog 31 74 x31.er [.t 4]:=by unfold x31;exact fnX Tryd.func31 (by kernel_rfl) (by kernel_rfl) (by kernel_rfl) (by kernel_rfl)
noncomputable def m31 (a0:DS5) (a1:DS2):Option (Bool×Unit) :=
 (m38 (a0.1,())).bind fun a2V =>
 cond (cond (iNe a2V.1 0) true (iLt 1000 (aj a1.1)))
 (some (false,()))
 ((m59 (a1.1,a1.2.1,()) a1.2.1).bind fun a2U =>
 cond (not a2U.1)
 (some (false,()))
 ((m50 (a0.1,())).bind fun a2T =>
 bX (S:=(List DS3)×(List DS1)×Int×Int×(List DS1)×Int×(List DS4)×Unit) (R:=Bool×Unit) (fun iw =>
 cond (iLt iw.2.2.2.1 iw.2.2.1)
 (cond (bnd iw.2.2.2.1 (aj iw.2.1))
 ((m60 (iw.2.2.2.2.1,iw.2.2.2.2.2.1,()) ((atI iw.2.1 iw.2.2.2.1 (0,[],[],())).1,(atI iw.2.1 iw.2.2.2.1 (0,[],[],())).2.1,(atI iw.2.1 iw.2.2.2.1 (0,[],[],())).2.2.1,()) iw.1).bind fun a2S =>
 cond (not a2S.1)
 (some (.inr (false,())))
 ((zo ((atI iw.2.1 iw.2.2.2.1 (0,[],[],())).1) ((atI iw.2.1 iw.2.2.2.1 (0,[],[],())).2.1) ((atI iw.2.1 iw.2.2.2.1 (0,[],[],())).2.2.1)).bind fun WS =>
 cond (jw sEq WS.1 iw.2.2.2.2.2.2.1 false)
 (some (.inr (false,())))
 (some (.inl (iw.1,iw.2.1,iw.2.2.1,aM .i64 iw.2.2.2.1 1,iw.2.2.2.2.1,iw.2.2.2.2.2.1,jJ sEq WS.1 true iw.2.2.2.2.2.2.1,()))))) none)
 (Option.map Sum.inr ((m62 (iw.2.2.2.2.1,iw.2.2.2.2.2.1,()) iw.2.2.2.2.2.1 0).bind fun WR =>
 some (cond WR.2.1 (iEq WR.1 (aj iw.2.2.2.2.1)) false,()))))
 (a2T.1,a1.1,aj a1.1,0,a1.1,a1.2.1,([]:List DS4),())))
noncomputable def Tz:Cfg:=⟨cO,aJ,[i38,i50,i59,i60,i62,Ku],[]⟩
theorem a1N (x:DS5×DS2×Unit):dR Tz x31 74 [.t 4] [tS5,tS2] [.bool] x=m31 x.1 x.2.1:=by kernel_rfl
noncomputable def i31:PI:=⟨31,[tS5,tS2],[.bool],fun (x:DS5×DS2×Unit)=>m31 x.1 x.2.1⟩
theorem DT:POk Tryd.prog (gx aJ) i31:=pok mixed (aZ DR (aZ K9 (aZ RG (aZ a0t (aZ a0s (aZ Mk (aK _ _)))))):aW _ (Tz)) F31 (a1N)
noncomputable def x72:XC:=xoF Tryd.f72 .o
theorem F72:Fn Tryd.prog 72 5 x72.er [.t 2]:=by unfold x72;exact fnX Tryd.func72 (by kernel_rfl) (by kernel_rfl) (by kernel_rfl) (by kernel_rfl)
noncomputable def m72 (a0:Int):Option (Int×Unit) :=
 some (dS .i64 (-1) a0,())
noncomputable def SV:Cfg:=⟨cO,aJ,[],[]⟩
theorem a1t (x:Int×Unit):dR SV x72 5 [.t 2] [(.int .i64)] [(.int .i64)] x=m72 x.1:=by kernel_rfl
noncomputable def i72:PI:=⟨72,[(.int .i64)],[(.int .i64)],fun (x:Int×Unit)=>m72 x.1⟩
theorem K8:POk Tryd.prog (gx aJ) i72:=pok mixed (aK _ _:aW _ (SV)) F72 (a1t)
noncomputable def x84:XC:=xoF Tryd.f84 .o
theorem F84:Fn Tryd.prog 84 27 x84.er [.t 6]:=by unfold x84;exact fnX Tryd.func84 (by kernel_rfl) (by kernel_rfl) (by kernel_rfl) (by kernel_rfl)
noncomputable def m84 (a0:Int) (a1:Int) (a2:Int):Option (Int×Unit) :=
 cond (iEq a2 1)
 (some (kP a0 a1,()))
 (cond (iEq a2 2)
 (some (o7 a0 a1,()))
 (cond (iEq a2 3)
 (cond (iNe a0 a1)
 (some (1,()))
 (some (0,())))
 (cond (iEq a0 0)
 (some (a1,()))
 (some (a0,())))))
noncomputable def SB:Cfg:=⟨cO,aJ,[],[]⟩
theorem a1i (x:Int×Int×Int×Unit):dR SB x84 27 [.t 6] [(.int .i64),(.int .i64),(.int .i64)] [(.int .i64)] x=m84 x.1 x.2.1 x.2.2.1:=by kernel_rfl
noncomputable def i84:PI:=⟨84,[(.int .i64),(.int .i64),(.int .i64)],[(.int .i64)],fun (x:Int×Int×Int×Unit)=>m84 x.1 x.2.1 x.2.2.1⟩
theorem RA:POk Tryd.prog (gx aJ) i84:=pok mixed (aK _ _:aW _ (SB)) F84 (a1i)
noncomputable def x85:XC:=xoF Tryd.f85 .o
theorem F85:Fn Tryd.prog 85 14 x85.er [.c 4 3 true]:=by unfold x85;exact fnX Tryd.func85 (by kernel_rfl) (by kernel_rfl) (by kernel_rfl) (by kernel_rfl)
noncomputable def m85 (a0:List DS1) (a1:Int):Option (DS1×Unit) :=
 cond (iLt a1 0)
 (some ((6,([]:List Int),([a1]:List Int),()),()))
 (cond (bnd a1 (aj a0))
 (some (((atI a0 a1 (0,[],[],())).1,(atI a0 a1 (0,[],[],())).2.1,(atI a0 a1 (0,[],[],())).2.2.1,()),())) none)
noncomputable def SA:Cfg:=⟨cO,aJ,[],[]⟩
theorem a1h (x:(List DS1)×Int×Unit):dR SA x85 14 [.c 4 3 true] [(.list tS1),(.int .i64)] [tS1] x=m85 x.1 x.2.1:=by kernel_rfl
noncomputable def i85:PI:=⟨85,[(.list tS1),(.int .i64)],[tS1],fun (x:(List DS1)×Int×Unit)=>m85 x.1 x.2.1⟩
theorem Rz:POk Tryd.prog (gx aJ) i85:=pok mixed (aK _ _:aW _ (SA)) F85 (a1h)
noncomputable def JB:XC:=xoF Tryd.f67 .o
theorem a2k:Fn Tryd.prog 67 9 JB.er [.t 2]:=by unfold JB;exact fnX Tryd.func67 (by kernel_rfl) (by kernel_rfl) (by kernel_rfl) (by kernel_rfl)
noncomputable def sP (a0:List DS1) (a1:List DS1) (a2:Int) (a3:List DS6) (a4:List DS1) (a5:List DS7):Option (Bool×(List DS1)×(List DS1)×Int×(List DS6)×(List DS1)×(List DS7)×Unit) :=
 some (iLt 1000 (aj a4),a0,a1,a2,a3,a4,a5,())
noncomputable def Jh:Cfg:=⟨cO,aJ,[],[]⟩
def IU:Sh:=⟨1,[],[(0,.ptr 0 0 4)],[.box 107 [.d (.list tS1),.d (.list tS1),.d (.int .i64),.mp 1,.row 2,.mp 3],.map 102 tS3 (.int .i64),.row 70 tS1 false,.map 103 .str (.int .i64)]⟩
def Im:Sh:=⟨1,[(0,.bool)],[],[.box 107 [.d (.list tS1),.d (.list tS1),.d (.int .i64),.mp 1,.row 2,.mp 3],.map 102 tS3 (.int .i64),.row 70 tS1 false,.map 103 .str (.int .i64)]⟩
theorem VJ (x:(List DS1)×(List DS1)×Int×(List DS6)×(List DS1)×(List DS7)×Unit):kD Jh JB 9 [.t 2] [] IU Im x=sP x.1 x.2.1 x.2.2.1 x.2.2.2.1 x.2.2.2.2.1 x.2.2.2.2.2.1:=by kernel_rfl
noncomputable def Ea:HI:=⟨67,IU,Im,fun (x:(List DS1)×(List DS1)×Int×(List DS6)×(List DS1)×(List DS7)×Unit)=>sP x.1 x.2.1 x.2.2.1 x.2.2.2.1 x.2.2.2.2.1 x.2.2.2.2.2.1,[]⟩
theorem BH:HOk Tryd.prog (gx aJ) Ea:=hok mixed (aK _ _:aW _ (Jh)) a2k (VJ)
noncomputable def Jz:XC:=xoF Tryd.f86 (.d 3 (.s (.d 1 (.b (.l [.fz 28 (.list (.int .i64))] ⟨101,[(1,(.int .i64)),(28,(.list (.int .i64))),(29,(.int .i64)),(30,(.int .i64))],[(0,.ptr 0 0 4),(2,.row 1),(9,.row 6),(10,.row 7)],[.box 107 [.d (.list tS1),.d (.list tS1),.d (.int .i64),.mp 3,.row 4,.mp 5],.row 3 (.int .i64) false,.row 3 (.int .i64) true,.map 102 tS3 (.int .i64),.row 70 tS1 false,.map 103 .str (.int .i64),.row 3 (.int .i64) false,.row 3 (.int .i64) false]⟩ .o))) .o))
theorem a2i:Fn Tryd.prog 86 101 Jz.er [.t 8]:=by unfold Jz;exact fnX Tryd.func86 (by kernel_rfl) (by kernel_rfl) (by kernel_rfl) (by kernel_rfl)
noncomputable def xX (a0:Int) (a1:List DS1) (a2:List DS1) (a3:Int) (a4:List Int) (a5:List Int) (a6:List DS6) (a7:List DS1) (a8:List DS7):Option (Int×(List DS1)×(List DS1)×Int×(List Int)×(List Int)×(List DS6)×(List DS1)×(List DS7)×Unit) :=
 cond (and (and (iLe 0 0) (iLe 0 (aj a4))) (lX (aj a4) 8))
 (cond (and (and (iLe 0 1) (iLe 1 (aj a5))) (lX (aj a5) 8))
 (cond (bnd 0 (aj a5))
 (cond (inB (Int.toNat 0) a5)
 (cond (bnd 0 (aj (List.replicate (Int.toNat 1) 0:List Int)))
 (cond (inB (Int.toNat 0) (List.replicate (Int.toNat 1) 0:List Int))
 (cond (ni 1 ((List.length a5:Nat):Int) (List.length a5))
 (bX (S:=Int×(List Int)×Int×Int×(List DS1)×(List DS1)×Int×(List Int)×(List Int)×(List DS6)×(List DS1)×(List DS7)×(List Int)×(List Int)×Unit) (R:=Int×(List DS1)×(List DS1)×Int×(List Int)×(List Int)×(List DS6)×(List DS1)×(List DS7)×Unit) (fun bD =>
 cond (iLt bD.2.2.2.1 bD.2.2.1)
 (cond (bnd bD.2.2.2.1 (aj bD.2.1))
 (cond (bnd (dS .i64 (aj bD.2.2.2.2.2.2.2.2.2.2.2.2.2.1) 1) (aj bD.2.2.2.2.2.2.2.2.2.2.2.2.2.1))
 (cond (inB (Int.toNat (dS .i64 (aj bD.2.2.2.2.2.2.2.2.2.2.2.2.2.1) 1)) bD.2.2.2.2.2.2.2.2.2.2.2.2.2.1)
 (cond (iNe (atI bD.2.1 bD.2.2.2.1 0) (List.getD bD.2.2.2.2.2.2.2.2.2.2.2.2.2.1 (Int.toNat (dS .i64 (aj bD.2.2.2.2.2.2.2.2.2.2.2.2.2.1) 1)) 0))
 (cond (bnd bD.2.2.2.1 (aj bD.2.2.2.2.2.2.2.1))
 (cond (inB (Int.toNat bD.2.2.2.1) bD.2.2.2.2.2.2.2.1)
 (cond (fits (List.length bD.2.2.2.2.2.2.2.2.2.2.2.2.1+List.length ([List.getD bD.2.2.2.2.2.2.2.1 (Int.toNat bD.2.2.2.1) 0]:List Int)) 8)
 (cond (fits (List.length bD.2.2.2.2.2.2.2.2.2.2.2.2.2.1+List.length ([atI bD.2.1 bD.2.2.2.1 0]:List Int)) 8)
 (some (.inl (bD.1,bD.2.1,bD.2.2.1,aM .i64 bD.2.2.2.1 1,bD.2.2.2.2.1,bD.2.2.2.2.2.1,bD.2.2.2.2.2.2.1,bD.2.2.2.2.2.2.2.1,bD.2.2.2.2.2.2.2.2.1,bD.2.2.2.2.2.2.2.2.2.1,bD.2.2.2.2.2.2.2.2.2.2.1,bD.2.2.2.2.2.2.2.2.2.2.2.1,bD.2.2.2.2.2.2.2.2.2.2.2.2.1++([List.getD bD.2.2.2.2.2.2.2.1 (Int.toNat bD.2.2.2.1) 0]:List Int),bD.2.2.2.2.2.2.2.2.2.2.2.2.2.1++([atI bD.2.1 bD.2.2.2.1 0]:List Int),()))) none) none) none) none)
 (some (.inl (bD.1,bD.2.1,bD.2.2.1,aM .i64 bD.2.2.2.1 1,bD.2.2.2.2.1,bD.2.2.2.2.2.1,bD.2.2.2.2.2.2.1,bD.2.2.2.2.2.2.2.1,bD.2.2.2.2.2.2.2.2.1,bD.2.2.2.2.2.2.2.2.2.1,bD.2.2.2.2.2.2.2.2.2.2.1,bD.2.2.2.2.2.2.2.2.2.2.2.1,bD.2.2.2.2.2.2.2.2.2.2.2.2.1,bD.2.2.2.2.2.2.2.2.2.2.2.2.2.1,())))) none) none) none)
 (Option.map Sum.inr (cond (iEq (aj bD.2.2.2.2.2.2.2.2.2.2.2.2.1) 0)
 (cond (bnd 0 (aj bD.2.2.2.2.2.2.2.2.2.2.2.2.2.1))
 (cond (inB (Int.toNat 0) bD.2.2.2.2.2.2.2.2.2.2.2.2.2.1)
 (some (List.getD bD.2.2.2.2.2.2.2.2.2.2.2.2.2.1 (Int.toNat 0) 0,bD.2.2.2.2.1,bD.2.2.2.2.2.1,bD.2.2.2.2.2.2.1,bD.2.2.2.2.2.2.2.1,bD.2.2.2.2.2.2.2.2.1,bD.2.2.2.2.2.2.2.2.2.1,bD.2.2.2.2.2.2.2.2.2.2.1,bD.2.2.2.2.2.2.2.2.2.2.2.1,())) none) none)
 ((zo bD.1 bD.2.2.2.2.2.2.2.2.2.2.2.2.1 bD.2.2.2.2.2.2.2.2.2.2.2.2.2.1).bind fun O9 =>
 cond (not (qA sEq O9.1 bD.2.2.2.2.2.2.2.2.2.2.2.1))
 (cond (fits (List.length bD.2.2.2.2.2.2.2.2.2.2.1+List.length ([(bD.1,bD.2.2.2.2.2.2.2.2.2.2.2.2.1,bD.2.2.2.2.2.2.2.2.2.2.2.2.2.1,())]:List DS1)) 56)
 (some (aj bD.2.2.2.2.2.2.2.2.2.2.1,bD.2.2.2.2.1,bD.2.2.2.2.2.1,bD.2.2.2.2.2.2.1,bD.2.2.2.2.2.2.2.1,bD.2.2.2.2.2.2.2.2.1,bD.2.2.2.2.2.2.2.2.2.1,bD.2.2.2.2.2.2.2.2.2.2.1++([(bD.1,bD.2.2.2.2.2.2.2.2.2.2.2.2.1,bD.2.2.2.2.2.2.2.2.2.2.2.2.2.1,())]:List DS1),jJ sEq O9.1 (aj bD.2.2.2.2.2.2.2.2.2.2.1) bD.2.2.2.2.2.2.2.2.2.2.2.1,())) none)
 (some (jw sEq O9.1 bD.2.2.2.2.2.2.2.2.2.2.2.1 0,bD.2.2.2.2.1,bD.2.2.2.2.2.1,bD.2.2.2.2.2.2.1,bD.2.2.2.2.2.2.2.1,bD.2.2.2.2.2.2.2.2.1,bD.2.2.2.2.2.2.2.2.2.1,bD.2.2.2.2.2.2.2.2.2.2.1,bD.2.2.2.2.2.2.2.2.2.2.2.1,()))))))
 (a0,List.take (Int.toNat (((List.length a5:Nat):Int)-1)) (List.drop (Int.toNat 1) a5),(((Int.toNat (((List.length a5:Nat):Int)-1)):Nat):Int),0,a1,a2,a3,a4,a5,a6,a7,a8,(List.replicate (Int.toNat 0) 0:List Int),List.set (List.replicate (Int.toNat 1) 0:List Int) (Int.toNat 0) (List.getD a5 (Int.toNat 0) 0),())) none) none) none) none) none) none) none
noncomputable def Jf:Cfg:=⟨cO,aJ,[Ku],[]⟩
def IL:Sh:=⟨4,[(1,(.int .i64))],[(0,.ptr 0 0 4),(2,.row 1),(3,.row 2)],[.box 107 [.d (.list tS1),.d (.list tS1),.d (.int .i64),.mp 3,.row 4,.mp 5],.row 3 (.int .i64) false,.row 3 (.int .i64) false,.map 102 tS3 (.int .i64),.row 70 tS1 false,.map 103 .str (.int .i64)]⟩
def Ik:Sh:=⟨1,[(0,(.int .i64))],[],[.box 107 [.d (.list tS1),.d (.list tS1),.d (.int .i64),.mp 3,.row 4,.mp 5],.row 3 (.int .i64) false,.row 3 (.int .i64) true,.map 102 tS3 (.int .i64),.row 70 tS1 false,.map 103 .str (.int .i64)]⟩
theorem VG (x:Int×(List DS1)×(List DS1)×Int×(List Int)×(List Int)×(List DS6)×(List DS1)×(List DS7)×Unit):kD Jf Jz 101 [.t 8] [] IL Ik x=xX x.1 x.2.1 x.2.2.1 x.2.2.2.1 x.2.2.2.2.1 x.2.2.2.2.2.1 x.2.2.2.2.2.2.1 x.2.2.2.2.2.2.2.1 x.2.2.2.2.2.2.2.2.1:=by kernel_rfl
noncomputable def KG:HI:=⟨86,IL,Ik,fun (x:Int×(List DS1)×(List DS1)×Int×(List Int)×(List Int)×(List DS6)×(List DS1)×(List DS7)×Unit)=>xX x.1 x.2.1 x.2.2.1 x.2.2.2.1 x.2.2.2.2.1 x.2.2.2.2.2.1 x.2.2.2.2.2.2.1 x.2.2.2.2.2.2.2.1 x.2.2.2.2.2.2.2.2.1,[1,2]⟩
theorem Ir:HOk Tryd.prog (gx aJ) KG:=hok mixed (aZ Mk (aK _ _):aW _ (Jf)) a2i (VG)
noncomputable def x66:XC:=xoF Tryd.f66 (.d 4 (.j [] ⟨197,[],[(0,.ptr 0 0 0),(3,.ptr 4 0 0),(7,.ptr 5 0 0),(8,.ptr 6 0 0)],[.box 107 [.d (.list tS1),.d (.list tS1),.d (.int .i64),.mp 1,.row 2,.mp 3],.map 102 tS3 (.int .i64),.row 70 tS1 false,.map 103 .str (.int .i64),.row 109 tS3 true,.box 70 [.d (.int .i64),.d (.list (.int .i64)),.d (.list (.int .i64))],.box 70 [.d (.int .i64),.d (.list (.int .i64)),.d (.list (.int .i64))]]⟩ .o (.d 2 (.s (.b (.l [.gh 9 3 (.int .i64),.gh 10 3 (.int .i64)] ⟨197,[(11,(.int .i64)),(12,(.int .i64))],[(0,.ptr 0 0 0),(3,.ptr 4 0 0),(7,.ptr 5 0 0),(8,.ptr 6 0 0),(9,.row 7),(10,.row 8)],[.box 107 [.d (.list tS1),.d (.list tS1),.d (.int .i64),.mp 1,.row 2,.mp 3],.map 102 tS3 (.int .i64),.row 70 tS1 false,.map 103 .str (.int .i64),.row 109 tS3 true,.box 70 [.d (.int .i64),.d (.list (.int .i64)),.d (.list (.int .i64))],.box 70 [.d (.int .i64),.d (.list (.int .i64)),.d (.list (.int .i64))],.row 3 (.int .i64) false,.row 3 (.int .i64) false]⟩ (.b (.s (.u [0,1,2,3]) .o)))) (.s (.u [0,1,2,3,7,8]) .o)))))
theorem F66:Fn Tryd.prog 66 197 x66.er [.t 4]:=by unfold x66;exact fnX Tryd.func66 (by kernel_rfl) (by kernel_rfl) (by kernel_rfl) (by kernel_rfl)
noncomputable def BM (self:(DS3×(List DS1)×(List DS1)×Int×(List DS6)×(List DS1)×(List DS7)×Unit)->Option (Int×(List DS1)×(List DS1)×Int×(List DS6)×(List DS1)×(List DS7)×Unit)) (a0:DS3) (a1:List DS1) (a2:List DS1) (a3:Int) (a4:List DS6) (a5:List DS1) (a6:List DS7):Option (Int×(List DS1)×(List DS1)×Int×(List DS6)×(List DS1)×(List DS7)×Unit) :=
 cond (cond (iLt a0.1 0) (iLt a0.2.1 0) false)
 ((m72 a0.1).bind fun a2P =>
 (m72 a0.2.1).bind fun a2O =>
 (m84 a2P.1 a2O.1 a3).bind fun a2N =>
 (m40 a2N.1).bind fun a2M =>
 some (a2M.1,a1,a2,a3,a4,a5,a6,()))
 (cond (qA (eqT tS3) a0 a4)
 (some (jw (eqT tS3) a0 a4 0,a1,a2,a3,a4,a5,a6,()))
 ((m85 a1 a0.1).bind fun uR =>
 (m85 a2 a0.2.1).bind fun uQ =>
 vI (S:=(List DS1)×(List DS1)×Int×(List DS6)×(List DS1)×(List DS7)×(List DS3)×Int×(List Int)×(List Int)×Int×(List Int)×(List Int)×Unit) (R:=Int×(List DS1)×(List DS1)×Int×(List DS6)×(List DS1)×(List DS7)×Unit)
 (cond (iLt uR.1.1 uQ.1.1)
 (some (.inl (a1,a2,a3,a4,a5,a6,([a0]:List DS3),uR.1.1,uR.1.2.1,uR.1.2.2.1,uR.1.1,([]:List Int),([a0.2.1]:List Int),())))
 (cond (iLt uQ.1.1 uR.1.1)
 (some (.inl (a1,a2,a3,a4,a5,a6,([a0]:List DS3),uQ.1.1,([]:List Int),([a0.1]:List Int),uQ.1.1,uQ.1.2.1,uQ.1.2.2.1,())))
 (some (.inl (a1,a2,a3,a4,a5,a6,([a0]:List DS3),uR.1.1,uR.1.2.1,uR.1.2.2.1,uQ.1.1,uQ.1.2.1,uQ.1.2.2.1,())))))
 (fun oW =>
 bX (S:=Int×Int×(List DS1)×(List DS1)×Int×(List DS6)×(List DS1)×(List DS7)×(List DS3)×Int×(List Int)×(List Int)×Int×(List Int)×(List Int)×(List Int)×(List Int)×Unit) (R:=Int×(List DS1)×(List DS1)×Int×(List DS6)×(List DS1)×(List DS7)×Unit) (fun au =>
 cond (bnd au.1 (aj au.2.2.2.2.2.2.2.2.2.2.2.1))
 (cond (bnd au.2.1 (aj au.2.2.2.2.2.2.2.2.2.2.2.2.2.2.1))
 ((self ((atI au.2.2.2.2.2.2.2.2.2.2.2.1 au.1 0,atI au.2.2.2.2.2.2.2.2.2.2.2.2.2.2.1 au.2.1 0,()),au.2.2.1,au.2.2.2.1,au.2.2.2.2.1,au.2.2.2.2.2.1,au.2.2.2.2.2.2.1,au.2.2.2.2.2.2.2.1,())).bind fun jX =>
 cond (fits (List.length au.2.2.2.2.2.2.2.2.2.2.2.2.2.2.2.2.1+List.length ([jX.1]:List Int)) 8)
 ((sP jX.2.1 jX.2.2.1 jX.2.2.2.1 jX.2.2.2.2.1 jX.2.2.2.2.2.1 jX.2.2.2.2.2.2.1).bind fun bI =>
 cond bI.1
 ((m40 0).bind fun a2L =>
 some (.inr (a2L.1,bI.2.1,bI.2.2.1,bI.2.2.2.1,bI.2.2.2.2.1,bI.2.2.2.2.2.1,bI.2.2.2.2.2.2.1,())))
 (cond (cond (iEq au.1 (aj au.2.2.2.2.2.2.2.2.2.2.1)) (iEq au.2.1 (aj au.2.2.2.2.2.2.2.2.2.2.2.2.2.1)) false)
 (Option.map Sum.inr ((xX au.2.2.2.2.2.2.2.2.2.1 bI.2.1 bI.2.2.1 bI.2.2.2.1 au.2.2.2.2.2.2.2.2.2.2.2.2.2.2.2.1 (au.2.2.2.2.2.2.2.2.2.2.2.2.2.2.2.2.1++([jX.1]:List Int)) bI.2.2.2.2.1 bI.2.2.2.2.2.1 bI.2.2.2.2.2.2.1).bind fun tH =>
 cond (and (Nat.beq (List.length au.2.2.2.2.2.2.2.2.2.2.2.2.2.2.2.1) (List.length tH.2.2.2.2.1)) (and (Nat.beq (List.length (au.2.2.2.2.2.2.2.2.2.2.2.2.2.2.2.2.1++([jX.1]:List Int))) (List.length tH.2.2.2.2.2.1)) true))
 (cond (inB 0 au.2.2.2.2.2.2.2.2.1)
 (some (tH.1,tH.2.1,tH.2.2.1,tH.2.2.2.1,jJ (eqT tS3) (List.getD au.2.2.2.2.2.2.2.2.1 0 (0,0,())) tH.1 tH.2.2.2.2.2.2.1,tH.2.2.2.2.2.2.2.1,tH.2.2.2.2.2.2.2.2.1,())) none) none))
 (cond (iEq au.2.1 (aj au.2.2.2.2.2.2.2.2.2.2.2.2.2.1))
 (cond (bnd au.1 (aj au.2.2.2.2.2.2.2.2.2.2.1))
 (cond (fits (List.length au.2.2.2.2.2.2.2.2.2.2.2.2.2.2.2.1+List.length ([atI au.2.2.2.2.2.2.2.2.2.2.1 au.1 0]:List Int)) 8)
 (cond (or (bnd au.1 (aj au.2.2.2.2.2.2.2.2.2.2.1)) (not (bEq (iLt au.1 (aj au.2.2.2.2.2.2.2.2.2.2.1)) true)))
 (cond (cond (iLt au.1 (aj au.2.2.2.2.2.2.2.2.2.2.1)) (iEq (atI au.2.2.2.2.2.2.2.2.2.2.1 au.1 0) (atI au.2.2.2.2.2.2.2.2.2.2.1 au.1 0)) false)
 (cond (or (bnd au.2.1 (aj au.2.2.2.2.2.2.2.2.2.2.2.2.2.1)) (not (bEq (iLt au.2.1 (aj au.2.2.2.2.2.2.2.2.2.2.2.2.2.1)) true)))
 (cond (cond (iLt au.2.1 (aj au.2.2.2.2.2.2.2.2.2.2.2.2.2.1)) (iEq (atI au.2.2.2.2.2.2.2.2.2.2.2.2.2.1 au.2.1 0) (atI au.2.2.2.2.2.2.2.2.2.2.1 au.1 0)) false)
 (some (.inl (aM .i64 au.1 1,aM .i64 au.2.1 1,bI.2.1,bI.2.2.1,bI.2.2.2.1,bI.2.2.2.2.1,bI.2.2.2.2.2.1,bI.2.2.2.2.2.2.1,au.2.2.2.2.2.2.2.2.1,au.2.2.2.2.2.2.2.2.2.1,au.2.2.2.2.2.2.2.2.2.2.1,au.2.2.2.2.2.2.2.2.2.2.2.1,au.2.2.2.2.2.2.2.2.2.2.2.2.1,au.2.2.2.2.2.2.2.2.2.2.2.2.2.1,au.2.2.2.2.2.2.2.2.2.2.2.2.2.2.1,au.2.2.2.2.2.2.2.2.2.2.2.2.2.2.2.1++([atI au.2.2.2.2.2.2.2.2.2.2.1 au.1 0]:List Int),au.2.2.2.2.2.2.2.2.2.2.2.2.2.2.2.2.1++([jX.1]:List Int),())))
 (some (.inl (aM .i64 au.1 1,au.2.1,bI.2.1,bI.2.2.1,bI.2.2.2.1,bI.2.2.2.2.1,bI.2.2.2.2.2.1,bI.2.2.2.2.2.2.1,au.2.2.2.2.2.2.2.2.1,au.2.2.2.2.2.2.2.2.2.1,au.2.2.2.2.2.2.2.2.2.2.1,au.2.2.2.2.2.2.2.2.2.2.2.1,au.2.2.2.2.2.2.2.2.2.2.2.2.1,au.2.2.2.2.2.2.2.2.2.2.2.2.2.1,au.2.2.2.2.2.2.2.2.2.2.2.2.2.2.1,au.2.2.2.2.2.2.2.2.2.2.2.2.2.2.2.1++([atI au.2.2.2.2.2.2.2.2.2.2.1 au.1 0]:List Int),au.2.2.2.2.2.2.2.2.2.2.2.2.2.2.2.2.1++([jX.1]:List Int),())))) none)
 (cond (or (bnd au.2.1 (aj au.2.2.2.2.2.2.2.2.2.2.2.2.2.1)) (not (bEq (iLt au.2.1 (aj au.2.2.2.2.2.2.2.2.2.2.2.2.2.1)) true)))
 (cond (cond (iLt au.2.1 (aj au.2.2.2.2.2.2.2.2.2.2.2.2.2.1)) (iEq (atI au.2.2.2.2.2.2.2.2.2.2.2.2.2.1 au.2.1 0) (atI au.2.2.2.2.2.2.2.2.2.2.1 au.1 0)) false)
 (some (.inl (au.1,aM .i64 au.2.1 1,bI.2.1,bI.2.2.1,bI.2.2.2.1,bI.2.2.2.2.1,bI.2.2.2.2.2.1,bI.2.2.2.2.2.2.1,au.2.2.2.2.2.2.2.2.1,au.2.2.2.2.2.2.2.2.2.1,au.2.2.2.2.2.2.2.2.2.2.1,au.2.2.2.2.2.2.2.2.2.2.2.1,au.2.2.2.2.2.2.2.2.2.2.2.2.1,au.2.2.2.2.2.2.2.2.2.2.2.2.2.1,au.2.2.2.2.2.2.2.2.2.2.2.2.2.2.1,au.2.2.2.2.2.2.2.2.2.2.2.2.2.2.2.1++([atI au.2.2.2.2.2.2.2.2.2.2.1 au.1 0]:List Int),au.2.2.2.2.2.2.2.2.2.2.2.2.2.2.2.2.1++([jX.1]:List Int),())))
 (some (.inl (au.1,au.2.1,bI.2.1,bI.2.2.1,bI.2.2.2.1,bI.2.2.2.2.1,bI.2.2.2.2.2.1,bI.2.2.2.2.2.2.1,au.2.2.2.2.2.2.2.2.1,au.2.2.2.2.2.2.2.2.2.1,au.2.2.2.2.2.2.2.2.2.2.1,au.2.2.2.2.2.2.2.2.2.2.2.1,au.2.2.2.2.2.2.2.2.2.2.2.2.1,au.2.2.2.2.2.2.2.2.2.2.2.2.2.1,au.2.2.2.2.2.2.2.2.2.2.2.2.2.2.1,au.2.2.2.2.2.2.2.2.2.2.2.2.2.2.2.1++([atI au.2.2.2.2.2.2.2.2.2.2.1 au.1 0]:List Int),au.2.2.2.2.2.2.2.2.2.2.2.2.2.2.2.2.1++([jX.1]:List Int),())))) none)) none) none) none)
 (cond (or (bnd au.1 (aj au.2.2.2.2.2.2.2.2.2.2.1)) (not (bEq (iLt au.1 (aj au.2.2.2.2.2.2.2.2.2.2.1)) true)))
 (cond (or (bnd au.2.1 (aj au.2.2.2.2.2.2.2.2.2.2.2.2.2.1)) (not (bEq (iLt au.1 (aj au.2.2.2.2.2.2.2.2.2.2.1)) true)))
 (cond (cond (iLt au.1 (aj au.2.2.2.2.2.2.2.2.2.2.1)) (iLe (atI au.2.2.2.2.2.2.2.2.2.2.1 au.1 0) (atI au.2.2.2.2.2.2.2.2.2.2.2.2.2.1 au.2.1 0)) false)
 (cond (bnd au.1 (aj au.2.2.2.2.2.2.2.2.2.2.1))
 (cond (fits (List.length au.2.2.2.2.2.2.2.2.2.2.2.2.2.2.2.1+List.length ([atI au.2.2.2.2.2.2.2.2.2.2.1 au.1 0]:List Int)) 8)
 (cond (or (bnd au.1 (aj au.2.2.2.2.2.2.2.2.2.2.1)) (not (bEq (iLt au.1 (aj au.2.2.2.2.2.2.2.2.2.2.1)) true)))
 (cond (cond (iLt au.1 (aj au.2.2.2.2.2.2.2.2.2.2.1)) (iEq (atI au.2.2.2.2.2.2.2.2.2.2.1 au.1 0) (atI au.2.2.2.2.2.2.2.2.2.2.1 au.1 0)) false)
 (cond (or (bnd au.2.1 (aj au.2.2.2.2.2.2.2.2.2.2.2.2.2.1)) (not (bEq (iLt au.2.1 (aj au.2.2.2.2.2.2.2.2.2.2.2.2.2.1)) true)))
 (cond (cond (iLt au.2.1 (aj au.2.2.2.2.2.2.2.2.2.2.2.2.2.1)) (iEq (atI au.2.2.2.2.2.2.2.2.2.2.2.2.2.1 au.2.1 0) (atI au.2.2.2.2.2.2.2.2.2.2.1 au.1 0)) false)
 (some (.inl (aM .i64 au.1 1,aM .i64 au.2.1 1,bI.2.1,bI.2.2.1,bI.2.2.2.1,bI.2.2.2.2.1,bI.2.2.2.2.2.1,bI.2.2.2.2.2.2.1,au.2.2.2.2.2.2.2.2.1,au.2.2.2.2.2.2.2.2.2.1,au.2.2.2.2.2.2.2.2.2.2.1,au.2.2.2.2.2.2.2.2.2.2.2.1,au.2.2.2.2.2.2.2.2.2.2.2.2.1,au.2.2.2.2.2.2.2.2.2.2.2.2.2.1,au.2.2.2.2.2.2.2.2.2.2.2.2.2.2.1,au.2.2.2.2.2.2.2.2.2.2.2.2.2.2.2.1++([atI au.2.2.2.2.2.2.2.2.2.2.1 au.1 0]:List Int),au.2.2.2.2.2.2.2.2.2.2.2.2.2.2.2.2.1++([jX.1]:List Int),())))
 (some (.inl (aM .i64 au.1 1,au.2.1,bI.2.1,bI.2.2.1,bI.2.2.2.1,bI.2.2.2.2.1,bI.2.2.2.2.2.1,bI.2.2.2.2.2.2.1,au.2.2.2.2.2.2.2.2.1,au.2.2.2.2.2.2.2.2.2.1,au.2.2.2.2.2.2.2.2.2.2.1,au.2.2.2.2.2.2.2.2.2.2.2.1,au.2.2.2.2.2.2.2.2.2.2.2.2.1,au.2.2.2.2.2.2.2.2.2.2.2.2.2.1,au.2.2.2.2.2.2.2.2.2.2.2.2.2.2.1,au.2.2.2.2.2.2.2.2.2.2.2.2.2.2.2.1++([atI au.2.2.2.2.2.2.2.2.2.2.1 au.1 0]:List Int),au.2.2.2.2.2.2.2.2.2.2.2.2.2.2.2.2.1++([jX.1]:List Int),())))) none)
 (cond (or (bnd au.2.1 (aj au.2.2.2.2.2.2.2.2.2.2.2.2.2.1)) (not (bEq (iLt au.2.1 (aj au.2.2.2.2.2.2.2.2.2.2.2.2.2.1)) true)))
 (cond (cond (iLt au.2.1 (aj au.2.2.2.2.2.2.2.2.2.2.2.2.2.1)) (iEq (atI au.2.2.2.2.2.2.2.2.2.2.2.2.2.1 au.2.1 0) (atI au.2.2.2.2.2.2.2.2.2.2.1 au.1 0)) false)
 (some (.inl (au.1,aM .i64 au.2.1 1,bI.2.1,bI.2.2.1,bI.2.2.2.1,bI.2.2.2.2.1,bI.2.2.2.2.2.1,bI.2.2.2.2.2.2.1,au.2.2.2.2.2.2.2.2.1,au.2.2.2.2.2.2.2.2.2.1,au.2.2.2.2.2.2.2.2.2.2.1,au.2.2.2.2.2.2.2.2.2.2.2.1,au.2.2.2.2.2.2.2.2.2.2.2.2.1,au.2.2.2.2.2.2.2.2.2.2.2.2.2.1,au.2.2.2.2.2.2.2.2.2.2.2.2.2.2.1,au.2.2.2.2.2.2.2.2.2.2.2.2.2.2.2.1++([atI au.2.2.2.2.2.2.2.2.2.2.1 au.1 0]:List Int),au.2.2.2.2.2.2.2.2.2.2.2.2.2.2.2.2.1++([jX.1]:List Int),())))
 (some (.inl (au.1,au.2.1,bI.2.1,bI.2.2.1,bI.2.2.2.1,bI.2.2.2.2.1,bI.2.2.2.2.2.1,bI.2.2.2.2.2.2.1,au.2.2.2.2.2.2.2.2.1,au.2.2.2.2.2.2.2.2.2.1,au.2.2.2.2.2.2.2.2.2.2.1,au.2.2.2.2.2.2.2.2.2.2.2.1,au.2.2.2.2.2.2.2.2.2.2.2.2.1,au.2.2.2.2.2.2.2.2.2.2.2.2.2.1,au.2.2.2.2.2.2.2.2.2.2.2.2.2.2.1,au.2.2.2.2.2.2.2.2.2.2.2.2.2.2.2.1++([atI au.2.2.2.2.2.2.2.2.2.2.1 au.1 0]:List Int),au.2.2.2.2.2.2.2.2.2.2.2.2.2.2.2.2.1++([jX.1]:List Int),())))) none)) none) none) none)
 (cond (bnd au.2.1 (aj au.2.2.2.2.2.2.2.2.2.2.2.2.2.1))
 (cond (fits (List.length au.2.2.2.2.2.2.2.2.2.2.2.2.2.2.2.1+List.length ([atI au.2.2.2.2.2.2.2.2.2.2.2.2.2.1 au.2.1 0]:List Int)) 8)
 (cond (or (bnd au.1 (aj au.2.2.2.2.2.2.2.2.2.2.1)) (not (bEq (iLt au.1 (aj au.2.2.2.2.2.2.2.2.2.2.1)) true)))
 (cond (cond (iLt au.1 (aj au.2.2.2.2.2.2.2.2.2.2.1)) (iEq (atI au.2.2.2.2.2.2.2.2.2.2.1 au.1 0) (atI au.2.2.2.2.2.2.2.2.2.2.2.2.2.1 au.2.1 0)) false)
 (cond (or (bnd au.2.1 (aj au.2.2.2.2.2.2.2.2.2.2.2.2.2.1)) (not (bEq (iLt au.2.1 (aj au.2.2.2.2.2.2.2.2.2.2.2.2.2.1)) true)))
 (cond (cond (iLt au.2.1 (aj au.2.2.2.2.2.2.2.2.2.2.2.2.2.1)) (iEq (atI au.2.2.2.2.2.2.2.2.2.2.2.2.2.1 au.2.1 0) (atI au.2.2.2.2.2.2.2.2.2.2.2.2.2.1 au.2.1 0)) false)
 (some (.inl (aM .i64 au.1 1,aM .i64 au.2.1 1,bI.2.1,bI.2.2.1,bI.2.2.2.1,bI.2.2.2.2.1,bI.2.2.2.2.2.1,bI.2.2.2.2.2.2.1,au.2.2.2.2.2.2.2.2.1,au.2.2.2.2.2.2.2.2.2.1,au.2.2.2.2.2.2.2.2.2.2.1,au.2.2.2.2.2.2.2.2.2.2.2.1,au.2.2.2.2.2.2.2.2.2.2.2.2.1,au.2.2.2.2.2.2.2.2.2.2.2.2.2.1,au.2.2.2.2.2.2.2.2.2.2.2.2.2.2.1,au.2.2.2.2.2.2.2.2.2.2.2.2.2.2.2.1++([atI au.2.2.2.2.2.2.2.2.2.2.2.2.2.1 au.2.1 0]:List Int),au.2.2.2.2.2.2.2.2.2.2.2.2.2.2.2.2.1++([jX.1]:List Int),())))
 (some (.inl (aM .i64 au.1 1,au.2.1,bI.2.1,bI.2.2.1,bI.2.2.2.1,bI.2.2.2.2.1,bI.2.2.2.2.2.1,bI.2.2.2.2.2.2.1,au.2.2.2.2.2.2.2.2.1,au.2.2.2.2.2.2.2.2.2.1,au.2.2.2.2.2.2.2.2.2.2.1,au.2.2.2.2.2.2.2.2.2.2.2.1,au.2.2.2.2.2.2.2.2.2.2.2.2.1,au.2.2.2.2.2.2.2.2.2.2.2.2.2.1,au.2.2.2.2.2.2.2.2.2.2.2.2.2.2.1,au.2.2.2.2.2.2.2.2.2.2.2.2.2.2.2.1++([atI au.2.2.2.2.2.2.2.2.2.2.2.2.2.1 au.2.1 0]:List Int),au.2.2.2.2.2.2.2.2.2.2.2.2.2.2.2.2.1++([jX.1]:List Int),())))) none)
 (cond (or (bnd au.2.1 (aj au.2.2.2.2.2.2.2.2.2.2.2.2.2.1)) (not (bEq (iLt au.2.1 (aj au.2.2.2.2.2.2.2.2.2.2.2.2.2.1)) true)))
 (cond (cond (iLt au.2.1 (aj au.2.2.2.2.2.2.2.2.2.2.2.2.2.1)) (iEq (atI au.2.2.2.2.2.2.2.2.2.2.2.2.2.1 au.2.1 0) (atI au.2.2.2.2.2.2.2.2.2.2.2.2.2.1 au.2.1 0)) false)
 (some (.inl (au.1,aM .i64 au.2.1 1,bI.2.1,bI.2.2.1,bI.2.2.2.1,bI.2.2.2.2.1,bI.2.2.2.2.2.1,bI.2.2.2.2.2.2.1,au.2.2.2.2.2.2.2.2.1,au.2.2.2.2.2.2.2.2.2.1,au.2.2.2.2.2.2.2.2.2.2.1,au.2.2.2.2.2.2.2.2.2.2.2.1,au.2.2.2.2.2.2.2.2.2.2.2.2.1,au.2.2.2.2.2.2.2.2.2.2.2.2.2.1,au.2.2.2.2.2.2.2.2.2.2.2.2.2.2.1,au.2.2.2.2.2.2.2.2.2.2.2.2.2.2.2.1++([atI au.2.2.2.2.2.2.2.2.2.2.2.2.2.1 au.2.1 0]:List Int),au.2.2.2.2.2.2.2.2.2.2.2.2.2.2.2.2.1++([jX.1]:List Int),())))
 (some (.inl (au.1,au.2.1,bI.2.1,bI.2.2.1,bI.2.2.2.1,bI.2.2.2.2.1,bI.2.2.2.2.2.1,bI.2.2.2.2.2.2.1,au.2.2.2.2.2.2.2.2.1,au.2.2.2.2.2.2.2.2.2.1,au.2.2.2.2.2.2.2.2.2.2.1,au.2.2.2.2.2.2.2.2.2.2.2.1,au.2.2.2.2.2.2.2.2.2.2.2.2.1,au.2.2.2.2.2.2.2.2.2.2.2.2.2.1,au.2.2.2.2.2.2.2.2.2.2.2.2.2.2.1,au.2.2.2.2.2.2.2.2.2.2.2.2.2.2.2.1++([atI au.2.2.2.2.2.2.2.2.2.2.2.2.2.1 au.2.1 0]:List Int),au.2.2.2.2.2.2.2.2.2.2.2.2.2.2.2.2.1++([jX.1]:List Int),())))) none)) none) none) none)) none) none)))) none) none) none)
 (0,0,oW.1,oW.2.1,oW.2.2.1,oW.2.2.2.1,oW.2.2.2.2.1,oW.2.2.2.2.2.1,oW.2.2.2.2.2.2.1,oW.2.2.2.2.2.2.2.1,oW.2.2.2.2.2.2.2.2.1,oW.2.2.2.2.2.2.2.2.2.1,oW.2.2.2.2.2.2.2.2.2.2.1,oW.2.2.2.2.2.2.2.2.2.2.2.1,oW.2.2.2.2.2.2.2.2.2.2.2.2.1,([]:List Int),([]:List Int),()))))
def DX:Sh:=⟨2,[(1,tS3)],[(0,.ptr 0 0 0)],[.box 107 [.d (.list tS1),.d (.list tS1),.d (.int .i64),.mp 1,.row 2,.mp 3],.map 102 tS3 (.int .i64),.row 70 tS1 false,.map 103 .str (.int .i64)]⟩
def DK:Sh:=⟨1,[(0,(.int .i64))],[],[.box 107 [.d (.list tS1),.d (.list tS1),.d (.int .i64),.mp 1,.row 2,.mp 3],.map 102 tS3 (.int .i64),.row 70 tS1 false,.map 103 .str (.int .i64)]⟩
noncomputable def SX (self:(DS3×(List DS1)×(List DS1)×Int×(List DS6)×(List DS1)×(List DS7)×Unit)->Option (Int×(List DS1)×(List DS1)×Int×(List DS6)×(List DS1)×(List DS7)×Unit)):Cfg:=⟨cO,aJ,[i40,i72,i84,i85],[⟨66,DX,DK,self,[]⟩,Ea,KG]⟩
theorem a1u (self:(DS3×(List DS1)×(List DS1)×Int×(List DS6)×(List DS1)×(List DS7)×Unit)->Option (Int×(List DS1)×(List DS1)×Int×(List DS6)×(List DS1)×(List DS7)×Unit)) (x:DS3×(List DS1)×(List DS1)×Int×(List DS6)×(List DS1)×(List DS7)×Unit):kD (SX self) x66 197 [.t 4] [] DX DK x=BM self x.1 x.2.1 x.2.2.1 x.2.2.2.1 x.2.2.2.2.1 x.2.2.2.2.2.1 x.2.2.2.2.2.2.1:=by kernel_rfl
noncomputable def m66 (a0:DS3) (a1:List DS1) (a2:List DS1) (a3:Int) (a4:List DS6) (a5:List DS1) (a6:List DS7):Option (Int×(List DS1)×(List DS1)×Int×(List DS6)×(List DS1)×(List DS7)×Unit):=qG (fun self (x:DS3×(List DS1)×(List DS1)×Int×(List DS6)×(List DS1)×(List DS7)×Unit)=>BM self x.1 x.2.1 x.2.2.1 x.2.2.2.1 x.2.2.2.2.1 x.2.2.2.2.2.1 x.2.2.2.2.2.2.1) (a0,a1,a2,a3,a4,a5,a6,())
noncomputable def h66:HI:=⟨66,DX,DK,fun (x:DS3×(List DS1)×(List DS1)×Int×(List DS6)×(List DS1)×(List DS7)×Unit)=>m66 x.1 x.2.1 x.2.2.1 x.2.2.2.1 x.2.2.2.2.1 x.2.2.2.2.2.1 x.2.2.2.2.2.2.1,[]⟩
theorem a0K:HOk Tryd.prog (gx aJ) h66:=yc (f:=66) (ish:=DX) (osh:=DK) (G:=fun self (x:DS3×(List DS1)×(List DS1)×Int×(List DS6)×(List DS1)×(List DS7)×Unit)=>BM self x.1 x.2.1 x.2.2.1 x.2.2.2.1 x.2.2.2.2.1 x.2.2.2.2.2.1 x.2.2.2.2.2.2.1) F66.callable (fun run hr=>hok mixed (aZ Ak (aZ K8 (aZ RA (aZ Rz (gT hr (gT BH (gT Ir (aK _ _))))))):aW _ (SX run)) F66 (a1u run))
noncomputable def JC:XC:=xoF Tryd.f66 (.d 4 (.j [] ⟨197,[],[(0,.ptr 0 0 0),(3,.ptr 3 0 0),(7,.ptr 4 0 0),(8,.ptr 5 0 0)],[.box 107 [.d (.list tS1),.d (.list tS1),.d (.int .i64),.mp 1,.nil,.mp 2],.map 102 tS3 (.int .i64),.map 103 .str (.int .i64),.row 109 tS3 true,.box 70 [.d (.int .i64),.d (.list (.int .i64)),.d (.list (.int .i64))],.box 70 [.d (.int .i64),.d (.list (.int .i64)),.d (.list (.int .i64))]]⟩ .o (.d 2 (.s (.b (.l [.gh 9 3 (.int .i64),.gh 10 3 (.int .i64),.ghc 0 4 70 tS1] ⟨197,[(11,(.int .i64)),(12,(.int .i64))],[(0,.ptr 0 0 0),(3,.ptr 3 0 0),(7,.ptr 4 0 0),(8,.ptr 5 0 0),(9,.row 6),(10,.row 7)],[.box 107 [.d (.list tS1),.d (.list tS1),.d (.int .i64),.mp 1,.row 8,.mp 2],.map 102 tS3 (.int .i64),.map 103 .str (.int .i64),.row 109 tS3 true,.box 70 [.d (.int .i64),.d (.list (.int .i64)),.d (.list (.int .i64))],.box 70 [.d (.int .i64),.d (.list (.int .i64)),.d (.list (.int .i64))],.row 3 (.int .i64) false,.row 3 (.int .i64) false,.row 70 tS1 false]⟩ (.b (.s (.u [0,1,2,8]) .o)))) (.s (.u [0,1,2,6,7,8]) .o)))))
theorem a2l:Fn Tryd.prog 66 197 JC.er [.t 4]:=by unfold JC;exact fnX Tryd.func66 (by kernel_rfl) (by kernel_rfl) (by kernel_rfl) (by kernel_rfl)
noncomputable def xY (a0:DS3) (a1:List DS1) (a2:List DS1) (a3:Int) (a4:List DS6) (a5:List DS7):Option (Int×(List DS1)×(List DS1)×Int×(List DS6)×(List DS7)×(List DS1)×Unit) :=
 cond (cond (iLt a0.1 0) (iLt a0.2.1 0) false)
 ((m72 a0.1).bind fun a2K =>
 (m72 a0.2.1).bind fun a2J =>
 (m84 a2K.1 a2J.1 a3).bind fun a2I =>
 (m40 a2I.1).bind fun a2H =>
 some (a2H.1,a1,a2,a3,a4,a5,([]:List DS1),()))
 (cond (qA (eqT tS3) a0 a4)
 (some (jw (eqT tS3) a0 a4 0,a1,a2,a3,a4,a5,([]:List DS1),()))
 ((m85 a1 a0.1).bind fun uP =>
 (m85 a2 a0.2.1).bind fun uO =>
 vI (S:=(List DS1)×(List DS1)×Int×(List DS6)×(List DS7)×(List DS3)×Int×(List Int)×(List Int)×Int×(List Int)×(List Int)×Unit) (R:=Int×(List DS1)×(List DS1)×Int×(List DS6)×(List DS7)×(List DS1)×Unit)
 (cond (iLt uP.1.1 uO.1.1)
 (some (.inl (a1,a2,a3,a4,a5,([a0]:List DS3),uP.1.1,uP.1.2.1,uP.1.2.2.1,uP.1.1,([]:List Int),([a0.2.1]:List Int),())))
 (cond (iLt uO.1.1 uP.1.1)
 (some (.inl (a1,a2,a3,a4,a5,([a0]:List DS3),uO.1.1,([]:List Int),([a0.1]:List Int),uO.1.1,uO.1.2.1,uO.1.2.2.1,())))
 (some (.inl (a1,a2,a3,a4,a5,([a0]:List DS3),uP.1.1,uP.1.2.1,uP.1.2.2.1,uO.1.1,uO.1.2.1,uO.1.2.2.1,())))))
 (fun qC =>
 bX (S:=Int×Int×(List DS1)×(List DS1)×Int×(List DS6)×(List DS7)×(List DS3)×Int×(List Int)×(List Int)×Int×(List Int)×(List Int)×(List Int)×(List Int)×(List DS1)×Unit) (R:=Int×(List DS1)×(List DS1)×Int×(List DS6)×(List DS7)×(List DS1)×Unit) (fun ak =>
 cond (bnd ak.1 (aj ak.2.2.2.2.2.2.2.2.2.2.1))
 (cond (bnd ak.2.1 (aj ak.2.2.2.2.2.2.2.2.2.2.2.2.2.1))
 ((m66 (atI ak.2.2.2.2.2.2.2.2.2.2.1 ak.1 0,atI ak.2.2.2.2.2.2.2.2.2.2.2.2.2.1 ak.2.1 0,()) ak.2.2.1 ak.2.2.2.1 ak.2.2.2.2.1 ak.2.2.2.2.2.1 ak.2.2.2.2.2.2.2.2.2.2.2.2.2.2.2.2.1 ak.2.2.2.2.2.2.1).bind fun jW =>
 cond (fits (List.length ak.2.2.2.2.2.2.2.2.2.2.2.2.2.2.2.1+List.length ([jW.1]:List Int)) 8)
 ((sP jW.2.1 jW.2.2.1 jW.2.2.2.1 jW.2.2.2.2.1 jW.2.2.2.2.2.1 jW.2.2.2.2.2.2.1).bind fun bH =>
 cond bH.1
 ((m40 0).bind fun a2G =>
 some (.inr (a2G.1,bH.2.1,bH.2.2.1,bH.2.2.2.1,bH.2.2.2.2.1,bH.2.2.2.2.2.2.1,bH.2.2.2.2.2.1,())))
 (cond (cond (iEq ak.1 (aj ak.2.2.2.2.2.2.2.2.2.1)) (iEq ak.2.1 (aj ak.2.2.2.2.2.2.2.2.2.2.2.2.1)) false)
 (Option.map Sum.inr ((xX ak.2.2.2.2.2.2.2.2.1 bH.2.1 bH.2.2.1 bH.2.2.2.1 ak.2.2.2.2.2.2.2.2.2.2.2.2.2.2.1 (ak.2.2.2.2.2.2.2.2.2.2.2.2.2.2.2.1++([jW.1]:List Int)) bH.2.2.2.2.1 bH.2.2.2.2.2.1 bH.2.2.2.2.2.2.1).bind fun tF =>
 cond (and (Nat.beq (List.length ak.2.2.2.2.2.2.2.2.2.2.2.2.2.2.1) (List.length tF.2.2.2.2.1)) (and (Nat.beq (List.length (ak.2.2.2.2.2.2.2.2.2.2.2.2.2.2.2.1++([jW.1]:List Int))) (List.length tF.2.2.2.2.2.1)) true))
 (cond (inB 0 ak.2.2.2.2.2.2.2.1)
 (some (tF.1,tF.2.1,tF.2.2.1,tF.2.2.2.1,jJ (eqT tS3) (List.getD ak.2.2.2.2.2.2.2.1 0 (0,0,())) tF.1 tF.2.2.2.2.2.2.1,tF.2.2.2.2.2.2.2.2.1,tF.2.2.2.2.2.2.2.1,())) none) none))
 (cond (iEq ak.2.1 (aj ak.2.2.2.2.2.2.2.2.2.2.2.2.1))
 (cond (bnd ak.1 (aj ak.2.2.2.2.2.2.2.2.2.1))
 (cond (fits (List.length ak.2.2.2.2.2.2.2.2.2.2.2.2.2.2.1+List.length ([atI ak.2.2.2.2.2.2.2.2.2.1 ak.1 0]:List Int)) 8)
 (cond (or (bnd ak.1 (aj ak.2.2.2.2.2.2.2.2.2.1)) (not (bEq (iLt ak.1 (aj ak.2.2.2.2.2.2.2.2.2.1)) true)))
 (cond (cond (iLt ak.1 (aj ak.2.2.2.2.2.2.2.2.2.1)) (iEq (atI ak.2.2.2.2.2.2.2.2.2.1 ak.1 0) (atI ak.2.2.2.2.2.2.2.2.2.1 ak.1 0)) false)
 (cond (or (bnd ak.2.1 (aj ak.2.2.2.2.2.2.2.2.2.2.2.2.1)) (not (bEq (iLt ak.2.1 (aj ak.2.2.2.2.2.2.2.2.2.2.2.2.1)) true)))
 (cond (cond (iLt ak.2.1 (aj ak.2.2.2.2.2.2.2.2.2.2.2.2.1)) (iEq (atI ak.2.2.2.2.2.2.2.2.2.2.2.2.1 ak.2.1 0) (atI ak.2.2.2.2.2.2.2.2.2.1 ak.1 0)) false)
 (some (.inl (aM .i64 ak.1 1,aM .i64 ak.2.1 1,bH.2.1,bH.2.2.1,bH.2.2.2.1,bH.2.2.2.2.1,bH.2.2.2.2.2.2.1,ak.2.2.2.2.2.2.2.1,ak.2.2.2.2.2.2.2.2.1,ak.2.2.2.2.2.2.2.2.2.1,ak.2.2.2.2.2.2.2.2.2.2.1,ak.2.2.2.2.2.2.2.2.2.2.2.1,ak.2.2.2.2.2.2.2.2.2.2.2.2.1,ak.2.2.2.2.2.2.2.2.2.2.2.2.2.1,ak.2.2.2.2.2.2.2.2.2.2.2.2.2.2.1++([atI ak.2.2.2.2.2.2.2.2.2.1 ak.1 0]:List Int),ak.2.2.2.2.2.2.2.2.2.2.2.2.2.2.2.1++([jW.1]:List Int),bH.2.2.2.2.2.1,())))
 (some (.inl (aM .i64 ak.1 1,ak.2.1,bH.2.1,bH.2.2.1,bH.2.2.2.1,bH.2.2.2.2.1,bH.2.2.2.2.2.2.1,ak.2.2.2.2.2.2.2.1,ak.2.2.2.2.2.2.2.2.1,ak.2.2.2.2.2.2.2.2.2.1,ak.2.2.2.2.2.2.2.2.2.2.1,ak.2.2.2.2.2.2.2.2.2.2.2.1,ak.2.2.2.2.2.2.2.2.2.2.2.2.1,ak.2.2.2.2.2.2.2.2.2.2.2.2.2.1,ak.2.2.2.2.2.2.2.2.2.2.2.2.2.2.1++([atI ak.2.2.2.2.2.2.2.2.2.1 ak.1 0]:List Int),ak.2.2.2.2.2.2.2.2.2.2.2.2.2.2.2.1++([jW.1]:List Int),bH.2.2.2.2.2.1,())))) none)
 (cond (or (bnd ak.2.1 (aj ak.2.2.2.2.2.2.2.2.2.2.2.2.1)) (not (bEq (iLt ak.2.1 (aj ak.2.2.2.2.2.2.2.2.2.2.2.2.1)) true)))
 (cond (cond (iLt ak.2.1 (aj ak.2.2.2.2.2.2.2.2.2.2.2.2.1)) (iEq (atI ak.2.2.2.2.2.2.2.2.2.2.2.2.1 ak.2.1 0) (atI ak.2.2.2.2.2.2.2.2.2.1 ak.1 0)) false)
 (some (.inl (ak.1,aM .i64 ak.2.1 1,bH.2.1,bH.2.2.1,bH.2.2.2.1,bH.2.2.2.2.1,bH.2.2.2.2.2.2.1,ak.2.2.2.2.2.2.2.1,ak.2.2.2.2.2.2.2.2.1,ak.2.2.2.2.2.2.2.2.2.1,ak.2.2.2.2.2.2.2.2.2.2.1,ak.2.2.2.2.2.2.2.2.2.2.2.1,ak.2.2.2.2.2.2.2.2.2.2.2.2.1,ak.2.2.2.2.2.2.2.2.2.2.2.2.2.1,ak.2.2.2.2.2.2.2.2.2.2.2.2.2.2.1++([atI ak.2.2.2.2.2.2.2.2.2.1 ak.1 0]:List Int),ak.2.2.2.2.2.2.2.2.2.2.2.2.2.2.2.1++([jW.1]:List Int),bH.2.2.2.2.2.1,())))
 (some (.inl (ak.1,ak.2.1,bH.2.1,bH.2.2.1,bH.2.2.2.1,bH.2.2.2.2.1,bH.2.2.2.2.2.2.1,ak.2.2.2.2.2.2.2.1,ak.2.2.2.2.2.2.2.2.1,ak.2.2.2.2.2.2.2.2.2.1,ak.2.2.2.2.2.2.2.2.2.2.1,ak.2.2.2.2.2.2.2.2.2.2.2.1,ak.2.2.2.2.2.2.2.2.2.2.2.2.1,ak.2.2.2.2.2.2.2.2.2.2.2.2.2.1,ak.2.2.2.2.2.2.2.2.2.2.2.2.2.2.1++([atI ak.2.2.2.2.2.2.2.2.2.1 ak.1 0]:List Int),ak.2.2.2.2.2.2.2.2.2.2.2.2.2.2.2.1++([jW.1]:List Int),bH.2.2.2.2.2.1,())))) none)) none) none) none)
 (cond (or (bnd ak.1 (aj ak.2.2.2.2.2.2.2.2.2.1)) (not (bEq (iLt ak.1 (aj ak.2.2.2.2.2.2.2.2.2.1)) true)))
 (cond (or (bnd ak.2.1 (aj ak.2.2.2.2.2.2.2.2.2.2.2.2.1)) (not (bEq (iLt ak.1 (aj ak.2.2.2.2.2.2.2.2.2.1)) true)))
 (cond (cond (iLt ak.1 (aj ak.2.2.2.2.2.2.2.2.2.1)) (iLe (atI ak.2.2.2.2.2.2.2.2.2.1 ak.1 0) (atI ak.2.2.2.2.2.2.2.2.2.2.2.2.1 ak.2.1 0)) false)
 (cond (bnd ak.1 (aj ak.2.2.2.2.2.2.2.2.2.1))
 (cond (fits (List.length ak.2.2.2.2.2.2.2.2.2.2.2.2.2.2.1+List.length ([atI ak.2.2.2.2.2.2.2.2.2.1 ak.1 0]:List Int)) 8)
 (cond (or (bnd ak.1 (aj ak.2.2.2.2.2.2.2.2.2.1)) (not (bEq (iLt ak.1 (aj ak.2.2.2.2.2.2.2.2.2.1)) true)))
 (cond (cond (iLt ak.1 (aj ak.2.2.2.2.2.2.2.2.2.1)) (iEq (atI ak.2.2.2.2.2.2.2.2.2.1 ak.1 0) (atI ak.2.2.2.2.2.2.2.2.2.1 ak.1 0)) false)
 (cond (or (bnd ak.2.1 (aj ak.2.2.2.2.2.2.2.2.2.2.2.2.1)) (not (bEq (iLt ak.2.1 (aj ak.2.2.2.2.2.2.2.2.2.2.2.2.1)) true)))
 (cond (cond (iLt ak.2.1 (aj ak.2.2.2.2.2.2.2.2.2.2.2.2.1)) (iEq (atI ak.2.2.2.2.2.2.2.2.2.2.2.2.1 ak.2.1 0) (atI ak.2.2.2.2.2.2.2.2.2.1 ak.1 0)) false)
 (some (.inl (aM .i64 ak.1 1,aM .i64 ak.2.1 1,bH.2.1,bH.2.2.1,bH.2.2.2.1,bH.2.2.2.2.1,bH.2.2.2.2.2.2.1,ak.2.2.2.2.2.2.2.1,ak.2.2.2.2.2.2.2.2.1,ak.2.2.2.2.2.2.2.2.2.1,ak.2.2.2.2.2.2.2.2.2.2.1,ak.2.2.2.2.2.2.2.2.2.2.2.1,ak.2.2.2.2.2.2.2.2.2.2.2.2.1,ak.2.2.2.2.2.2.2.2.2.2.2.2.2.1,ak.2.2.2.2.2.2.2.2.2.2.2.2.2.2.1++([atI ak.2.2.2.2.2.2.2.2.2.1 ak.1 0]:List Int),ak.2.2.2.2.2.2.2.2.2.2.2.2.2.2.2.1++([jW.1]:List Int),bH.2.2.2.2.2.1,())))
 (some (.inl (aM .i64 ak.1 1,ak.2.1,bH.2.1,bH.2.2.1,bH.2.2.2.1,bH.2.2.2.2.1,bH.2.2.2.2.2.2.1,ak.2.2.2.2.2.2.2.1,ak.2.2.2.2.2.2.2.2.1,ak.2.2.2.2.2.2.2.2.2.1,ak.2.2.2.2.2.2.2.2.2.2.1,ak.2.2.2.2.2.2.2.2.2.2.2.1,ak.2.2.2.2.2.2.2.2.2.2.2.2.1,ak.2.2.2.2.2.2.2.2.2.2.2.2.2.1,ak.2.2.2.2.2.2.2.2.2.2.2.2.2.2.1++([atI ak.2.2.2.2.2.2.2.2.2.1 ak.1 0]:List Int),ak.2.2.2.2.2.2.2.2.2.2.2.2.2.2.2.1++([jW.1]:List Int),bH.2.2.2.2.2.1,())))) none)
 (cond (or (bnd ak.2.1 (aj ak.2.2.2.2.2.2.2.2.2.2.2.2.1)) (not (bEq (iLt ak.2.1 (aj ak.2.2.2.2.2.2.2.2.2.2.2.2.1)) true)))
 (cond (cond (iLt ak.2.1 (aj ak.2.2.2.2.2.2.2.2.2.2.2.2.1)) (iEq (atI ak.2.2.2.2.2.2.2.2.2.2.2.2.1 ak.2.1 0) (atI ak.2.2.2.2.2.2.2.2.2.1 ak.1 0)) false)
 (some (.inl (ak.1,aM .i64 ak.2.1 1,bH.2.1,bH.2.2.1,bH.2.2.2.1,bH.2.2.2.2.1,bH.2.2.2.2.2.2.1,ak.2.2.2.2.2.2.2.1,ak.2.2.2.2.2.2.2.2.1,ak.2.2.2.2.2.2.2.2.2.1,ak.2.2.2.2.2.2.2.2.2.2.1,ak.2.2.2.2.2.2.2.2.2.2.2.1,ak.2.2.2.2.2.2.2.2.2.2.2.2.1,ak.2.2.2.2.2.2.2.2.2.2.2.2.2.1,ak.2.2.2.2.2.2.2.2.2.2.2.2.2.2.1++([atI ak.2.2.2.2.2.2.2.2.2.1 ak.1 0]:List Int),ak.2.2.2.2.2.2.2.2.2.2.2.2.2.2.2.1++([jW.1]:List Int),bH.2.2.2.2.2.1,())))
 (some (.inl (ak.1,ak.2.1,bH.2.1,bH.2.2.1,bH.2.2.2.1,bH.2.2.2.2.1,bH.2.2.2.2.2.2.1,ak.2.2.2.2.2.2.2.1,ak.2.2.2.2.2.2.2.2.1,ak.2.2.2.2.2.2.2.2.2.1,ak.2.2.2.2.2.2.2.2.2.2.1,ak.2.2.2.2.2.2.2.2.2.2.2.1,ak.2.2.2.2.2.2.2.2.2.2.2.2.1,ak.2.2.2.2.2.2.2.2.2.2.2.2.2.1,ak.2.2.2.2.2.2.2.2.2.2.2.2.2.2.1++([atI ak.2.2.2.2.2.2.2.2.2.1 ak.1 0]:List Int),ak.2.2.2.2.2.2.2.2.2.2.2.2.2.2.2.1++([jW.1]:List Int),bH.2.2.2.2.2.1,())))) none)) none) none) none)
 (cond (bnd ak.2.1 (aj ak.2.2.2.2.2.2.2.2.2.2.2.2.1))
 (cond (fits (List.length ak.2.2.2.2.2.2.2.2.2.2.2.2.2.2.1+List.length ([atI ak.2.2.2.2.2.2.2.2.2.2.2.2.1 ak.2.1 0]:List Int)) 8)
 (cond (or (bnd ak.1 (aj ak.2.2.2.2.2.2.2.2.2.1)) (not (bEq (iLt ak.1 (aj ak.2.2.2.2.2.2.2.2.2.1)) true)))
 (cond (cond (iLt ak.1 (aj ak.2.2.2.2.2.2.2.2.2.1)) (iEq (atI ak.2.2.2.2.2.2.2.2.2.1 ak.1 0) (atI ak.2.2.2.2.2.2.2.2.2.2.2.2.1 ak.2.1 0)) false)
 (cond (or (bnd ak.2.1 (aj ak.2.2.2.2.2.2.2.2.2.2.2.2.1)) (not (bEq (iLt ak.2.1 (aj ak.2.2.2.2.2.2.2.2.2.2.2.2.1)) true)))
 (cond (cond (iLt ak.2.1 (aj ak.2.2.2.2.2.2.2.2.2.2.2.2.1)) (iEq (atI ak.2.2.2.2.2.2.2.2.2.2.2.2.1 ak.2.1 0) (atI ak.2.2.2.2.2.2.2.2.2.2.2.2.1 ak.2.1 0)) false)
 (some (.inl (aM .i64 ak.1 1,aM .i64 ak.2.1 1,bH.2.1,bH.2.2.1,bH.2.2.2.1,bH.2.2.2.2.1,bH.2.2.2.2.2.2.1,ak.2.2.2.2.2.2.2.1,ak.2.2.2.2.2.2.2.2.1,ak.2.2.2.2.2.2.2.2.2.1,ak.2.2.2.2.2.2.2.2.2.2.1,ak.2.2.2.2.2.2.2.2.2.2.2.1,ak.2.2.2.2.2.2.2.2.2.2.2.2.1,ak.2.2.2.2.2.2.2.2.2.2.2.2.2.1,ak.2.2.2.2.2.2.2.2.2.2.2.2.2.2.1++([atI ak.2.2.2.2.2.2.2.2.2.2.2.2.1 ak.2.1 0]:List Int),ak.2.2.2.2.2.2.2.2.2.2.2.2.2.2.2.1++([jW.1]:List Int),bH.2.2.2.2.2.1,())))
 (some (.inl (aM .i64 ak.1 1,ak.2.1,bH.2.1,bH.2.2.1,bH.2.2.2.1,bH.2.2.2.2.1,bH.2.2.2.2.2.2.1,ak.2.2.2.2.2.2.2.1,ak.2.2.2.2.2.2.2.2.1,ak.2.2.2.2.2.2.2.2.2.1,ak.2.2.2.2.2.2.2.2.2.2.1,ak.2.2.2.2.2.2.2.2.2.2.2.1,ak.2.2.2.2.2.2.2.2.2.2.2.2.1,ak.2.2.2.2.2.2.2.2.2.2.2.2.2.1,ak.2.2.2.2.2.2.2.2.2.2.2.2.2.2.1++([atI ak.2.2.2.2.2.2.2.2.2.2.2.2.1 ak.2.1 0]:List Int),ak.2.2.2.2.2.2.2.2.2.2.2.2.2.2.2.1++([jW.1]:List Int),bH.2.2.2.2.2.1,())))) none)
 (cond (or (bnd ak.2.1 (aj ak.2.2.2.2.2.2.2.2.2.2.2.2.1)) (not (bEq (iLt ak.2.1 (aj ak.2.2.2.2.2.2.2.2.2.2.2.2.1)) true)))
 (cond (cond (iLt ak.2.1 (aj ak.2.2.2.2.2.2.2.2.2.2.2.2.1)) (iEq (atI ak.2.2.2.2.2.2.2.2.2.2.2.2.1 ak.2.1 0) (atI ak.2.2.2.2.2.2.2.2.2.2.2.2.1 ak.2.1 0)) false)
 (some (.inl (ak.1,aM .i64 ak.2.1 1,bH.2.1,bH.2.2.1,bH.2.2.2.1,bH.2.2.2.2.1,bH.2.2.2.2.2.2.1,ak.2.2.2.2.2.2.2.1,ak.2.2.2.2.2.2.2.2.1,ak.2.2.2.2.2.2.2.2.2.1,ak.2.2.2.2.2.2.2.2.2.2.1,ak.2.2.2.2.2.2.2.2.2.2.2.1,ak.2.2.2.2.2.2.2.2.2.2.2.2.1,ak.2.2.2.2.2.2.2.2.2.2.2.2.2.1,ak.2.2.2.2.2.2.2.2.2.2.2.2.2.2.1++([atI ak.2.2.2.2.2.2.2.2.2.2.2.2.1 ak.2.1 0]:List Int),ak.2.2.2.2.2.2.2.2.2.2.2.2.2.2.2.1++([jW.1]:List Int),bH.2.2.2.2.2.1,())))
 (some (.inl (ak.1,ak.2.1,bH.2.1,bH.2.2.1,bH.2.2.2.1,bH.2.2.2.2.1,bH.2.2.2.2.2.2.1,ak.2.2.2.2.2.2.2.1,ak.2.2.2.2.2.2.2.2.1,ak.2.2.2.2.2.2.2.2.2.1,ak.2.2.2.2.2.2.2.2.2.2.1,ak.2.2.2.2.2.2.2.2.2.2.2.1,ak.2.2.2.2.2.2.2.2.2.2.2.2.1,ak.2.2.2.2.2.2.2.2.2.2.2.2.2.1,ak.2.2.2.2.2.2.2.2.2.2.2.2.2.2.1++([atI ak.2.2.2.2.2.2.2.2.2.2.2.2.1 ak.2.1 0]:List Int),ak.2.2.2.2.2.2.2.2.2.2.2.2.2.2.2.1++([jW.1]:List Int),bH.2.2.2.2.2.1,())))) none)) none) none) none)) none) none)))) none) none) none)
 (0,0,qC.1,qC.2.1,qC.2.2.1,qC.2.2.2.1,qC.2.2.2.2.1,qC.2.2.2.2.2.1,qC.2.2.2.2.2.2.1,qC.2.2.2.2.2.2.2.1,qC.2.2.2.2.2.2.2.2.1,qC.2.2.2.2.2.2.2.2.2.1,qC.2.2.2.2.2.2.2.2.2.2.1,qC.2.2.2.2.2.2.2.2.2.2.2.1,([]:List Int),([]:List Int),([]:List DS1),()))))
noncomputable def Ji:Cfg:=⟨cO,aJ,[i40,i72,i84,i85],[h66,Ea,KG]⟩
def IV:Sh:=⟨2,[(1,tS3)],[(0,.ptr 0 0 0)],[.box 107 [.d (.list tS1),.d (.list tS1),.d (.int .i64),.mp 1,.nil,.mp 2],.map 102 tS3 (.int .i64),.map 103 .str (.int .i64)]⟩
def Io:Sh:=⟨1,[(0,(.int .i64))],[],[.box 107 [.d (.list tS1),.d (.list tS1),.d (.int .i64),.mp 1,.row 3,.mp 2],.map 102 tS3 (.int .i64),.map 103 .str (.int .i64),.row 70 tS1 false]⟩
theorem VK (x:DS3×(List DS1)×(List DS1)×Int×(List DS6)×(List DS7)×Unit):kD Ji JC 197 [.t 4] [.ghc 0 4 70 tS1] IV Io x=xY x.1 x.2.1 x.2.2.1 x.2.2.2.1 x.2.2.2.2.1 x.2.2.2.2.2.1:=by kernel_rfl
noncomputable def Sg:HI:=⟨66,IV,Io,fun (x:DS3×(List DS1)×(List DS1)×Int×(List DS6)×(List DS7)×Unit)=>xY x.1 x.2.1 x.2.2.1 x.2.2.2.1 x.2.2.2.2.1 x.2.2.2.2.2.1,[]⟩
theorem UJ:HOk Tryd.prog (gx aJ) Sg:=hok mixed (aZ Ak (aZ K8 (aZ RA (aZ Rz (gT a0K (gT BH (gT Ir (aK _ _))))))):aW _ (Ji)) a2l (VK)
noncomputable def x33:XC:=xoF Tryd.f33 .o
theorem F33:Fn Tryd.prog 33 58 x33.er [.c 8 2 true,.t 9]:=by unfold x33;exact fnX Tryd.func33 (by kernel_rfl) (by kernel_rfl) (by kernel_rfl) (by kernel_rfl)
noncomputable def m33 (a0:DS5) (a1:DS2) (a2:DS2) (a3:Int):Option (DS2×Int×Unit) :=
 (m38 (a0.1,())).bind fun WU =>
 cond (iNe WU.1 0)
 (some ((([]:List DS1),0,()),WU.1,()))
 ((m31 (a0.1,()) (a1.1,a1.2.1,())).bind fun a2R =>
 cond (not a2R.1)
 (some ((([]:List DS1),0,()),21,()))
 ((m31 (a0.1,()) (a2.1,a2.2.1,())).bind fun a2Q =>
 cond (not a2Q.1)
 (some ((([]:List DS1),0,()),21,()))
 (cond (cond (iLt a3 1) true (iLt 4 a3))
 (some ((([]:List DS1),0,()),11,()))
 ((xY (a1.2.1,a2.2.1,()) a1.1 a2.1 a3 ([]:List DS6) ([]:List DS7)).bind fun yP =>
 (sP yP.2.1 yP.2.2.1 yP.2.2.2.1 yP.2.2.2.2.1 yP.2.2.2.2.2.2.1 yP.2.2.2.2.2.1).bind fun yO =>
 cond yO.1
 (some ((([]:List DS1),0,()),4,()))
 ((FD yP.1 yO.2.1 yO.2.2.1 yO.2.2.2.1 yO.2.2.2.2.1 yO.2.2.2.2.2.1 yO.2.2.2.2.2.2.1).bind fun WQ =>
 some ((WQ.1.1,WQ.1.2.1,()),0,()))))))
noncomputable def Tx:Cfg:=⟨cO,aJ,[i31,i38],[Sg,Ea,YX]⟩
theorem a1M (x:DS5×DS2×DS2×Int×Unit):dR Tx x33 58 [.c 8 2 true,.t 9] [tS5,tS2,tS2,(.int .i64)] [tS2,(.int .i64)] x=m33 x.1 x.2.1 x.2.2.1 x.2.2.2.1:=by kernel_rfl
noncomputable def i33:PI:=⟨33,[tS5,tS2,tS2,(.int .i64)],[tS2,(.int .i64)],fun (x:DS5×DS2×DS2×Int×Unit)=>m33 x.1 x.2.1 x.2.2.1 x.2.2.2.1⟩
theorem a0A:POk Tryd.prog (gx aJ) i33:=pok mixed (aZ DT (aZ DR (gT UJ (gT BH (gT XR (aK _ _))))):aW _ (Tx)) F33 (a1M)
noncomputable def x12:XC:=xoF Tryd.f12 (.d 8 (.j [.gh 13 3 (.int .i64)] ⟨81,[(1,(.int .i64)),(3,(.int .i64)),(12,(.int .i64))],[(8,.ptr 0 0 0),(13,.row 1),(14,.row 2)],[.box 28 [.nil,.d (.int .i64)],.row 3 (.int .i64) false,.row 3 (.int .i64) false]⟩ .o .o))
theorem F12:Fn Tryd.prog 12 81 x12.er [.c 8 2 true,.t 9]:=by unfold x12;exact fnX Tryd.func12 (by kernel_rfl) (by kernel_rfl) (by kernel_rfl) (by kernel_rfl)
noncomputable def m12 (a0:DS5) (a1:Int) (a2:Int) (a3:Int):Option (DS2×Int×Unit) :=
 (m38 (a0.1,())).bind fun WO =>
 cond (iNe WO.1 0)
 (some ((([]:List DS1),0,()),WO.1,()))
 (cond (cond (iLt a1 0) true (iLe (aj a0.1) a1))
 (some ((([]:List DS1),0,()),7,()))
 ((m39 (a0.1,()) a1).bind fun tC =>
 cond (iLt (kP a3 tC.2.1) (o7 a2 tC.1))
 ((m17 0).bind fun WM =>
 some ((WM.1.1,WM.1.2.1,()),0,()))
 ((m40 1).bind fun a2F =>
 vI (S:=Int×Int×Int×Int×(List Int)×(List Int)×Unit) (R:=DS2×Int×Unit)
 (cond (iLt tC.1 (o7 a2 tC.1))
 (cond (fits (List.length ([o7 a2 tC.1]:List Int)) 8)
 ((m40 0).bind fun a2E =>
 (m40 1).bind fun a2D =>
 some (.inl (a1,kP a3 tC.2.1,tC.2.1,0,([o7 a2 tC.1]:List Int),([a2E.1,a2D.1]:List Int),()))) none)
 (some (.inl (a1,kP a3 tC.2.1,tC.2.1,0,([]:List Int),([a2F.1]:List Int),()))))
 (fun nE =>
 cond (iLt nE.2.1 nE.2.2.1)
 (cond (fits (List.length nE.2.2.2.2.1+List.length ([aM .i64 nE.2.1 1]:List Int)) 8)
 ((m40 0).bind fun WL =>
 cond (fits (List.length nE.2.2.2.2.2.1+List.length ([WL.1]:List Int)) 8)
 (cond (iEq (aj (nE.2.2.2.2.1++([aM .i64 nE.2.1 1]:List Int))) 0)
 ((m17 1).bind fun WK =>
 some ((WK.1.1,WK.1.2.1,()),0,()))
 (some ((([(nE.1,nE.2.2.2.2.1++([aM .i64 nE.2.1 1]:List Int),nE.2.2.2.2.2.1++([WL.1]:List Int),())]:List DS1),0,()),0,()))) none) none)
 (cond (iEq (aj nE.2.2.2.2.1) 0)
 ((m17 1).bind fun WJ =>
 some ((WJ.1.1,WJ.1.2.1,()),0,()))
 (some ((([(nE.1,nE.2.2.2.2.1,nE.2.2.2.2.2.1,())]:List DS1),0,()),0,())))))))
noncomputable def TM:Cfg:=⟨cO,aJ,[i17,i38,i39,i40],[]⟩
theorem a1Y (x:DS5×Int×Int×Int×Unit):dR TM x12 81 [.c 8 2 true,.t 9] [tS5,(.int .i64),(.int .i64),(.int .i64)] [tS2,(.int .i64)] x=m12 x.1 x.2.1 x.2.2.1 x.2.2.2.1:=by kernel_rfl
noncomputable def i12:PI:=⟨12,[tS5,(.int .i64),(.int .i64),(.int .i64)],[tS2,(.int .i64)],fun (x:DS5×Int×Int×Int×Unit)=>m12 x.1 x.2.1 x.2.2.1 x.2.2.2.1⟩
theorem a0G:POk Tryd.prog (gx aJ) i12:=pok mixed (aZ RJ (aZ DR (aZ RH (aZ Ak (aK _ _)))):aW _ (TM)) F12 (a1Y)
noncomputable def x82:XC:=xoF Tryd.f82 .o
theorem F82:Fn Tryd.prog 82 16 x82.er [.t 4]:=by unfold x82;exact fnX Tryd.func82 (by kernel_rfl) (by kernel_rfl) (by kernel_rfl) (by kernel_rfl)
noncomputable def m82 (a0:Int) (a1:Int):Option (Int×Unit) :=
 cond (or (iNe a0 0) (not (bEq (iLt 0 a0) true)))
 (cond (cond (iLt 0 a0) (iLt (qD .i64 17592186044416 a0) a1) false)
 (some (17592186044416,()))
 (some (wX .i64 a0 a1,()))) none
noncomputable def SE:Cfg:=⟨cO,aJ,[],[]⟩
theorem a1j (x:Int×Int×Unit):dR SE x82 16 [.t 4] [(.int .i64),(.int .i64)] [(.int .i64)] x=m82 x.1 x.2.1:=by kernel_rfl
noncomputable def i82:PI:=⟨82,[(.int .i64),(.int .i64)],[(.int .i64)],fun (x:Int×Int×Unit)=>m82 x.1 x.2.1⟩
theorem RB:POk Tryd.prog (gx aJ) i82:=pok mixed (aK _ _:aW _ (SE)) F82 (a1j)
noncomputable def x81:XC:=xoF Tryd.f81 (.d 1 (.s (.d 1 (.b (.l [] ⟨33,[(1,(.int .i64)),(17,(.list tS3)),(18,(.int .i64)),(19,(.int .i64))],[],[.box 84 [.d (.list tS1),.d (.list tS3),.d (.int .i64),.mp 1],.map 82 (.int .i64) (.int .i64)]⟩ .o))) .o))
theorem F81:Fn Tryd.prog 81 33 x81.er [.t 8]:=by unfold x81;exact fnX Tryd.func81 (by kernel_rfl) (by kernel_rfl) (by kernel_rfl) (by kernel_rfl)
noncomputable def m81 (a0:Int) (a1:Int) (a2:Int) (a3:List DS1) (a4:List DS3) (a5:Int) (a6:List DS3):Option (Int×(List DS1)×(List DS3)×Int×(List DS3)×Unit) :=
 cond (ni a1 a2 (List.length a4))
 (bX (S:=Int×(List DS3)×Int×Int×(List DS1)×(List DS3)×Int×(List DS3)×Unit) (R:=Int×(List DS1)×(List DS3)×Int×(List DS3)×Unit) (fun jY =>
 cond (iLt jY.2.2.2.1 jY.2.2.1)
 (cond (bnd jY.2.2.2.1 (aj jY.2.1))
 ((m82 jY.1 (aM .i64 (dS .i64 ((atI jY.2.1 jY.2.2.2.1 (0,0,())).2.1) ((atI jY.2.1 jY.2.2.2.1 (0,0,())).1)) 1)).bind fun a2C =>
 some (.inl (a2C.1,jY.2.1,jY.2.2.1,aM .i64 jY.2.2.2.1 1,jY.2.2.2.2.1,jY.2.2.2.2.2.1,jY.2.2.2.2.2.2.1,jY.2.2.2.2.2.2.2.1,()))) none)
 (some (.inr (jY.1,jY.2.2.2.2.1,jY.2.2.2.2.2.1,jY.2.2.2.2.2.2.1,jY.2.2.2.2.2.2.2.1,()))))
 (a0,nG a1 a2 a4,aj (nG a1 a2 a4),0,a3,a4,a5,a6,())) none
noncomputable def SF:Cfg:=⟨cO,aJ,[i82],[]⟩
def RX:Sh:=⟨4,[(1,(.int .i64)),(2,(.int .i64)),(3,(.int .i64))],[(0,.ptr 0 0 0)],[.box 84 [.d (.list tS1),.d (.list tS3),.d (.int .i64),.mp 1],.map 82 (.int .i64) (.int .i64)]⟩
def Rt:Sh:=⟨1,[(0,(.int .i64))],[],[.box 84 [.d (.list tS1),.d (.list tS3),.d (.int .i64),.mp 1],.map 82 (.int .i64) (.int .i64)]⟩
theorem a1k (x:Int×Int×Int×(List DS1)×(List DS3)×Int×(List DS3)×Unit):kD SF x81 33 [.t 8] [] RX Rt x=m81 x.1 x.2.1 x.2.2.1 x.2.2.2.1 x.2.2.2.2.1 x.2.2.2.2.2.1 x.2.2.2.2.2.2.1:=by kernel_rfl
noncomputable def h81:HI:=⟨81,RX,Rt,fun (x:Int×Int×Int×(List DS1)×(List DS3)×Int×(List DS3)×Unit)=>m81 x.1 x.2.1 x.2.2.1 x.2.2.2.1 x.2.2.2.2.1 x.2.2.2.2.2.1 x.2.2.2.2.2.2.1,[]⟩
theorem a0I:HOk Tryd.prog (gx aJ) h81:=hok mixed (aZ RB (aK _ _):aW _ (SF)) F81 (a1k)
noncomputable def x51:XC:=xoF Tryd.f51 (.d 4 (.s (.d 1 (.c (.d 1 (.s (.d 1 (.b (.l [] ⟨113,[(1,(.int .i64)),(2,(.int .i64)),(8,(.int .i64)),(10,(.int .i64)),(59,(.list (.int .i64))),(60,(.int .i64)),(61,(.int .i64))],[(0,.ptr 0 0 0),(7,.ptr 2 0 0)],[.box 84 [.d (.list tS1),.d (.list tS3),.d (.int .i64),.mp 1],.map 82 (.int .i64) (.int .i64),.box 70 [.d (.int .i64),.d (.list (.int .i64)),.d (.list (.int .i64))]]⟩ .o))) .o)) .o)) .o))
theorem F51:Fn Tryd.prog 51 113 x51.er [.t 6]:=by unfold x51;exact fnX Tryd.func51 (by kernel_rfl) (by kernel_rfl) (by kernel_rfl) (by kernel_rfl)
noncomputable def BP (self:(Int×Int×(List DS1)×(List DS3)×Int×(List DS3)×Unit)->Option (Int×(List DS1)×(List DS3)×Int×(List DS3)×Unit)) (a0:Int) (a1:Int) (a2:List DS1) (a3:List DS3) (a4:Int) (a5:List DS3):Option (Int×(List DS1)×(List DS3)×Int×(List DS3)×Unit) :=
 cond (iLt a0 0)
 ((m72 a0).bind fun a2B =>
 cond (iNe a2B.1 a4)
 (some (0,a2,a3,a4,a5,()))
 ((m81 1 a1 (aj a3) a2 a3 a4 a5).bind fun Em =>
 some (Em.1,Em.2.1,Em.2.2.1,Em.2.2.2.1,Em.2.2.2.2.1,())))
 (cond (bnd a0 (aj a2))
 (cond (not (qA iEq a0 a5))
 (cond (bnd ((atI a2 a0 (0,[],[],())).1) (aj a3))
 (bX (S:=Int×Int×Int×Int×(List Int)×Int×Int×(List DS1)×(List DS3)×Int×(List DS3)×Int×(List Int)×(List Int)×Unit) (R:=Int×(List DS1)×(List DS3)×Int×(List DS3)×Unit) (fun dA =>
 cond (iLt dA.2.2.2.2.2.2.1 dA.2.2.2.2.2.1)
 (cond (bnd dA.2.2.2.2.2.2.1 (aj dA.2.2.2.2.1))
 (cond (bnd dA.2.2.2.2.2.2.2.2.2.2.2.1 (aj dA.2.2.2.2.2.2.2.2.1))
 (cond (iLt dA.2.2.2.2.2.2.1 (aj dA.2.2.2.2.2.2.2.2.2.2.2.2.1))
 (cond (bnd dA.2.2.2.2.2.2.1 (aj dA.2.2.2.2.2.2.2.2.2.2.2.2.1))
 ((self (atI dA.2.2.2.2.1 dA.2.2.2.2.2.2.1 0,aM .i64 dA.2.2.2.2.2.2.2.2.2.2.2.1 1,dA.2.2.2.2.2.2.2.1,dA.2.2.2.2.2.2.2.2.1,dA.2.2.2.2.2.2.2.2.2.1,dA.2.2.2.2.2.2.2.2.2.2.1,())).bind fun El =>
 (m82 El.1 (dS .i64 (atI dA.2.2.2.2.2.2.2.2.2.2.2.2.1 dA.2.2.2.2.2.2.1 0) dA.2.2.2.1)).bind fun a2A =>
 some (.inl (dA.1,dA.2.1,kP (aM .i64 dA.2.2.1 a2A.1) 17592186044416,atI dA.2.2.2.2.2.2.2.2.2.2.2.2.1 dA.2.2.2.2.2.2.1 0,dA.2.2.2.2.1,dA.2.2.2.2.2.1,aM .i64 dA.2.2.2.2.2.2.1 1,El.2.1,El.2.2.1,El.2.2.2.1,El.2.2.2.2.1,dA.2.2.2.2.2.2.2.2.2.2.2.1,dA.2.2.2.2.2.2.2.2.2.2.2.2.1,dA.2.2.2.2.2.2.2.2.2.2.2.2.2.1,()))) none)
 ((self (atI dA.2.2.2.2.1 dA.2.2.2.2.2.2.1 0,aM .i64 dA.2.2.2.2.2.2.2.2.2.2.2.1 1,dA.2.2.2.2.2.2.2.1,dA.2.2.2.2.2.2.2.2.1,dA.2.2.2.2.2.2.2.2.2.1,dA.2.2.2.2.2.2.2.2.2.2.1,())).bind fun Ej =>
 (m82 Ej.1 (dS .i64 (aM .i64 ((atI dA.2.2.2.2.2.2.2.2.1 dA.2.2.2.2.2.2.2.2.2.2.2.1 (0,0,())).2.1) 1) dA.2.2.2.1)).bind fun a2z =>
 some (.inl (dA.1,dA.2.1,kP (aM .i64 dA.2.2.1 a2z.1) 17592186044416,aM .i64 ((atI dA.2.2.2.2.2.2.2.2.1 dA.2.2.2.2.2.2.2.2.2.2.2.1 (0,0,())).2.1) 1,dA.2.2.2.2.1,dA.2.2.2.2.2.1,aM .i64 dA.2.2.2.2.2.2.1 1,Ej.2.1,Ej.2.2.1,Ej.2.2.2.1,Ej.2.2.2.2.1,dA.2.2.2.2.2.2.2.2.2.2.2.1,dA.2.2.2.2.2.2.2.2.2.2.2.2.1,dA.2.2.2.2.2.2.2.2.2.2.2.2.2.1,())))) none) none)
 (Option.map Sum.inr ((m81 dA.2.2.1 dA.2.1 dA.2.2.2.2.2.2.2.2.2.2.2.1 dA.2.2.2.2.2.2.2.1 dA.2.2.2.2.2.2.2.2.1 dA.2.2.2.2.2.2.2.2.2.1 (jJ iEq dA.1 dA.2.2.1 dA.2.2.2.2.2.2.2.2.2.2.1)).bind fun Ei =>
 some (Ei.1,Ei.2.1,Ei.2.2.1,Ei.2.2.2.1,Ei.2.2.2.2.1,()))))
 (a0,a1,jw iEq a0 a5 0,(atI a3 ((atI a2 a0 (0,[],[],())).1) (0,0,())).1,(atI a2 a0 (0,[],[],())).2.2.1,aj ((atI a2 a0 (0,[],[],())).2.2.1),0,a2,a3,a4,a5,(atI a2 a0 (0,[],[],())).1,(atI a2 a0 (0,[],[],())).2.1,(atI a2 a0 (0,[],[],())).2.2.1,())) none)
 ((m81 (jw iEq a0 a5 0) a1 ((atI a2 a0 (0,[],[],())).1) a2 a3 a4 a5).bind fun Eh =>
 some (Eh.1,Eh.2.1,Eh.2.2.1,Eh.2.2.2.1,Eh.2.2.2.2.1,()))) none)
def DZ:Sh:=⟨3,[(1,(.int .i64)),(2,(.int .i64))],[(0,.ptr 0 0 0)],[.box 84 [.d (.list tS1),.d (.list tS3),.d (.int .i64),.mp 1],.map 82 (.int .i64) (.int .i64)]⟩
def DN:Sh:=⟨1,[(0,(.int .i64))],[],[.box 84 [.d (.list tS1),.d (.list tS3),.d (.int .i64),.mp 1],.map 82 (.int .i64) (.int .i64)]⟩
noncomputable def Td (self:(Int×Int×(List DS1)×(List DS3)×Int×(List DS3)×Unit)->Option (Int×(List DS1)×(List DS3)×Int×(List DS3)×Unit)):Cfg:=⟨cO,aJ,[i72,i82],[⟨51,DZ,DN,self,[]⟩,h81]⟩
theorem a1z (self:(Int×Int×(List DS1)×(List DS3)×Int×(List DS3)×Unit)->Option (Int×(List DS1)×(List DS3)×Int×(List DS3)×Unit)) (x:Int×Int×(List DS1)×(List DS3)×Int×(List DS3)×Unit):kD (Td self) x51 113 [.t 6] [] DZ DN x=BP self x.1 x.2.1 x.2.2.1 x.2.2.2.1 x.2.2.2.2.1 x.2.2.2.2.2.1:=by kernel_rfl
noncomputable def m51 (a0:Int) (a1:Int) (a2:List DS1) (a3:List DS3) (a4:Int) (a5:List DS3):Option (Int×(List DS1)×(List DS3)×Int×(List DS3)×Unit):=qG (fun self (x:Int×Int×(List DS1)×(List DS3)×Int×(List DS3)×Unit)=>BP self x.1 x.2.1 x.2.2.1 x.2.2.2.1 x.2.2.2.2.1 x.2.2.2.2.2.1) (a0,a1,a2,a3,a4,a5,())
noncomputable def h51:HI:=⟨51,DZ,DN,fun (x:Int×Int×(List DS1)×(List DS3)×Int×(List DS3)×Unit)=>m51 x.1 x.2.1 x.2.2.1 x.2.2.2.1 x.2.2.2.2.1 x.2.2.2.2.2.1,[]⟩
theorem RN:HOk Tryd.prog (gx aJ) h51:=yc (f:=51) (ish:=DZ) (osh:=DN) (G:=fun self (x:Int×Int×(List DS1)×(List DS3)×Int×(List DS3)×Unit)=>BP self x.1 x.2.1 x.2.2.1 x.2.2.2.1 x.2.2.2.2.1 x.2.2.2.2.2.1) F51.callable (fun run hr=>hok mixed (aZ K8 (aZ RB (gT hr (gT a0I (aK _ _)))):aW _ (Td run)) F51 (a1z run))
noncomputable def x21:XC:=xoF Tryd.f21 (.d 6 (.s (.d 1 (.b (.l [] ⟨95,[(44,(.list tS3)),(45,(.int .i64)),(46,(.int .i64))],[(4,.ptr 0 0 0),(9,.ptr 1 0 0),(10,.row 2)],[.box 28 [.d (.list tS1),.d (.int .i64)],.box 84 [.d (.list tS1),.d (.list tS3),.d (.int .i64),.mp 3],.row 3 (.int .i64) false,.map 82 (.int .i64) (.int .i64)]⟩ .o))) (.d 1 (.s (.b (.l [] ⟨95,[(13,(.int .i64))],[(4,.ptr 0 0 0),(9,.ptr 1 0 0),(10,.row 2)],[.box 28 [.d (.list tS1),.d (.int .i64)],.box 84 [.d (.list tS1),.d (.list tS3),.d (.int .i64),.mp 3],.row 3 (.int .i64) false,.map 82 (.int .i64) (.int .i64)]⟩ (.d 1 (.b (.d 2 (.b (.l [] ⟨95,[(13,(.int .i64)),(67,(.list (.int .i64))),(68,(.int .i64)),(69,(.int .i64))],[(4,.ptr 0 0 0),(9,.ptr 1 0 0),(10,.row 2),(14,.ptr 3 0 0)],[.box 28 [.d (.list tS1),.d (.int .i64)],.box 84 [.d (.list tS1),.d (.list tS3),.d (.int .i64),.mp 4],.row 3 (.int .i64) false,.box 70 [.d (.int .i64),.d (.list (.int .i64)),.d (.list (.int .i64))],.map 82 (.int .i64) (.int .i64)]⟩ .o))))))) .o))))
theorem F21:Fn Tryd.prog 21 95 x21.er [.t 6,.t 7]:=by unfold x21;exact fnX Tryd.func21 (by kernel_rfl) (by kernel_rfl) (by kernel_rfl) (by kernel_rfl)
noncomputable def m21 (a0:DS5) (a1:DS2) (a2:Int):Option ((List Int)×Bool×Unit) :=
 cond (cond (iLt a2 0) true (iLt 255 a2))
 (some (([]:List Int),false,()))
 ((m31 (a0.1,()) (a1.1,a1.2.1,())).bind fun a2y =>
 cond (not a2y.1)
 (some (([]:List Int),false,()))
 ((m50 (a0.1,())).bind fun Ef =>
 (m51 a1.2.1 0 a1.1 Ef.1 a2 ([]:List DS3)).bind fun Ee =>
 cond (iEq Ee.1 0)
 (some (([]:List Int),false,()))
 (cond (lX (aj Ef.1) 8)
 (bX (S:=(List DS3)×Int×Int×(List DS1)×Int×(List DS1)×(List DS3)×Int×(List Int)×(List DS3)×Unit) (R:=(List Int)×Bool×Unit) (fun iH =>
 cond (iLt iH.2.2.1 iH.2.1)
 (cond (bnd iH.2.2.1 (aj iH.1))
 (cond (bnd iH.2.2.1 (aj iH.2.2.2.2.2.2.2.2.1))
 (cond (inB (Int.toNat iH.2.2.1) iH.2.2.2.2.2.2.2.2.1)
 (some (.inl (iH.1,iH.2.1,aM .i64 iH.2.2.1 1,iH.2.2.2.1,iH.2.2.2.2.1,iH.2.2.2.2.2.1,iH.2.2.2.2.2.2.1,iH.2.2.2.2.2.2.2.1,List.set iH.2.2.2.2.2.2.2.2.1 (Int.toNat iH.2.2.1) ((atI iH.1 iH.2.2.1 (0,0,())).1),iH.2.2.2.2.2.2.2.2.2.1,()))) none) none) none)
 (Option.map Sum.inr (bX (S:=Int×(List DS1)×Int×(List DS1)×(List DS3)×Int×(List Int)×(List DS3)×Unit) (R:=(List Int)×Bool×Unit) (fun jH =>
 cond (iLe 0 jH.1)
 (cond (bnd jH.1 (aj jH.2.1))
 (bX (S:=Int×(List Int)×Int×Int×(List DS1)×Int×(List DS1)×(List DS3)×Int×(List Int)×Int×(List Int)×(List Int)×(List DS3)×Unit) (R:=(Int×(List DS1)×Int×(List DS1)×(List DS3)×Int×(List Int)×(List DS3)×Unit)⊕((List Int)×Bool×Unit)) (fun eT =>
 cond (iLt eT.2.2.2.1 eT.2.2.1)
 (cond (bnd eT.2.2.2.1 (aj eT.2.1))
 ((m51 (atI eT.2.1 eT.2.2.2.1 0) (aM .i64 eT.2.2.2.2.2.2.2.2.2.2.1 1) eT.2.2.2.2.2.2.1 eT.2.2.2.2.2.2.2.1 eT.2.2.2.2.2.2.2.2.1 eT.2.2.2.2.2.2.2.2.2.2.2.2.2.1).bind fun oF =>
 cond (iEq oF.1 0)
 (some (.inl (eT.1,eT.2.1,eT.2.2.1,aM .i64 eT.2.2.2.1 1,eT.2.2.2.2.1,eT.2.2.2.2.2.1,oF.2.1,oF.2.2.1,oF.2.2.2.1,eT.2.2.2.2.2.2.2.2.2.1,eT.2.2.2.2.2.2.2.2.2.2.1,eT.2.2.2.2.2.2.2.2.2.2.2.1,eT.2.2.2.2.2.2.2.2.2.2.2.2.1,oF.2.2.2.2.1,())))
 (cond (iLt 0 eT.2.2.2.1)
 (cond (bnd (dS .i64 eT.2.2.2.1 1) (aj eT.2.2.2.2.2.2.2.2.2.2.2.1))
 (cond (bnd eT.2.2.2.2.2.2.2.2.2.2.1 (aj eT.2.2.2.2.2.2.2.2.2.1))
 (cond (inB (Int.toNat eT.2.2.2.2.2.2.2.2.2.2.1) eT.2.2.2.2.2.2.2.2.2.1)
 (some (.inr (.inl (atI eT.2.1 eT.2.2.2.1 0,eT.2.2.2.2.1,eT.2.2.2.2.2.1,oF.2.1,oF.2.2.1,oF.2.2.2.1,List.set eT.2.2.2.2.2.2.2.2.2.1 (Int.toNat eT.2.2.2.2.2.2.2.2.2.2.1) (atI eT.2.2.2.2.2.2.2.2.2.2.2.1 (dS .i64 eT.2.2.2.1 1) 0),oF.2.2.2.2.1,())))) none) none) none)
 (some (.inr (.inl (atI eT.2.1 eT.2.2.2.1 0,eT.2.2.2.2.1,eT.2.2.2.2.2.1,oF.2.1,oF.2.2.1,oF.2.2.2.1,eT.2.2.2.2.2.2.2.2.2.1,oF.2.2.2.2.1,())))))) none)
 (some (.inr (.inl (eT.1,eT.2.2.2.2.1,eT.2.2.2.2.2.1,eT.2.2.2.2.2.2.1,eT.2.2.2.2.2.2.2.1,eT.2.2.2.2.2.2.2.2.1,eT.2.2.2.2.2.2.2.2.2.1,eT.2.2.2.2.2.2.2.2.2.2.2.2.2.1,())))))
 (jH.1,(atI jH.2.1 jH.1 (0,[],[],())).2.2.1,aj ((atI jH.2.1 jH.1 (0,[],[],())).2.2.1),0,jH.2.1,jH.2.2.1,jH.2.2.2.1,jH.2.2.2.2.1,jH.2.2.2.2.2.1,jH.2.2.2.2.2.2.1,(atI jH.2.1 jH.1 (0,[],[],())).1,(atI jH.2.1 jH.1 (0,[],[],())).2.1,(atI jH.2.1 jH.1 (0,[],[],())).2.2.1,jH.2.2.2.2.2.2.2.1,())) none)
 (some (.inr (jH.2.2.2.2.2.2.1,true,()))))
 (iH.2.2.2.2.1,iH.2.2.2.1,iH.2.2.2.2.1,iH.2.2.2.2.2.1,iH.2.2.2.2.2.2.1,iH.2.2.2.2.2.2.2.1,iH.2.2.2.2.2.2.2.2.1,iH.2.2.2.2.2.2.2.2.2.1,()))))
 (Ef.1,aj Ef.1,0,a1.1,a1.2.1,Ee.2.1,Ee.2.2.1,Ee.2.2.2.1,(List.replicate (Int.toNat (aj Ef.1)) 0:List Int),Ee.2.2.2.2.1,())) none)))
noncomputable def TF:Cfg:=⟨cO,aJ,[i31,i50],[h51]⟩
theorem a1R (x:DS5×DS2×Int×Unit):dR TF x21 95 [.t 6,.t 7] [tS5,tS2,(.int .i64)] [(.list (.int .i64)),.bool] x=m21 x.1 x.2.1 x.2.2.1:=by kernel_rfl
noncomputable def i21:PI:=⟨21,[tS5,tS2,(.int .i64)],[(.list (.int .i64)),.bool],fun (x:DS5×DS2×Int×Unit)=>m21 x.1 x.2.1 x.2.2.1⟩
theorem a0C:POk Tryd.prog (gx aJ) i21:=pok mixed (aZ DT (aZ K9 (gT RN (aK _ _))):aW _ (TF)) F21 (a1R)
noncomputable def x26:XC:=xoF Tryd.f26 .o
theorem F26:Fn Tryd.prog 26 30 x26.er [.t 6]:=by unfold x26;exact fnX Tryd.func26 (by kernel_rfl) (by kernel_rfl) (by kernel_rfl) (by kernel_rfl)
noncomputable def m26 (a0:DS5) (a1:DS2) (a2:Int):Option (Int×Unit) :=
 cond (cond (iLt a2 0) true (iLt 255 a2))
 (some (0,()))
 ((m31 (a0.1,()) (a1.1,a1.2.1,())).bind fun a2x =>
 cond (not a2x.1)
 (some (0,()))
 ((m50 (a0.1,())).bind fun a2w =>
 (m51 a1.2.1 0 a1.1 a2w.1 a2 ([]:List DS3)).bind fun a2v =>
 some (a2v.1,())))
noncomputable def TA:Cfg:=⟨cO,aJ,[i31,i50],[h51]⟩
theorem a1O (x:DS5×DS2×Int×Unit):dR TA x26 30 [.t 6] [tS5,tS2,(.int .i64)] [(.int .i64)] x=m26 x.1 x.2.1 x.2.2.1:=by kernel_rfl
noncomputable def i26:PI:=⟨26,[tS5,tS2,(.int .i64)],[(.int .i64)],fun (x:DS5×DS2×Int×Unit)=>m26 x.1 x.2.1 x.2.2.1⟩
theorem a0B:POk Tryd.prog (gx aJ) i26:=pok mixed (aZ DT (aZ K9 (gT RN (aK _ _))):aW _ (TA)) F26 (a1O)
noncomputable def x11:XC:=xoF Tryd.f11 .o
theorem F11:Fn Tryd.prog 11 53 x11.er [.t 0]:=by unfold x11;exact fnX Tryd.func11 (by kernel_rfl) (by kernel_rfl) (by kernel_rfl) (by kernel_rfl)
noncomputable def m11:Option (Bool×Unit) :=
 (m12 (([((bs [120]),2,([]:List ByteArray),1,9,())]:List DS0),()) 0 3 20).bind fun tu =>
 (m21 (([((bs [120]),2,([]:List ByteArray),1,9,())]:List DS0),()) (tu.1.1,tu.1.2.1,()) 1).bind fun Bn =>
 cond (or (bnd 0 (aj Bn.1)) (not (bEq (cond (cond (cond (cond (iEq tu.2.1 0) (iEq (aj tu.1.1) 1) false) (iEq tu.1.2.1 0) false) Bn.2.1 false) (iEq (aj Bn.1) 1) false) true)))
 (cond (cond (cond (cond (cond (cond (iEq tu.2.1 0) (iEq (aj tu.1.1) 1) false) (iEq tu.1.2.1 0) false) Bn.2.1 false) (iEq (aj Bn.1) 1) false) (iEq (atI Bn.1 0 0) 3) false)
 ((m26 (([((bs [120]),2,([]:List ByteArray),1,9,())]:List DS0),()) (tu.1.1,tu.1.2.1,()) 1).bind fun a2u =>
 some (iEq a2u.1 7,()))
 (some (false,()))) none
noncomputable def TN:Cfg:=⟨cO,aJ,[i12,i21,i26],[]⟩
theorem a1Z (x:Unit):dR TN x11 53 [.t 0] [] [.bool] x=m11:=by kernel_rfl
noncomputable def i11:PI:=⟨11,[],[.bool],fun (x:Unit)=>m11⟩
theorem a0H:POk Tryd.prog (gx aJ) i11:=pok mixed (aZ a0G (aZ a0C (aZ a0B (aK _ _))):aW _ (TN)) F11 (a1Z)
noncomputable def x14:XC:=xoF Tryd.f14 (.d 2 (.s (.d 1 (.b (.l [] ⟨72,[(5,(.int .i64))],[(2,.ptr 0 0 0),(3,.ptr 1 0 0)],[.box 28 [.d (.list tS1),.d (.int .i64)],.box 28 [.d (.list tS1),.d (.int .i64)]]⟩ .o))) .o))
theorem F14:Fn Tryd.prog 14 72 x14.er [.t 4]:=by unfold x14;exact fnX Tryd.func14 (by kernel_rfl) (by kernel_rfl) (by kernel_rfl) (by kernel_rfl)
noncomputable def m14 (a0:DS2) (a1:DS2):Option (Bool×Unit) :=
 cond (cond (iNe a0.2.1 a1.2.1) true (iNe (aj a0.1) (aj a1.1)))
 (some (false,()))
 (bX (S:=Int×(List DS1)×Int×(List DS1)×Int×Unit) (R:=Bool×Unit) (fun fF =>
 cond (iLt fF.1 (aj fF.2.1))
 (cond (bnd fF.1 (aj fF.2.1))
 (cond (bnd fF.1 (aj fF.2.2.2.1))
 (cond (or (bnd fF.1 (aj fF.2.1)) (not (bEq (iNe ((atI fF.2.1 fF.1 (0,[],[],())).1) ((atI fF.2.2.2.1 fF.1 (0,[],[],())).1)) false)))
 (cond (or (bnd fF.1 (aj fF.2.2.2.1)) (not (bEq (iNe ((atI fF.2.1 fF.1 (0,[],[],())).1) ((atI fF.2.2.2.1 fF.1 (0,[],[],())).1)) false)))
 (cond (iNe ((atI fF.2.1 fF.1 (0,[],[],())).1) ((atI fF.2.2.2.1 fF.1 (0,[],[],())).1))
 (cond (or (bnd fF.1 (aj fF.2.1)) (not (bEq true false)))
 (cond (or (bnd fF.1 (aj fF.2.2.2.1)) (not (bEq true false)))
 (some (.inr (false,()))) none) none)
 ((m23 ((atI fF.2.1 fF.1 (0,[],[],())).2.1) ((atI fF.2.2.2.1 fF.1 (0,[],[],())).2.1)).bind fun O8 =>
 cond (or (bnd fF.1 (aj fF.2.1)) (not (bEq (not O8.1) false)))
 (cond (or (bnd fF.1 (aj fF.2.2.2.1)) (not (bEq (not O8.1) false)))
 (cond (not O8.1)
 (some (.inr (false,())))
 ((m23 ((atI fF.2.1 fF.1 (0,[],[],())).2.2.1) ((atI fF.2.2.2.1 fF.1 (0,[],[],())).2.2.1)).bind fun a2t =>
 cond (not a2t.1)
 (some (.inr (false,())))
 (some (.inl (aM .i64 fF.1 1,fF.2.1,fF.2.2.1,fF.2.2.2.1,fF.2.2.2.2.1,()))))) none) none)) none) none) none) none)
 (some (.inr (true,()))))
 (0,a0.1,a0.2.1,a1.1,a1.2.1,()))
noncomputable def TL:Cfg:=⟨cO,aJ,[i23],[]⟩
theorem a1X (x:DS2×DS2×Unit):dR TL x14 72 [.t 4] [tS2,tS2] [.bool] x=m14 x.1 x.2.1:=by kernel_rfl
noncomputable def i14:PI:=⟨14,[tS2,tS2],[.bool],fun (x:DS2×DS2×Unit)=>m14 x.1 x.2.1⟩
theorem a0F:POk Tryd.prog (gx aJ) i14:=pok mixed (aZ RI (aK _ _):aW _ (TL)) F14 (a1X)
noncomputable def x9:XC:=xoF Tryd.f9 (.d 3 (.s (.u [1]) .o))
theorem F9:Fn Tryd.prog 9 148 x9.er [.t 4]:=by unfold x9;exact fnX Tryd.func9 (by kernel_rfl) (by kernel_rfl) (by kernel_rfl) (by kernel_rfl)
noncomputable def m9 (a0:Int) (a1:List Int):Option (Bool×Unit) :=
 (m15 a0).bind fun tq =>
 (m19 a1).bind fun WI =>
 (m18 (tq.1.1,()) 2 WI.1 WI.2.1).bind fun sZ =>
 (m18 (tq.1.1,()) 2 sZ.2.2.1 sZ.2.2.2.1).bind fun Bl =>
 (m17 1).bind fun Bj =>
 (m33 (tq.1.1,()) (sZ.1,sZ.2.1,()) (Bl.1,Bl.2.1,()) 1).bind fun qo =>
 (m33 (tq.1.1,()) (Bl.1,Bl.2.1,()) (sZ.1,sZ.2.1,()) 1).bind fun Jr =>
 (m33 (tq.1.1,()) (qo.1.1,qo.1.2.1,()) (sZ.1,sZ.2.1,()) 1).bind fun Jq =>
 (m33 (tq.1.1,()) (sZ.1,sZ.2.1,()) (Bj.1.1,Bj.1.2.1,()) 3).bind fun O7 =>
 (m33 (tq.1.1,()) (Bl.1,Bl.2.1,()) (Bj.1.1,Bj.1.2.1,()) 3).bind fun O6 =>
 (m33 (tq.1.1,()) (O7.1.1,O7.1.2.1,()) (O6.1.1,O6.1.2.1,()) 2).bind fun Jp =>
 (m33 (tq.1.1,()) (Jp.1.1,Jp.1.2.1,()) (Bj.1.1,Bj.1.2.1,()) 3).bind fun O5 =>
 cond (cond (cond (cond (cond (cond (cond (iNe qo.2.1 0) true (iNe Jr.2.1 0)) true (iNe Jq.2.1 0)) true (iNe O7.2.1 0)) true (iNe O6.2.1 0)) true (iNe Jp.2.1 0)) true (iNe O5.2.1 0))
 (cond (cond (cond (cond (iEq qo.2.1 4) true (iEq Jr.2.1 4)) true (iEq Jq.2.1 4)) true (iEq Jp.2.1 4))
 ((m11).bind fun a2s =>
 some (a2s.1,()))
 (some (false,())))
 ((m14 (qo.1.1,qo.1.2.1,()) (Jr.1.1,Jr.1.2.1,())).bind fun a2r =>
 cond a2r.1
 ((m14 (qo.1.1,qo.1.2.1,()) (Jq.1.1,Jq.1.2.1,())).bind fun a2q =>
 cond a2q.1
 ((m14 (qo.1.1,qo.1.2.1,()) (O5.1.1,O5.1.2.1,())).bind fun a2p =>
 cond a2p.1
 ((m31 (tq.1.1,()) (qo.1.1,qo.1.2.1,())).bind fun a2o =>
 cond a2o.1
 ((m11).bind fun a2n =>
 some (a2n.1,()))
 (some (false,())))
 (some (false,())))
 (some (false,())))
 (some (false,())))
noncomputable def Zk:Cfg:=⟨cO,aJ,[i11,i14,i15,i17,i31,i33],[h18,h19]⟩
theorem a3P (x:Int×(List Int)×Unit):dR Zk x9 148 [.t 4] [(.int .i64),(.list (.int .i64))] [.bool] x=m9 x.1 x.2.1:=by kernel_rfl
noncomputable def i9:PI:=⟨9,[(.int .i64),(.list (.int .i64))],[.bool],fun (x:Int×(List Int)×Unit)=>m9 x.1 x.2.1⟩
theorem a3r:POk Tryd.prog (gx aJ) i9:=pok mixed (aZ a0H (aZ a0F (aZ a0E (aZ RJ (aZ DT (aZ a0A (gT a0O (gT a0N (aK _ _)))))))):aW _ (Zk)) F9 (a3P)
end Abs
end Go.Proofs.YtgfnhpadmifiiaaDoor
