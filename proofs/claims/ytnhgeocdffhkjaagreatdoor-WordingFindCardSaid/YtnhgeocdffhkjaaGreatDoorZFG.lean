/- Merged and trimmed by a program: Models. -/
import Derived.Test.YtnhgeocdffhkjaaGreatDoorZFF
import Derived.Test.YtnhgeocdffhkjaaGreatDoorProg
import Derived.KernelRfl
set_option linter.unusedVariables false
set_option linter.unusedSimpArgs false
set_option linter.defProp false
namespace Go.Proofs.YtnhgeocdffhkjaaGreatDoor
namespace Abs
set_option maxRecDepth 100000
theorem mixed:Tryz.prog.follows .mixedOrders=true:=by kernel_rfl
abbrev tS0:Ty:=.tup [(.int .i64),.str,(.list .str),(.int .i64),(.int .i64),(.rl 34 6)]
abbrev DS0:Type:=Int × ByteArray × (List ByteArray) × Int × Int × (List AV) × Unit
noncomputable def encS0 (x:List DS0):List AV:=encDs tS0 x
noncomputable def decS0 (x:AV):DS0:=decD tS0 x
noncomputable def okS0 (x:AV):Bool:=okD tS0 x
abbrev tS1:Ty:=.tup [(.int .i64),.str,tS0,(.rl 63 8),(.int .i64)]
abbrev DS1:Type:=Int × ByteArray × DS0 × (List AV) × Int × Unit
abbrev tS2:Ty:=.tup [(.int .i64),(.int .i64)]
abbrev DS2:Type:=Int × Int × Unit
abbrev tS3:Ty:=.tup [tS2,(.list .str),(.list tS1)]
abbrev DS3:Type:=DS2 × (List ByteArray) × (List DS1) × Unit
abbrev tS4:Ty:=.tup [(.list tS1),(.list tS3)]
abbrev DS4:Type:=(List DS1) × (List DS3) × Unit
abbrev tS5:Ty:=.tup [.str,(.int .i64),(.list .str),(.int .i64),(.int .i64)]
abbrev DS5:Type:=ByteArray × Int × (List ByteArray) × Int × Int × Unit
abbrev tS6:Ty:=.tup [(.list tS5)]
abbrev DS6:Type:=(List DS5) × Unit
abbrev tS7:Ty:=.tup [.str,tS0,(.rl 63 8)]
abbrev DS7:Type:=ByteArray × DS0 × (List AV) × Unit
noncomputable def encS7 (x:List DS7):List AV:=encDs tS7 x
noncomputable def decS7 (x:AV):DS7:=decD tS7 x
noncomputable def okS7 (x:AV):Bool:=okD tS7 x
abbrev tS8:Ty:=.tup [.str,.bool,(.int .i64),(.int .i64),(.int .i64)]
abbrev DS8:Type:=ByteArray × Bool × Int × Int × Int × Unit
abbrev tS9:Ty:=.tup [tS8,tS8,tS8,tS8,tS8,tS8,tS8,tS8,tS8]
abbrev DS9:Type:=DS8 × DS8 × DS8 × DS8 × DS8 × DS8 × DS8 × DS8 × DS8 × Unit
abbrev tS10:Ty:=.tup [(.int .i64),(.int .i64),(.int .i64),(.int .i64),(.int .i64),(.int .i64),(.int .i64),(.int .i64),(.int .i64),(.int .i64),(.int .i64),(.int .i64)]
abbrev DS10:Type:=Int × Int × Int × Int × Int × Int × Int × Int × Int × Int × Int × Int × Unit
instance (n:Nat):OfNat Opd n:=⟨.t n⟩
def ttab:Nat→Option Ty:=fun n=>if Nat.beq n 3=true then some (.int .i64) else if Nat.beq n 4=true then some .bool else if Nat.beq n 5=true then some (.int .u8) else if Nat.beq n 9=true then some .str else if Nat.beq n 34=true then some tS0 else if Nat.beq n 37=true then some tS1 else if Nat.beq n 55=true then some tS3 else if Nat.beq n 63=true then some tS7 else if Nat.beq n 106=true then some tS5 else none
def gtab:GXT:=fun n=>if Nat.beq n 0=true then some ⟨tS9,(show DS9 from (((bs []),false,0,0,0,()),((bs [116,114,117,101]),false,0,0,0,()),((bs [102,97,108,115,101]),false,0,0,0,()),((bs []),true,0,0,0,()),((bs [105,110]),true,0,0,0,()),((bs [102,114,111,109]),true,0,0,0,()),((bs [110,111,116]),false,1,1,3,()),((bs [97,110,100]),false,2,300,2,()),((bs [111,114]),false,2,300,1,()),()))⟩ else if Nat.beq n 1=true then some ⟨tS10,(show DS10 from (31,28,31,30,31,30,31,31,30,31,30,31,()))⟩ else none
def hcl:List Nat:=[13,14,22,24,37,38,39,40,41,42,47,48,49,66,67,69,70,71,81,82,83,84,85,87,88,90,94,108,123,124,125,126,127,128,129,130,131,132,133,145,160,161,162,163,164,191,200,201,202,203,204,205,206,215,216,217,218,219,225,234,235,236,237,238,241]
noncomputable def xoF (f:Func) (a:AT):XC:=xo Tryz.prog hcl f a
theorem fnX {f n:Nat} {fn:Func} {a:AT} {rs:List RV} (h1:Tryz.prog.funcs[f]?=some fn) (h2:(fn.body.bind (cC Tryz.prog hcl)).isSome=true) (h3:cRes Tryz.prog fn.results.toList=some rs) (h4:fn.ntmps=n) (h5:callable Tryz.prog f=true):Fn Tryz.prog f n (xoF fn a).er rs:=⟨fn,hcl,h1,xo_er h2,h3,h4,h5⟩
theorem oki7:POk Tryz.prog (gx gtab) i7:=awk_ok (by kernel_rfl) (by kernel_rfl)
noncomputable def x8:XC:=xoF Tryz.f8 (.d 1 (.s (.d 1 (.b (.l [] ⟨21,[(1,.str),(8,(.list tS1)),(9,(.int .i64)),(10,(.int .i64))],[],[]⟩ .o))) .o))
theorem F8:Fn Tryz.prog 8 21 x8.er [.t 4,.t 5]:=by unfold x8; exact fnX Tryz.func8 (by kernel_rfl) (by kernel_rfl) (by kernel_rfl) (by kernel_rfl)
noncomputable def m8 (a0:List DS1) (a1:ByteArray):Option (Int × Bool × Unit) :=
 loopO (S:=ByteArray × (List DS1) × Int × Int × Unit) (R:=Int × Bool × Unit) (fun s4 =>
 cond (iLt s4.2.2.2.1 s4.2.2.1)
 (cond (bnd s4.2.2.2.1 (lenI s4.2.1))
 (cond (sEq ((atI s4.2.1 s4.2.2.2.1 (0,ByteArray.empty,(0,ByteArray.empty,[],0,0,[],()),[],0,())).2.1) s4.1)
 (some (.inr (s4.2.2.2.1,true,())))
 (some (.inl (s4.1,s4.2.1,s4.2.2.1,iAdd .i64 s4.2.2.2.1 1,())))) none)
 (some (.inr (0,false,()))))
 (a1,a0,lenI a0,0,())
noncomputable def cfg8:Cfg:=⟨ttab,gtab,[],[]⟩
theorem eqn8 (x:(List DS1) × ByteArray × Unit):xfun cfg8 x8 21 [.t 4,.t 5] [(.list tS1),.str] [(.int .i64),.bool] x=m8 x.1 x.2.1:=by kernel_rfl
noncomputable def i8:PI:=⟨8,[(.list tS1),.str],[(.int .i64),.bool],fun (x:(List DS1) × ByteArray × Unit)=>m8 x.1 x.2.1⟩
theorem oki8:POk Tryz.prog (gx gtab) i8:=pok mixed (cfg_nil _ _:CfgOk _ (cfg8)) F8 (eqn8)
noncomputable def x9:XC:=xoF Tryz.f9 (.d 1 (.s (.d 1 (.b (.l [] ⟨21,[(0,(.list tS1)),(1,.str),(6,(.int .i64))],[],[]⟩ .o))) .o))
theorem F9:Fn Tryz.prog 9 21 x9.er [.t 4,.t 5]:=by unfold x9; exact fnX Tryz.func9 (by kernel_rfl) (by kernel_rfl) (by kernel_rfl) (by kernel_rfl)
noncomputable def m9 (a0:List DS1) (a1:ByteArray):Option (Int × Bool × Unit) :=
 loopO (S:=(List DS1) × ByteArray × Int × Unit) (R:=Int × Bool × Unit) (fun s7 =>
 cond (iLt s7.2.2.1 (lenI s7.1))
 (cond (bnd s7.2.2.1 (lenI s7.1))
 (cond (sEq ((atI s7.1 s7.2.2.1 (0,ByteArray.empty,(0,ByteArray.empty,[],0,0,[],()),[],0,())).2.1) s7.2.1)
 (some (.inr (s7.2.2.1,true,())))
 (some (.inl (s7.1,s7.2.1,iAdd .i64 s7.2.2.1 1,())))) none)
 (some (.inr (0,false,()))))
 (a0,a1,0,())
noncomputable def cfg9:Cfg:=⟨ttab,gtab,[],[]⟩
theorem eqn9 (x:(List DS1) × ByteArray × Unit):xfun cfg9 x9 21 [.t 4,.t 5] [(.list tS1),.str] [(.int .i64),.bool] x=m9 x.1 x.2.1:=by kernel_rfl
noncomputable def i9:PI:=⟨9,[(.list tS1),.str],[(.int .i64),.bool],fun (x:(List DS1) × ByteArray × Unit)=>m9 x.1 x.2.1⟩
theorem oki9:POk Tryz.prog (gx gtab) i9:=pok mixed (cfg_nil _ _:CfgOk _ (cfg9)) F9 (eqn9)
noncomputable def x14:XC:=xoF Tryz.f14 .o
theorem F14:Fn Tryz.prog 14 6 x14.er [.t 2]:=by unfold x14; exact fnX Tryz.func14 (by kernel_rfl) (by kernel_rfl) (by kernel_rfl) (by kernel_rfl)
noncomputable def m14 (a0:List Int):Option ((List Int) × Int × Unit) :=
 some (a0,0,())
noncomputable def cfg14:Cfg:=⟨ttab,gtab,[],[]⟩
def ish14:Sh:=⟨1,[(0,(.list (.int .i64)))],[],[]⟩
def osh14:Sh:=⟨1,[],[(0,.ptr 0 0 0)],[.box 65 [.d (.list (.int .i64)),.d (.int .i64)]]⟩
theorem eqn14 (x:(List Int) × Unit):xfunH cfg14 x14 6 [.t 2] [] ish14 osh14 x=m14 x.1:=by kernel_rfl
noncomputable def h14:HI:=⟨14,ish14,osh14,fun (x:(List Int) × Unit)=>m14 x.1,[]⟩
theorem okh14:HOk Tryz.prog (gx gtab) h14:=hok mixed (cfg_nil _ _:CfgOk _ (cfg14)) F14 (eqn14)
noncomputable def x24:XC:=xoF Tryz.f24 .o
theorem F24:Fn Tryz.prog 24 39 x24.er [.t 4]:=by unfold x24; exact fnX Tryz.func24 (by kernel_rfl) (by kernel_rfl) (by kernel_rfl) (by kernel_rfl)
noncomputable def m24 (a0:Int) (a1:List Int) (a2:Int):Option (Int × (List Int) × Int × Unit) :=
 cond (iLe (lenI a1) a2)
 (some (0,a1,a2,()))
 (cond (bnd (iSub .i64 (iAdd .i64 a2 1) 1) (lenI a1))
 (cond (iNe a0 0)
 (cond (iNe a0 0)
 (some (iRem (iAdd .i64 (iRem (atI a1 (iSub .i64 (iAdd .i64 a2 1) 1) 0) a0) a0) a0,a1,iAdd .i64 a2 1,())) none) none) none)
noncomputable def cfg24:Cfg:=⟨ttab,gtab,[],[]⟩
def ish24:Sh:=⟨2,[(1,(.int .i64))],[(0,.ptr 0 0 0)],[.box 65 [.d (.list (.int .i64)),.d (.int .i64)]]⟩
def osh24:Sh:=⟨1,[(0,(.int .i64))],[],[.box 65 [.d (.list (.int .i64)),.d (.int .i64)]]⟩
theorem eqn24 (x:Int × (List Int) × Int × Unit):xfunH cfg24 x24 39 [.t 4] [] ish24 osh24 x=m24 x.1 x.2.1 x.2.2.1:=by kernel_rfl
noncomputable def h24:HI:=⟨24,ish24,osh24,fun (x:Int × (List Int) × Int × Unit)=>m24 x.1 x.2.1 x.2.2.1,[]⟩
theorem okh24:HOk Tryz.prog (gx gtab) h24:=hok mixed (cfg_nil _ _:CfgOk _ (cfg24)) F24 (eqn24)
noncomputable def x11:XC:=xoF Tryz.f11 .o
theorem F11:Fn Tryz.prog 11 12 x11.er [.t 4]:=by unfold x11; exact fnX Tryz.func11 (by kernel_rfl) (by kernel_rfl) (by kernel_rfl) (by kernel_rfl)
noncomputable def m11 (a0:Int) (a1:Int):Option (Int × Unit) :=
 cond (iNe a1 0)
 (cond (iNe a1 0)
 (some (iRem (iAdd .i64 (iRem a0 a1) a1) a1,())) none) none
noncomputable def cfg11:Cfg:=⟨ttab,gtab,[],[]⟩
theorem eqn11 (x:Int × Int × Unit):xfun cfg11 x11 12 [.t 4] [(.int .i64),(.int .i64)] [(.int .i64)] x=m11 x.1 x.2.1:=by kernel_rfl
noncomputable def i11:PI:=⟨11,[(.int .i64),(.int .i64)],[(.int .i64)],fun (x:Int × Int × Unit)=>m11 x.1 x.2.1⟩
theorem oki11:POk Tryz.prog (gx gtab) i11:=pok mixed (cfg_nil _ _:CfgOk _ (cfg11)) F11 (eqn11)
noncomputable def x51:XC:=xoF Tryz.f51 .o
theorem F51:Fn Tryz.prog 51 3 x51.er [.c 0 5 true]:=by unfold x51; exact fnX Tryz.func51 (by kernel_rfl) (by kernel_rfl) (by kernel_rfl) (by kernel_rfl)
noncomputable def m51:Option (DS5 × Unit) :=
 some (((bs [112,101,114,105,108]),1,([(bs [102,105,114,101]),(bs [102,108,111,111,100]),(bs [119,105,110,100]),(bs [116,104,101,102,116])]:List ByteArray),0,0,()),())
noncomputable def cfg51:Cfg:=⟨ttab,gtab,[],[]⟩
theorem eqn51 (x:Unit):xfun cfg51 x51 3 [.c 0 5 true] [] [tS5] x=m51:=by kernel_rfl
noncomputable def i51:PI:=⟨51,[],[tS5],fun (x:Unit)=>m51⟩
theorem oki51:POk Tryz.prog (gx gtab) i51:=pok mixed (cfg_nil _ _:CfgOk _ (cfg51)) F51 (eqn51)
noncomputable def x23:XC:=xoF Tryz.f23 .o
theorem F23:Fn Tryz.prog 23 43 x23.er [.c 2 1 true]:=by unfold x23; exact fnX Tryz.func23 (by kernel_rfl) (by kernel_rfl) (by kernel_rfl) (by kernel_rfl)
noncomputable def m23 (a0:Int):Option (DS6 × Unit) :=
 (m11 a0 6).bind fun y11 =>
 cond (iEq y11.1 0)
 ((m51).bind fun y12 =>
 some ((([y12.1,((bs [115,116,111,114,101,121,115]),2,([]:List ByteArray),1,9,()),((bs [97,108,97,114,109]),3,([]:List ByteArray),0,0,())]:List DS5),()),()))
 (cond (iEq y11.1 1)
 (some ((([((bs [110]),2,([]:List ByteArray),(-5),20,())]:List DS5),()),()))
 (cond (iEq y11.1 2)
 (some ((([((bs [97]),3,([]:List ByteArray),0,0,()),((bs [114,111,108,101]),1,([(bs [99,114,101,119]),(bs [103,117,101,115,116])]:List ByteArray),0,0,()),((bs [98]),3,([]:List ByteArray),0,0,())]:List DS5),()),()))
 (cond (iEq y11.1 3)
 (some ((([((bs [110]),2,([]:List ByteArray),(-1000000000),1000000000,()),((bs [116]),3,([]:List ByteArray),0,0,())]:List DS5),()),()))
 (cond (iEq y11.1 4)
 ((m51).bind fun y13 =>
 some ((([((bs [111,110,101]),1,([(bs [111,110,108,121])]:List ByteArray),0,0,()),y13.1,((bs [110]),2,([]:List ByteArray),0,6,()),((bs [116]),3,([]:List ByteArray),0,0,())]:List DS5),()),()))
 (some ((([((bs [116]),3,([]:List ByteArray),0,0,())]:List DS5),()),()))))))
noncomputable def cfg23:Cfg:=⟨ttab,gtab,[i11,i51],[]⟩
theorem eqn23 (x:Int × Unit):xfun cfg23 x23 43 [.c 2 1 true] [(.int .i64)] [tS6] x=m23 x.1:=by kernel_rfl
noncomputable def i23:PI:=⟨23,[(.int .i64)],[tS6],fun (x:Int × Unit)=>m23 x.1⟩
theorem oki23:POk Tryz.prog (gx gtab) i23:=pok mixed (cfg_p oki11 (cfg_p oki51 (cfg_nil _ _)):CfgOk _ (cfg23)) F23 (eqn23)
noncomputable def x86:XC:=xoF Tryz.f86 .o
theorem F86:Fn Tryz.prog 86 18 x86.er [.t 4]:=by unfold x86; exact fnX Tryz.func86 (by kernel_rfl) (by kernel_rfl) (by kernel_rfl) (by kernel_rfl)
noncomputable def m86 (a0:ByteArray) (a1:Int):Option (ByteArray × Unit) :=
 cond (iNe 26 0)
 (cond (iNe 26 0)
 (cond (iNe 26 0)
 (cond (sFits a0 (bsI ([IntKind.wrap .u8 (iAdd .i64 97 (iRem (iQuo .i64 a1 26) 26)),IntKind.wrap .u8 (iAdd .i64 97 (iRem a1 26))]:List Int)))
 (some (sCat a0 (bsI ([IntKind.wrap .u8 (iAdd .i64 97 (iRem (iQuo .i64 a1 26) 26)),IntKind.wrap .u8 (iAdd .i64 97 (iRem a1 26))]:List Int)),())) none) none) none) none
noncomputable def cfg86:Cfg:=⟨ttab,gtab,[],[]⟩
theorem eqn86 (x:ByteArray × Int × Unit):xfun cfg86 x86 18 [.t 4] [.str,(.int .i64)] [.str] x=m86 x.1 x.2.1:=by kernel_rfl
noncomputable def i86:PI:=⟨86,[.str,(.int .i64)],[.str],fun (x:ByteArray × Int × Unit)=>m86 x.1 x.2.1⟩
theorem oki86:POk Tryz.prog (gx gtab) i86:=pok mixed (cfg_nil _ _:CfgOk _ (cfg86)) F86 (eqn86)
noncomputable def x88:XC:=xoF Tryz.f88 .o
theorem F88:Fn Tryz.prog 88 15 x88.er [.t 6]:=by unfold x88; exact fnX Tryz.func88 (by kernel_rfl) (by kernel_rfl) (by kernel_rfl) (by kernel_rfl)
noncomputable def m88 (a0:Int) (a1:Int) (a2:List Int) (a3:Int):Option (Int × (List Int) × Int × Unit) :=
 (m24 (iAdd .i64 (iSub .i64 a1 a0) 1) a2 a3).bind fun y21 =>
 some (iAdd .i64 a0 y21.1,y21.2.1,y21.2.2.1,())
noncomputable def cfg88:Cfg:=⟨ttab,gtab,[],[h24]⟩
def ish88:Sh:=⟨3,[(1,(.int .i64)),(2,(.int .i64))],[(0,.ptr 0 0 0)],[.box 65 [.d (.list (.int .i64)),.d (.int .i64)]]⟩
def osh88:Sh:=⟨1,[(0,(.int .i64))],[],[.box 65 [.d (.list (.int .i64)),.d (.int .i64)]]⟩
theorem eqn88 (x:Int × Int × (List Int) × Int × Unit):xfunH cfg88 x88 15 [.t 6] [] ish88 osh88 x=m88 x.1 x.2.1 x.2.2.1 x.2.2.2.1:=by kernel_rfl
noncomputable def h88:HI:=⟨88,ish88,osh88,fun (x:Int × Int × (List Int) × Int × Unit)=>m88 x.1 x.2.1 x.2.2.1 x.2.2.2.1,[]⟩
theorem okh88:HOk Tryz.prog (gx gtab) h88:=hok mixed (cfg_h okh24 (cfg_nil _ _):CfgOk _ (cfg88)) F88 (eqn88)
noncomputable def x164:XC:=xoF Tryz.f164 (.d 2 (.s (.u [0]) (.s (.d 1 (.b (.d 1 (.c .o (.d 1 (.c (.d 2 (.s (.d 1 (.b (.l [.ghc 8 2 9 .str] ⟨128,[(9,(.int .i64)),(10,(.int .i64))],[(6,.ptr 1 0 0),(7,.ptr 2 0 0),(8,.ptr 3 0 0)],[.box 65 [.d (.list (.int .i64)),.d (.int .i64)],.box 34 [.d (.int .i64),.d .str,.nil,.d (.int .i64),.d (.int .i64),.nil],.box 106 [.d .str,.d (.int .i64),.d (.list .str),.d (.int .i64),.d (.int .i64)],.box 34 [.d (.int .i64),.d .str,.row 4,.d (.int .i64),.d (.int .i64),.nil],.row 9 .str false]⟩ .o))) .o)) .o)))))) (.s (.u [0]) (.j [] ⟨128,[(11,(.int .i64))],[(0,.ptr 0 0 0),(6,.ptr 1 0 0),(7,.ptr 2 0 0)],[.box 65 [.d (.list (.int .i64)),.d (.int .i64)],.box 34 [.d (.int .i64),.d .str,.nil,.d (.int .i64),.d (.int .i64),.nil],.box 106 [.d .str,.d (.int .i64),.d (.list .str),.d (.int .i64),.d (.int .i64)]]⟩ (.d 1 (.c (.u [0]) .o)) (.d 1 (.s (.d 1 (.c (.u [0]) .o)) .o)))))))
theorem F164:Fn Tryz.prog 164 128 x164.er [.c 6 6 true]:=by unfold x164; exact fnX Tryz.func164 (by kernel_rfl) (by kernel_rfl) (by kernel_rfl) (by kernel_rfl)
noncomputable def m164 (a0:DS6) (a1:List Int) (a2:Int):Option (DS0 × (List Int) × Int × Unit) :=
 (m24 (lenI a0.1) a1 a2).bind fun y31 =>
 cond (bnd y31.1 (lenI a0.1))
 (cond (iEq ((atI a0.1 y31.1 (ByteArray.empty,0,[],0,0,())).2.1) 3)
 (some ((3,(atI a0.1 y31.1 (ByteArray.empty,0,[],0,0,())).1,([]:List ByteArray),0,0,([]:List AV),()),y31.2.1,y31.2.2.1,()))
 (cond (iEq ((atI a0.1 y31.1 (ByteArray.empty,0,[],0,0,())).2.1) 1)
 ((m24 (lenI ((atI a0.1 y31.1 (ByteArray.empty,0,[],0,0,())).2.2.1)) y31.2.1 y31.2.2.1).bind fun y32 =>
 (m88 1 (lenI ((atI a0.1 y31.1 (ByteArray.empty,0,[],0,0,())).2.2.1)) y32.2.1 y32.2.2.1).bind fun y33 =>
 loopO (S:=Int × Int × (List Int) × Int × Int × ByteArray × Int × Int × ByteArray × Int × (List ByteArray) × Int × Int × Int × ByteArray × Int × Int × (List ByteArray) × Unit) (R:=DS0 × (List Int) × Int × Unit) (fun s34 =>
 cond (iLt 0 s34.2.1)
 (cond (iNe (lenI s34.2.2.2.2.2.2.2.2.2.2.1) 0)
 (cond (bnd (iRem s34.1 (lenI s34.2.2.2.2.2.2.2.2.2.2.1)) (lenI s34.2.2.2.2.2.2.2.2.2.2.1))
 (cond (fits (List.length s34.2.2.2.2.2.2.2.2.2.2.2.2.2.2.2.2.2.1 + List.length ([atI s34.2.2.2.2.2.2.2.2.2.2.1 (iRem s34.1 (lenI s34.2.2.2.2.2.2.2.2.2.2.1)) ByteArray.empty]:List ByteArray)) 16)
 (some (.inl (iAdd .i64 s34.1 1,iSub .i64 s34.2.1 1,s34.2.2.1,s34.2.2.2.1,s34.2.2.2.2.1,s34.2.2.2.2.2.1,s34.2.2.2.2.2.2.1,s34.2.2.2.2.2.2.2.1,s34.2.2.2.2.2.2.2.2.1,s34.2.2.2.2.2.2.2.2.2.1,s34.2.2.2.2.2.2.2.2.2.2.1,s34.2.2.2.2.2.2.2.2.2.2.2.1,s34.2.2.2.2.2.2.2.2.2.2.2.2.1,s34.2.2.2.2.2.2.2.2.2.2.2.2.2.1,s34.2.2.2.2.2.2.2.2.2.2.2.2.2.2.1,s34.2.2.2.2.2.2.2.2.2.2.2.2.2.2.2.1,s34.2.2.2.2.2.2.2.2.2.2.2.2.2.2.2.2.1,s34.2.2.2.2.2.2.2.2.2.2.2.2.2.2.2.2.2.1 ++ ([atI s34.2.2.2.2.2.2.2.2.2.2.1 (iRem s34.1 (lenI s34.2.2.2.2.2.2.2.2.2.2.1)) ByteArray.empty]:List ByteArray),()))) none) none) none)
 (some (.inr ((s34.2.2.2.2.2.2.2.2.2.2.2.2.2.1,s34.2.2.2.2.2.2.2.2.2.2.2.2.2.2.1,s34.2.2.2.2.2.2.2.2.2.2.2.2.2.2.2.2.2.1,s34.2.2.2.2.2.2.2.2.2.2.2.2.2.2.2.1,s34.2.2.2.2.2.2.2.2.2.2.2.2.2.2.2.2.1,([]:List AV),()),s34.2.2.1,s34.2.2.2.1,()))))
 (y32.1,y33.1,y33.2.1,y33.2.2.1,0,(bs []),0,0,(atI a0.1 y31.1 (ByteArray.empty,0,[],0,0,())).1,(atI a0.1 y31.1 (ByteArray.empty,0,[],0,0,())).2.1,(atI a0.1 y31.1 (ByteArray.empty,0,[],0,0,())).2.2.1,(atI a0.1 y31.1 (ByteArray.empty,0,[],0,0,())).2.2.2.1,(atI a0.1 y31.1 (ByteArray.empty,0,[],0,0,())).2.2.2.2.1,4,(atI a0.1 y31.1 (ByteArray.empty,0,[],0,0,())).1,0,0,([]:List ByteArray),()))
 ((m24 (iAdd .i64 (iSub .i64 ((atI a0.1 y31.1 (ByteArray.empty,0,[],0,0,())).2.2.2.2.1) ((atI a0.1 y31.1 (ByteArray.empty,0,[],0,0,())).2.2.2.1)) 1) y31.2.1 y31.2.2.1).bind fun y35 =>
 joinO (S:=Int × (List Int) × Int × Int × ByteArray × Int × Int × ByteArray × Int × (List ByteArray) × Int × Int × Unit) (R:=DS0 × (List Int) × Int × Unit)
 ((m24 2 y35.2.1 y35.2.2.1).bind fun y36 =>
 cond (iEq y36.1 0)
 ((m24 12 y36.2.1 y36.2.2.1).bind fun y37 =>
 some (.inl (iMin (iMax (iSub .i64 y37.1 4) ((atI a0.1 y31.1 (ByteArray.empty,0,[],0,0,())).2.2.2.1)) ((atI a0.1 y31.1 (ByteArray.empty,0,[],0,0,())).2.2.2.2.1),y37.2.1,y37.2.2.1,0,(bs []),0,0,(atI a0.1 y31.1 (ByteArray.empty,0,[],0,0,())).1,(atI a0.1 y31.1 (ByteArray.empty,0,[],0,0,())).2.1,(atI a0.1 y31.1 (ByteArray.empty,0,[],0,0,())).2.2.1,(atI a0.1 y31.1 (ByteArray.empty,0,[],0,0,())).2.2.2.1,(atI a0.1 y31.1 (ByteArray.empty,0,[],0,0,())).2.2.2.2.1,())))
 (some (.inl (iAdd .i64 ((atI a0.1 y31.1 (ByteArray.empty,0,[],0,0,())).2.2.2.1) y35.1,y36.2.1,y36.2.2.1,0,(bs []),0,0,(atI a0.1 y31.1 (ByteArray.empty,0,[],0,0,())).1,(atI a0.1 y31.1 (ByteArray.empty,0,[],0,0,())).2.1,(atI a0.1 y31.1 (ByteArray.empty,0,[],0,0,())).2.2.1,(atI a0.1 y31.1 (ByteArray.empty,0,[],0,0,())).2.2.2.1,(atI a0.1 y31.1 (ByteArray.empty,0,[],0,0,())).2.2.2.2.1,()))))
 (fun j38 =>
 (m24 (iAdd .i64 (iSub .i64 j38.2.2.2.2.2.2.2.2.2.2.2.1 j38.1) 1) j38.2.1 j38.2.2.1).bind fun y39 =>
 (m24 2 y39.2.1 y39.2.2.1).bind fun y40 =>
 cond (iEq y40.1 0)
 ((m24 4 y40.2.1 y40.2.2.1).bind fun y41 =>
 some ((5,j38.2.2.2.2.2.2.2.1,([]:List ByteArray),j38.1,iMin (iAdd .i64 j38.1 y41.1) j38.2.2.2.2.2.2.2.2.2.2.2.1,([]:List AV),()),y41.2.1,y41.2.2.1,()))
 (some ((5,j38.2.2.2.2.2.2.2.1,([]:List ByteArray),j38.1,iAdd .i64 j38.1 y39.1,([]:List AV),()),y40.2.1,y40.2.2.1,())))))) none
noncomputable def cfg164:Cfg:=⟨ttab,gtab,[],[h24,h88]⟩
def ish164:Sh:=⟨3,[(1,tS6)],[(0,.ptr 0 0 0),(2,.nil)],[.box 65 [.d (.list (.int .i64)),.d (.int .i64)]]⟩
def osh164:Sh:=⟨1,[(0,tS0)],[],[.box 65 [.d (.list (.int .i64)),.d (.int .i64)]]⟩
theorem eqn164 (x:DS6 × (List Int) × Int × Unit):xfunHz cfg164 x164 128 [.c 6 6 true] [] tS0 ish164 osh164 x=m164 x.1 x.2.1 x.2.2.1:=by kernel_rfl
noncomputable def h164:HI:=⟨164,ish164,osh164,fun (x:DS6 × (List Int) × Int × Unit)=>m164 x.1 x.2.1 x.2.2.1,[]⟩
theorem okh164:HOk Tryz.prog (gx gtab) h164:=hokz mixed (cfg_h okh24 (cfg_h okh88 (cfg_nil _ _)):CfgOk _ (cfg164)) F164 (eqn164)
noncomputable def x131:XC:=xoF Tryz.f131 (.d 4 (.s (.d 1 (.b (.l [.ghc 10 5 34 tS0] ⟨65,[(3,(.int .i64)),(11,(.int .i64))],[(0,.ptr 0 0 0),(2,.nil),(5,.ptr 1 0 0),(8,.ptr 2 0 0),(10,.ptr 3 0 0)],[.box 65 [.d (.list (.int .i64)),.d (.int .i64)],.box 59 [.d (.list tS5)],.box 34 [.d (.int .i64),.d .str,.nil,.d (.int .i64),.d (.int .i64),.nil],.box 34 [.d (.int .i64),.d .str,.nil,.d (.int .i64),.d (.int .i64),.row 4],.row 34 tS0 false]⟩ (.d 1 (.s (.b (.u [0])) .o))))) .o))
theorem F131:Fn Tryz.prog 131 65 x131.er [.c 8 6 true]:=by unfold x131; exact fnX Tryz.func131 (by kernel_rfl) (by kernel_rfl) (by kernel_rfl) (by kernel_rfl)
noncomputable def mb131 (self:(DS6 × Int × (List Int) × Int × Unit)→Option (DS0 × (List Int) × Int × Unit)) (a0:DS6) (a1:Int) (a2:List Int) (a3:Int):Option (DS0 × (List Int) × Int × Unit) :=
 (m24 8 a2 a3).bind fun y47 =>
 cond (cond (iLt a1 2) true (iLt y47.1 4))
 ((m24 12 y47.2.1 y47.2.2.1).bind fun y48 =>
 cond (iEq y48.1 10)
 (some ((1,(bs []),([]:List ByteArray),0,0,([]:List AV),()),y48.2.1,y48.2.2.1,()))
 (cond (iEq y48.1 11)
 (some ((2,(bs []),([]:List ByteArray),0,0,([]:List AV),()),y48.2.1,y48.2.2.1,()))
 ((m164 (a0.1,()) y48.2.1 y48.2.2.1).bind fun y49 =>
 some ((y49.1.1,y49.1.2.1,y49.1.2.2.1,y49.1.2.2.2.1,y49.1.2.2.2.2.1,y49.1.2.2.2.2.2.1,()),y49.2.1,y49.2.2.1,()))))
 (cond (iLt y47.1 6)
 ((self ((a0.1,()),iSub .i64 a1 1,y47.2.1,y47.2.2.1,())).bind fun y50 =>
 some ((6,(bs []),([]:List ByteArray),0,0,encS0 ([y50.1]:List DS0),()),y50.2.1,y50.2.2.1,()))
 ((m88 2 3 y47.2.1 y47.2.2.1).bind fun y51 =>
 loopO (S:=Int × Int × (List Int) × Int × (List DS5) × Int × ByteArray × Int × Int × Int × ByteArray × Int × Int × (List DS0) × Unit) (R:=DS0 × (List Int) × Int × Unit) (fun s52 =>
 cond (iLt 0 s52.2.1)
 ((self ((s52.2.2.2.2.1,()),iSub .i64 s52.1 1,s52.2.2.1,s52.2.2.2.1,())).bind fun y53 =>
 cond (fits (List.length s52.2.2.2.2.2.2.2.2.2.2.2.2.2.1 + List.length ([y53.1]:List DS0)) 88)
 (some (.inl (s52.1,iSub .i64 s52.2.1 1,y53.2.1,y53.2.2.1,s52.2.2.2.2.1,s52.2.2.2.2.2.1,s52.2.2.2.2.2.2.1,s52.2.2.2.2.2.2.2.1,s52.2.2.2.2.2.2.2.2.1,s52.2.2.2.2.2.2.2.2.2.1,s52.2.2.2.2.2.2.2.2.2.2.1,s52.2.2.2.2.2.2.2.2.2.2.2.1,s52.2.2.2.2.2.2.2.2.2.2.2.2.1,s52.2.2.2.2.2.2.2.2.2.2.2.2.2.1 ++ ([y53.1]:List DS0),()))) none)
 (some (.inr ((s52.2.2.2.2.2.2.2.2.2.1,s52.2.2.2.2.2.2.2.2.2.2.1,([]:List ByteArray),s52.2.2.2.2.2.2.2.2.2.2.2.1,s52.2.2.2.2.2.2.2.2.2.2.2.2.1,encS0 s52.2.2.2.2.2.2.2.2.2.2.2.2.2.1,()),s52.2.2.1,s52.2.2.2.1,()))))
 (a1,y51.1,y51.2.1,y51.2.2.1,a0.1,0,(bs []),0,0,iAdd .i64 y47.1 1,(bs []),0,0,([]:List DS0),())))
def ish131:Sh:=⟨4,[(1,tS6),(3,(.int .i64))],[(0,.ptr 0 0 0),(2,.nil)],[.box 65 [.d (.list (.int .i64)),.d (.int .i64)]]⟩
def osh131:Sh:=⟨1,[(0,tS0)],[],[.box 65 [.d (.list (.int .i64)),.d (.int .i64)]]⟩
noncomputable def cfg131 (self:(DS6 × Int × (List Int) × Int × Unit)→Option (DS0 × (List Int) × Int × Unit)):Cfg:=⟨ttab,gtab,[],[⟨131,ish131,osh131,self,[]⟩,h164,h24,h88]⟩
theorem eqn131 (self:(DS6 × Int × (List Int) × Int × Unit)→Option (DS0 × (List Int) × Int × Unit)) (x:DS6 × Int × (List Int) × Int × Unit):xfunHz (cfg131 self) x131 65 [.c 8 6 true] [] tS0 ish131 osh131 x=mb131 self x.1 x.2.1 x.2.2.1 x.2.2.2.1:=by kernel_rfl
noncomputable def m131 (a0:DS6) (a1:Int) (a2:List Int) (a3:Int):Option (DS0 × (List Int) × Int × Unit):=iterF (fun self (x:DS6 × Int × (List Int) × Int × Unit)=>mb131 self x.1 x.2.1 x.2.2.1 x.2.2.2.1) 10000 (a0,a1,a2,a3,())
noncomputable def h131:HI:=⟨131,ish131,osh131,fun (x:DS6 × Int × (List Int) × Int × Unit)=>m131 x.1 x.2.1 x.2.2.1 x.2.2.2.1,[]⟩
theorem okh131:HOk Tryz.prog (gx gtab) h131:=hok_iter 10000 (f:=131) (ish:=ish131) (osh:=osh131) (G:=fun self (x:DS6 × Int × (List Int) × Int × Unit)=>mb131 self x.1 x.2.1 x.2.2.1 x.2.2.2.1) F131.callable (fun run hr=>hokz mixed (cfg_h hr (cfg_h okh164 (cfg_h okh24 (cfg_h okh88 (cfg_nil _ _)))):CfgOk _ (cfg131 run)) F131 (eqn131 run))
noncomputable def x132:XC:=xoF Tryz.f132 (.d 2 (.s (.d 1 (.b (.l [.gh 9 63 tS7] ⟨41,[(3,(.int .i64)),(10,(.int .i64))],[(0,.ptr 0 0 0),(2,.nil),(5,.ptr 1 0 0),(9,.row 2)],[.box 65 [.d (.list (.int .i64)),.d (.int .i64)],.box 59 [.d (.list tS5)],.row 63 tS7 false]⟩ (.d 1 (.s (.b (.u [0])) .o))))) .o))
theorem F132:Fn Tryz.prog 132 41 x132.er [.t 8]:=by unfold x132; exact fnX Tryz.func132 (by kernel_rfl) (by kernel_rfl) (by kernel_rfl) (by kernel_rfl)
noncomputable def mb132 (self:(DS6 × Int × (List Int) × Int × Unit)→Option ((List AV) × (List Int) × Int × Unit)) (a0:DS6) (a1:Int) (a2:List Int) (a3:Int):Option ((List AV) × (List Int) × Int × Unit) :=
 (m24 3 a2 a3).bind fun y64 =>
 loopO (S:=Int × Int × (List Int) × Int × (List DS5) × (List DS7) × Unit) (R:=(List AV) × (List Int) × Int × Unit) (fun s65 =>
 cond (cond (iLt 0 s65.2.1) (iLt 0 s65.1) false)
 ((m24 3 s65.2.2.1 s65.2.2.2.1).bind fun y66 =>
 cond (bnd y66.1 (lenI ([(bs [119]),(bs [120]),(bs [121])]:List ByteArray)))
 ((m131 (s65.2.2.2.2.1,()) 2 y66.2.1 y66.2.2.1).bind fun y67 =>
 (self ((s65.2.2.2.2.1,()),iSub .i64 s65.1 1,y67.2.1,y67.2.2.1,())).bind fun y68 =>
 cond (fits (List.length s65.2.2.2.2.2.1 + List.length ([(atI ([(bs [119]),(bs [120]),(bs [121])]:List ByteArray) y66.1 ByteArray.empty,(y67.1.1,y67.1.2.1,y67.1.2.2.1,y67.1.2.2.2.1,y67.1.2.2.2.2.1,y67.1.2.2.2.2.2.1,()),y68.1,())]:List DS7)) 128)
 (some (.inl (s65.1,iSub .i64 s65.2.1 1,y68.2.1,y68.2.2.1,s65.2.2.2.2.1,s65.2.2.2.2.2.1 ++ ([(atI ([(bs [119]),(bs [120]),(bs [121])]:List ByteArray) y66.1 ByteArray.empty,(y67.1.1,y67.1.2.1,y67.1.2.2.1,y67.1.2.2.2.1,y67.1.2.2.2.2.1,y67.1.2.2.2.2.2.1,()),y68.1,())]:List DS7),()))) none) none)
 (some (.inr (encS7 s65.2.2.2.2.2.1,s65.2.2.1,s65.2.2.2.1,()))))
 (a1,y64.1,y64.2.1,y64.2.2.1,a0.1,([]:List DS7),())
def ish132:Sh:=⟨4,[(1,tS6),(3,(.int .i64))],[(0,.ptr 0 0 0),(2,.nil)],[.box 65 [.d (.list (.int .i64)),.d (.int .i64)]]⟩
def osh132:Sh:=⟨1,[(0,(.rl 63 8))],[],[.box 65 [.d (.list (.int .i64)),.d (.int .i64)]]⟩
noncomputable def cfg132 (self:(DS6 × Int × (List Int) × Int × Unit)→Option ((List AV) × (List Int) × Int × Unit)):Cfg:=⟨ttab,gtab,[],[⟨132,ish132,osh132,self,[]⟩,h131,h24]⟩
theorem eqn132 (self:(DS6 × Int × (List Int) × Int × Unit)→Option ((List AV) × (List Int) × Int × Unit)) (x:DS6 × Int × (List Int) × Int × Unit):xfunHz (cfg132 self) x132 41 [.t 8] [] (.rl 63 8) ish132 osh132 x=mb132 self x.1 x.2.1 x.2.2.1 x.2.2.2.1:=by kernel_rfl
noncomputable def m132 (a0:DS6) (a1:Int) (a2:List Int) (a3:Int):Option ((List AV) × (List Int) × Int × Unit):=iterF (fun self (x:DS6 × Int × (List Int) × Int × Unit)=>mb132 self x.1 x.2.1 x.2.2.1 x.2.2.2.1) 10000 (a0,a1,a2,a3,())
noncomputable def h132:HI:=⟨132,ish132,osh132,fun (x:DS6 × Int × (List Int) × Int × Unit)=>m132 x.1 x.2.1 x.2.2.1 x.2.2.2.1,[]⟩
theorem okh132:HOk Tryz.prog (gx gtab) h132:=hok_iter 10000 (f:=132) (ish:=ish132) (osh:=osh132) (G:=fun self (x:DS6 × Int × (List Int) × Int × Unit)=>mb132 self x.1 x.2.1 x.2.2.1 x.2.2.2.1) F132.callable (fun run hr=>hokz mixed (cfg_h hr (cfg_h okh131 (cfg_h okh24 (cfg_nil _ _))):CfgOk _ (cfg132 run)) F132 (eqn132 run))
noncomputable def x101:XC:=xoF Tryz.f101 .o
theorem F101:Fn Tryz.prog 101 11 x101.er [.t 2]:=by unfold x101; exact fnX Tryz.func101 (by kernel_rfl) (by kernel_rfl) (by kernel_rfl) (by kernel_rfl)
noncomputable def m101 (a0:Int):Option (Int × Unit) :=
 cond (iEq a0 5)
 (some (1073741824,()))
 (cond (iEq a0 6)
 (some (1073741824,()))
 (cond (iEq a0 7)
 (some (1073741824,()))
 (cond (iEq a0 10)
 (some (1073741824,()))
 (cond (iEq a0 8)
 (some (1000000,()))
 (some (0,()))))))
noncomputable def cfg101:Cfg:=⟨ttab,gtab,[],[]⟩
theorem eqn101 (x:Int × Unit):xfun cfg101 x101 11 [.t 2] [(.int .i64)] [(.int .i64)] x=m101 x.1:=by kernel_rfl
noncomputable def i101:PI:=⟨101,[(.int .i64)],[(.int .i64)],fun (x:Int × Unit)=>m101 x.1⟩
theorem oki101:POk Tryz.prog (gx gtab) i101:=pok mixed (cfg_nil _ _:CfgOk _ (cfg101)) F101 (eqn101)
noncomputable def x133:XC:=xoF Tryz.f133 .o
theorem F133:Fn Tryz.prog 133 38 x133.er [.t 4]:=by unfold x133; exact fnX Tryz.func133 (by kernel_rfl) (by kernel_rfl) (by kernel_rfl) (by kernel_rfl)
noncomputable def m133 (a0:Int) (a1:List Int) (a2:Int):Option (Int × (List Int) × Int × Unit) :=
 (m24 6 a1 a2).bind fun y77 =>
 cond (iEq y77.1 0)
 ((m24 4 y77.2.1 y77.2.2.1).bind fun y78 =>
 some (iMin y78.1 a0,y78.2.1,y78.2.2.1,()))
 (cond (iEq y77.1 1)
 ((m24 100 y77.2.1 y77.2.2.1).bind fun y79 =>
 some (iMin y79.1 a0,y79.2.1,y79.2.2.1,()))
 (cond (iEq y77.1 2)
 ((m24 1048576 y77.2.1 y77.2.2.1).bind fun y80 =>
 some (iMin y80.1 a0,y80.2.1,y80.2.2.1,()))
 (cond (iEq y77.1 3)
 ((m24 (iMin 3 (iAdd .i64 a0 1)) y77.2.1 y77.2.2.1).bind fun y81 =>
 some (iSub .i64 a0 y81.1,y81.2.1,y81.2.2.1,()))
 ((m24 (iAdd .i64 a0 1) y77.2.1 y77.2.2.1).bind fun y82 =>
 some (y82.1,y82.2.1,y82.2.2.1,())))))
noncomputable def cfg133:Cfg:=⟨ttab,gtab,[],[h24]⟩
def ish133:Sh:=⟨2,[(1,(.int .i64))],[(0,.ptr 0 0 0)],[.box 65 [.d (.list (.int .i64)),.d (.int .i64)]]⟩
def osh133:Sh:=⟨1,[(0,(.int .i64))],[],[.box 65 [.d (.list (.int .i64)),.d (.int .i64)]]⟩
theorem eqn133 (x:Int × (List Int) × Int × Unit):xfunH cfg133 x133 38 [.t 4] [] ish133 osh133 x=m133 x.1 x.2.1 x.2.2.1:=by kernel_rfl
noncomputable def h133:HI:=⟨133,ish133,osh133,fun (x:Int × (List Int) × Int × Unit)=>m133 x.1 x.2.1 x.2.2.1,[]⟩
theorem okh133:HOk Tryz.prog (gx gtab) h133:=hok mixed (cfg_h okh24 (cfg_nil _ _):CfgOk _ (cfg133)) F133 (eqn133)
noncomputable def x85:XC:=xoF Tryz.f85 .o
theorem F85:Fn Tryz.prog 85 38 x85.er [.c 10 10 true]:=by unfold x85; exact fnX Tryz.func85 (by kernel_rfl) (by kernel_rfl) (by kernel_rfl) (by kernel_rfl)
noncomputable def m85 (a0:DS6) (a1:Int) (a2:ByteArray) (a3:List Int) (a4:Int):Option (DS1 × (List Int) × Int × Unit) :=
 (m131 (a0.1,()) 3 a3 a4).bind fun y86 =>
 cond (iEq a1 3)
 ((m132 (a0.1,()) 2 y86.2.1 y86.2.2.1).bind fun y87 =>
 (m101 a1).bind fun y88 =>
 cond (iLt 0 y88.1)
 ((m133 (iSub .i64 y88.1 1) y87.2.1 y87.2.2.1).bind fun y89 =>
 some ((a1,a2,(y86.1.1,y86.1.2.1,y86.1.2.2.1,y86.1.2.2.2.1,y86.1.2.2.2.2.1,y86.1.2.2.2.2.2.1,()),y87.1,iAdd .i64 1 y89.1,()),y89.2.1,y89.2.2.1,()))
 (some ((a1,a2,(y86.1.1,y86.1.2.1,y86.1.2.2.1,y86.1.2.2.2.1,y86.1.2.2.2.2.1,y86.1.2.2.2.2.2.1,()),y87.1,0,()),y87.2.1,y87.2.2.1,())))
 ((m101 a1).bind fun y90 =>
 cond (iLt 0 y90.1)
 ((m133 (iSub .i64 y90.1 1) y86.2.1 y86.2.2.1).bind fun y91 =>
 some ((a1,a2,(y86.1.1,y86.1.2.1,y86.1.2.2.1,y86.1.2.2.2.1,y86.1.2.2.2.2.1,y86.1.2.2.2.2.2.1,()),([]:List AV),iAdd .i64 1 y91.1,()),y91.2.1,y91.2.2.1,()))
 (some ((a1,a2,(y86.1.1,y86.1.2.1,y86.1.2.2.1,y86.1.2.2.2.1,y86.1.2.2.2.2.1,y86.1.2.2.2.2.2.1,()),([]:List AV),0,()),y86.2.1,y86.2.2.1,())))
noncomputable def cfg85:Cfg:=⟨ttab,gtab,[i101],[h131,h132,h133]⟩
def ish85:Sh:=⟨5,[(1,tS6),(2,(.int .i64)),(3,.str)],[(0,.ptr 0 0 0),(4,.nil)],[.box 65 [.d (.list (.int .i64)),.d (.int .i64)]]⟩
def osh85:Sh:=⟨1,[(0,tS1)],[],[.box 65 [.d (.list (.int .i64)),.d (.int .i64)]]⟩
theorem eqn85 (x:DS6 × Int × ByteArray × (List Int) × Int × Unit):xfunHz cfg85 x85 38 [.c 10 10 true] [] tS1 ish85 osh85 x=m85 x.1 x.2.1 x.2.2.1 x.2.2.2.1 x.2.2.2.2.1:=by kernel_rfl
noncomputable def h85:HI:=⟨85,ish85,osh85,fun (x:DS6 × Int × ByteArray × (List Int) × Int × Unit)=>m85 x.1 x.2.1 x.2.2.1 x.2.2.2.1 x.2.2.2.2.1,[]⟩
theorem okh85:HOk Tryz.prog (gx gtab) h85:=hokz mixed (cfg_p oki101 (cfg_h okh131 (cfg_h okh132 (cfg_h okh133 (cfg_nil _ _)))):CfgOk _ (cfg85)) F85 (eqn85)
noncomputable def x87:XC:=xoF Tryz.f87 .o
theorem F87:Fn Tryz.prog 87 13 x87.er [.t 2]:=by unfold x87; exact fnX Tryz.func87 (by kernel_rfl) (by kernel_rfl) (by kernel_rfl) (by kernel_rfl)
noncomputable def m87 (a0:List Int) (a1:Int):Option (Bool × (List Int) × Int × Unit) :=
 some (iLt a1 (lenI a0),a0,a1,())
noncomputable def cfg87:Cfg:=⟨ttab,gtab,[],[]⟩
def ish87:Sh:=⟨1,[],[(0,.ptr 0 0 0)],[.box 65 [.d (.list (.int .i64)),.d (.int .i64)]]⟩
def osh87:Sh:=⟨1,[(0,.bool)],[],[.box 65 [.d (.list (.int .i64)),.d (.int .i64)]]⟩
theorem eqn87 (x:(List Int) × Int × Unit):xfunH cfg87 x87 13 [.t 2] [] ish87 osh87 x=m87 x.1 x.2.1:=by kernel_rfl
noncomputable def h87:HI:=⟨87,ish87,osh87,fun (x:(List Int) × Int × Unit)=>m87 x.1 x.2.1,[]⟩
theorem okh87:HOk Tryz.prog (gx gtab) h87:=hok mixed (cfg_nil _ _:CfgOk _ (cfg87)) F87 (eqn87)
noncomputable def x149:XC:=xoF Tryz.f149 .o
theorem F149:Fn Tryz.prog 149 9 x149.er [.t 2]:=by unfold x149; exact fnX Tryz.func149 (by kernel_rfl) (by kernel_rfl) (by kernel_rfl) (by kernel_rfl)
noncomputable def m149 (a0:Int):Option (Bool × Unit) :=
 some (cond (iLe 97 a0) (iLe a0 122) false,())
noncomputable def cfg149:Cfg:=⟨ttab,gtab,[],[]⟩
theorem eqn149 (x:Int × Unit):xfun cfg149 x149 9 [.t 2] [(.int .u8)] [.bool] x=m149 x.1:=by kernel_rfl
noncomputable def i149:PI:=⟨149,[(.int .u8)],[.bool],fun (x:Int × Unit)=>m149 x.1⟩
theorem oki149:POk Tryz.prog (gx gtab) i149:=pok mixed (cfg_nil _ _:CfgOk _ (cfg149)) F149 (eqn149)
noncomputable def x150:XC:=xoF Tryz.f150 .o
theorem F150:Fn Tryz.prog 150 9 x150.er [.t 2]:=by unfold x150; exact fnX Tryz.func150 (by kernel_rfl) (by kernel_rfl) (by kernel_rfl) (by kernel_rfl)
noncomputable def m150 (a0:Int):Option (Bool × Unit) :=
 some (cond (iLe 48 a0) (iLe a0 57) false,())
noncomputable def cfg150:Cfg:=⟨ttab,gtab,[],[]⟩
theorem eqn150 (x:Int × Unit):xfun cfg150 x150 9 [.t 2] [(.int .u8)] [.bool] x=m150 x.1:=by kernel_rfl
noncomputable def i150:PI:=⟨150,[(.int .u8)],[.bool],fun (x:Int × Unit)=>m150 x.1⟩
theorem oki150:POk Tryz.prog (gx gtab) i150:=pok mixed (cfg_nil _ _:CfgOk _ (cfg150)) F150 (eqn150)
noncomputable def x102:XC:=xoF Tryz.f102 (.d 2 (.s (.d 1 (.b (.l [] ⟨50,[(0,.str),(3,(.int .i64))],[],[]⟩ .o))) .o))
theorem F102:Fn Tryz.prog 102 50 x102.er [.t 2]:=by unfold x102; exact fnX Tryz.func102 (by kernel_rfl) (by kernel_rfl) (by kernel_rfl) (by kernel_rfl)
noncomputable def m102 (a0:ByteArray):Option (Bool × Unit) :=
 cond (or (bnd 0 (sLen a0)) (not (bEq (cond (iLt (sLen a0) 1) true (iLt 16 (sLen a0))) false)))
 (cond (cond (iLt (sLen a0) 1) true (iLt 16 (sLen a0)))
 (cond (or (bnd (iSub .i64 (sLen a0) 1) (sLen a0)) (not (bEq true false)))
 (some (false,())) none)
 ((m149 (sAt a0 0)).bind fun y105 =>
 cond (or (bnd (iSub .i64 (sLen a0) 1) (sLen a0)) (not (bEq (not y105.1) false)))
 (cond (cond (not y105.1) true (iEq (sAt a0 (iSub .i64 (sLen a0) 1)) 45))
 (some (false,()))
 (loopO (S:=ByteArray × Int × Unit) (R:=Bool × Unit) (fun s106 =>
 cond (iLt s106.2.1 (sLen s106.1))
 (cond (bnd s106.2.1 (sLen s106.1))
 ((m149 (sAt s106.1 s106.2.1)).bind fun y107 =>
 cond (or (bnd s106.2.1 (sLen s106.1)) (not (bEq (not y107.1) true)))
 (cond (not y107.1)
 ((m150 (sAt s106.1 s106.2.1)).bind fun y108 =>
 cond (or (bnd s106.2.1 (sLen s106.1)) (not (bEq (not y108.1) true)))
 (cond (cond (not y108.1) (iNe (sAt s106.1 s106.2.1) 45) false)
 (some (.inr (false,())))
 (some (.inl (s106.1,iAdd .i64 s106.2.1 1,())))) none)
 (cond (or (bnd s106.2.1 (sLen s106.1)) (not (bEq false true)))
 (some (.inl (s106.1,iAdd .i64 s106.2.1 1,()))) none)) none) none)
 (some (.inr (true,()))))
 (a0,0,()))) none)) none
noncomputable def cfg102:Cfg:=⟨ttab,gtab,[i149,i150],[]⟩
theorem eqn102 (x:ByteArray × Unit):xfun cfg102 x102 50 [.t 2] [.str] [.bool] x=m102 x.1:=by kernel_rfl
noncomputable def i102:PI:=⟨102,[.str],[.bool],fun (x:ByteArray × Unit)=>m102 x.1⟩
theorem oki102:POk Tryz.prog (gx gtab) i102:=pok mixed (cfg_p oki149 (cfg_p oki150 (cfg_nil _ _)):CfgOk _ (cfg102)) F102 (eqn102)
noncomputable def x103:XC:=xoF Tryz.f103 .o
theorem F103:Fn Tryz.prog 103 28 x103.er [.t 2]:=by unfold x103; exact fnX Tryz.func103 (by kernel_rfl) (by kernel_rfl) (by kernel_rfl) (by kernel_rfl)
noncomputable def m103 (a0:ByteArray):Option (Bool × Unit) :=
 cond (sEq a0 (bs [97,110,100]))
 (some (true,()))
 (cond (sEq a0 (bs [97,118,101,114,97,103,101]))
 (some (true,()))
 (cond (sEq a0 (bs [99,111,105,110,115,117,114,97,110,99,101]))
 (some (true,()))
 (cond (sEq a0 (bs [99,111,110,100,105,116,105,111,110]))
 (some (true,()))
 (cond (sEq a0 (bs [99,111,118,101,114]))
 (some (true,()))
 (cond (sEq a0 (bs [100,101,100,117,99,116,105,98,108,101]))
 (some (true,()))
 (cond (sEq a0 (bs [100,101,102,105,110,101]))
 (some (true,()))
 (cond (sEq a0 (bs [101,110,100]))
 (some (true,()))
 (cond (sEq a0 (bs [101,110,100,111,114,115,101]))
 (some (true,()))
 (cond (sEq a0 (bs [101,120,99,108,117,100,101]))
 (some (true,()))
 (cond (sEq a0 (bs [102,97,108,115,101]))
 (some (true,()))
 (cond (sEq a0 (bs [102,114,97,110,99,104,105,115,101]))
 (some (true,()))
 (cond (sEq a0 (bs [102,114,111,109]))
 (some (true,()))
 (cond (sEq a0 (bs [105,110]))
 (some (true,()))
 (cond (sEq a0 (bs [108,105,109,105,116]))
 (some (true,()))
 (cond (sEq a0 (bs [110,111,116]))
 (some (true,()))
 (cond (sEq a0 (bs [111,114]))
 (some (true,()))
 (cond (sEq a0 (bs [114,101,109,111,118,101]))
 (some (true,()))
 (cond (sEq a0 (bs [115,117,98,108,105,109,105,116]))
 (some (true,()))
 (cond (sEq a0 (bs [116,111]))
 (some (true,()))
 (cond (sEq a0 (bs [116,114,117,101]))
 (some (true,()))
 (cond (sEq a0 (bs [117,110,108,101,115,115]))
 (some (true,()))
 (cond (sEq a0 (bs [119,104,101,110]))
 (some (true,()))
 (some (false,()))))))))))))))))))))))))
noncomputable def cfg103:Cfg:=⟨ttab,gtab,[],[]⟩
theorem eqn103 (x:ByteArray × Unit):xfun cfg103 x103 28 [.t 2] [.str] [.bool] x=m103 x.1:=by kernel_rfl
noncomputable def i103:PI:=⟨103,[.str],[.bool],fun (x:ByteArray × Unit)=>m103 x.1⟩
theorem oki103:POk Tryz.prog (gx gtab) i103:=pok mixed (cfg_nil _ _:CfgOk _ (cfg103)) F103 (eqn103)
noncomputable def x57:XC:=xoF Tryz.f57 .o
theorem F57:Fn Tryz.prog 57 10 x57.er [.t 2]:=by unfold x57; exact fnX Tryz.func57 (by kernel_rfl) (by kernel_rfl) (by kernel_rfl) (by kernel_rfl)
noncomputable def m57 (a0:ByteArray):Option (Bool × Unit) :=
 (m102 a0).bind fun y109 =>
 cond y109.1
 ((m103 a0).bind fun y110 =>
 some (not y110.1,()))
 (some (false,()))
noncomputable def cfg57:Cfg:=⟨ttab,gtab,[i102,i103],[]⟩
theorem eqn57 (x:ByteArray × Unit):xfun cfg57 x57 10 [.t 2] [.str] [.bool] x=m57 x.1:=by kernel_rfl
noncomputable def i57:PI:=⟨57,[.str],[.bool],fun (x:ByteArray × Unit)=>m57 x.1⟩
theorem oki57:POk Tryz.prog (gx gtab) i57:=pok mixed (cfg_p oki102 (cfg_p oki103 (cfg_nil _ _)):CfgOk _ (cfg57)) F57 (eqn57)
noncomputable def x29:XC:=xoF Tryz.f29 (.d 1 (.s (.d 1 (.b (.l [] ⟨16,[(0,(.list .str)),(3,(.int .i64))],[],[]⟩ .o))) .o))
theorem F29:Fn Tryz.prog 29 16 x29.er [.t 2]:=by unfold x29; exact fnX Tryz.func29 (by kernel_rfl) (by kernel_rfl) (by kernel_rfl) (by kernel_rfl)
noncomputable def m29 (a0:List ByteArray):Option (Bool × Unit) :=
 loopO (S:=(List ByteArray) × Int × Unit) (R:=Bool × Unit) (fun s115 =>
 cond (iLt s115.2.1 (lenI s115.1))
 (cond (bnd s115.2.1 (lenI s115.1))
 ((m57 (atI s115.1 s115.2.1 ByteArray.empty)).bind fun y116 =>
 cond (not y116.1)
 (some (.inr (false,())))
 (some (.inl (s115.1,iAdd .i64 s115.2.1 1,())))) none)
 (some (.inr (true,()))))
 (a0,0,())
noncomputable def cfg29:Cfg:=⟨ttab,gtab,[i57],[]⟩
theorem eqn29 (x:(List ByteArray) × Unit):xfun cfg29 x29 16 [.t 2] [(.list .str)] [.bool] x=m29 x.1:=by kernel_rfl
noncomputable def i29:PI:=⟨29,[(.list .str)],[.bool],fun (x:(List ByteArray) × Unit)=>m29 x.1⟩
theorem oki29:POk Tryz.prog (gx gtab) i29:=pok mixed (cfg_p oki57 (cfg_nil _ _):CfgOk _ (cfg29)) F29 (eqn29)
noncomputable def x30:XC:=xoF Tryz.f30 (.d 1 (.s (.d 1 (.b (.l [] ⟨25,[(0,(.list .str)),(3,(.int .i64))],[],[]⟩ (.d 1 (.s (.b (.d 1 (.b (.l [] ⟨25,[(0,(.list .str)),(3,(.int .i64)),(4,(.int .i64))],[],[]⟩ .o)))) .o))))) .o))
theorem F30:Fn Tryz.prog 30 25 x30.er [.t 2]:=by unfold x30; exact fnX Tryz.func30 (by kernel_rfl) (by kernel_rfl) (by kernel_rfl) (by kernel_rfl)
noncomputable def m30 (a0:List ByteArray):Option (Bool × Unit) :=
 loopO (S:=(List ByteArray) × Int × Unit) (R:=Bool × Unit) (fun s120 =>
 cond (iLt s120.2.1 (lenI s120.1))
 (loopO (S:=(List ByteArray) × Int × Int × Unit) (R:=((List ByteArray) × Int × Unit) ⊕ (Bool × Unit)) (fun s121 =>
 cond (iLt s121.2.2.1 s121.2.1)
 (cond (bnd s121.2.1 (lenI s121.1))
 (cond (bnd s121.2.2.1 (lenI s121.1))
 (cond (sEq (atI s121.1 s121.2.1 ByteArray.empty) (atI s121.1 s121.2.2.1 ByteArray.empty))
 (some (.inr (.inr (false,()))))
 (some (.inl (s121.1,s121.2.1,iAdd .i64 s121.2.2.1 1,())))) none) none)
 (some (.inr (.inl (s121.1,iAdd .i64 s121.2.1 1,())))))
 (s120.1,s120.2.1,0,()))
 (some (.inr (true,()))))
 (a0,0,())
noncomputable def cfg30:Cfg:=⟨ttab,gtab,[],[]⟩
theorem eqn30 (x:(List ByteArray) × Unit):xfun cfg30 x30 25 [.t 2] [(.list .str)] [.bool] x=m30 x.1:=by kernel_rfl
noncomputable def i30:PI:=⟨30,[(.list .str)],[.bool],fun (x:(List ByteArray) × Unit)=>m30 x.1⟩
theorem oki30:POk Tryz.prog (gx gtab) i30:=pok mixed (cfg_nil _ _:CfgOk _ (cfg30)) F30 (eqn30)
noncomputable def x183:XC:=xoF Tryz.f183 .o
theorem F183:Fn Tryz.prog 183 9 x183.er [.t 2]:=by unfold x183; exact fnX Tryz.func183 (by kernel_rfl) (by kernel_rfl) (by kernel_rfl) (by kernel_rfl)
noncomputable def m183 (a0:Int):Option (Bool × Unit) :=
 some (cond (iLt 1000000000 a0) true (iLt a0 (-1000000000)),())
noncomputable def cfg183:Cfg:=⟨ttab,gtab,[],[]⟩
theorem eqn183 (x:Int × Unit):xfun cfg183 x183 9 [.t 2] [(.int .i64)] [.bool] x=m183 x.1:=by kernel_rfl
noncomputable def i183:PI:=⟨183,[(.int .i64)],[.bool],fun (x:Int × Unit)=>m183 x.1⟩
theorem oki183:POk Tryz.prog (gx gtab) i183:=pok mixed (cfg_nil _ _:CfgOk _ (cfg183)) F183 (eqn183)
noncomputable def x165:XC:=xoF Tryz.f165 .o
theorem F165:Fn Tryz.prog 165 73 x165.er [.t 2]:=by unfold x165; exact fnX Tryz.func165 (by kernel_rfl) (by kernel_rfl) (by kernel_rfl) (by kernel_rfl)
noncomputable def m165 (a0:DS5):Option (Int × Unit) :=
 cond (iEq a0.2.1 1)
 (cond (cond (iNe a0.2.2.2.1 0) true (iNe a0.2.2.2.2.1 0))
 (some (20,()))
 (cond (iEq (lenI a0.2.2.1) 0)
 (some (19,()))
 (cond (iLt 12 (lenI a0.2.2.1))
 (some (4,()))
 ((m29 a0.2.2.1).bind fun y117 =>
 cond (not y117.1)
 (some (6,()))
 ((m30 a0.2.2.1).bind fun y122 =>
 cond (not y122.1)
 (some (8,()))
 (some (0,())))))))
 (cond (iEq a0.2.1 2)
 (cond (iLt 0 (lenI a0.2.2.1))
 (some (20,()))
 (cond (iLt a0.2.2.2.2.1 a0.2.2.2.1)
 (some (1,()))
 ((m183 a0.2.2.2.1).bind fun y123 =>
 cond y123.1
 (some (1,()))
 ((m183 a0.2.2.2.2.1).bind fun y124 =>
 cond y124.1
 (some (1,()))
 (some (0,()))))))
 (cond (iEq a0.2.1 3)
 (cond (cond (cond (iLt 0 (lenI a0.2.2.1)) true (iNe a0.2.2.2.1 0)) true (iNe a0.2.2.2.2.1 0))
 (some (20,()))
 (some (0,())))
 (some (11,()))))
noncomputable def cfg165:Cfg:=⟨ttab,gtab,[i183,i29,i30],[]⟩
theorem eqn165 (x:DS5 × Unit):xfun cfg165 x165 73 [.t 2] [tS5] [(.int .i64)] x=m165 x.1:=by kernel_rfl
noncomputable def i165:PI:=⟨165,[tS5],[(.int .i64)],fun (x:DS5 × Unit)=>m165 x.1⟩
theorem oki165:POk Tryz.prog (gx gtab) i165:=pok mixed (cfg_p oki183 (cfg_p oki29 (cfg_p oki30 (cfg_nil _ _))):CfgOk _ (cfg165)) F165 (eqn165)
noncomputable def x134:XC:=xoF Tryz.f134 (.d 3 (.s (.d 1 (.b (.l [] ⟨50,[(3,(.int .i64))],[(1,.ptr 0 0 0)],[.box 59 [.d (.list tS5)]]⟩ (.d 1 (.s (.b (.d 2 (.s (.d 1 (.b (.l [] ⟨50,[(3,(.int .i64)),(5,(.int .i64))],[(1,.ptr 0 0 0),(4,.ptr 1 0 0)],[.box 59 [.d (.list tS5)],.box 106 [.d .str,.d (.int .i64),.d (.list .str),.d (.int .i64),.d (.int .i64)]]⟩ .o))) .o))) .o))))) .o))
theorem F134:Fn Tryz.prog 134 50 x134.er [.t 2]:=by unfold x134; exact fnX Tryz.func134 (by kernel_rfl) (by kernel_rfl) (by kernel_rfl) (by kernel_rfl)
noncomputable def m134 (a0:DS6):Option (Int × Unit) :=
 cond (iEq (lenI a0.1) 0)
 (some (19,()))
 (cond (iLt 6 (lenI a0.1))
 (some (4,()))
 (loopO (S:=Int × (List DS5) × Unit) (R:=Int × Unit) (fun s126 =>
 cond (iLt s126.1 (lenI s126.2.1))
 (cond (bnd s126.1 (lenI s126.2.1))
 ((m57 ((atI s126.2.1 s126.1 (ByteArray.empty,0,[],0,0,())).1)).bind fun y127 =>
 cond (not y127.1)
 (some (.inr (6,())))
 (loopO (S:=Int × Int × (List DS5) × ByteArray × Int × (List ByteArray) × Int × Int × Unit) (R:=(Int × (List DS5) × Unit) ⊕ (Int × Unit)) (fun s128 =>
 cond (iLt s128.2.1 s128.1)
 (cond (bnd s128.2.1 (lenI s128.2.2.1))
 (cond (sEq ((atI s128.2.2.1 s128.2.1 (ByteArray.empty,0,[],0,0,())).1) s128.2.2.2.1)
 (some (.inr (.inr (8,()))))
 (some (.inl (s128.1,iAdd .i64 s128.2.1 1,s128.2.2.1,s128.2.2.2.1,s128.2.2.2.2.1,s128.2.2.2.2.2.1,s128.2.2.2.2.2.2.1,s128.2.2.2.2.2.2.2.1,())))) none)
 (Option.map Sum.inr ((m165 (s128.2.2.2.1,s128.2.2.2.2.1,s128.2.2.2.2.2.1,s128.2.2.2.2.2.2.1,s128.2.2.2.2.2.2.2.1,())).bind fun y129 =>
 cond (iNe y129.1 0)
 (some (.inr (y129.1,())))
 (some (.inl (iAdd .i64 s128.1 1,s128.2.2.1,()))))))
 (s126.1,0,s126.2.1,(atI s126.2.1 s126.1 (ByteArray.empty,0,[],0,0,())).1,(atI s126.2.1 s126.1 (ByteArray.empty,0,[],0,0,())).2.1,(atI s126.2.1 s126.1 (ByteArray.empty,0,[],0,0,())).2.2.1,(atI s126.2.1 s126.1 (ByteArray.empty,0,[],0,0,())).2.2.2.1,(atI s126.2.1 s126.1 (ByteArray.empty,0,[],0,0,())).2.2.2.2.1,()))) none)
 (some (.inr (0,()))))
 (0,a0.1,())))
noncomputable def cfg134:Cfg:=⟨ttab,gtab,[i165,i57],[]⟩
theorem eqn134 (x:DS6 × Unit):xfun cfg134 x134 50 [.t 2] [tS6] [(.int .i64)] x=m134 x.1:=by kernel_rfl
noncomputable def i134:PI:=⟨134,[tS6],[(.int .i64)],fun (x:DS6 × Unit)=>m134 x.1⟩
theorem oki134:POk Tryz.prog (gx gtab) i134:=pok mixed (cfg_p oki165 (cfg_p oki57 (cfg_nil _ _)):CfgOk _ (cfg134)) F134 (eqn134)
noncomputable def x146:XC:=xoF Tryz.f146 (.d 2 (.s (.d 1 (.b (.l [] ⟨23,[(1,(.int .i64)),(5,(.int .i64))],[(2,.ptr 0 0 0)],[.box 34 [.d (.int .i64),.d .str,.d (.list .str),.d (.int .i64),.d (.int .i64),.d (.rl 34 6)]]⟩ .o))) .o))
theorem F146:Fn Tryz.prog 146 23 x146.er [.t 4]:=by unfold x146; exact fnX Tryz.func146 (by kernel_rfl) (by kernel_rfl) (by kernel_rfl) (by kernel_rfl)
noncomputable def mb146 (self:(DS0 × Int × Unit)→Option (Bool × Unit)) (a0:DS0) (a1:Int):Option (Bool × Unit) :=
 cond (iEq a1 0)
 (some (true,()))
 (loopO (S:=Int × Int × Int × ByteArray × (List ByteArray) × Int × Int × (List AV) × Unit) (R:=Bool × Unit) (fun s135 =>
 cond (iLt s135.2.1 (lenI s135.2.2.2.2.2.2.2.1))
 (cond (and (bnd s135.2.1 (lenI s135.2.2.2.2.2.2.2.1)) (okS0 (atI s135.2.2.2.2.2.2.2.1 s135.2.1 AV.any)))
 ((self (decS0 (atI s135.2.2.2.2.2.2.2.1 s135.2.1 AV.any),iSub .i64 s135.1 1,())).bind fun y136 =>
 cond y136.1
 (some (.inr (true,())))
 (some (.inl (s135.1,iAdd .i64 s135.2.1 1,s135.2.2.1,s135.2.2.2.1,s135.2.2.2.2.1,s135.2.2.2.2.2.1,s135.2.2.2.2.2.2.1,s135.2.2.2.2.2.2.2.1,())))) none)
 (some (.inr (false,()))))
 (a1,0,a0.1,a0.2.1,a0.2.2.1,a0.2.2.2.1,a0.2.2.2.2.1,a0.2.2.2.2.2.1,()))
noncomputable def cfg146 (self:(DS0 × Int × Unit)→Option (Bool × Unit)):Cfg:=⟨ttab,gtab,[⟨146,[tS0,(.int .i64)],[.bool],self⟩],[]⟩
theorem eqn146 (self:(DS0 × Int × Unit)→Option (Bool × Unit)) (x:DS0 × Int × Unit):xfun (cfg146 self) x146 23 [.t 4] [tS0,(.int .i64)] [.bool] x=mb146 self x.1 x.2.1:=by kernel_rfl
noncomputable def m146 (a0:DS0) (a1:Int):Option (Bool × Unit):=iterF (fun self (x:DS0 × Int × Unit)=>mb146 self x.1 x.2.1) 10000 (a0,a1,())
noncomputable def i146:PI:=⟨146,[tS0,(.int .i64)],[.bool],fun (x:DS0 × Int × Unit)=>m146 x.1 x.2.1⟩
theorem oki146:POk Tryz.prog (gx gtab) i146:=pok_iter 10000 (f:=146) (ps:=[tS0,(.int .i64)]) (rs:=[.bool]) (G:=fun self (x:DS0 × Int × Unit)=>mb146 self x.1 x.2.1) F146.callable (fun run hr=>pok mixed (cfg_p hr (cfg_nil _ _):CfgOk _ (cfg146 run)) F146 (eqn146 run))
noncomputable def x147:XC:=xoF Tryz.f147 (.d 2 (.s (.d 1 (.b (.l [] ⟨26,[(3,(.int .i64)),(4,(.int .i64))],[(1,.ptr 0 0 0)],[.box 34 [.d (.int .i64),.d .str,.d (.list .str),.d (.int .i64),.d (.int .i64),.d (.rl 34 6)]]⟩ .o))) .o))
theorem F147:Fn Tryz.prog 147 26 x147.er [.t 2]:=by unfold x147; exact fnX Tryz.func147 (by kernel_rfl) (by kernel_rfl) (by kernel_rfl) (by kernel_rfl)
noncomputable def mb147 (self:(DS0 × Unit)→Option (Int × Unit)) (a0:DS0):Option (Int × Unit) :=
 loopO (S:=Int × Int × Int × ByteArray × (List ByteArray) × Int × Int × (List AV) × Unit) (R:=Int × Unit) (fun s140 =>
 cond (cond (iLt s140.2.1 (lenI s140.2.2.2.2.2.2.2.1)) (iLe s140.1 300) false)
 (cond (and (bnd s140.2.1 (lenI s140.2.2.2.2.2.2.2.1)) (okS0 (atI s140.2.2.2.2.2.2.2.1 s140.2.1 AV.any)))
 ((self (decS0 (atI s140.2.2.2.2.2.2.2.1 s140.2.1 AV.any),())).bind fun y141 =>
 some (.inl (iAdd .i64 s140.1 y141.1,iAdd .i64 s140.2.1 1,s140.2.2.1,s140.2.2.2.1,s140.2.2.2.2.1,s140.2.2.2.2.2.1,s140.2.2.2.2.2.2.1,s140.2.2.2.2.2.2.2.1,()))) none)
 (some (.inr (iMin s140.1 301,()))))
 (1,0,a0.1,a0.2.1,a0.2.2.1,a0.2.2.2.1,a0.2.2.2.2.1,a0.2.2.2.2.2.1,())
noncomputable def cfg147 (self:(DS0 × Unit)→Option (Int × Unit)):Cfg:=⟨ttab,gtab,[⟨147,[tS0],[(.int .i64)],self⟩],[]⟩
theorem eqn147 (self:(DS0 × Unit)→Option (Int × Unit)) (x:DS0 × Unit):xfun (cfg147 self) x147 26 [.t 2] [tS0] [(.int .i64)] x=mb147 self x.1:=by kernel_rfl
noncomputable def m147 (a0:DS0):Option (Int × Unit):=iterF (fun self (x:DS0 × Unit)=>mb147 self x.1) 10000 (a0,())
noncomputable def i147:PI:=⟨147,[tS0],[(.int .i64)],fun (x:DS0 × Unit)=>m147 x.1⟩
theorem oki147:POk Tryz.prog (gx gtab) i147:=pok_iter 10000 (f:=147) (ps:=[tS0]) (rs:=[(.int .i64)]) (G:=fun self (x:DS0 × Unit)=>mb147 self x.1) F147.callable (fun run hr=>pok mixed (cfg_p hr (cfg_nil _ _):CfgOk _ (cfg147 run)) F147 (eqn147 run))
noncomputable def x171:XC:=xoF Tryz.f171 (.d 3 (.j [] ⟨117,[],[(1,.ptr 0 0 0)],[.box 34 [.d (.int .i64),.d .str,.d (.list .str),.d (.int .i64),.d (.int .i64),.d (.rl 34 6)]]⟩ .o .o))
theorem F171:Fn Tryz.prog 171 117 x171.er [.t 2]:=by unfold x171; exact fnX Tryz.func171 (by kernel_rfl) (by kernel_rfl) (by kernel_rfl) (by kernel_rfl)
noncomputable def m171 (a0:DS0):Option (Bool × Unit) :=
 cond (cond (iLt a0.1 1) true (iLt 8 a0.1))
 (some (false,()))
 (cond (cond (cond (iEq a0.1 3) true (iEq a0.1 4)) true (iEq a0.1 5))
 ((m57 a0.2.1).bind fun y154 =>
 cond (not y154.1)
 (some (false,()))
 (cond (cond (not (cond (cond (iEq a0.1 3) true (iEq a0.1 4)) true (iEq a0.1 5))) (not (sEq a0.2.1 (bs []))) false)
 (some (false,()))
 (joinO (S:=Int × ByteArray × (List ByteArray) × Int × Int × (List AV) × Unit) (R:=Bool × Unit)
 (cond (iEq a0.1 4)
 (cond (cond (iLt (lenI a0.2.2.1) 1) true (iLt 12 (lenI a0.2.2.1)))
 (some (.inr (false,())))
 ((m29 a0.2.2.1).bind fun y155 =>
 cond (not y155.1)
 (some (.inr (false,())))
 ((m30 a0.2.2.1).bind fun y156 =>
 cond (not y156.1)
 (some (.inr (false,())))
 (some (.inl (a0.1,a0.2.1,a0.2.2.1,a0.2.2.2.1,a0.2.2.2.2.1,a0.2.2.2.2.2.1,()))))))
 (cond (iLt 0 (lenI a0.2.2.1))
 (some (.inr (false,())))
 (some (.inl (a0.1,a0.2.1,a0.2.2.1,a0.2.2.2.1,a0.2.2.2.2.1,a0.2.2.2.2.2.1,())))))
 (fun j157 =>
 cond (iEq j157.1 5)
 ((m183 j157.2.2.2.1).bind fun y158 =>
 cond y158.1
 (some (false,()))
 ((m183 j157.2.2.2.2.1).bind fun y159 =>
 cond (cond y159.1 true (iLt j157.2.2.2.2.1 j157.2.2.2.1))
 (some (false,()))
 (cond (iEq j157.1 6)
 (some (iEq (lenI j157.2.2.2.2.2.1) 1,()))
 (cond (iEq j157.1 7)
 (some (iLe 2 (lenI j157.2.2.2.2.2.1),()))
 (cond (iEq j157.1 8)
 (some (iLe 2 (lenI j157.2.2.2.2.2.1),()))
 (some (iEq (lenI j157.2.2.2.2.2.1) 0,())))))))
 (cond (cond (iNe j157.2.2.2.1 0) true (iNe j157.2.2.2.2.1 0))
 (some (false,()))
 (cond (iEq j157.1 6)
 (some (iEq (lenI j157.2.2.2.2.2.1) 1,()))
 (cond (iEq j157.1 7)
 (some (iLe 2 (lenI j157.2.2.2.2.2.1),()))
 (cond (iEq j157.1 8)
 (some (iLe 2 (lenI j157.2.2.2.2.2.1),()))
 (some (iEq (lenI j157.2.2.2.2.2.1) 0,()))))))))))
 (cond (cond (not (cond (cond (iEq a0.1 3) true (iEq a0.1 4)) true (iEq a0.1 5))) (not (sEq a0.2.1 (bs []))) false)
 (some (false,()))
 (joinO (S:=Int × ByteArray × (List ByteArray) × Int × Int × (List AV) × Unit) (R:=Bool × Unit)
 (cond (iEq a0.1 4)
 (cond (cond (iLt (lenI a0.2.2.1) 1) true (iLt 12 (lenI a0.2.2.1)))
 (some (.inr (false,())))
 ((m29 a0.2.2.1).bind fun y160 =>
 cond (not y160.1)
 (some (.inr (false,())))
 ((m30 a0.2.2.1).bind fun y161 =>
 cond (not y161.1)
 (some (.inr (false,())))
 (some (.inl (a0.1,a0.2.1,a0.2.2.1,a0.2.2.2.1,a0.2.2.2.2.1,a0.2.2.2.2.2.1,()))))))
 (cond (iLt 0 (lenI a0.2.2.1))
 (some (.inr (false,())))
 (some (.inl (a0.1,a0.2.1,a0.2.2.1,a0.2.2.2.1,a0.2.2.2.2.1,a0.2.2.2.2.2.1,())))))
 (fun j162 =>
 cond (iEq j162.1 5)
 ((m183 j162.2.2.2.1).bind fun y163 =>
 cond y163.1
 (some (false,()))
 ((m183 j162.2.2.2.2.1).bind fun y164 =>
 cond (cond y164.1 true (iLt j162.2.2.2.2.1 j162.2.2.2.1))
 (some (false,()))
 (cond (iEq j162.1 6)
 (some (iEq (lenI j162.2.2.2.2.2.1) 1,()))
 (cond (iEq j162.1 7)
 (some (iLe 2 (lenI j162.2.2.2.2.2.1),()))
 (cond (iEq j162.1 8)
 (some (iLe 2 (lenI j162.2.2.2.2.2.1),()))
 (some (iEq (lenI j162.2.2.2.2.2.1) 0,())))))))
 (cond (cond (iNe j162.2.2.2.1 0) true (iNe j162.2.2.2.2.1 0))
 (some (false,()))
 (cond (iEq j162.1 6)
 (some (iEq (lenI j162.2.2.2.2.2.1) 1,()))
 (cond (iEq j162.1 7)
 (some (iLe 2 (lenI j162.2.2.2.2.2.1),()))
 (cond (iEq j162.1 8)
 (some (iLe 2 (lenI j162.2.2.2.2.2.1),()))
 (some (iEq (lenI j162.2.2.2.2.2.1) 0,()))))))))))
noncomputable def cfg171:Cfg:=⟨ttab,gtab,[i183,i29,i30,i57],[]⟩
theorem eqn171 (x:DS0 × Unit):xfun cfg171 x171 117 [.t 2] [tS0] [.bool] x=m171 x.1:=by kernel_rfl
noncomputable def i171:PI:=⟨171,[tS0],[.bool],fun (x:DS0 × Unit)=>m171 x.1⟩
theorem oki171:POk Tryz.prog (gx gtab) i171:=pok mixed (cfg_p oki183 (cfg_p oki29 (cfg_p oki30 (cfg_p oki57 (cfg_nil _ _)))):CfgOk _ (cfg171)) F171 (eqn171)
noncomputable def x148:XC:=xoF Tryz.f148 (.d 2 (.s (.d 1 (.b (.l [] ⟨21,[(3,(.int .i64))],[(1,.ptr 0 0 0)],[.box 34 [.d (.int .i64),.d .str,.d (.list .str),.d (.int .i64),.d (.int .i64),.d (.rl 34 6)]]⟩ .o))) .o))
theorem F148:Fn Tryz.prog 148 21 x148.er [.t 2]:=by unfold x148; exact fnX Tryz.func148 (by kernel_rfl) (by kernel_rfl) (by kernel_rfl) (by kernel_rfl)
noncomputable def mb148 (self:(DS0 × Unit)→Option (Bool × Unit)) (a0:DS0):Option (Bool × Unit) :=
 (m171 (a0.1,a0.2.1,a0.2.2.1,a0.2.2.2.1,a0.2.2.2.2.1,a0.2.2.2.2.2.1,())).bind fun y168 =>
 cond (not y168.1)
 (some (false,()))
 (loopO (S:=Int × Int × ByteArray × (List ByteArray) × Int × Int × (List AV) × Unit) (R:=Bool × Unit) (fun s169 =>
 cond (iLt s169.1 (lenI s169.2.2.2.2.2.2.1))
 (cond (and (bnd s169.1 (lenI s169.2.2.2.2.2.2.1)) (okS0 (atI s169.2.2.2.2.2.2.1 s169.1 AV.any)))
 ((self (decS0 (atI s169.2.2.2.2.2.2.1 s169.1 AV.any),())).bind fun y170 =>
 cond (not y170.1)
 (some (.inr (false,())))
 (some (.inl (iAdd .i64 s169.1 1,s169.2.1,s169.2.2.1,s169.2.2.2.1,s169.2.2.2.2.1,s169.2.2.2.2.2.1,s169.2.2.2.2.2.2.1,())))) none)
 (some (.inr (true,()))))
 (0,a0.1,a0.2.1,a0.2.2.1,a0.2.2.2.1,a0.2.2.2.2.1,a0.2.2.2.2.2.1,()))
noncomputable def cfg148 (self:(DS0 × Unit)→Option (Bool × Unit)):Cfg:=⟨ttab,gtab,[⟨148,[tS0],[.bool],self⟩,i171],[]⟩
theorem eqn148 (self:(DS0 × Unit)→Option (Bool × Unit)) (x:DS0 × Unit):xfun (cfg148 self) x148 21 [.t 2] [tS0] [.bool] x=mb148 self x.1:=by kernel_rfl
noncomputable def m148 (a0:DS0):Option (Bool × Unit):=iterF (fun self (x:DS0 × Unit)=>mb148 self x.1) 10000 (a0,())
noncomputable def i148:PI:=⟨148,[tS0],[.bool],fun (x:DS0 × Unit)=>m148 x.1⟩
theorem oki148:POk Tryz.prog (gx gtab) i148:=pok_iter 10000 (f:=148) (ps:=[tS0]) (rs:=[.bool]) (G:=fun self (x:DS0 × Unit)=>mb148 self x.1) F148.callable (fun run hr=>pok mixed (cfg_p hr (cfg_p oki171 (cfg_nil _ _)):CfgOk _ (cfg148 run)) F148 (eqn148 run))
noncomputable def x98:XC:=xoF Tryz.f98 .o
theorem F98:Fn Tryz.prog 98 15 x98.er [.t 2]:=by unfold x98; exact fnX Tryz.func98 (by kernel_rfl) (by kernel_rfl) (by kernel_rfl) (by kernel_rfl)
noncomputable def m98 (a0:DS0):Option (Bool × Unit) :=
 (m146 (a0.1,a0.2.1,a0.2.2.1,a0.2.2.2.1,a0.2.2.2.2.1,a0.2.2.2.2.2.1,()) 16).bind fun y137 =>
 cond (not y137.1)
 ((m147 (a0.1,a0.2.1,a0.2.2.1,a0.2.2.2.1,a0.2.2.2.2.1,a0.2.2.2.2.2.1,())).bind fun y142 =>
 cond (iLe y142.1 300)
 ((m148 (a0.1,a0.2.1,a0.2.2.1,a0.2.2.2.1,a0.2.2.2.2.1,a0.2.2.2.2.2.1,())).bind fun y171 =>
 some (y171.1,()))
 (some (false,())))
 (some (false,()))
noncomputable def cfg98:Cfg:=⟨ttab,gtab,[i146,i147,i148],[]⟩
theorem eqn98 (x:DS0 × Unit):xfun cfg98 x98 15 [.t 2] [tS0] [.bool] x=m98 x.1:=by kernel_rfl
noncomputable def i98:PI:=⟨98,[tS0],[.bool],fun (x:DS0 × Unit)=>m98 x.1⟩
theorem oki98:POk Tryz.prog (gx gtab) i98:=pok mixed (cfg_p oki146 (cfg_p oki147 (cfg_p oki148 (cfg_nil _ _))):CfgOk _ (cfg98)) F98 (eqn98)
noncomputable def x99:XC:=xoF Tryz.f99 (.d 2 (.s (.d 1 (.b (.l [] ⟨27,[(0,(.rl 63 8)),(3,(.int .i64)),(4,(.int .i64))],[],[]⟩ .o))) .o))
theorem F99:Fn Tryz.prog 99 27 x99.er [.t 2]:=by unfold x99; exact fnX Tryz.func99 (by kernel_rfl) (by kernel_rfl) (by kernel_rfl) (by kernel_rfl)
noncomputable def mb99 (self:((List AV) × Unit)→Option (Int × Unit)) (a0:List AV):Option (Int × Unit) :=
 loopO (S:=(List AV) × Int × Int × Unit) (R:=Int × Unit) (fun s175 =>
 cond (cond (iLt s175.2.2.1 (lenI s175.1)) (iLe s175.2.1 40) false)
 (cond (and (bnd s175.2.2.1 (lenI s175.1)) (okS7 (atI s175.1 s175.2.2.1 AV.any)))
 ((self ((decS7 (atI s175.1 s175.2.2.1 AV.any)).2.2.1,())).bind fun y176 =>
 some (.inl (s175.1,iAdd .i64 s175.2.1 y176.1,iAdd .i64 s175.2.2.1 1,()))) none)
 (some (.inr (iMin s175.2.1 41,()))))
 (a0,lenI a0,0,())
noncomputable def cfg99 (self:((List AV) × Unit)→Option (Int × Unit)):Cfg:=⟨ttab,gtab,[⟨99,[(.rl 63 8)],[(.int .i64)],self⟩],[]⟩
theorem eqn99 (self:((List AV) × Unit)→Option (Int × Unit)) (x:(List AV) × Unit):xfun (cfg99 self) x99 27 [.t 2] [(.rl 63 8)] [(.int .i64)] x=mb99 self x.1:=by kernel_rfl
noncomputable def m99 (a0:List AV):Option (Int × Unit):=iterF (fun self (x:(List AV) × Unit)=>mb99 self x.1) 10000 (a0,())
noncomputable def i99:PI:=⟨99,[(.rl 63 8)],[(.int .i64)],fun (x:(List AV) × Unit)=>m99 x.1⟩
theorem oki99:POk Tryz.prog (gx gtab) i99:=pok_iter 10000 (f:=99) (ps:=[(.rl 63 8)]) (rs:=[(.int .i64)]) (G:=fun self (x:(List AV) × Unit)=>mb99 self x.1) F99.callable (fun run hr=>pok mixed (cfg_p hr (cfg_nil _ _):CfgOk _ (cfg99 run)) F99 (eqn99 run))
noncomputable def x100:XC:=xoF Tryz.f100 (.d 2 (.s (.d 1 (.b (.l [] ⟨46,[(0,(.rl 63 8)),(1,(.int .i64)),(5,(.int .i64))],[],[]⟩ .o))) .o))
theorem F100:Fn Tryz.prog 100 46 x100.er [.t 4]:=by unfold x100; exact fnX Tryz.func100 (by kernel_rfl) (by kernel_rfl) (by kernel_rfl) (by kernel_rfl)
noncomputable def mb100 (self:((List AV) × Int × Unit)→Option (Bool × Unit)) (a0:List AV) (a1:Int):Option (Bool × Unit) :=
 cond (cond (iLt 0 (lenI a0)) (iEq a1 0) false)
 (some (false,()))
 (loopO (S:=(List AV) × Int × Int × Unit) (R:=Bool × Unit) (fun s182 =>
 cond (iLt s182.2.2.1 (lenI s182.1))
 (cond (and (bnd s182.2.2.1 (lenI s182.1)) (okS7 (atI s182.1 s182.2.2.1 AV.any)))
 ((m57 ((decS7 (atI s182.1 s182.2.2.1 AV.any)).1)).bind fun y183 =>
 cond (or (and (bnd s182.2.2.1 (lenI s182.1)) (okS7 (atI s182.1 s182.2.2.1 AV.any))) (not (bEq (not y183.1) false)))
 (cond (not y183.1)
 (cond (or (and (bnd s182.2.2.1 (lenI s182.1)) (okS7 (atI s182.1 s182.2.2.1 AV.any))) (not (bEq true false)))
 (some (.inr (false,()))) none)
 ((m98 ((decS7 (atI s182.1 s182.2.2.1 AV.any)).2.1)).bind fun y184 =>
 cond (or (and (bnd s182.2.2.1 (lenI s182.1)) (okS7 (atI s182.1 s182.2.2.1 AV.any))) (not (bEq (not y184.1) false)))
 (cond (not y184.1)
 (some (.inr (false,())))
 ((self ((decS7 (atI s182.1 s182.2.2.1 AV.any)).2.2.1,iSub .i64 s182.2.1 1,())).bind fun y185 =>
 cond (not y185.1)
 (some (.inr (false,())))
 (some (.inl (s182.1,s182.2.1,iAdd .i64 s182.2.2.1 1,()))))) none)) none) none)
 (some (.inr (true,()))))
 (a0,a1,0,()))
noncomputable def cfg100 (self:((List AV) × Int × Unit)→Option (Bool × Unit)):Cfg:=⟨ttab,gtab,[⟨100,[(.rl 63 8),(.int .i64)],[.bool],self⟩,i57,i98],[]⟩
theorem eqn100 (self:((List AV) × Int × Unit)→Option (Bool × Unit)) (x:(List AV) × Int × Unit):xfun (cfg100 self) x100 46 [.t 4] [(.rl 63 8),(.int .i64)] [.bool] x=mb100 self x.1 x.2.1:=by kernel_rfl
noncomputable def m100 (a0:List AV) (a1:Int):Option (Bool × Unit):=iterF (fun self (x:(List AV) × Int × Unit)=>mb100 self x.1 x.2.1) 10000 (a0,a1,())
noncomputable def i100:PI:=⟨100,[(.rl 63 8),(.int .i64)],[.bool],fun (x:(List AV) × Int × Unit)=>m100 x.1 x.2.1⟩
theorem oki100:POk Tryz.prog (gx gtab) i100:=pok_iter 10000 (f:=100) (ps:=[(.rl 63 8),(.int .i64)]) (rs:=[.bool]) (G:=fun self (x:(List AV) × Int × Unit)=>mb100 self x.1 x.2.1) F100.callable (fun run hr=>pok mixed (cfg_p hr (cfg_p oki57 (cfg_p oki98 (cfg_nil _ _))):CfgOk _ (cfg100 run)) F100 (eqn100 run))
noncomputable def x56:XC:=xoF Tryz.f56 .o
theorem F56:Fn Tryz.prog 56 70 x56.er [.t 2]:=by unfold x56; exact fnX Tryz.func56 (by kernel_rfl) (by kernel_rfl) (by kernel_rfl) (by kernel_rfl)
noncomputable def m56 (a0:DS1):Option (Bool × Unit) :=
 cond (cond (iLt a0.1 1) true (iLt 10 a0.1))
 (some (false,()))
 ((m57 a0.2.1).bind fun y132 =>
 cond (not y132.1)
 (some (false,()))
 ((m98 (a0.2.2.1.1,a0.2.2.1.2.1,a0.2.2.1.2.2.1,a0.2.2.1.2.2.2.1,a0.2.2.1.2.2.2.2.1,a0.2.2.1.2.2.2.2.2.1,())).bind fun y172 =>
 cond (not y172.1)
 (some (false,()))
 (cond (iLt 0 (lenI a0.2.2.2.1))
 (cond (iNe a0.1 3)
 (some (false,()))
 ((m99 a0.2.2.2.1).bind fun y177 =>
 cond (iLt 40 y177.1)
 (some (false,()))
 ((m100 a0.2.2.2.1 16).bind fun y186 =>
 cond (not y186.1)
 (some (false,()))
 ((m101 a0.1).bind fun y187 =>
 cond (cond (iEq y187.1 0) (iEq a0.2.2.2.2.1 0) false)
 (some (true,()))
 (some (cond (cond (iLt 0 y187.1) (iLe 1 a0.2.2.2.2.1) false) (iLe a0.2.2.2.2.1 y187.1) false,()))))))
 ((m101 a0.1).bind fun y188 =>
 cond (cond (iEq y188.1 0) (iEq a0.2.2.2.2.1 0) false)
 (some (true,()))
 (some (cond (cond (iLt 0 y188.1) (iLe 1 a0.2.2.2.2.1) false) (iLe a0.2.2.2.2.1 y188.1) false,()))))))
noncomputable def cfg56:Cfg:=⟨ttab,gtab,[i100,i101,i57,i98,i99],[]⟩
theorem eqn56 (x:DS1 × Unit):xfun cfg56 x56 70 [.t 2] [tS1] [.bool] x=m56 x.1:=by kernel_rfl
noncomputable def i56:PI:=⟨56,[tS1],[.bool],fun (x:DS1 × Unit)=>m56 x.1⟩
theorem oki56:POk Tryz.prog (gx gtab) i56:=pok mixed (cfg_p oki100 (cfg_p oki101 (cfg_p oki57 (cfg_p oki98 (cfg_p oki99 (cfg_nil _ _))))):CfgOk _ (cfg56)) F56 (eqn56)
noncomputable def x135:XC:=xoF Tryz.f135 (.d 1 (.s (.d 1 (.b (.l [] ⟨23,[(1,.str),(6,(.int .i64))],[(2,.ptr 0 0 0)],[.box 59 [.d (.list tS5)]]⟩ .o))) .o))
theorem F135:Fn Tryz.prog 135 23 x135.er [.t 4,.t 5]:=by unfold x135; exact fnX Tryz.func135 (by kernel_rfl) (by kernel_rfl) (by kernel_rfl) (by kernel_rfl)
noncomputable def m135 (a0:DS6) (a1:ByteArray):Option (Int × Bool × Unit) :=
 loopO (S:=ByteArray × Int × (List DS5) × Unit) (R:=Int × Bool × Unit) (fun s192 =>
 cond (iLt s192.2.1 (lenI s192.2.2.1))
 (cond (bnd s192.2.1 (lenI s192.2.2.1))
 (cond (sEq ((atI s192.2.2.1 s192.2.1 (ByteArray.empty,0,[],0,0,())).1) s192.1)
 (some (.inr (s192.2.1,true,())))
 (some (.inl (s192.1,iAdd .i64 s192.2.1 1,s192.2.2.1,())))) none)
 (some (.inr (0,false,()))))
 (a1,0,a0.1,())
noncomputable def cfg135:Cfg:=⟨ttab,gtab,[],[]⟩
theorem eqn135 (x:DS6 × ByteArray × Unit):xfun cfg135 x135 23 [.t 4,.t 5] [tS6,.str] [(.int .i64),.bool] x=m135 x.1 x.2.1:=by kernel_rfl
noncomputable def i135:PI:=⟨135,[tS6,.str],[(.int .i64),.bool],fun (x:DS6 × ByteArray × Unit)=>m135 x.1 x.2.1⟩
theorem oki135:POk Tryz.prog (gx gtab) i135:=pok mixed (cfg_nil _ _:CfgOk _ (cfg135)) F135 (eqn135)
noncomputable def x168:XC:=xoF Tryz.f168 (.d 1 (.s (.d 1 (.b (.l [] ⟨29,[(0,(.list tS1)),(1,.str),(6,(.int .i64))],[],[]⟩ .o))) .o))
theorem F168:Fn Tryz.prog 168 29 x168.er [.t 4,.t 5]:=by unfold x168; exact fnX Tryz.func168 (by kernel_rfl) (by kernel_rfl) (by kernel_rfl) (by kernel_rfl)
noncomputable def m168 (a0:List DS1) (a1:ByteArray):Option (Int × Bool × Unit) :=
 loopO (S:=(List DS1) × ByteArray × Int × Unit) (R:=Int × Bool × Unit) (fun s196 =>
 cond (iLt s196.2.2.1 (lenI s196.1))
 (cond (bnd s196.2.2.1 (lenI s196.1))
 (cond (or (bnd s196.2.2.1 (lenI s196.1)) (not (bEq (iEq ((atI s196.1 s196.2.2.1 (0,ByteArray.empty,(0,ByteArray.empty,[],0,0,[],()),[],0,())).1) 1) true)))
 (cond (cond (iEq ((atI s196.1 s196.2.2.1 (0,ByteArray.empty,(0,ByteArray.empty,[],0,0,[],()),[],0,())).1) 1) (sEq ((atI s196.1 s196.2.2.1 (0,ByteArray.empty,(0,ByteArray.empty,[],0,0,[],()),[],0,())).2.1) s196.2.1) false)
 (some (.inr (s196.2.2.1,true,())))
 (some (.inl (s196.1,s196.2.1,iAdd .i64 s196.2.2.1 1,())))) none) none)
 (some (.inr (0,false,()))))
 (a0,a1,0,())
noncomputable def cfg168:Cfg:=⟨ttab,gtab,[],[]⟩
theorem eqn168 (x:(List DS1) × ByteArray × Unit):xfun cfg168 x168 29 [.t 4,.t 5] [(.list tS1),.str] [(.int .i64),.bool] x=m168 x.1 x.2.1:=by kernel_rfl
noncomputable def i168:PI:=⟨168,[(.list tS1),.str],[(.int .i64),.bool],fun (x:(List DS1) × ByteArray × Unit)=>m168 x.1 x.2.1⟩
theorem oki168:POk Tryz.prog (gx gtab) i168:=pok mixed (cfg_nil _ _:CfgOk _ (cfg168)) F168 (eqn168)
noncomputable def x144:XC:=xoF Tryz.f144 (.d 1 (.s (.d 1 (.b (.l [] ⟨18,[(0,(.list .str)),(1,.str),(5,(.int .i64))],[],[]⟩ .o))) .o))
theorem F144:Fn Tryz.prog 144 18 x144.er [.t 4]:=by unfold x144; exact fnX Tryz.func144 (by kernel_rfl) (by kernel_rfl) (by kernel_rfl) (by kernel_rfl)
noncomputable def m144 (a0:List ByteArray) (a1:ByteArray):Option (Bool × Unit) :=
 loopO (S:=(List ByteArray) × ByteArray × Int × Unit) (R:=Bool × Unit) (fun s200 =>
 cond (iLt s200.2.2.1 (lenI s200.1))
 (cond (bnd s200.2.2.1 (lenI s200.1))
 (cond (sEq (atI s200.1 s200.2.2.1 ByteArray.empty) s200.2.1)
 (some (.inr (true,())))
 (some (.inl (s200.1,s200.2.1,iAdd .i64 s200.2.2.1 1,())))) none)
 (some (.inr (false,()))))
 (a0,a1,0,())
noncomputable def cfg144:Cfg:=⟨ttab,gtab,[],[]⟩
theorem eqn144 (x:(List ByteArray) × ByteArray × Unit):xfun cfg144 x144 18 [.t 4] [(.list .str),.str] [.bool] x=m144 x.1 x.2.1:=by kernel_rfl
noncomputable def i144:PI:=⟨144,[(.list .str),.str],[.bool],fun (x:(List ByteArray) × ByteArray × Unit)=>m144 x.1 x.2.1⟩
theorem oki144:POk Tryz.prog (gx gtab) i144:=pok mixed (cfg_nil _ _:CfgOk _ (cfg144)) F144 (eqn144)
noncomputable def x166:XC:=xoF Tryz.f166 (.d 2 (.s (.d 1 (.b (.d 1 (.c .o (.d 1 (.c (.d 4 (.b (.l [] ⟨100,[(12,(.int .i64))],[(5,.ptr 0 0 0),(11,.ptr 1 0 0)],[.box 34 [.d (.int .i64),.d .str,.d (.list .str),.d (.int .i64),.d (.int .i64),.d (.rl 34 6)],.box 106 [.d .str,.d (.int .i64),.d (.list .str),.d (.int .i64),.d (.int .i64)]]⟩ .o))) .o)))))) .o))
theorem F166:Fn Tryz.prog 166 100 x166.er [.t 6]:=by unfold x166; exact fnX Tryz.func166 (by kernel_rfl) (by kernel_rfl) (by kernel_rfl) (by kernel_rfl)
noncomputable def m166 (a0:DS6) (a1:List DS1) (a2:DS0):Option (Int × Unit) :=
 (m135 (a0.1,()) a2.2.1).bind fun y202 =>
 cond (iEq a2.1 3)
 ((m168 a1 a2.2.1).bind fun y203 =>
 cond (cond (not y202.2.1) (not y203.2.1) false)
 (some (7,()))
 (cond (or (bnd y202.1 (lenI a0.1)) (not (bEq y202.2.1 true)))
 (cond (cond y202.2.1 (iNe ((atI a0.1 y202.1 (ByteArray.empty,0,[],0,0,())).2.1) 3) false)
 (some (9,()))
 (some (0,()))) none))
 (cond (iEq a2.1 4)
 (cond (not y202.2.1)
 (some (7,()))
 (cond (bnd y202.1 (lenI a0.1))
 (cond (iNe ((atI a0.1 y202.1 (ByteArray.empty,0,[],0,0,())).2.1) 1)
 (some (9,()))
 (loopO (S:=Int × Int × ByteArray × (List ByteArray) × Int × Int × (List AV) × ByteArray × Int × (List ByteArray) × Int × Int × Unit) (R:=Int × Unit) (fun s204 =>
 cond (iLt s204.1 (lenI s204.2.2.2.1))
 (cond (bnd s204.1 (lenI s204.2.2.2.1))
 ((m144 s204.2.2.2.2.2.2.2.2.2.1 (atI s204.2.2.2.1 s204.1 ByteArray.empty)).bind fun y205 =>
 cond (not y205.1)
 (some (.inr (7,())))
 (some (.inl (iAdd .i64 s204.1 1,s204.2.1,s204.2.2.1,s204.2.2.2.1,s204.2.2.2.2.1,s204.2.2.2.2.2.1,s204.2.2.2.2.2.2.1,s204.2.2.2.2.2.2.2.1,s204.2.2.2.2.2.2.2.2.1,s204.2.2.2.2.2.2.2.2.2.1,s204.2.2.2.2.2.2.2.2.2.2.1,s204.2.2.2.2.2.2.2.2.2.2.2.1,())))) none)
 (some (.inr (0,()))))
 (0,a2.1,a2.2.1,a2.2.2.1,a2.2.2.2.1,a2.2.2.2.2.1,a2.2.2.2.2.2.1,(atI a0.1 y202.1 (ByteArray.empty,0,[],0,0,())).1,(atI a0.1 y202.1 (ByteArray.empty,0,[],0,0,())).2.1,(atI a0.1 y202.1 (ByteArray.empty,0,[],0,0,())).2.2.1,(atI a0.1 y202.1 (ByteArray.empty,0,[],0,0,())).2.2.2.1,(atI a0.1 y202.1 (ByteArray.empty,0,[],0,0,())).2.2.2.2.1,()))) none))
 (cond (iEq a2.1 5)
 (cond (not y202.2.1)
 (some (7,()))
 (cond (bnd y202.1 (lenI a0.1))
 (cond (iNe ((atI a0.1 y202.1 (ByteArray.empty,0,[],0,0,())).2.1) 2)
 (some (9,()))
 (cond (cond (iLt a2.2.2.2.1 ((atI a0.1 y202.1 (ByteArray.empty,0,[],0,0,())).2.2.2.1)) true (iLt ((atI a0.1 y202.1 (ByteArray.empty,0,[],0,0,())).2.2.2.2.1) a2.2.2.2.2.1))
 (some (1,()))
 (some (0,())))) none))
 (some (0,()))))
noncomputable def cfg166:Cfg:=⟨ttab,gtab,[i135,i144,i168],[]⟩
theorem eqn166 (x:DS6 × (List DS1) × DS0 × Unit):xfun cfg166 x166 100 [.t 6] [tS6,(.list tS1),tS0] [(.int .i64)] x=m166 x.1 x.2.1 x.2.2.1:=by kernel_rfl
noncomputable def i166:PI:=⟨166,[tS6,(.list tS1),tS0],[(.int .i64)],fun (x:DS6 × (List DS1) × DS0 × Unit)=>m166 x.1 x.2.1 x.2.2.1⟩
theorem oki166:POk Tryz.prog (gx gtab) i166:=pok mixed (cfg_p oki135 (cfg_p oki144 (cfg_p oki168 (cfg_nil _ _))):CfgOk _ (cfg166)) F166 (eqn166)
noncomputable def x136:XC:=xoF Tryz.f136 (.d 2 (.s (.d 1 (.b (.l [] ⟨35,[(1,(.list tS1)),(8,(.int .i64))],[(3,.ptr 0 0 0),(5,.ptr 1 0 0)],[.box 59 [.d (.list tS5)],.box 34 [.d (.int .i64),.d .str,.d (.list .str),.d (.int .i64),.d (.int .i64),.d (.rl 34 6)]]⟩ .o))) .o))
theorem F136:Fn Tryz.prog 136 35 x136.er [.t 6]:=by unfold x136; exact fnX Tryz.func136 (by kernel_rfl) (by kernel_rfl) (by kernel_rfl) (by kernel_rfl)
noncomputable def mb136 (self:(DS6 × (List DS1) × DS0 × Unit)→Option (Int × Unit)) (a0:DS6) (a1:List DS1) (a2:DS0):Option (Int × Unit) :=
 (m166 (a0.1,()) a1 (a2.1,a2.2.1,a2.2.2.1,a2.2.2.2.1,a2.2.2.2.2.1,a2.2.2.2.2.2.1,())).bind fun y209 =>
 cond (iNe y209.1 0)
 (some (y209.1,()))
 (loopO (S:=(List DS1) × Int × (List DS5) × Int × ByteArray × (List ByteArray) × Int × Int × (List AV) × Unit) (R:=Int × Unit) (fun s210 =>
 cond (iLt s210.2.1 (lenI s210.2.2.2.2.2.2.2.2.1))
 (cond (and (bnd s210.2.1 (lenI s210.2.2.2.2.2.2.2.2.1)) (okS0 (atI s210.2.2.2.2.2.2.2.2.1 s210.2.1 AV.any)))
 ((self ((s210.2.2.1,()),s210.1,decS0 (atI s210.2.2.2.2.2.2.2.2.1 s210.2.1 AV.any),())).bind fun y211 =>
 cond (iNe y211.1 0)
 (some (.inr (y211.1,())))
 (some (.inl (s210.1,iAdd .i64 s210.2.1 1,s210.2.2.1,s210.2.2.2.1,s210.2.2.2.2.1,s210.2.2.2.2.2.1,s210.2.2.2.2.2.2.1,s210.2.2.2.2.2.2.2.1,s210.2.2.2.2.2.2.2.2.1,())))) none)
 (some (.inr (0,()))))
 (a1,0,a0.1,a2.1,a2.2.1,a2.2.2.1,a2.2.2.2.1,a2.2.2.2.2.1,a2.2.2.2.2.2.1,()))
noncomputable def cfg136 (self:(DS6 × (List DS1) × DS0 × Unit)→Option (Int × Unit)):Cfg:=⟨ttab,gtab,[⟨136,[tS6,(.list tS1),tS0],[(.int .i64)],self⟩,i166],[]⟩
theorem eqn136 (self:(DS6 × (List DS1) × DS0 × Unit)→Option (Int × Unit)) (x:DS6 × (List DS1) × DS0 × Unit):xfun (cfg136 self) x136 35 [.t 6] [tS6,(.list tS1),tS0] [(.int .i64)] x=mb136 self x.1 x.2.1 x.2.2.1:=by kernel_rfl
noncomputable def m136 (a0:DS6) (a1:List DS1) (a2:DS0):Option (Int × Unit):=iterF (fun self (x:DS6 × (List DS1) × DS0 × Unit)=>mb136 self x.1 x.2.1 x.2.2.1) 10000 (a0,a1,a2,())
noncomputable def i136:PI:=⟨136,[tS6,(.list tS1),tS0],[(.int .i64)],fun (x:DS6 × (List DS1) × DS0 × Unit)=>m136 x.1 x.2.1 x.2.2.1⟩
theorem oki136:POk Tryz.prog (gx gtab) i136:=pok_iter 10000 (f:=136) (ps:=[tS6,(.list tS1),tS0]) (rs:=[(.int .i64)]) (G:=fun self (x:DS6 × (List DS1) × DS0 × Unit)=>mb136 self x.1 x.2.1 x.2.2.1) F136.callable (fun run hr=>pok mixed (cfg_p hr (cfg_p oki166 (cfg_nil _ _)):CfgOk _ (cfg136 run)) F136 (eqn136 run))
noncomputable def x137:XC:=xoF Tryz.f137 (.d 1 (.s (.d 1 (.b (.l [] ⟨38,[(1,(.list tS1)),(2,(.rl 63 8)),(7,(.int .i64))],[(3,.ptr 0 0 0)],[.box 59 [.d (.list tS5)]]⟩ .o))) .o))
theorem F137:Fn Tryz.prog 137 38 x137.er [.t 6]:=by unfold x137; exact fnX Tryz.func137 (by kernel_rfl) (by kernel_rfl) (by kernel_rfl) (by kernel_rfl)
noncomputable def mb137 (self:(DS6 × (List DS1) × (List AV) × Unit)→Option (Int × Unit)) (a0:DS6) (a1:List DS1) (a2:List AV):Option (Int × Unit) :=
 loopO (S:=(List DS1) × (List AV) × Int × (List DS5) × Unit) (R:=Int × Unit) (fun s216 =>
 cond (iLt s216.2.2.1 (lenI s216.2.1))
 (cond (and (bnd s216.2.2.1 (lenI s216.2.1)) (okS7 (atI s216.2.1 s216.2.2.1 AV.any)))
 ((m136 (s216.2.2.2.1,()) s216.1 ((decS7 (atI s216.2.1 s216.2.2.1 AV.any)).2.1)).bind fun y217 =>
 cond (iNe y217.1 0)
 (some (.inr (y217.1,())))
 (cond (and (bnd s216.2.2.1 (lenI s216.2.1)) (okS7 (atI s216.2.1 s216.2.2.1 AV.any)))
 ((self ((s216.2.2.2.1,()),s216.1,(decS7 (atI s216.2.1 s216.2.2.1 AV.any)).2.2.1,())).bind fun y218 =>
 cond (iNe y218.1 0)
 (some (.inr (y218.1,())))
 (some (.inl (s216.1,s216.2.1,iAdd .i64 s216.2.2.1 1,s216.2.2.2.1,())))) none)) none)
 (some (.inr (0,()))))
 (a1,a2,0,a0.1,())
noncomputable def cfg137 (self:(DS6 × (List DS1) × (List AV) × Unit)→Option (Int × Unit)):Cfg:=⟨ttab,gtab,[⟨137,[tS6,(.list tS1),(.rl 63 8)],[(.int .i64)],self⟩,i136],[]⟩
theorem eqn137 (self:(DS6 × (List DS1) × (List AV) × Unit)→Option (Int × Unit)) (x:DS6 × (List DS1) × (List AV) × Unit):xfun (cfg137 self) x137 38 [.t 6] [tS6,(.list tS1),(.rl 63 8)] [(.int .i64)] x=mb137 self x.1 x.2.1 x.2.2.1:=by kernel_rfl
noncomputable def m137 (a0:DS6) (a1:List DS1) (a2:List AV):Option (Int × Unit):=iterF (fun self (x:DS6 × (List DS1) × (List AV) × Unit)=>mb137 self x.1 x.2.1 x.2.2.1) 10000 (a0,a1,a2,())
noncomputable def i137:PI:=⟨137,[tS6,(.list tS1),(.rl 63 8)],[(.int .i64)],fun (x:DS6 × (List DS1) × (List AV) × Unit)=>m137 x.1 x.2.1 x.2.2.1⟩
theorem oki137:POk Tryz.prog (gx gtab) i137:=pok_iter 10000 (f:=137) (ps:=[tS6,(.list tS1),(.rl 63 8)]) (rs:=[(.int .i64)]) (G:=fun self (x:DS6 × (List DS1) × (List AV) × Unit)=>mb137 self x.1 x.2.1 x.2.2.1) F137.callable (fun run hr=>pok mixed (cfg_p hr (cfg_p oki136 (cfg_nil _ _)):CfgOk _ (cfg137 run)) F137 (eqn137 run))
noncomputable def x193:XC:=xoF Tryz.f193 (.d 3 (.s (.d 1 (.b (.l [.gh 5 9 .str] ⟨48,[(0,(.list .str)),(1,.str),(6,.bool),(7,(.int .i64))],[(5,.row 0)],[.row 9 .str false]⟩ .o))) .o))
theorem F193:Fn Tryz.prog 193 48 x193.er [.t 4]:=by unfold x193; exact fnX Tryz.func193 (by kernel_rfl) (by kernel_rfl) (by kernel_rfl) (by kernel_rfl)
noncomputable def m193 (a0:List ByteArray) (a1:ByteArray):Option ((List ByteArray) × Unit) :=
 loopO (S:=(List ByteArray) × ByteArray × Bool × Int × (List ByteArray) × Unit) (R:=(List ByteArray) × Unit) (fun s223 =>
 cond (iLt s223.2.2.2.1 (lenI s223.1))
 (cond (or (bnd s223.2.2.2.1 (lenI s223.1)) (not (bEq (not s223.2.2.1) true)))
 (cond (cond (not s223.2.2.1) (or (sLt s223.2.1 (atI s223.1 s223.2.2.2.1 ByteArray.empty)) (sEq s223.2.1 (atI s223.1 s223.2.2.2.1 ByteArray.empty))) false)
 (cond (bnd s223.2.2.2.1 (lenI s223.1))
 (cond (sLt s223.2.1 (atI s223.1 s223.2.2.2.1 ByteArray.empty))
 (cond (fits (List.length s223.2.2.2.2.1 + List.length ([s223.2.1]:List ByteArray)) 16)
 (cond (bnd s223.2.2.2.1 (lenI s223.1))
 (cond (fits (List.length (s223.2.2.2.2.1 ++ ([s223.2.1]:List ByteArray)) + List.length ([atI s223.1 s223.2.2.2.1 ByteArray.empty]:List ByteArray)) 16)
 (some (.inl (s223.1,s223.2.1,true,iAdd .i64 s223.2.2.2.1 1,(s223.2.2.2.2.1 ++ ([s223.2.1]:List ByteArray)) ++ ([atI s223.1 s223.2.2.2.1 ByteArray.empty]:List ByteArray),()))) none) none) none)
 (cond (bnd s223.2.2.2.1 (lenI s223.1))
 (cond (fits (List.length s223.2.2.2.2.1 + List.length ([atI s223.1 s223.2.2.2.1 ByteArray.empty]:List ByteArray)) 16)
 (some (.inl (s223.1,s223.2.1,true,iAdd .i64 s223.2.2.2.1 1,s223.2.2.2.2.1 ++ ([atI s223.1 s223.2.2.2.1 ByteArray.empty]:List ByteArray),()))) none) none)) none)
 (cond (bnd s223.2.2.2.1 (lenI s223.1))
 (cond (fits (List.length s223.2.2.2.2.1 + List.length ([atI s223.1 s223.2.2.2.1 ByteArray.empty]:List ByteArray)) 16)
 (some (.inl (s223.1,s223.2.1,s223.2.2.1,iAdd .i64 s223.2.2.2.1 1,s223.2.2.2.2.1 ++ ([atI s223.1 s223.2.2.2.1 ByteArray.empty]:List ByteArray),()))) none) none)) none)
 (Option.map Sum.inr (cond (not s223.2.2.1)
 (cond (fits (List.length s223.2.2.2.2.1 + List.length ([s223.2.1]:List ByteArray)) 16)
 (some (s223.2.2.2.2.1 ++ ([s223.2.1]:List ByteArray),())) none)
 (some (s223.2.2.2.2.1,())))))
 (a0,a1,false,0,([]:List ByteArray),())
noncomputable def cfg193:Cfg:=⟨ttab,gtab,[],[]⟩
theorem eqn193 (x:(List ByteArray) × ByteArray × Unit):xfun cfg193 x193 48 [.t 4] [(.list .str),.str] [(.list .str)] x=m193 x.1 x.2.1:=by kernel_rfl
noncomputable def i193:PI:=⟨193,[(.list .str),.str],[(.list .str)],fun (x:(List ByteArray) × ByteArray × Unit)=>m193 x.1 x.2.1⟩
theorem oki193:POk Tryz.prog (gx gtab) i193:=pok mixed (cfg_nil _ _:CfgOk _ (cfg193)) F193 (eqn193)
noncomputable def x184:XC:=xoF Tryz.f184 (.d 2 (.s (.d 1 (.b (.l [] ⟨28,[(0,(.list .str)),(5,(.int .i64))],[(3,.ptr 0 0 0)],[.box 34 [.d (.int .i64),.d .str,.d (.list .str),.d (.int .i64),.d (.int .i64),.d (.rl 34 6)]]⟩ .o))) .o))
theorem F184:Fn Tryz.prog 184 28 x184.er [.t 4]:=by unfold x184; exact fnX Tryz.func184 (by kernel_rfl) (by kernel_rfl) (by kernel_rfl) (by kernel_rfl)
noncomputable def mb184 (self:((List ByteArray) × DS0 × Unit)→Option ((List ByteArray) × Unit)) (a0:List ByteArray) (a1:DS0):Option ((List ByteArray) × Unit) :=
 cond (iEq a1.1 3)
 ((m193 a0 a1.2.1).bind fun y229 =>
 loopO (S:=(List ByteArray) × Int × Int × ByteArray × (List ByteArray) × Int × Int × (List AV) × Unit) (R:=(List ByteArray) × Unit) (fun s230 =>
 cond (iLt s230.2.1 (lenI s230.2.2.2.2.2.2.2.1))
 (cond (and (bnd s230.2.1 (lenI s230.2.2.2.2.2.2.2.1)) (okS0 (atI s230.2.2.2.2.2.2.2.1 s230.2.1 AV.any)))
 ((self (s230.1,decS0 (atI s230.2.2.2.2.2.2.2.1 s230.2.1 AV.any),())).bind fun y231 =>
 some (.inl (y231.1,iAdd .i64 s230.2.1 1,s230.2.2.1,s230.2.2.2.1,s230.2.2.2.2.1,s230.2.2.2.2.2.1,s230.2.2.2.2.2.2.1,s230.2.2.2.2.2.2.2.1,()))) none)
 (some (.inr (s230.1,()))))
 (y229.1,0,a1.1,a1.2.1,a1.2.2.1,a1.2.2.2.1,a1.2.2.2.2.1,a1.2.2.2.2.2.1,()))
 (loopO (S:=(List ByteArray) × Int × Int × ByteArray × (List ByteArray) × Int × Int × (List AV) × Unit) (R:=(List ByteArray) × Unit) (fun s232 =>
 cond (iLt s232.2.1 (lenI s232.2.2.2.2.2.2.2.1))
 (cond (and (bnd s232.2.1 (lenI s232.2.2.2.2.2.2.2.1)) (okS0 (atI s232.2.2.2.2.2.2.2.1 s232.2.1 AV.any)))
 ((self (s232.1,decS0 (atI s232.2.2.2.2.2.2.2.1 s232.2.1 AV.any),())).bind fun y233 =>
 some (.inl (y233.1,iAdd .i64 s232.2.1 1,s232.2.2.1,s232.2.2.2.1,s232.2.2.2.2.1,s232.2.2.2.2.2.1,s232.2.2.2.2.2.2.1,s232.2.2.2.2.2.2.2.1,()))) none)
 (some (.inr (s232.1,()))))
 (a0,0,a1.1,a1.2.1,a1.2.2.1,a1.2.2.2.1,a1.2.2.2.2.1,a1.2.2.2.2.2.1,()))
noncomputable def cfg184 (self:((List ByteArray) × DS0 × Unit)→Option ((List ByteArray) × Unit)):Cfg:=⟨ttab,gtab,[⟨184,[(.list .str),tS0],[(.list .str)],self⟩,i193],[]⟩
theorem eqn184 (self:((List ByteArray) × DS0 × Unit)→Option ((List ByteArray) × Unit)) (x:(List ByteArray) × DS0 × Unit):xfun (cfg184 self) x184 28 [.t 4] [(.list .str),tS0] [(.list .str)] x=mb184 self x.1 x.2.1:=by kernel_rfl
noncomputable def m184 (a0:List ByteArray) (a1:DS0):Option ((List ByteArray) × Unit):=iterF (fun self (x:(List ByteArray) × DS0 × Unit)=>mb184 self x.1 x.2.1) 10000 (a0,a1,())
noncomputable def i184:PI:=⟨184,[(.list .str),tS0],[(.list .str)],fun (x:(List ByteArray) × DS0 × Unit)=>m184 x.1 x.2.1⟩
theorem oki184:POk Tryz.prog (gx gtab) i184:=pok_iter 10000 (f:=184) (ps:=[(.list .str),tS0]) (rs:=[(.list .str)]) (G:=fun self (x:(List ByteArray) × DS0 × Unit)=>mb184 self x.1 x.2.1) F184.callable (fun run hr=>pok mixed (cfg_p hr (cfg_p oki193 (cfg_nil _ _)):CfgOk _ (cfg184 run)) F184 (eqn184 run))
noncomputable def x167:XC:=xoF Tryz.f167 .o
theorem F167:Fn Tryz.prog 167 5 x167.er [.t 2]:=by unfold x167; exact fnX Tryz.func167 (by kernel_rfl) (by kernel_rfl) (by kernel_rfl) (by kernel_rfl)
noncomputable def m167 (a0:DS0):Option ((List ByteArray) × Unit) :=
 (m184 ([]:List ByteArray) (a0.1,a0.2.1,a0.2.2.1,a0.2.2.2.1,a0.2.2.2.2.1,a0.2.2.2.2.2.1,())).bind fun y234 =>
 some (y234.1,())
noncomputable def cfg167:Cfg:=⟨ttab,gtab,[i184],[]⟩
theorem eqn167 (x:DS0 × Unit):xfun cfg167 x167 5 [.t 2] [tS0] [(.list .str)] x=m167 x.1:=by kernel_rfl
noncomputable def i167:PI:=⟨167,[tS0],[(.list .str)],fun (x:DS0 × Unit)=>m167 x.1⟩
theorem oki167:POk Tryz.prog (gx gtab) i167:=pok mixed (cfg_p oki184 (cfg_nil _ _):CfgOk _ (cfg167)) F167 (eqn167)
noncomputable def x138:XC:=xoF Tryz.f138 (.d 3 (.b (.l [.gh 4 3 (.int .i64)] ⟨84,[(0,(.list tS1))],[(4,.row 0),(5,.row 1)],[.row 3 (.int .i64) false,.row 4 .bool false]⟩ (.b (.d 1 (.s (.d 1 (.b (.l [.gh 4 3 (.int .i64)] ⟨84,[(0,(.list tS1)),(6,(.int .i64)),(7,.bool),(8,(.int .i64))],[(4,.row 0),(5,.row 1)],[.row 3 (.int .i64) false,.row 4 .bool false]⟩ (.d 1 (.s (.b (.d 4 (.s (.d 1 (.b (.l [.gh 4 3 (.int .i64)] ⟨84,[(0,(.list tS1)),(6,(.int .i64)),(7,.bool),(8,(.int .i64)),(9,.bool),(10,(.list .str)),(11,(.int .i64))],[(4,.row 0),(5,.row 1)],[.row 3 (.int .i64) false,.row 4 .bool false]⟩ .o))) .o))) .o))))) .o))))))
theorem F138:Fn Tryz.prog 138 84 x138.er [.t 2,.t 3]:=by unfold x138; exact fnX Tryz.func138 (by kernel_rfl) (by kernel_rfl) (by kernel_rfl) (by kernel_rfl)
noncomputable def m138 (a0:List DS1):Option ((List Int) × Int × Unit) :=
 cond (fitsI (lenI a0) 1)
 (loopO (S:=(List DS1) × (List Int) × (List Bool) × Unit) (R:=(List Int) × Int × Unit) (fun s243 =>
 loopO (S:=(List DS1) × Int × Bool × Int × (List Int) × (List Bool) × Unit) (R:=((List DS1) × (List Int) × (List Bool) × Unit) ⊕ ((List Int) × Int × Unit)) (fun s244 =>
 cond (cond (iLt s244.2.2.2.1 (lenI s244.1)) (iLt s244.2.1 0) false)
 (cond (bnd s244.2.2.2.1 (lenI s244.1))
 (cond (or (bnd s244.2.2.2.1 (lenI s244.2.2.2.2.2.1)) (not (bEq (iNe ((atI s244.1 s244.2.2.2.1 (0,ByteArray.empty,(0,ByteArray.empty,[],0,0,[],()),[],0,())).1) 1) false)))
 (cond (or (inB (Int.toNat s244.2.2.2.1) s244.2.2.2.2.2.1) (not (bEq (iNe ((atI s244.1 s244.2.2.2.1 (0,ByteArray.empty,(0,ByteArray.empty,[],0,0,[],()),[],0,())).1) 1) false)))
 (cond (cond (iNe ((atI s244.1 s244.2.2.2.1 (0,ByteArray.empty,(0,ByteArray.empty,[],0,0,[],()),[],0,())).1) 1) true (List.getD s244.2.2.2.2.2.1 (Int.toNat s244.2.2.2.1) false))
 (some (.inl (s244.1,s244.2.1,s244.2.2.1,iAdd .i64 s244.2.2.2.1 1,s244.2.2.2.2.1,s244.2.2.2.2.2.1,())))
 (cond (bnd s244.2.2.2.1 (lenI s244.1))
 ((m167 ((atI s244.1 s244.2.2.2.1 (0,ByteArray.empty,(0,ByteArray.empty,[],0,0,[],()),[],0,())).2.2.1)).bind fun y245 =>
 loopO (S:=(List DS1) × Int × Bool × Int × Bool × (List ByteArray) × Int × (List Int) × (List Bool) × Unit) (R:=((List DS1) × Int × Bool × Int × (List Int) × (List Bool) × Unit) ⊕ (((List DS1) × (List Int) × (List Bool) × Unit) ⊕ ((List Int) × Int × Unit))) (fun s246 =>
 cond (iLt s246.2.2.2.2.2.2.1 (lenI s246.2.2.2.2.2.1))
 (cond (bnd s246.2.2.2.2.2.2.1 (lenI s246.2.2.2.2.2.1))
 ((m168 s246.1 (atI s246.2.2.2.2.2.1 s246.2.2.2.2.2.2.1 ByteArray.empty)).bind fun y247 =>
 cond s246.2.2.2.2.1
 (cond (or (bnd y247.1 (lenI s246.2.2.2.2.2.2.2.2.1)) (not (bEq (not y247.2.1) false)))
 (cond (or (inB (Int.toNat y247.1) s246.2.2.2.2.2.2.2.2.1) (not (bEq (not y247.2.1) false)))
 (some (.inl (s246.1,s246.2.1,s246.2.2.1,s246.2.2.2.1,cond (not y247.2.1) true (List.getD s246.2.2.2.2.2.2.2.2.1 (Int.toNat y247.1) false),s246.2.2.2.2.2.1,iAdd .i64 s246.2.2.2.2.2.2.1 1,s246.2.2.2.2.2.2.2.1,s246.2.2.2.2.2.2.2.2.1,()))) none) none)
 (some (.inl (s246.1,s246.2.1,s246.2.2.1,s246.2.2.2.1,false,s246.2.2.2.2.2.1,iAdd .i64 s246.2.2.2.2.2.2.1 1,s246.2.2.2.2.2.2.2.1,s246.2.2.2.2.2.2.2.2.1,())))) none)
 (Option.map Sum.inr (cond s246.2.2.2.2.1
 (some (.inl (s246.1,s246.2.2.2.1,s246.2.2.1,iAdd .i64 s246.2.2.2.1 1,s246.2.2.2.2.2.2.2.1,s246.2.2.2.2.2.2.2.2.1,())))
 (some (.inl (s246.1,s246.2.1,s246.2.2.1,iAdd .i64 s246.2.2.2.1 1,s246.2.2.2.2.2.2.2.1,s246.2.2.2.2.2.2.2.2.1,()))))))
 (s244.1,s244.2.1,true,s244.2.2.2.1,true,y245.1,0,s244.2.2.2.2.1,s244.2.2.2.2.2.1,())) none)) none) none) none)
 (Option.map Sum.inr (cond (iLt s244.2.1 0)
 (cond s244.2.2.1
 (some (.inr (([]:List Int),10,())))
 (some (.inr (s244.2.2.2.2.1,0,()))))
 (cond (fits (List.length s244.2.2.2.2.1 + List.length ([s244.2.1]:List Int)) 8)
 (cond (bnd s244.2.1 (lenI s244.2.2.2.2.2.1))
 (cond (inB (Int.toNat s244.2.1) s244.2.2.2.2.2.1)
 (some (.inl (s244.1,s244.2.2.2.2.1 ++ ([s244.2.1]:List Int),List.set s244.2.2.2.2.2.1 (Int.toNat s244.2.1) true,()))) none) none) none))))
 (s243.1,(-1),false,0,s243.2.1,s243.2.2.1,()))
 (a0,([]:List Int),(List.replicate (Int.toNat (lenI a0)) false:List Bool),())) none
noncomputable def cfg138:Cfg:=⟨ttab,gtab,[i167,i168],[]⟩
theorem eqn138 (x:(List DS1) × Unit):xfun cfg138 x138 84 [.t 2,.t 3] [(.list tS1)] [(.list (.int .i64)),(.int .i64)] x=m138 x.1:=by kernel_rfl
noncomputable def i138:PI:=⟨138,[(.list tS1)],[(.list (.int .i64)),(.int .i64)],fun (x:(List DS1) × Unit)=>m138 x.1⟩
theorem oki138:POk Tryz.prog (gx gtab) i138:=pok mixed (cfg_p oki167 (cfg_p oki168 (cfg_nil _ _)):CfgOk _ (cfg138)) F138 (eqn138)
noncomputable def x169:XC:=xoF Tryz.f169 (.d 2 (.s (.d 1 (.c (.d 2 (.c (.d 1 (.s (.d 1 (.b (.l [] ⟨83,[(0,(.list tS1)),(2,(.int .i64)),(9,(.int .i64)),(10,(.int .i64))],[(4,.ptr 0 0 0)],[.box 34 [.d (.int .i64),.d .str,.d (.list .str),.d (.int .i64),.d (.int .i64),.d (.rl 34 6)]]⟩ .o))) .o)) .o)) .o)) (.d 1 (.s (.d 1 (.b (.l [] ⟨83,[(0,(.list tS1)),(2,(.int .i64)),(11,(.int .i64)),(12,(.int .i64))],[(4,.ptr 0 0 0)],[.box 34 [.d (.int .i64),.d .str,.d (.list .str),.d (.int .i64),.d (.int .i64),.d (.rl 34 6)]]⟩ .o))) .o))))
theorem F169:Fn Tryz.prog 169 83 x169.er [.t 6]:=by unfold x169; exact fnX Tryz.func169 (by kernel_rfl) (by kernel_rfl) (by kernel_rfl) (by kernel_rfl)
noncomputable def mb169 (self:((List DS1) × DS0 × Int × Unit)→Option (Int × Unit)) (a0:List DS1) (a1:DS0) (a2:Int):Option (Int × Unit) :=
 cond (iLt (lenI a0) a2)
 (some (2001,()))
 (cond (iEq a1.1 3)
 ((m168 a0 a1.2.1).bind fun y258 =>
 cond y258.2.1
 (cond (bnd y258.1 (lenI a0))
 ((self (a0,(atI a0 y258.1 (0,ByteArray.empty,(0,ByteArray.empty,[],0,0,[],()),[],0,())).2.2.1,iAdd .i64 a2 1,())).bind fun y259 =>
 loopO (S:=(List DS1) × Int × Int × Int × Int × ByteArray × (List ByteArray) × Int × Int × (List AV) × Unit) (R:=Int × Unit) (fun s260 =>
 cond (cond (iLt s260.2.2.2.1 (lenI s260.2.2.2.2.2.2.2.2.2.1)) (iLe s260.2.2.1 2000) false)
 (cond (and (bnd s260.2.2.2.1 (lenI s260.2.2.2.2.2.2.2.2.2.1)) (okS0 (atI s260.2.2.2.2.2.2.2.2.2.1 s260.2.2.2.1 AV.any)))
 ((self (s260.1,decS0 (atI s260.2.2.2.2.2.2.2.2.2.1 s260.2.2.2.1 AV.any),s260.2.1,())).bind fun y261 =>
 some (.inl (s260.1,s260.2.1,iAdd .i64 s260.2.2.1 y261.1,iAdd .i64 s260.2.2.2.1 1,s260.2.2.2.2.1,s260.2.2.2.2.2.1,s260.2.2.2.2.2.2.1,s260.2.2.2.2.2.2.2.1,s260.2.2.2.2.2.2.2.2.1,s260.2.2.2.2.2.2.2.2.2.1,()))) none)
 (some (.inr (iMin s260.2.2.1 2001,()))))
 (a0,a2,y259.1,0,a1.1,a1.2.1,a1.2.2.1,a1.2.2.2.1,a1.2.2.2.2.1,a1.2.2.2.2.2.1,())) none)
 (loopO (S:=(List DS1) × Int × Int × Int × Int × ByteArray × (List ByteArray) × Int × Int × (List AV) × Unit) (R:=Int × Unit) (fun s262 =>
 cond (cond (iLt s262.2.2.2.1 (lenI s262.2.2.2.2.2.2.2.2.2.1)) (iLe s262.2.2.1 2000) false)
 (cond (and (bnd s262.2.2.2.1 (lenI s262.2.2.2.2.2.2.2.2.2.1)) (okS0 (atI s262.2.2.2.2.2.2.2.2.2.1 s262.2.2.2.1 AV.any)))
 ((self (s262.1,decS0 (atI s262.2.2.2.2.2.2.2.2.2.1 s262.2.2.2.1 AV.any),s262.2.1,())).bind fun y263 =>
 some (.inl (s262.1,s262.2.1,iAdd .i64 s262.2.2.1 y263.1,iAdd .i64 s262.2.2.2.1 1,s262.2.2.2.2.1,s262.2.2.2.2.2.1,s262.2.2.2.2.2.2.1,s262.2.2.2.2.2.2.2.1,s262.2.2.2.2.2.2.2.2.1,s262.2.2.2.2.2.2.2.2.2.1,()))) none)
 (some (.inr (iMin s262.2.2.1 2001,()))))
 (a0,a2,1,0,a1.1,a1.2.1,a1.2.2.1,a1.2.2.2.1,a1.2.2.2.2.1,a1.2.2.2.2.2.1,())))
 (loopO (S:=(List DS1) × Int × Int × Int × Int × ByteArray × (List ByteArray) × Int × Int × (List AV) × Unit) (R:=Int × Unit) (fun s264 =>
 cond (cond (iLt s264.2.2.2.1 (lenI s264.2.2.2.2.2.2.2.2.2.1)) (iLe s264.2.2.1 2000) false)
 (cond (and (bnd s264.2.2.2.1 (lenI s264.2.2.2.2.2.2.2.2.2.1)) (okS0 (atI s264.2.2.2.2.2.2.2.2.2.1 s264.2.2.2.1 AV.any)))
 ((self (s264.1,decS0 (atI s264.2.2.2.2.2.2.2.2.2.1 s264.2.2.2.1 AV.any),s264.2.1,())).bind fun y265 =>
 some (.inl (s264.1,s264.2.1,iAdd .i64 s264.2.2.1 y265.1,iAdd .i64 s264.2.2.2.1 1,s264.2.2.2.2.1,s264.2.2.2.2.2.1,s264.2.2.2.2.2.2.1,s264.2.2.2.2.2.2.2.1,s264.2.2.2.2.2.2.2.2.1,s264.2.2.2.2.2.2.2.2.2.1,()))) none)
 (some (.inr (iMin s264.2.2.1 2001,()))))
 (a0,a2,1,0,a1.1,a1.2.1,a1.2.2.1,a1.2.2.2.1,a1.2.2.2.2.1,a1.2.2.2.2.2.1,())))
noncomputable def cfg169 (self:((List DS1) × DS0 × Int × Unit)→Option (Int × Unit)):Cfg:=⟨ttab,gtab,[⟨169,[(.list tS1),tS0,(.int .i64)],[(.int .i64)],self⟩,i168],[]⟩
theorem eqn169 (self:((List DS1) × DS0 × Int × Unit)→Option (Int × Unit)) (x:(List DS1) × DS0 × Int × Unit):xfun (cfg169 self) x169 83 [.t 6] [(.list tS1),tS0,(.int .i64)] [(.int .i64)] x=mb169 self x.1 x.2.1 x.2.2.1:=by kernel_rfl
noncomputable def m169 (a0:List DS1) (a1:DS0) (a2:Int):Option (Int × Unit):=iterF (fun self (x:(List DS1) × DS0 × Int × Unit)=>mb169 self x.1 x.2.1 x.2.2.1) 10000 (a0,a1,a2,())
noncomputable def i169:PI:=⟨169,[(.list tS1),tS0,(.int .i64)],[(.int .i64)],fun (x:(List DS1) × DS0 × Int × Unit)=>m169 x.1 x.2.1 x.2.2.1⟩
theorem oki169:POk Tryz.prog (gx gtab) i169:=pok_iter 10000 (f:=169) (ps:=[(.list tS1),tS0,(.int .i64)]) (rs:=[(.int .i64)]) (G:=fun self (x:(List DS1) × DS0 × Int × Unit)=>mb169 self x.1 x.2.1 x.2.2.1) F169.callable (fun run hr=>pok mixed (cfg_p hr (cfg_p oki168 (cfg_nil _ _)):CfgOk _ (cfg169 run)) F169 (eqn169 run))
noncomputable def x139:XC:=xoF Tryz.f139 .o
theorem F139:Fn Tryz.prog 139 8 x139.er [.t 4]:=by unfold x139; exact fnX Tryz.func139 (by kernel_rfl) (by kernel_rfl) (by kernel_rfl) (by kernel_rfl)
noncomputable def m139 (a0:List DS1) (a1:DS0):Option (Int × Unit) :=
 (m169 a0 (a1.1,a1.2.1,a1.2.2.1,a1.2.2.2.1,a1.2.2.2.2.1,a1.2.2.2.2.2.1,()) 0).bind fun y266 =>
 some (y266.1,())
noncomputable def cfg139:Cfg:=⟨ttab,gtab,[i169],[]⟩
theorem eqn139 (x:(List DS1) × DS0 × Unit):xfun cfg139 x139 8 [.t 4] [(.list tS1),tS0] [(.int .i64)] x=m139 x.1 x.2.1:=by kernel_rfl
noncomputable def i139:PI:=⟨139,[(.list tS1),tS0],[(.int .i64)],fun (x:(List DS1) × DS0 × Unit)=>m139 x.1 x.2.1⟩
theorem oki139:POk Tryz.prog (gx gtab) i139:=pok mixed (cfg_p oki169 (cfg_nil _ _):CfgOk _ (cfg139)) F139 (eqn139)
noncomputable def x140:XC:=xoF Tryz.f140 (.d 1 (.s (.d 1 (.b (.l [] ⟨29,[(0,(.list tS1)),(1,(.rl 63 8)),(5,(.int .i64))],[],[]⟩ .o))) .o))
theorem F140:Fn Tryz.prog 140 29 x140.er [.t 4]:=by unfold x140; exact fnX Tryz.func140 (by kernel_rfl) (by kernel_rfl) (by kernel_rfl) (by kernel_rfl)
noncomputable def mb140 (self:((List DS1) × (List AV) × Unit)→Option (Bool × Unit)) (a0:List DS1) (a1:List AV):Option (Bool × Unit) :=
 loopO (S:=(List DS1) × (List AV) × Int × Unit) (R:=Bool × Unit) (fun s271 =>
 cond (iLt s271.2.2.1 (lenI s271.2.1))
 (cond (and (bnd s271.2.2.1 (lenI s271.2.1)) (okS7 (atI s271.2.1 s271.2.2.1 AV.any)))
 ((m139 s271.1 ((decS7 (atI s271.2.1 s271.2.2.1 AV.any)).2.1)).bind fun y272 =>
 cond (or (and (bnd s271.2.2.1 (lenI s271.2.1)) (okS7 (atI s271.2.1 s271.2.2.1 AV.any))) (not (bEq (iLt 2000 y272.1) false)))
 (cond (iLt 2000 y272.1)
 (some (.inr (true,())))
 ((self (s271.1,(decS7 (atI s271.2.1 s271.2.2.1 AV.any)).2.2.1,())).bind fun y273 =>
 cond y273.1
 (some (.inr (true,())))
 (some (.inl (s271.1,s271.2.1,iAdd .i64 s271.2.2.1 1,()))))) none) none)
 (some (.inr (false,()))))
 (a0,a1,0,())
noncomputable def cfg140 (self:((List DS1) × (List AV) × Unit)→Option (Bool × Unit)):Cfg:=⟨ttab,gtab,[⟨140,[(.list tS1),(.rl 63 8)],[.bool],self⟩,i139],[]⟩
theorem eqn140 (self:((List DS1) × (List AV) × Unit)→Option (Bool × Unit)) (x:(List DS1) × (List AV) × Unit):xfun (cfg140 self) x140 29 [.t 4] [(.list tS1),(.rl 63 8)] [.bool] x=mb140 self x.1 x.2.1:=by kernel_rfl
noncomputable def m140 (a0:List DS1) (a1:List AV):Option (Bool × Unit):=iterF (fun self (x:(List DS1) × (List AV) × Unit)=>mb140 self x.1 x.2.1) 10000 (a0,a1,())
noncomputable def i140:PI:=⟨140,[(.list tS1),(.rl 63 8)],[.bool],fun (x:(List DS1) × (List AV) × Unit)=>m140 x.1 x.2.1⟩
theorem oki140:POk Tryz.prog (gx gtab) i140:=pok_iter 10000 (f:=140) (ps:=[(.list tS1),(.rl 63 8)]) (rs:=[.bool]) (G:=fun self (x:(List DS1) × (List AV) × Unit)=>mb140 self x.1 x.2.1) F140.callable (fun run hr=>pok mixed (cfg_p hr (cfg_p oki139 (cfg_nil _ _)):CfgOk _ (cfg140 run)) F140 (eqn140 run))
noncomputable def x89:XC:=xoF Tryz.f89 (.d 3 (.s (.d 1 (.b (.l [] ⟨120,[(1,(.list tS1)),(7,(.int .i64))],[(2,.ptr 0 0 0)],[.box 59 [.d (.list tS5)]]⟩ .o))) (.d 1 (.s (.d 1 (.b (.l [] ⟨120,[(1,(.list tS1)),(16,(.int .i64))],[],[]⟩ .o))) .o))))
theorem F89:Fn Tryz.prog 89 120 x89.er [.t 4,.t 5]:=by unfold x89; exact fnX Tryz.func89 (by kernel_rfl) (by kernel_rfl) (by kernel_rfl) (by kernel_rfl)
noncomputable def m89 (a0:DS6) (a1:List DS1):Option (Int × Int × Unit) :=
 (m134 (a0.1,())).bind fun y275 =>
 cond (iNe y275.1 0)
 (some (0,y275.1,()))
 (cond (iLt 100 (lenI a1))
 (some (0,4,()))
 (loopO (S:=(List DS1) × Int × (List DS5) × Unit) (R:=Int × Int × Unit) (fun s276 =>
 cond (iLt s276.2.1 (lenI s276.1))
 (cond (bnd s276.2.1 (lenI s276.1))
 ((m56 (atI s276.1 s276.2.1 (0,ByteArray.empty,(0,ByteArray.empty,[],0,0,[],()),[],0,()))).bind fun y277 =>
 cond (not y277.1)
 (some (.inr (s276.2.1,5,())))
 (cond (bnd s276.2.1 (lenI s276.1))
 ((m9 s276.1 ((atI s276.1 s276.2.1 (0,ByteArray.empty,(0,ByteArray.empty,[],0,0,[],()),[],0,())).2.1)).bind fun y278 =>
 cond (iLt y278.1 s276.2.1)
 (some (.inr (s276.2.1,8,())))
 (cond (bnd s276.2.1 (lenI s276.1))
 ((m135 (s276.2.2.1,()) ((atI s276.1 s276.2.1 (0,ByteArray.empty,(0,ByteArray.empty,[],0,0,[],()),[],0,())).2.1)).bind fun y279 =>
 cond y279.2.1
 (some (.inr (s276.2.1,8,())))
 (cond (bnd s276.2.1 (lenI s276.1))
 ((m136 (s276.2.2.1,()) s276.1 ((atI s276.1 s276.2.1 (0,ByteArray.empty,(0,ByteArray.empty,[],0,0,[],()),[],0,())).2.2.1)).bind fun y280 =>
 cond (iNe y280.1 0)
 (some (.inr (s276.2.1,y280.1,())))
 (cond (bnd s276.2.1 (lenI s276.1))
 ((m137 (s276.2.2.1,()) s276.1 ((atI s276.1 s276.2.1 (0,ByteArray.empty,(0,ByteArray.empty,[],0,0,[],()),[],0,())).2.2.2.1)).bind fun y281 =>
 cond (iNe y281.1 0)
 (some (.inr (s276.2.1,y281.1,())))
 (some (.inl (s276.1,iAdd .i64 s276.2.1 1,s276.2.2.1,())))) none)) none)) none)) none)) none)
 (Option.map Sum.inr ((m138 s276.1).bind fun y282 =>
 cond (iNe y282.2.1 0)
 (some (0,y282.2.1,()))
 (loopO (S:=(List DS1) × Int × Unit) (R:=Int × Int × Unit) (fun s283 =>
 cond (iLt s283.2.1 (lenI s283.1))
 (cond (bnd s283.2.1 (lenI s283.1))
 ((m139 s283.1 ((atI s283.1 s283.2.1 (0,ByteArray.empty,(0,ByteArray.empty,[],0,0,[],()),[],0,())).2.2.1)).bind fun y284 =>
 cond (or (bnd s283.2.1 (lenI s283.1)) (not (bEq (iLt 2000 y284.1) false)))
 (cond (iLt 2000 y284.1)
 (some (.inr (s283.2.1,4,())))
 ((m140 s283.1 ((atI s283.1 s283.2.1 (0,ByteArray.empty,(0,ByteArray.empty,[],0,0,[],()),[],0,())).2.2.2.1)).bind fun y285 =>
 cond y285.1
 (some (.inr (s283.2.1,4,())))
 (some (.inl (s283.1,iAdd .i64 s283.2.1 1,()))))) none) none)
 (some (.inr (0,0,()))))
 (s276.1,0,())))))
 (a1,0,a0.1,())))
noncomputable def cfg89:Cfg:=⟨ttab,gtab,[i134,i135,i136,i137,i138,i139,i140,i56,i9],[]⟩
theorem eqn89 (x:DS6 × (List DS1) × Unit):xfun cfg89 x89 120 [.t 4,.t 5] [tS6,(.list tS1)] [(.int .i64),(.int .i64)] x=m89 x.1 x.2.1:=by kernel_rfl
noncomputable def i89:PI:=⟨89,[tS6,(.list tS1)],[(.int .i64),(.int .i64)],fun (x:DS6 × (List DS1) × Unit)=>m89 x.1 x.2.1⟩
theorem oki89:POk Tryz.prog (gx gtab) i89:=pok mixed (cfg_p oki134 (cfg_p oki135 (cfg_p oki136 (cfg_p oki137 (cfg_p oki138 (cfg_p oki139 (cfg_p oki140 (cfg_p oki56 (cfg_p oki9 (cfg_nil _ _))))))))):CfgOk _ (cfg89)) F89 (eqn89)
noncomputable def x164_1:XC:=xoF Tryz.f164 (.d 2 (.s (.u [0]) (.s (.d 1 (.b (.d 1 (.c .o (.d 1 (.c (.d 2 (.s (.d 1 (.b (.l [.ghc 8 2 9 .str] ⟨128,[(9,(.int .i64)),(10,(.int .i64))],[(6,.ptr 2 0 0),(7,.ptr 3 0 0),(8,.ptr 4 0 0)],[.box 65 [.d (.list (.int .i64)),.d (.int .i64)],.row 9 .str false,.box 34 [.d (.int .i64),.d .str,.nil,.d (.int .i64),.d (.int .i64),.nil],.box 106 [.d .str,.d (.int .i64),.d (.list .str),.d (.int .i64),.d (.int .i64)],.box 34 [.d (.int .i64),.d .str,.row 5,.d (.int .i64),.d (.int .i64),.nil],.row 9 .str false]⟩ .o))) .o)) .o)))))) (.s (.u [0]) (.j [] ⟨128,[(11,(.int .i64))],[(0,.ptr 0 0 0),(6,.ptr 2 0 0),(7,.ptr 3 0 0)],[.box 65 [.d (.list (.int .i64)),.d (.int .i64)],.row 9 .str false,.box 34 [.d (.int .i64),.d .str,.nil,.d (.int .i64),.d (.int .i64),.nil],.box 106 [.d .str,.d (.int .i64),.d (.list .str),.d (.int .i64),.d (.int .i64)]]⟩ (.d 1 (.c (.u [0]) .o)) (.d 1 (.s (.d 1 (.c (.u [0]) .o)) .o)))))))
theorem F164_1:Fn Tryz.prog 164 128 x164_1.er [.c 6 6 true]:=by unfold x164_1; exact fnX Tryz.func164 (by kernel_rfl) (by kernel_rfl) (by kernel_rfl) (by kernel_rfl)
noncomputable def m164_1 (a0:DS6) (a1:List Int) (a2:Int) (a3:List ByteArray):Option (DS0 × (List Int) × Int × (List ByteArray) × Unit) :=
 cond (iLt 0 (lenI a3))
 ((m24 3 a1 a2).bind fun y321 =>
 cond (iEq y321.1 0)
 ((m24 (lenI a3) y321.2.1 y321.2.2.1).bind fun y322 =>
 cond (bnd y322.1 (lenI a3))
 (cond (inB (Int.toNat y322.1) a3)
 (some ((3,List.getD a3 (Int.toNat y322.1) ByteArray.empty,([]:List ByteArray),0,0,([]:List AV),()),y322.2.1,y322.2.2.1,a3,())) none) none)
 ((m24 (lenI a0.1) y321.2.1 y321.2.2.1).bind fun y323 =>
 cond (bnd y323.1 (lenI a0.1))
 (cond (iEq ((atI a0.1 y323.1 (ByteArray.empty,0,[],0,0,())).2.1) 3)
 (some ((3,(atI a0.1 y323.1 (ByteArray.empty,0,[],0,0,())).1,([]:List ByteArray),0,0,([]:List AV),()),y323.2.1,y323.2.2.1,a3,()))
 (cond (iEq ((atI a0.1 y323.1 (ByteArray.empty,0,[],0,0,())).2.1) 1)
 ((m24 (lenI ((atI a0.1 y323.1 (ByteArray.empty,0,[],0,0,())).2.2.1)) y323.2.1 y323.2.2.1).bind fun y324 =>
 (m88 1 (lenI ((atI a0.1 y323.1 (ByteArray.empty,0,[],0,0,())).2.2.1)) y324.2.1 y324.2.2.1).bind fun y325 =>
 loopO (S:=Int × Int × (List Int) × Int × (List ByteArray) × Int × ByteArray × Int × Int × ByteArray × Int × (List ByteArray) × Int × Int × Int × ByteArray × Int × Int × (List ByteArray) × Unit) (R:=DS0 × (List Int) × Int × (List ByteArray) × Unit) (fun s326 =>
 cond (iLt 0 s326.2.1)
 (cond (iNe (lenI s326.2.2.2.2.2.2.2.2.2.2.2.1) 0)
 (cond (bnd (iRem s326.1 (lenI s326.2.2.2.2.2.2.2.2.2.2.2.1)) (lenI s326.2.2.2.2.2.2.2.2.2.2.2.1))
 (cond (fits (List.length s326.2.2.2.2.2.2.2.2.2.2.2.2.2.2.2.2.2.2.1 + List.length ([atI s326.2.2.2.2.2.2.2.2.2.2.2.1 (iRem s326.1 (lenI s326.2.2.2.2.2.2.2.2.2.2.2.1)) ByteArray.empty]:List ByteArray)) 16)
 (some (.inl (iAdd .i64 s326.1 1,iSub .i64 s326.2.1 1,s326.2.2.1,s326.2.2.2.1,s326.2.2.2.2.1,s326.2.2.2.2.2.1,s326.2.2.2.2.2.2.1,s326.2.2.2.2.2.2.2.1,s326.2.2.2.2.2.2.2.2.1,s326.2.2.2.2.2.2.2.2.2.1,s326.2.2.2.2.2.2.2.2.2.2.1,s326.2.2.2.2.2.2.2.2.2.2.2.1,s326.2.2.2.2.2.2.2.2.2.2.2.2.1,s326.2.2.2.2.2.2.2.2.2.2.2.2.2.1,s326.2.2.2.2.2.2.2.2.2.2.2.2.2.2.1,s326.2.2.2.2.2.2.2.2.2.2.2.2.2.2.2.1,s326.2.2.2.2.2.2.2.2.2.2.2.2.2.2.2.2.1,s326.2.2.2.2.2.2.2.2.2.2.2.2.2.2.2.2.2.1,s326.2.2.2.2.2.2.2.2.2.2.2.2.2.2.2.2.2.2.1 ++ ([atI s326.2.2.2.2.2.2.2.2.2.2.2.1 (iRem s326.1 (lenI s326.2.2.2.2.2.2.2.2.2.2.2.1)) ByteArray.empty]:List ByteArray),()))) none) none) none)
 (some (.inr ((s326.2.2.2.2.2.2.2.2.2.2.2.2.2.2.1,s326.2.2.2.2.2.2.2.2.2.2.2.2.2.2.2.1,s326.2.2.2.2.2.2.2.2.2.2.2.2.2.2.2.2.2.2.1,s326.2.2.2.2.2.2.2.2.2.2.2.2.2.2.2.2.1,s326.2.2.2.2.2.2.2.2.2.2.2.2.2.2.2.2.2.1,([]:List AV),()),s326.2.2.1,s326.2.2.2.1,s326.2.2.2.2.1,()))))
 (y324.1,y325.1,y325.2.1,y325.2.2.1,a3,0,(bs []),0,0,(atI a0.1 y323.1 (ByteArray.empty,0,[],0,0,())).1,(atI a0.1 y323.1 (ByteArray.empty,0,[],0,0,())).2.1,(atI a0.1 y323.1 (ByteArray.empty,0,[],0,0,())).2.2.1,(atI a0.1 y323.1 (ByteArray.empty,0,[],0,0,())).2.2.2.1,(atI a0.1 y323.1 (ByteArray.empty,0,[],0,0,())).2.2.2.2.1,4,(atI a0.1 y323.1 (ByteArray.empty,0,[],0,0,())).1,0,0,([]:List ByteArray),()))
 ((m24 (iAdd .i64 (iSub .i64 ((atI a0.1 y323.1 (ByteArray.empty,0,[],0,0,())).2.2.2.2.1) ((atI a0.1 y323.1 (ByteArray.empty,0,[],0,0,())).2.2.2.1)) 1) y323.2.1 y323.2.2.1).bind fun y327 =>
 joinO (S:=Int × (List Int) × Int × (List ByteArray) × Int × ByteArray × Int × Int × ByteArray × Int × (List ByteArray) × Int × Int × Unit) (R:=DS0 × (List Int) × Int × (List ByteArray) × Unit)
 ((m24 2 y327.2.1 y327.2.2.1).bind fun y328 =>
 cond (iEq y328.1 0)
 ((m24 12 y328.2.1 y328.2.2.1).bind fun y329 =>
 some (.inl (iMin (iMax (iSub .i64 y329.1 4) ((atI a0.1 y323.1 (ByteArray.empty,0,[],0,0,())).2.2.2.1)) ((atI a0.1 y323.1 (ByteArray.empty,0,[],0,0,())).2.2.2.2.1),y329.2.1,y329.2.2.1,a3,0,(bs []),0,0,(atI a0.1 y323.1 (ByteArray.empty,0,[],0,0,())).1,(atI a0.1 y323.1 (ByteArray.empty,0,[],0,0,())).2.1,(atI a0.1 y323.1 (ByteArray.empty,0,[],0,0,())).2.2.1,(atI a0.1 y323.1 (ByteArray.empty,0,[],0,0,())).2.2.2.1,(atI a0.1 y323.1 (ByteArray.empty,0,[],0,0,())).2.2.2.2.1,())))
 (some (.inl (iAdd .i64 ((atI a0.1 y323.1 (ByteArray.empty,0,[],0,0,())).2.2.2.1) y327.1,y328.2.1,y328.2.2.1,a3,0,(bs []),0,0,(atI a0.1 y323.1 (ByteArray.empty,0,[],0,0,())).1,(atI a0.1 y323.1 (ByteArray.empty,0,[],0,0,())).2.1,(atI a0.1 y323.1 (ByteArray.empty,0,[],0,0,())).2.2.1,(atI a0.1 y323.1 (ByteArray.empty,0,[],0,0,())).2.2.2.1,(atI a0.1 y323.1 (ByteArray.empty,0,[],0,0,())).2.2.2.2.1,()))))
 (fun j330 =>
 (m24 (iAdd .i64 (iSub .i64 j330.2.2.2.2.2.2.2.2.2.2.2.2.1 j330.1) 1) j330.2.1 j330.2.2.1).bind fun y331 =>
 (m24 2 y331.2.1 y331.2.2.1).bind fun y332 =>
 cond (iEq y332.1 0)
 ((m24 4 y332.2.1 y332.2.2.1).bind fun y333 =>
 some ((5,j330.2.2.2.2.2.2.2.2.1,([]:List ByteArray),j330.1,iMin (iAdd .i64 j330.1 y333.1) j330.2.2.2.2.2.2.2.2.2.2.2.2.1,([]:List AV),()),y333.2.1,y333.2.2.1,j330.2.2.2.1,()))
 (some ((5,j330.2.2.2.2.2.2.2.2.1,([]:List ByteArray),j330.1,iAdd .i64 j330.1 y331.1,([]:List AV),()),y332.2.1,y332.2.2.1,j330.2.2.2.1,())))))) none))
 ((m24 (lenI a0.1) a1 a2).bind fun y334 =>
 cond (bnd y334.1 (lenI a0.1))
 (cond (iEq ((atI a0.1 y334.1 (ByteArray.empty,0,[],0,0,())).2.1) 3)
 (some ((3,(atI a0.1 y334.1 (ByteArray.empty,0,[],0,0,())).1,([]:List ByteArray),0,0,([]:List AV),()),y334.2.1,y334.2.2.1,a3,()))
 (cond (iEq ((atI a0.1 y334.1 (ByteArray.empty,0,[],0,0,())).2.1) 1)
 ((m24 (lenI ((atI a0.1 y334.1 (ByteArray.empty,0,[],0,0,())).2.2.1)) y334.2.1 y334.2.2.1).bind fun y335 =>
 (m88 1 (lenI ((atI a0.1 y334.1 (ByteArray.empty,0,[],0,0,())).2.2.1)) y335.2.1 y335.2.2.1).bind fun y336 =>
 loopO (S:=Int × Int × (List Int) × Int × (List ByteArray) × Int × ByteArray × Int × Int × ByteArray × Int × (List ByteArray) × Int × Int × Int × ByteArray × Int × Int × (List ByteArray) × Unit) (R:=DS0 × (List Int) × Int × (List ByteArray) × Unit) (fun s337 =>
 cond (iLt 0 s337.2.1)
 (cond (iNe (lenI s337.2.2.2.2.2.2.2.2.2.2.2.1) 0)
 (cond (bnd (iRem s337.1 (lenI s337.2.2.2.2.2.2.2.2.2.2.2.1)) (lenI s337.2.2.2.2.2.2.2.2.2.2.2.1))
 (cond (fits (List.length s337.2.2.2.2.2.2.2.2.2.2.2.2.2.2.2.2.2.2.1 + List.length ([atI s337.2.2.2.2.2.2.2.2.2.2.2.1 (iRem s337.1 (lenI s337.2.2.2.2.2.2.2.2.2.2.2.1)) ByteArray.empty]:List ByteArray)) 16)
 (some (.inl (iAdd .i64 s337.1 1,iSub .i64 s337.2.1 1,s337.2.2.1,s337.2.2.2.1,s337.2.2.2.2.1,s337.2.2.2.2.2.1,s337.2.2.2.2.2.2.1,s337.2.2.2.2.2.2.2.1,s337.2.2.2.2.2.2.2.2.1,s337.2.2.2.2.2.2.2.2.2.1,s337.2.2.2.2.2.2.2.2.2.2.1,s337.2.2.2.2.2.2.2.2.2.2.2.1,s337.2.2.2.2.2.2.2.2.2.2.2.2.1,s337.2.2.2.2.2.2.2.2.2.2.2.2.2.1,s337.2.2.2.2.2.2.2.2.2.2.2.2.2.2.1,s337.2.2.2.2.2.2.2.2.2.2.2.2.2.2.2.1,s337.2.2.2.2.2.2.2.2.2.2.2.2.2.2.2.2.1,s337.2.2.2.2.2.2.2.2.2.2.2.2.2.2.2.2.2.1,s337.2.2.2.2.2.2.2.2.2.2.2.2.2.2.2.2.2.2.1 ++ ([atI s337.2.2.2.2.2.2.2.2.2.2.2.1 (iRem s337.1 (lenI s337.2.2.2.2.2.2.2.2.2.2.2.1)) ByteArray.empty]:List ByteArray),()))) none) none) none)
 (some (.inr ((s337.2.2.2.2.2.2.2.2.2.2.2.2.2.2.1,s337.2.2.2.2.2.2.2.2.2.2.2.2.2.2.2.1,s337.2.2.2.2.2.2.2.2.2.2.2.2.2.2.2.2.2.2.1,s337.2.2.2.2.2.2.2.2.2.2.2.2.2.2.2.2.1,s337.2.2.2.2.2.2.2.2.2.2.2.2.2.2.2.2.2.1,([]:List AV),()),s337.2.2.1,s337.2.2.2.1,s337.2.2.2.2.1,()))))
 (y335.1,y336.1,y336.2.1,y336.2.2.1,a3,0,(bs []),0,0,(atI a0.1 y334.1 (ByteArray.empty,0,[],0,0,())).1,(atI a0.1 y334.1 (ByteArray.empty,0,[],0,0,())).2.1,(atI a0.1 y334.1 (ByteArray.empty,0,[],0,0,())).2.2.1,(atI a0.1 y334.1 (ByteArray.empty,0,[],0,0,())).2.2.2.1,(atI a0.1 y334.1 (ByteArray.empty,0,[],0,0,())).2.2.2.2.1,4,(atI a0.1 y334.1 (ByteArray.empty,0,[],0,0,())).1,0,0,([]:List ByteArray),()))
 ((m24 (iAdd .i64 (iSub .i64 ((atI a0.1 y334.1 (ByteArray.empty,0,[],0,0,())).2.2.2.2.1) ((atI a0.1 y334.1 (ByteArray.empty,0,[],0,0,())).2.2.2.1)) 1) y334.2.1 y334.2.2.1).bind fun y338 =>
 joinO (S:=Int × (List Int) × Int × (List ByteArray) × Int × ByteArray × Int × Int × ByteArray × Int × (List ByteArray) × Int × Int × Unit) (R:=DS0 × (List Int) × Int × (List ByteArray) × Unit)
 ((m24 2 y338.2.1 y338.2.2.1).bind fun y339 =>
 cond (iEq y339.1 0)
 ((m24 12 y339.2.1 y339.2.2.1).bind fun y340 =>
 some (.inl (iMin (iMax (iSub .i64 y340.1 4) ((atI a0.1 y334.1 (ByteArray.empty,0,[],0,0,())).2.2.2.1)) ((atI a0.1 y334.1 (ByteArray.empty,0,[],0,0,())).2.2.2.2.1),y340.2.1,y340.2.2.1,a3,0,(bs []),0,0,(atI a0.1 y334.1 (ByteArray.empty,0,[],0,0,())).1,(atI a0.1 y334.1 (ByteArray.empty,0,[],0,0,())).2.1,(atI a0.1 y334.1 (ByteArray.empty,0,[],0,0,())).2.2.1,(atI a0.1 y334.1 (ByteArray.empty,0,[],0,0,())).2.2.2.1,(atI a0.1 y334.1 (ByteArray.empty,0,[],0,0,())).2.2.2.2.1,())))
 (some (.inl (iAdd .i64 ((atI a0.1 y334.1 (ByteArray.empty,0,[],0,0,())).2.2.2.1) y338.1,y339.2.1,y339.2.2.1,a3,0,(bs []),0,0,(atI a0.1 y334.1 (ByteArray.empty,0,[],0,0,())).1,(atI a0.1 y334.1 (ByteArray.empty,0,[],0,0,())).2.1,(atI a0.1 y334.1 (ByteArray.empty,0,[],0,0,())).2.2.1,(atI a0.1 y334.1 (ByteArray.empty,0,[],0,0,())).2.2.2.1,(atI a0.1 y334.1 (ByteArray.empty,0,[],0,0,())).2.2.2.2.1,()))))
 (fun j341 =>
 (m24 (iAdd .i64 (iSub .i64 j341.2.2.2.2.2.2.2.2.2.2.2.2.1 j341.1) 1) j341.2.1 j341.2.2.1).bind fun y342 =>
 (m24 2 y342.2.1 y342.2.2.1).bind fun y343 =>
 cond (iEq y343.1 0)
 ((m24 4 y343.2.1 y343.2.2.1).bind fun y344 =>
 some ((5,j341.2.2.2.2.2.2.2.2.1,([]:List ByteArray),j341.1,iMin (iAdd .i64 j341.1 y344.1) j341.2.2.2.2.2.2.2.2.2.2.2.2.1,([]:List AV),()),y344.2.1,y344.2.2.1,j341.2.2.2.1,()))
 (some ((5,j341.2.2.2.2.2.2.2.2.1,([]:List ByteArray),j341.1,iAdd .i64 j341.1 y342.1,([]:List AV),()),y343.2.1,y343.2.2.1,j341.2.2.2.1,())))))) none)
noncomputable def cfg164_1:Cfg:=⟨ttab,gtab,[],[h24,h88]⟩
def ish164_1:Sh:=⟨3,[(1,tS6)],[(0,.ptr 0 0 0),(2,.row 1)],[.box 65 [.d (.list (.int .i64)),.d (.int .i64)],.row 9 .str false]⟩
def osh164_1:Sh:=⟨1,[(0,tS0)],[],[.box 65 [.d (.list (.int .i64)),.d (.int .i64)],.row 9 .str false]⟩
theorem eqn164_1 (x:DS6 × (List Int) × Int × (List ByteArray) × Unit):xfunHz cfg164_1 x164_1 128 [.c 6 6 true] [] tS0 ish164_1 osh164_1 x=m164_1 x.1 x.2.1 x.2.2.1 x.2.2.2.1:=by kernel_rfl
noncomputable def h164_1:HI:=⟨164,ish164_1,osh164_1,fun (x:DS6 × (List Int) × Int × (List ByteArray) × Unit)=>m164_1 x.1 x.2.1 x.2.2.1 x.2.2.2.1,[1]⟩
theorem okh164_1:HOk Tryz.prog (gx gtab) h164_1:=hokz mixed (cfg_h okh24 (cfg_h okh88 (cfg_nil _ _)):CfgOk _ (cfg164_1)) F164_1 (eqn164_1)
noncomputable def x131_1:XC:=xoF Tryz.f131 (.d 4 (.s (.d 1 (.b (.l [.ghc 10 5 34 tS0] ⟨65,[(3,(.int .i64)),(11,(.int .i64))],[(0,.ptr 0 0 0),(2,.row 1),(5,.ptr 2 0 0),(8,.ptr 3 0 0),(10,.ptr 4 0 0)],[.box 65 [.d (.list (.int .i64)),.d (.int .i64)],.row 9 .str false,.box 59 [.d (.list tS5)],.box 34 [.d (.int .i64),.d .str,.nil,.d (.int .i64),.d (.int .i64),.nil],.box 34 [.d (.int .i64),.d .str,.nil,.d (.int .i64),.d (.int .i64),.row 5],.row 34 tS0 false]⟩ (.d 1 (.s (.b (.u [0,1])) .o))))) .o))
theorem F131_1:Fn Tryz.prog 131 65 x131_1.er [.c 8 6 true]:=by unfold x131_1; exact fnX Tryz.func131 (by kernel_rfl) (by kernel_rfl) (by kernel_rfl) (by kernel_rfl)
noncomputable def mb131_1 (self:(DS6 × Int × (List Int) × Int × (List ByteArray) × Unit)→Option (DS0 × (List Int) × Int × (List ByteArray) × Unit)) (a0:DS6) (a1:Int) (a2:List Int) (a3:Int) (a4:List ByteArray):Option (DS0 × (List Int) × Int × (List ByteArray) × Unit) :=
 (m24 8 a2 a3).bind fun y350 =>
 cond (cond (iLt a1 2) true (iLt y350.1 4))
 ((m24 12 y350.2.1 y350.2.2.1).bind fun y351 =>
 cond (iEq y351.1 10)
 (some ((1,(bs []),([]:List ByteArray),0,0,([]:List AV),()),y351.2.1,y351.2.2.1,a4,()))
 (cond (iEq y351.1 11)
 (some ((2,(bs []),([]:List ByteArray),0,0,([]:List AV),()),y351.2.1,y351.2.2.1,a4,()))
 ((m164_1 (a0.1,()) y351.2.1 y351.2.2.1 a4).bind fun y352 =>
 cond (and (Nat.beq (List.length a4) (List.length y352.2.2.2.1)) true)
 (some ((y352.1.1,y352.1.2.1,y352.1.2.2.1,y352.1.2.2.2.1,y352.1.2.2.2.2.1,y352.1.2.2.2.2.2.1,()),y352.2.1,y352.2.2.1,y352.2.2.2.1,())) none)))
 (cond (iLt y350.1 6)
 ((self ((a0.1,()),iSub .i64 a1 1,y350.2.1,y350.2.2.1,a4,())).bind fun y353 =>
 cond (and (Nat.beq (List.length a4) (List.length y353.2.2.2.1)) true)
 (some ((6,(bs []),([]:List ByteArray),0,0,encS0 ([y353.1]:List DS0),()),y353.2.1,y353.2.2.1,y353.2.2.2.1,())) none)
 ((m88 2 3 y350.2.1 y350.2.2.1).bind fun y354 =>
 loopO (S:=Int × Int × (List Int) × Int × (List ByteArray) × (List DS5) × Int × ByteArray × Int × Int × Int × ByteArray × Int × Int × (List DS0) × Unit) (R:=DS0 × (List Int) × Int × (List ByteArray) × Unit) (fun s355 =>
 cond (iLt 0 s355.2.1)
 ((self ((s355.2.2.2.2.2.1,()),iSub .i64 s355.1 1,s355.2.2.1,s355.2.2.2.1,s355.2.2.2.2.1,())).bind fun y356 =>
 cond (and (Nat.beq (List.length s355.2.2.2.2.1) (List.length y356.2.2.2.1)) true)
 (cond (fits (List.length s355.2.2.2.2.2.2.2.2.2.2.2.2.2.2.1 + List.length ([y356.1]:List DS0)) 88)
 (some (.inl (s355.1,iSub .i64 s355.2.1 1,y356.2.1,y356.2.2.1,y356.2.2.2.1,s355.2.2.2.2.2.1,s355.2.2.2.2.2.2.1,s355.2.2.2.2.2.2.2.1,s355.2.2.2.2.2.2.2.2.1,s355.2.2.2.2.2.2.2.2.2.1,s355.2.2.2.2.2.2.2.2.2.2.1,s355.2.2.2.2.2.2.2.2.2.2.2.1,s355.2.2.2.2.2.2.2.2.2.2.2.2.1,s355.2.2.2.2.2.2.2.2.2.2.2.2.2.1,s355.2.2.2.2.2.2.2.2.2.2.2.2.2.2.1 ++ ([y356.1]:List DS0),()))) none) none)
 (some (.inr ((s355.2.2.2.2.2.2.2.2.2.2.1,s355.2.2.2.2.2.2.2.2.2.2.2.1,([]:List ByteArray),s355.2.2.2.2.2.2.2.2.2.2.2.2.1,s355.2.2.2.2.2.2.2.2.2.2.2.2.2.1,encS0 s355.2.2.2.2.2.2.2.2.2.2.2.2.2.2.1,()),s355.2.2.1,s355.2.2.2.1,s355.2.2.2.2.1,()))))
 (a1,y354.1,y354.2.1,y354.2.2.1,a4,a0.1,0,(bs []),0,0,iAdd .i64 y350.1 1,(bs []),0,0,([]:List DS0),())))
def ish131_1:Sh:=⟨4,[(1,tS6),(3,(.int .i64))],[(0,.ptr 0 0 0),(2,.row 1)],[.box 65 [.d (.list (.int .i64)),.d (.int .i64)],.row 9 .str false]⟩
def osh131_1:Sh:=⟨1,[(0,tS0)],[],[.box 65 [.d (.list (.int .i64)),.d (.int .i64)],.row 9 .str false]⟩
noncomputable def cfg131_1 (self:(DS6 × Int × (List Int) × Int × (List ByteArray) × Unit)→Option (DS0 × (List Int) × Int × (List ByteArray) × Unit)):Cfg:=⟨ttab,gtab,[],[⟨131,ish131_1,osh131_1,self,[1]⟩,h164_1,h24,h88]⟩
theorem eqn131_1 (self:(DS6 × Int × (List Int) × Int × (List ByteArray) × Unit)→Option (DS0 × (List Int) × Int × (List ByteArray) × Unit)) (x:DS6 × Int × (List Int) × Int × (List ByteArray) × Unit):xfunHz (cfg131_1 self) x131_1 65 [.c 8 6 true] [] tS0 ish131_1 osh131_1 x=mb131_1 self x.1 x.2.1 x.2.2.1 x.2.2.2.1 x.2.2.2.2.1:=by kernel_rfl
noncomputable def m131_1 (a0:DS6) (a1:Int) (a2:List Int) (a3:Int) (a4:List ByteArray):Option (DS0 × (List Int) × Int × (List ByteArray) × Unit):=iterF (fun self (x:DS6 × Int × (List Int) × Int × (List ByteArray) × Unit)=>mb131_1 self x.1 x.2.1 x.2.2.1 x.2.2.2.1 x.2.2.2.2.1) 10000 (a0,a1,a2,a3,a4,())
noncomputable def h131_1:HI:=⟨131,ish131_1,osh131_1,fun (x:DS6 × Int × (List Int) × Int × (List ByteArray) × Unit)=>m131_1 x.1 x.2.1 x.2.2.1 x.2.2.2.1 x.2.2.2.2.1,[1]⟩
theorem okh131_1:HOk Tryz.prog (gx gtab) h131_1:=hok_iter 10000 (f:=131) (ish:=ish131_1) (osh:=osh131_1) (G:=fun self (x:DS6 × Int × (List Int) × Int × (List ByteArray) × Unit)=>mb131_1 self x.1 x.2.1 x.2.2.1 x.2.2.2.1 x.2.2.2.2.1) F131_1.callable (fun run hr=>hokz mixed (cfg_h hr (cfg_h okh164_1 (cfg_h okh24 (cfg_h okh88 (cfg_nil _ _)))):CfgOk _ (cfg131_1 run)) F131_1 (eqn131_1 run))
noncomputable def x132_1:XC:=xoF Tryz.f132 (.d 2 (.s (.d 1 (.b (.l [.gh 9 63 tS7] ⟨41,[(3,(.int .i64)),(10,(.int .i64))],[(0,.ptr 0 0 0),(2,.row 1),(5,.ptr 2 0 0),(9,.row 3)],[.box 65 [.d (.list (.int .i64)),.d (.int .i64)],.row 9 .str false,.box 59 [.d (.list tS5)],.row 63 tS7 false]⟩ (.d 1 (.s (.b (.u [0,1])) .o))))) .o))
theorem F132_1:Fn Tryz.prog 132 41 x132_1.er [.t 8]:=by unfold x132_1; exact fnX Tryz.func132 (by kernel_rfl) (by kernel_rfl) (by kernel_rfl) (by kernel_rfl)
noncomputable def mb132_1 (self:(DS6 × Int × (List Int) × Int × (List ByteArray) × Unit)→Option ((List AV) × (List Int) × Int × (List ByteArray) × Unit)) (a0:DS6) (a1:Int) (a2:List Int) (a3:Int) (a4:List ByteArray):Option ((List AV) × (List Int) × Int × (List ByteArray) × Unit) :=
 (m24 3 a2 a3).bind fun y367 =>
 loopO (S:=Int × Int × (List Int) × Int × (List ByteArray) × (List DS5) × (List DS7) × Unit) (R:=(List AV) × (List Int) × Int × (List ByteArray) × Unit) (fun s368 =>
 cond (cond (iLt 0 s368.2.1) (iLt 0 s368.1) false)
 ((m24 3 s368.2.2.1 s368.2.2.2.1).bind fun y369 =>
 cond (bnd y369.1 (lenI ([(bs [119]),(bs [120]),(bs [121])]:List ByteArray)))
 ((m131_1 (s368.2.2.2.2.2.1,()) 2 y369.2.1 y369.2.2.1 s368.2.2.2.2.1).bind fun y370 =>
 cond (and (Nat.beq (List.length s368.2.2.2.2.1) (List.length y370.2.2.2.1)) true)
 ((self ((s368.2.2.2.2.2.1,()),iSub .i64 s368.1 1,y370.2.1,y370.2.2.1,y370.2.2.2.1,())).bind fun y371 =>
 cond (and (Nat.beq (List.length y370.2.2.2.1) (List.length y371.2.2.2.1)) true)
 (cond (fits (List.length s368.2.2.2.2.2.2.1 + List.length ([(atI ([(bs [119]),(bs [120]),(bs [121])]:List ByteArray) y369.1 ByteArray.empty,(y370.1.1,y370.1.2.1,y370.1.2.2.1,y370.1.2.2.2.1,y370.1.2.2.2.2.1,y370.1.2.2.2.2.2.1,()),y371.1,())]:List DS7)) 128)
 (some (.inl (s368.1,iSub .i64 s368.2.1 1,y371.2.1,y371.2.2.1,y371.2.2.2.1,s368.2.2.2.2.2.1,s368.2.2.2.2.2.2.1 ++ ([(atI ([(bs [119]),(bs [120]),(bs [121])]:List ByteArray) y369.1 ByteArray.empty,(y370.1.1,y370.1.2.1,y370.1.2.2.1,y370.1.2.2.2.1,y370.1.2.2.2.2.1,y370.1.2.2.2.2.2.1,()),y371.1,())]:List DS7),()))) none) none) none) none)
 (some (.inr (encS7 s368.2.2.2.2.2.2.1,s368.2.2.1,s368.2.2.2.1,s368.2.2.2.2.1,()))))
 (a1,y367.1,y367.2.1,y367.2.2.1,a4,a0.1,([]:List DS7),())
def ish132_1:Sh:=⟨4,[(1,tS6),(3,(.int .i64))],[(0,.ptr 0 0 0),(2,.row 1)],[.box 65 [.d (.list (.int .i64)),.d (.int .i64)],.row 9 .str false]⟩
def osh132_1:Sh:=⟨1,[(0,(.rl 63 8))],[],[.box 65 [.d (.list (.int .i64)),.d (.int .i64)],.row 9 .str false]⟩
noncomputable def cfg132_1 (self:(DS6 × Int × (List Int) × Int × (List ByteArray) × Unit)→Option ((List AV) × (List Int) × Int × (List ByteArray) × Unit)):Cfg:=⟨ttab,gtab,[],[⟨132,ish132_1,osh132_1,self,[1]⟩,h131_1,h24]⟩
theorem eqn132_1 (self:(DS6 × Int × (List Int) × Int × (List ByteArray) × Unit)→Option ((List AV) × (List Int) × Int × (List ByteArray) × Unit)) (x:DS6 × Int × (List Int) × Int × (List ByteArray) × Unit):xfunHz (cfg132_1 self) x132_1 41 [.t 8] [] (.rl 63 8) ish132_1 osh132_1 x=mb132_1 self x.1 x.2.1 x.2.2.1 x.2.2.2.1 x.2.2.2.2.1:=by kernel_rfl
noncomputable def m132_1 (a0:DS6) (a1:Int) (a2:List Int) (a3:Int) (a4:List ByteArray):Option ((List AV) × (List Int) × Int × (List ByteArray) × Unit):=iterF (fun self (x:DS6 × Int × (List Int) × Int × (List ByteArray) × Unit)=>mb132_1 self x.1 x.2.1 x.2.2.1 x.2.2.2.1 x.2.2.2.2.1) 10000 (a0,a1,a2,a3,a4,())
noncomputable def h132_1:HI:=⟨132,ish132_1,osh132_1,fun (x:DS6 × Int × (List Int) × Int × (List ByteArray) × Unit)=>m132_1 x.1 x.2.1 x.2.2.1 x.2.2.2.1 x.2.2.2.2.1,[1]⟩
theorem okh132_1:HOk Tryz.prog (gx gtab) h132_1:=hok_iter 10000 (f:=132) (ish:=ish132_1) (osh:=osh132_1) (G:=fun self (x:DS6 × Int × (List Int) × Int × (List ByteArray) × Unit)=>mb132_1 self x.1 x.2.1 x.2.2.1 x.2.2.2.1 x.2.2.2.2.1) F132_1.callable (fun run hr=>hokz mixed (cfg_h hr (cfg_h okh131_1 (cfg_h okh24 (cfg_nil _ _))):CfgOk _ (cfg132_1 run)) F132_1 (eqn132_1 run))
noncomputable def x85_1:XC:=xoF Tryz.f85 .o
theorem F85_1:Fn Tryz.prog 85 38 x85_1.er [.c 10 10 true]:=by unfold x85_1; exact fnX Tryz.func85 (by kernel_rfl) (by kernel_rfl) (by kernel_rfl) (by kernel_rfl)
noncomputable def m85_1 (a0:DS6) (a1:Int) (a2:ByteArray) (a3:List Int) (a4:Int) (a5:List ByteArray):Option (DS1 × (List Int) × Int × (List ByteArray) × Unit) :=
 (m131_1 (a0.1,()) 3 a3 a4 a5).bind fun y377 =>
 cond (and (Nat.beq (List.length a5) (List.length y377.2.2.2.1)) true)
 (cond (iEq a1 3)
 ((m132_1 (a0.1,()) 2 y377.2.1 y377.2.2.1 y377.2.2.2.1).bind fun y378 =>
 cond (and (Nat.beq (List.length y377.2.2.2.1) (List.length y378.2.2.2.1)) true)
 ((m101 a1).bind fun y379 =>
 cond (iLt 0 y379.1)
 ((m133 (iSub .i64 y379.1 1) y378.2.1 y378.2.2.1).bind fun y380 =>
 some ((a1,a2,(y377.1.1,y377.1.2.1,y377.1.2.2.1,y377.1.2.2.2.1,y377.1.2.2.2.2.1,y377.1.2.2.2.2.2.1,()),y378.1,iAdd .i64 1 y380.1,()),y380.2.1,y380.2.2.1,y378.2.2.2.1,()))
 (some ((a1,a2,(y377.1.1,y377.1.2.1,y377.1.2.2.1,y377.1.2.2.2.1,y377.1.2.2.2.2.1,y377.1.2.2.2.2.2.1,()),y378.1,0,()),y378.2.1,y378.2.2.1,y378.2.2.2.1,()))) none)
 ((m101 a1).bind fun y381 =>
 cond (iLt 0 y381.1)
 ((m133 (iSub .i64 y381.1 1) y377.2.1 y377.2.2.1).bind fun y382 =>
 some ((a1,a2,(y377.1.1,y377.1.2.1,y377.1.2.2.1,y377.1.2.2.2.1,y377.1.2.2.2.2.1,y377.1.2.2.2.2.2.1,()),([]:List AV),iAdd .i64 1 y382.1,()),y382.2.1,y382.2.2.1,y377.2.2.2.1,()))
 (some ((a1,a2,(y377.1.1,y377.1.2.1,y377.1.2.2.1,y377.1.2.2.2.1,y377.1.2.2.2.2.1,y377.1.2.2.2.2.2.1,()),([]:List AV),0,()),y377.2.1,y377.2.2.1,y377.2.2.2.1,())))) none
noncomputable def cfg85_1:Cfg:=⟨ttab,gtab,[i101],[h131_1,h132_1,h133]⟩
def ish85_1:Sh:=⟨5,[(1,tS6),(2,(.int .i64)),(3,.str)],[(0,.ptr 0 0 0),(4,.row 1)],[.box 65 [.d (.list (.int .i64)),.d (.int .i64)],.row 9 .str false]⟩
def osh85_1:Sh:=⟨1,[(0,tS1)],[],[.box 65 [.d (.list (.int .i64)),.d (.int .i64)],.row 9 .str false]⟩
theorem eqn85_1 (x:DS6 × Int × ByteArray × (List Int) × Int × (List ByteArray) × Unit):xfunHz cfg85_1 x85_1 38 [.c 10 10 true] [] tS1 ish85_1 osh85_1 x=m85_1 x.1 x.2.1 x.2.2.1 x.2.2.2.1 x.2.2.2.2.1 x.2.2.2.2.2.1:=by kernel_rfl
noncomputable def h85_1:HI:=⟨85,ish85_1,osh85_1,fun (x:DS6 × Int × ByteArray × (List Int) × Int × (List ByteArray) × Unit)=>m85_1 x.1 x.2.1 x.2.2.1 x.2.2.2.1 x.2.2.2.2.1 x.2.2.2.2.2.1,[1]⟩
theorem okh85_1:HOk Tryz.prog (gx gtab) h85_1:=hokz mixed (cfg_p oki101 (cfg_h okh131_1 (cfg_h okh132_1 (cfg_h okh133 (cfg_nil _ _)))):CfgOk _ (cfg85_1)) F85_1 (eqn85_1)
noncomputable def x48:XC:=xoF Tryz.f48 (.d 2 (.s (.u [0]) (.j [] ⟨71,[(2,(.int .i64)),(3,.str)],[(0,.ptr 0 0 0),(5,.ptr 1 0 0),(9,.nil),(10,.row 2)],[.box 65 [.d (.list (.int .i64)),.d (.int .i64)],.box 59 [.d (.list tS5)],.row 37 tS1 false]⟩ .o (.s (.d 1 (.b (.l [.gh 9 9 .str] ⟨71,[(2,(.int .i64)),(3,.str),(11,(.int .i64))],[(0,.ptr 0 0 0),(5,.ptr 1 0 0),(9,.row 2),(10,.row 3)],[.box 65 [.d (.list (.int .i64)),.d (.int .i64)],.box 59 [.d (.list tS5)],.row 9 .str false,.row 37 tS1 false]⟩ (.d 1 (.s (.b (.s (.u [0,2]) .o)) .o))))) .o))))
theorem F48:Fn Tryz.prog 48 71 x48.er [.t 8]:=by unfold x48; exact fnX Tryz.func48 (by kernel_rfl) (by kernel_rfl) (by kernel_rfl) (by kernel_rfl)
noncomputable def m48 (a0:DS6) (a1:Int) (a2:ByteArray) (a3:List Int) (a4:Int):Option ((List Int) × Int × (List DS1) × Unit) :=
 (m86 a2 0).bind fun y385 =>
 (m85 (a0.1,()) 2 y385.1 a3 a4).bind fun y386 =>
 joinO (S:=Int × ByteArray × (List Int) × Int × (List DS5) × (List DS1) × Unit) (R:=(List Int) × Int × (List DS1) × Unit)
 ((m24 3 y386.2.1 y386.2.2.1).bind fun y387 =>
 cond (iLt 0 y387.1)
 (cond (bnd 0 (lenI ([y386.1]:List DS1)))
 (cond (inB (Int.toNat 0) ([y386.1]:List DS1))
 (some (.inl (a1,a2,y387.2.1,y387.2.2.1,a0.1,List.set ([y386.1]:List DS1) (Int.toNat 0) ((List.getD ([y386.1]:List DS1) (Int.toNat 0) (0,ByteArray.empty,(0,ByteArray.empty,[],0,0,[],()),[],0,())).1,(List.getD ([y386.1]:List DS1) (Int.toNat 0) (0,ByteArray.empty,(0,ByteArray.empty,[],0,0,[],()),[],0,())).2.1,(1,(bs []),([]:List ByteArray),0,0,([]:List AV),()),(List.getD ([y386.1]:List DS1) (Int.toNat 0) (0,ByteArray.empty,(0,ByteArray.empty,[],0,0,[],()),[],0,())).2.2.2.1,(List.getD ([y386.1]:List DS1) (Int.toNat 0) (0,ByteArray.empty,(0,ByteArray.empty,[],0,0,[],()),[],0,())).2.2.2.2.1,()),()))) none) none)
 (some (.inl (a1,a2,y387.2.1,y387.2.2.1,a0.1,([y386.1]:List DS1),()))))
 (fun j388 =>
 loopO (S:=Int × ByteArray × Int × (List Int) × Int × (List DS5) × (List ByteArray) × (List DS1) × Unit) (R:=(List Int) × Int × (List DS1) × Unit) (fun s389 =>
 cond (iLe s389.2.2.1 s389.1)
 ((m87 s389.2.2.2.1 s389.2.2.2.2.1).bind fun y390 =>
 cond y390.1
 ((m88 1 10 y390.2.1 y390.2.2.1).bind fun y391 =>
 (m86 s389.2.1 s389.2.2.1).bind fun y392 =>
 (m85_1 (s389.2.2.2.2.2.1,()) y391.1 y392.1 y391.2.1 y391.2.2.1 s389.2.2.2.2.2.2.1).bind fun y393 =>
 cond (and (Nat.beq (List.length s389.2.2.2.2.2.2.1) (List.length y393.2.2.2.1)) true)
 (cond (fits (List.length ([]:List DS1) + List.length s389.2.2.2.2.2.2.2.1) 144)
 (cond (fits (List.length (([]:List DS1) ++ s389.2.2.2.2.2.2.2.1) + List.length ([(y393.1.1,y393.1.2.1,(y393.1.2.2.1.1,y393.1.2.2.1.2.1,y393.1.2.2.1.2.2.1,y393.1.2.2.1.2.2.2.1,y393.1.2.2.1.2.2.2.2.1,y393.1.2.2.1.2.2.2.2.2.1,()),y393.1.2.2.2.1,y393.1.2.2.2.2.1,())]:List DS1)) 144)
 ((m89 (s389.2.2.2.2.2.1,()) ((([]:List DS1) ++ s389.2.2.2.2.2.2.2.1) ++ ([(y393.1.1,y393.1.2.1,(y393.1.2.2.1.1,y393.1.2.2.1.2.1,y393.1.2.2.1.2.2.1,y393.1.2.2.1.2.2.2.1,y393.1.2.2.1.2.2.2.2.1,y393.1.2.2.1.2.2.2.2.2.1,()),y393.1.2.2.2.1,y393.1.2.2.2.2.1,())]:List DS1))).bind fun y394 =>
 cond (iNe y394.2.1 0)
 (some (.inl (s389.1,s389.2.1,iAdd .i64 s389.2.2.1 1,y393.2.1,y393.2.2.1,s389.2.2.2.2.2.1,y393.2.2.2.1,s389.2.2.2.2.2.2.2.1,())))
 (cond (iEq y393.1.1 1)
 (cond (fits (List.length y393.2.2.2.1 + List.length ([y393.1.2.1]:List ByteArray)) 16)
 (some (.inl (s389.1,s389.2.1,iAdd .i64 s389.2.2.1 1,y393.2.1,y393.2.2.1,s389.2.2.2.2.2.1,y393.2.2.2.1 ++ ([y393.1.2.1]:List ByteArray),(([]:List DS1) ++ s389.2.2.2.2.2.2.2.1) ++ ([(y393.1.1,y393.1.2.1,(y393.1.2.2.1.1,y393.1.2.2.1.2.1,y393.1.2.2.1.2.2.1,y393.1.2.2.1.2.2.2.1,y393.1.2.2.1.2.2.2.2.1,y393.1.2.2.1.2.2.2.2.2.1,()),y393.1.2.2.2.1,y393.1.2.2.2.2.1,())]:List DS1),()))) none)
 (some (.inl (s389.1,s389.2.1,iAdd .i64 s389.2.2.1 1,y393.2.1,y393.2.2.1,s389.2.2.2.2.2.1,y393.2.2.2.1,(([]:List DS1) ++ s389.2.2.2.2.2.2.2.1) ++ ([(y393.1.1,y393.1.2.1,(y393.1.2.2.1.1,y393.1.2.2.1.2.1,y393.1.2.2.1.2.2.1,y393.1.2.2.1.2.2.2.1,y393.1.2.2.1.2.2.2.2.1,y393.1.2.2.1.2.2.2.2.2.1,()),y393.1.2.2.2.1,y393.1.2.2.2.2.1,())]:List DS1),()))))) none) none) none)
 (some (.inr (y390.2.1,y390.2.2.1,s389.2.2.2.2.2.2.2.1,()))))
 (some (.inr (s389.2.2.2.1,s389.2.2.2.2.1,s389.2.2.2.2.2.2.2.1,()))))
 (j388.1,j388.2.1,1,j388.2.2.1,j388.2.2.2.1,j388.2.2.2.2.1,([]:List ByteArray),j388.2.2.2.2.2.1,()))
noncomputable def cfg48:Cfg:=⟨ttab,gtab,[i86,i89],[h24,h85,h85_1,h87,h88]⟩
def ish48:Sh:=⟨4,[(1,tS6),(2,(.int .i64)),(3,.str)],[(0,.ptr 0 0 0)],[.box 65 [.d (.list (.int .i64)),.d (.int .i64)]]⟩
def osh48:Sh:=⟨1,[],[(0,.row 1)],[.box 65 [.d (.list (.int .i64)),.d (.int .i64)],.row 37 tS1 false]⟩
theorem eqn48 (x:DS6 × Int × ByteArray × (List Int) × Int × Unit):xfunH cfg48 x48 71 [.t 8] [] ish48 osh48 x=m48 x.1 x.2.1 x.2.2.1 x.2.2.2.1 x.2.2.2.2.1:=by kernel_rfl
noncomputable def h48:HI:=⟨48,ish48,osh48,fun (x:DS6 × Int × ByteArray × (List Int) × Int × Unit)=>m48 x.1 x.2.1 x.2.2.1 x.2.2.2.1 x.2.2.2.2.1,[]⟩
theorem okh48:HOk Tryz.prog (gx gtab) h48:=hok mixed (cfg_p oki86 (cfg_p oki89 (cfg_h okh24 (cfg_h okh85 (cfg_h okh85_1 (cfg_h okh87 (cfg_h okh88 (cfg_nil _ _))))))):CfgOk _ (cfg48)) F48 (eqn48)
noncomputable def x90:XC:=xoF Tryz.f90 .o
theorem F90:Fn Tryz.prog 90 20 x90.er [.t 2]:=by unfold x90; exact fnX Tryz.func90 (by kernel_rfl) (by kernel_rfl) (by kernel_rfl) (by kernel_rfl)
noncomputable def m90 (a0:List Int) (a1:Int):Option (Int × (List Int) × Int × Unit) :=
 (m24 4 a0 a1).bind fun y403 =>
 cond (iEq y403.1 0)
 ((m24 60 y403.2.1 y403.2.2.1).bind fun y404 =>
 some (y404.1,y404.2.1,y404.2.2.1,()))
 (cond (iEq y403.1 1)
 ((m24 20000 y403.2.1 y403.2.2.1).bind fun y405 =>
 some (y405.1,y405.2.1,y405.2.2.1,()))
 (cond (iEq y403.1 2)
 ((m24 50 y403.2.1 y403.2.2.1).bind fun y406 =>
 some (iSub .i64 876599 y406.1,y406.2.1,y406.2.2.1,()))
 ((m24 876600 y403.2.1 y403.2.2.1).bind fun y407 =>
 some (y407.1,y407.2.1,y407.2.2.1,()))))
noncomputable def cfg90:Cfg:=⟨ttab,gtab,[],[h24]⟩
def ish90:Sh:=⟨1,[],[(0,.ptr 0 0 0)],[.box 65 [.d (.list (.int .i64)),.d (.int .i64)]]⟩
def osh90:Sh:=⟨1,[(0,(.int .i64))],[],[.box 65 [.d (.list (.int .i64)),.d (.int .i64)]]⟩
theorem eqn90 (x:(List Int) × Int × Unit):xfunH cfg90 x90 20 [.t 2] [] ish90 osh90 x=m90 x.1 x.2.1:=by kernel_rfl
noncomputable def h90:HI:=⟨90,ish90,osh90,fun (x:(List Int) × Int × Unit)=>m90 x.1 x.2.1,[]⟩
theorem okh90:HOk Tryz.prog (gx gtab) h90:=hok mixed (cfg_h okh24 (cfg_nil _ _):CfgOk _ (cfg90)) F90 (eqn90)
noncomputable def x49:XC:=xoF Tryz.f49 .o
theorem F49:Fn Tryz.prog 49 17 x49.er [.c 2 2 true]:=by unfold x49; exact fnX Tryz.func49 (by kernel_rfl) (by kernel_rfl) (by kernel_rfl) (by kernel_rfl)
noncomputable def m49 (a0:List Int) (a1:Int):Option (Int × Int × (List Int) × Int × Unit) :=
 (m90 a0 a1).bind fun y410 =>
 (m90 y410.2.1 y410.2.2.1).bind fun y411 =>
 some (iMin y410.1 y411.1,iAdd .i64 (iMax y410.1 y411.1) 1,y411.2.1,y411.2.2.1,())
noncomputable def cfg49:Cfg:=⟨ttab,gtab,[],[h90]⟩
def ish49:Sh:=⟨1,[],[(0,.ptr 0 0 0)],[.box 65 [.d (.list (.int .i64)),.d (.int .i64)]]⟩
def osh49:Sh:=⟨1,[],[(0,.agg [.d (.int .i64),.d (.int .i64)])],[.box 65 [.d (.list (.int .i64)),.d (.int .i64)]]⟩
theorem eqn49 (x:(List Int) × Int × Unit):xfunH cfg49 x49 17 [.c 2 2 true] [] ish49 osh49 x=m49 x.1 x.2.1:=by kernel_rfl
noncomputable def h49:HI:=⟨49,ish49,osh49,fun (x:(List Int) × Int × Unit)=>m49 x.1 x.2.1,[]⟩
theorem okh49:HOk Tryz.prog (gx gtab) h49:=hok mixed (cfg_h okh90 (cfg_nil _ _):CfgOk _ (cfg49)) F49 (eqn49)
noncomputable def x27:XC:=xoF Tryz.f27 (.d 2 (.s (.d 1 (.b (.l [] ⟨19,[(0,(.list tS1)),(3,(.int .i64))],[],[]⟩ .o))) .o))
theorem F27:Fn Tryz.prog 27 19 x27.er [.t 2]:=by unfold x27; exact fnX Tryz.func27 (by kernel_rfl) (by kernel_rfl) (by kernel_rfl) (by kernel_rfl)
noncomputable def m27 (a0:List DS1):Option (Bool × Unit) :=
 cond (iLt 40 (lenI a0))
 (some (false,()))
 (loopO (S:=(List DS1) × Int × Unit) (R:=Bool × Unit) (fun s420 =>
 cond (iLt s420.2.1 (lenI s420.1))
 (cond (bnd s420.2.1 (lenI s420.1))
 ((m56 (atI s420.1 s420.2.1 (0,ByteArray.empty,(0,ByteArray.empty,[],0,0,[],()),[],0,()))).bind fun y421 =>
 cond (not y421.1)
 (some (.inr (false,())))
 (some (.inl (s420.1,iAdd .i64 s420.2.1 1,())))) none)
 (some (.inr (true,()))))
 (a0,0,()))
noncomputable def cfg27:Cfg:=⟨ttab,gtab,[i56],[]⟩
theorem eqn27 (x:(List DS1) × Unit):xfun cfg27 x27 19 [.t 2] [(.list tS1)] [.bool] x=m27 x.1:=by kernel_rfl
noncomputable def i27:PI:=⟨27,[(.list tS1)],[.bool],fun (x:(List DS1) × Unit)=>m27 x.1⟩
theorem oki27:POk Tryz.prog (gx gtab) i27:=pok mixed (cfg_p oki56 (cfg_nil _ _):CfgOk _ (cfg27)) F27 (eqn27)
noncomputable def x28:XC:=xoF Tryz.f28 .o
theorem F28:Fn Tryz.prog 28 18 x28.er [.t 2]:=by unfold x28; exact fnX Tryz.func28 (by kernel_rfl) (by kernel_rfl) (by kernel_rfl) (by kernel_rfl)
noncomputable def m28 (a0:DS2):Option (Bool × Unit) :=
 some (cond (cond (iLe 0 a0.1) (iLt a0.1 a0.2.1) false) (iLe a0.2.1 876600) false,())
noncomputable def cfg28:Cfg:=⟨ttab,gtab,[],[]⟩
theorem eqn28 (x:DS2 × Unit):xfun cfg28 x28 18 [.t 2] [tS2] [.bool] x=m28 x.1:=by kernel_rfl
noncomputable def i28:PI:=⟨28,[tS2],[.bool],fun (x:DS2 × Unit)=>m28 x.1⟩
theorem oki28:POk Tryz.prog (gx gtab) i28:=pok mixed (cfg_nil _ _:CfgOk _ (cfg28)) F28 (eqn28)
noncomputable def x16:XC:=xoF Tryz.f16 (.d 2 (.s (.d 1 (.b (.l [] ⟨61,[(3,(.int .i64))],[(1,.ptr 0 0 0)],[.box 29 [.d (.list tS1),.d (.list tS3)]]⟩ .o))) .o))
theorem F16:Fn Tryz.prog 16 61 x16.er [.t 2]:=by unfold x16; exact fnX Tryz.func16 (by kernel_rfl) (by kernel_rfl) (by kernel_rfl) (by kernel_rfl)
noncomputable def m16 (a0:DS4):Option (Bool × Unit) :=
 cond (iLt 12 (lenI a0.2.1))
 (some (false,()))
 ((m27 a0.1).bind fun y428 =>
 cond (not y428.1)
 (some (false,()))
 (loopO (S:=Int × (List DS1) × (List DS3) × Unit) (R:=Bool × Unit) (fun s429 =>
 cond (iLt s429.1 (lenI s429.2.2.1))
 (cond (bnd s429.1 (lenI s429.2.2.1))
 ((m28 (((atI s429.2.2.1 s429.1 ((0,0,()),[],[],())).1).1,((atI s429.2.2.1 s429.1 ((0,0,()),[],[],())).1).2.1,())).bind fun y430 =>
 cond (cond (cond (not y430.1) true (iLt 876599 (((atI s429.2.2.1 s429.1 ((0,0,()),[],[],())).1).2.1))) true (iLt 40 (lenI ((atI s429.2.2.1 s429.1 ((0,0,()),[],[],())).2.1))))
 (some (.inr (false,())))
 ((m29 ((atI s429.2.2.1 s429.1 ((0,0,()),[],[],())).2.1)).bind fun y431 =>
 cond (not y431.1)
 (some (.inr (false,())))
 ((m30 ((atI s429.2.2.1 s429.1 ((0,0,()),[],[],())).2.1)).bind fun y432 =>
 cond (not y432.1)
 (some (.inr (false,())))
 ((m27 ((atI s429.2.2.1 s429.1 ((0,0,()),[],[],())).2.2.1)).bind fun y433 =>
 cond (not y433.1)
 (some (.inr (false,())))
 (some (.inl (iAdd .i64 s429.1 1,s429.2.1,s429.2.2.1,()))))))) none)
 (some (.inr (true,()))))
 (0,a0.1,a0.2.1,())))
noncomputable def cfg16:Cfg:=⟨ttab,gtab,[i27,i28,i29,i30],[]⟩
theorem eqn16 (x:DS4 × Unit):xfun cfg16 x16 61 [.t 2] [tS4] [.bool] x=m16 x.1:=by kernel_rfl
noncomputable def i16:PI:=⟨16,[tS4],[.bool],fun (x:DS4 × Unit)=>m16 x.1⟩
theorem oki16:POk Tryz.prog (gx gtab) i16:=pok mixed (cfg_p oki27 (cfg_p oki28 (cfg_p oki29 (cfg_p oki30 (cfg_nil _ _)))):CfgOk _ (cfg16)) F16 (eqn16)
noncomputable def x141:XC:=xoF Tryz.f141 (.d 3 (.s (.d 1 (.b (.l [.gh 5 3 (.int .i64)] ⟨48,[(0,(.list (.int .i64))),(1,(.int .i64)),(6,.bool),(7,(.int .i64))],[(5,.row 0)],[.row 3 (.int .i64) false]⟩ .o))) .o))
theorem F141:Fn Tryz.prog 141 48 x141.er [.t 4]:=by unfold x141; exact fnX Tryz.func141 (by kernel_rfl) (by kernel_rfl) (by kernel_rfl) (by kernel_rfl)
noncomputable def m141 (a0:List Int) (a1:Int):Option ((List Int) × Unit) :=
 loopO (S:=(List Int) × Int × Bool × Int × (List Int) × Unit) (R:=(List Int) × Unit) (fun s438 =>
 cond (iLt s438.2.2.2.1 (lenI s438.1))
 (cond (or (bnd s438.2.2.2.1 (lenI s438.1)) (not (bEq (not s438.2.2.1) true)))
 (cond (cond (not s438.2.2.1) (iLe s438.2.1 (atI s438.1 s438.2.2.2.1 0)) false)
 (cond (bnd s438.2.2.2.1 (lenI s438.1))
 (cond (iLt s438.2.1 (atI s438.1 s438.2.2.2.1 0))
 (cond (fits (List.length s438.2.2.2.2.1 + List.length ([s438.2.1]:List Int)) 8)
 (cond (bnd s438.2.2.2.1 (lenI s438.1))
 (cond (fits (List.length (s438.2.2.2.2.1 ++ ([s438.2.1]:List Int)) + List.length ([atI s438.1 s438.2.2.2.1 0]:List Int)) 8)
 (some (.inl (s438.1,s438.2.1,true,iAdd .i64 s438.2.2.2.1 1,(s438.2.2.2.2.1 ++ ([s438.2.1]:List Int)) ++ ([atI s438.1 s438.2.2.2.1 0]:List Int),()))) none) none) none)
 (cond (bnd s438.2.2.2.1 (lenI s438.1))
 (cond (fits (List.length s438.2.2.2.2.1 + List.length ([atI s438.1 s438.2.2.2.1 0]:List Int)) 8)
 (some (.inl (s438.1,s438.2.1,true,iAdd .i64 s438.2.2.2.1 1,s438.2.2.2.2.1 ++ ([atI s438.1 s438.2.2.2.1 0]:List Int),()))) none) none)) none)
 (cond (bnd s438.2.2.2.1 (lenI s438.1))
 (cond (fits (List.length s438.2.2.2.2.1 + List.length ([atI s438.1 s438.2.2.2.1 0]:List Int)) 8)
 (some (.inl (s438.1,s438.2.1,s438.2.2.1,iAdd .i64 s438.2.2.2.1 1,s438.2.2.2.2.1 ++ ([atI s438.1 s438.2.2.2.1 0]:List Int),()))) none) none)) none)
 (Option.map Sum.inr (cond (not s438.2.2.1)
 (cond (fits (List.length s438.2.2.2.2.1 + List.length ([s438.2.1]:List Int)) 8)
 (some (s438.2.2.2.2.1 ++ ([s438.2.1]:List Int),())) none)
 (some (s438.2.2.2.2.1,())))))
 (a0,a1,false,0,([]:List Int),())
noncomputable def cfg141:Cfg:=⟨ttab,gtab,[],[]⟩
theorem eqn141 (x:(List Int) × Int × Unit):xfun cfg141 x141 48 [.t 4] [(.list (.int .i64)),(.int .i64)] [(.list (.int .i64))] x=m141 x.1 x.2.1:=by kernel_rfl
noncomputable def i141:PI:=⟨141,[(.list (.int .i64)),(.int .i64)],[(.list (.int .i64))],fun (x:(List Int) × Int × Unit)=>m141 x.1 x.2.1⟩
theorem oki141:POk Tryz.prog (gx gtab) i141:=pok mixed (cfg_nil _ _:CfgOk _ (cfg141)) F141 (eqn141)
noncomputable def x91:XC:=xoF Tryz.f91 (.d 3 (.s (.d 1 (.b (.l [.fz 3 (.list (.int .i64))] ⟨31,[(3,(.list (.int .i64))),(4,(.int .i64))],[(1,.ptr 0 0 0)],[.box 29 [.d (.list tS1),.d (.list tS3)]]⟩ .o))) .o))
theorem F91:Fn Tryz.prog 91 31 x91.er [.t 2]:=by unfold x91; exact fnX Tryz.func91 (by kernel_rfl) (by kernel_rfl) (by kernel_rfl) (by kernel_rfl)
noncomputable def m91 (a0:DS4):Option ((List Int) × Unit) :=
 (m16 (a0.1,a0.2.1,())).bind fun y441 =>
 cond (not y441.1)
 (some (([]:List Int),()))
 (loopO (S:=(List Int) × Int × (List DS1) × (List DS3) × Unit) (R:=(List Int) × Unit) (fun s442 =>
 cond (iLt s442.2.1 (lenI s442.2.2.2.1))
 (cond (bnd s442.2.1 (lenI s442.2.2.2.1))
 ((m141 s442.1 (((atI s442.2.2.2.1 s442.2.1 ((0,0,()),[],[],())).1).1)).bind fun y443 =>
 (m141 y443.1 (((atI s442.2.2.2.1 s442.2.1 ((0,0,()),[],[],())).1).2.1)).bind fun y444 =>
 some (.inl (y444.1,iAdd .i64 s442.2.1 1,s442.2.2.1,s442.2.2.2.1,()))) none)
 (some (.inr (s442.1,()))))
 (([0]:List Int),0,a0.1,a0.2.1,()))
noncomputable def cfg91:Cfg:=⟨ttab,gtab,[i141,i16],[]⟩
theorem eqn91 (x:DS4 × Unit):xfun cfg91 x91 31 [.t 2] [tS4] [(.list (.int .i64))] x=m91 x.1:=by kernel_rfl
noncomputable def i91:PI:=⟨91,[tS4],[(.list (.int .i64))],fun (x:DS4 × Unit)=>m91 x.1⟩
theorem oki91:POk Tryz.prog (gx gtab) i91:=pok mixed (cfg_p oki141 (cfg_p oki16 (cfg_nil _ _)):CfgOk _ (cfg91)) F91 (eqn91)
noncomputable def x142:XC:=xoF Tryz.f142 .o
theorem F142:Fn Tryz.prog 142 9 x142.er [.t 2]:=by unfold x142; exact fnX Tryz.func142 (by kernel_rfl) (by kernel_rfl) (by kernel_rfl) (by kernel_rfl)
noncomputable def m142 (a0:Int):Option (Bool × Unit) :=
 some (cond (iLe 0 a0) (iLe a0 876599) false,())
noncomputable def cfg142:Cfg:=⟨ttab,gtab,[],[]⟩
theorem eqn142 (x:Int × Unit):xfun cfg142 x142 9 [.t 2] [(.int .i64)] [.bool] x=m142 x.1:=by kernel_rfl
noncomputable def i142:PI:=⟨142,[(.int .i64)],[.bool],fun (x:Int × Unit)=>m142 x.1⟩
theorem oki142:POk Tryz.prog (gx gtab) i142:=pok mixed (cfg_nil _ _:CfgOk _ (cfg142)) F142 (eqn142)
noncomputable def x143:XC:=xoF Tryz.f143 .o
theorem F143:Fn Tryz.prog 143 19 x143.er [.t 4]:=by unfold x143; exact fnX Tryz.func143 (by kernel_rfl) (by kernel_rfl) (by kernel_rfl) (by kernel_rfl)
noncomputable def m143 (a0:DS2) (a1:Int):Option (Bool × Unit) :=
 (m28 (a0.1,a0.2.1,())).bind fun y452 =>
 some (cond (cond y452.1 (iLe a0.1 a1) false) (iLt a1 a0.2.1) false,())
noncomputable def cfg143:Cfg:=⟨ttab,gtab,[i28],[]⟩
theorem eqn143 (x:DS2 × Int × Unit):xfun cfg143 x143 19 [.t 4] [tS2,(.int .i64)] [.bool] x=m143 x.1 x.2.1:=by kernel_rfl
noncomputable def i143:PI:=⟨143,[tS2,(.int .i64)],[.bool],fun (x:DS2 × Int × Unit)=>m143 x.1 x.2.1⟩
theorem oki143:POk Tryz.prog (gx gtab) i143:=pok mixed (cfg_p oki28 (cfg_nil _ _):CfgOk _ (cfg143)) F143 (eqn143)
noncomputable def x92:XC:=xoF Tryz.f92 (.d 4 (.s (.d 1 (.b (.l [.gh 6 37 tS1] ⟨143,[(1,(.int .i64)),(7,(.int .i64))],[(2,.ptr 0 0 0),(6,.row 1)],[.box 29 [.d (.list tS1),.d (.list tS3)],.row 37 tS1 false]⟩ .o))) (.s (.d 1 (.b (.l [.gh 6 37 tS1] ⟨143,[(1,(.int .i64)),(10,(.int .i64))],[(2,.ptr 0 0 0),(6,.row 1)],[.box 29 [.d (.list tS1),.d (.list tS3)],.row 37 tS1 false]⟩ (.d 1 (.s (.b (.d 2 (.s (.d 1 (.b (.l [.gh 6 37 tS1] ⟨143,[(1,(.int .i64)),(10,(.int .i64)),(12,(.int .i64))],[(2,.ptr 0 0 0),(6,.row 1),(11,.ptr 2 0 0)],[.box 29 [.d (.list tS1),.d (.list tS3)],.row 37 tS1 false,.box 55 [.d (.int .i64),.d (.int .i64),.d (.list .str),.d (.list tS1)]]⟩ .o))) (.d 1 (.s (.d 1 (.b (.l [.gh 6 37 tS1,.gh 15 37 tS1] ⟨143,[(1,(.int .i64)),(10,(.int .i64)),(16,(.int .i64))],[(2,.ptr 0 0 0),(6,.row 1),(11,.ptr 2 0 0),(15,.row 3)],[.box 29 [.d (.list tS1),.d (.list tS3)],.row 37 tS1 false,.box 55 [.d (.int .i64),.d (.int .i64),.d (.list .str),.d (.list tS1)],.row 37 tS1 false]⟩ .o))) (.s (.d 1 (.b (.l [.gh 15 37 tS1] ⟨143,[(1,(.int .i64)),(10,(.int .i64)),(17,(.int .i64))],[(2,.ptr 0 0 0),(11,.ptr 1 0 0),(15,.row 2)],[.box 29 [.d (.list tS1),.d (.list tS3)],.box 55 [.d (.int .i64),.d (.int .i64),.d (.list .str),.d (.list tS1)],.row 37 tS1 false]⟩ .o))) .o)))))) .o))))) .o)))
theorem F92:Fn Tryz.prog 92 143 x92.er [.t 4,.t 5]:=by unfold x92; exact fnX Tryz.func92 (by kernel_rfl) (by kernel_rfl) (by kernel_rfl) (by kernel_rfl)
noncomputable def m92 (a0:DS4) (a1:Int):Option ((List DS1) × Int × Unit) :=
 (m16 (a0.1,a0.2.1,())).bind fun y471 =>
 cond (not y471.1)
 (some (([]:List DS1),5,()))
 ((m142 a1).bind fun y472 =>
 cond (not y472.1)
 (some (([]:List DS1),1,()))
 (loopO (S:=Int × Int × (List DS1) × (List DS3) × (List DS1) × Unit) (R:=(List DS1) × Int × Unit) (fun s473 =>
 cond (iLt s473.2.1 (lenI s473.2.2.1))
 (cond (bnd s473.2.1 (lenI s473.2.2.1))
 ((m9 s473.2.2.2.2.1 ((atI s473.2.2.1 s473.2.1 (0,ByteArray.empty,(0,ByteArray.empty,[],0,0,[],()),[],0,())).2.1)).bind fun y474 =>
 cond y474.2.1
 (some (.inr (([]:List DS1),8,())))
 (cond (bnd s473.2.1 (lenI s473.2.2.1))
 (cond (fits (List.length s473.2.2.2.2.1 + List.length ([atI s473.2.2.1 s473.2.1 (0,ByteArray.empty,(0,ByteArray.empty,[],0,0,[],()),[],0,())]:List DS1)) 144)
 (some (.inl (s473.1,iAdd .i64 s473.2.1 1,s473.2.2.1,s473.2.2.2.1,s473.2.2.2.2.1 ++ ([atI s473.2.2.1 s473.2.1 (0,ByteArray.empty,(0,ByteArray.empty,[],0,0,[],()),[],0,())]:List DS1),()))) none) none)) none)
 (Option.map Sum.inr (loopO (S:=Int × Int × (List DS1) × (List DS3) × (List DS1) × Unit) (R:=(List DS1) × Int × Unit) (fun s475 =>
 cond (iLt s475.2.1 (lenI s475.2.2.2.1))
 (cond (bnd s475.2.1 (lenI s475.2.2.2.1))
 ((m143 (((atI s475.2.2.2.1 s475.2.1 ((0,0,()),[],[],())).1).1,((atI s475.2.2.2.1 s475.2.1 ((0,0,()),[],[],())).1).2.1,()) s475.1).bind fun y476 =>
 cond (not y476.1)
 (some (.inl (s475.1,iAdd .i64 s475.2.1 1,s475.2.2.1,s475.2.2.2.1,s475.2.2.2.2.1,())))
 (loopO (S:=Int × Int × Int × (List DS1) × (List DS3) × (List DS1) × Int × Int × (List ByteArray) × (List DS1) × Unit) (R:=(Int × Int × (List DS1) × (List DS3) × (List DS1) × Unit) ⊕ ((List DS1) × Int × Unit)) (fun s477 =>
 cond (iLt s477.2.2.1 (lenI s477.2.2.2.2.2.2.2.2.1))
 (cond (bnd s477.2.2.1 (lenI s477.2.2.2.2.2.2.2.2.1))
 ((m9 s477.2.2.2.2.2.1 (atI s477.2.2.2.2.2.2.2.2.1 s477.2.2.1 ByteArray.empty)).bind fun y478 =>
 cond (not y478.2.1)
 (some (.inr (.inr (([]:List DS1),7,()))))
 (some (.inl (s477.1,s477.2.1,iAdd .i64 s477.2.2.1 1,s477.2.2.2.1,s477.2.2.2.2.1,s477.2.2.2.2.2.1,s477.2.2.2.2.2.2.1,s477.2.2.2.2.2.2.2.1,s477.2.2.2.2.2.2.2.2.1,s477.2.2.2.2.2.2.2.2.2.1,())))) none)
 (Option.map Sum.inr (loopO (S:=Int × Int × Int × (List DS1) × (List DS3) × (List DS1) × Int × Int × (List ByteArray) × (List DS1) × (List DS1) × Unit) (R:=(Int × Int × (List DS1) × (List DS3) × (List DS1) × Unit) ⊕ ((List DS1) × Int × Unit)) (fun s479 =>
 cond (iLt s479.2.2.1 (lenI s479.2.2.2.2.2.1))
 (cond (bnd s479.2.2.1 (lenI s479.2.2.2.2.2.1))
 (cond (inB (Int.toNat s479.2.2.1) s479.2.2.2.2.2.1)
 ((m144 s479.2.2.2.2.2.2.2.2.1 ((List.getD s479.2.2.2.2.2.1 (Int.toNat s479.2.2.1) (0,ByteArray.empty,(0,ByteArray.empty,[],0,0,[],()),[],0,())).2.1)).bind fun y480 =>
 cond (not y480.1)
 (cond (bnd s479.2.2.1 (lenI s479.2.2.2.2.2.1))
 (cond (inB (Int.toNat s479.2.2.1) s479.2.2.2.2.2.1)
 (cond (fits (List.length s479.2.2.2.2.2.2.2.2.2.2.1 + List.length ([List.getD s479.2.2.2.2.2.1 (Int.toNat s479.2.2.1) (0,ByteArray.empty,(0,ByteArray.empty,[],0,0,[],()),[],0,())]:List DS1)) 144)
 (some (.inl (s479.1,s479.2.1,iAdd .i64 s479.2.2.1 1,s479.2.2.2.1,s479.2.2.2.2.1,s479.2.2.2.2.2.1,s479.2.2.2.2.2.2.1,s479.2.2.2.2.2.2.2.1,s479.2.2.2.2.2.2.2.2.1,s479.2.2.2.2.2.2.2.2.2.1,s479.2.2.2.2.2.2.2.2.2.2.1 ++ ([List.getD s479.2.2.2.2.2.1 (Int.toNat s479.2.2.1) (0,ByteArray.empty,(0,ByteArray.empty,[],0,0,[],()),[],0,())]:List DS1),()))) none) none) none)
 (some (.inl (s479.1,s479.2.1,iAdd .i64 s479.2.2.1 1,s479.2.2.2.1,s479.2.2.2.2.1,s479.2.2.2.2.2.1,s479.2.2.2.2.2.2.1,s479.2.2.2.2.2.2.2.1,s479.2.2.2.2.2.2.2.2.1,s479.2.2.2.2.2.2.2.2.2.1,s479.2.2.2.2.2.2.2.2.2.2.1,())))) none) none)
 (Option.map Sum.inr (loopO (S:=Int × Int × Int × (List DS1) × (List DS3) × Int × Int × (List ByteArray) × (List DS1) × (List DS1) × Unit) (R:=(Int × Int × (List DS1) × (List DS3) × (List DS1) × Unit) ⊕ ((List DS1) × Int × Unit)) (fun s481 =>
 cond (iLt s481.2.2.1 (lenI s481.2.2.2.2.2.2.2.2.1))
 (cond (bnd s481.2.2.1 (lenI s481.2.2.2.2.2.2.2.2.1))
 ((m9 s481.2.2.2.2.2.2.2.2.2.1 ((atI s481.2.2.2.2.2.2.2.2.1 s481.2.2.1 (0,ByteArray.empty,(0,ByteArray.empty,[],0,0,[],()),[],0,())).2.1)).bind fun y482 =>
 cond y482.2.1
 (some (.inr (.inr (([]:List DS1),8,()))))
 (cond (bnd s481.2.2.1 (lenI s481.2.2.2.2.2.2.2.2.1))
 (cond (fits (List.length s481.2.2.2.2.2.2.2.2.2.1 + List.length ([atI s481.2.2.2.2.2.2.2.2.1 s481.2.2.1 (0,ByteArray.empty,(0,ByteArray.empty,[],0,0,[],()),[],0,())]:List DS1)) 144)
 (some (.inl (s481.1,s481.2.1,iAdd .i64 s481.2.2.1 1,s481.2.2.2.1,s481.2.2.2.2.1,s481.2.2.2.2.2.1,s481.2.2.2.2.2.2.1,s481.2.2.2.2.2.2.2.1,s481.2.2.2.2.2.2.2.2.1,s481.2.2.2.2.2.2.2.2.2.1 ++ ([atI s481.2.2.2.2.2.2.2.2.1 s481.2.2.1 (0,ByteArray.empty,(0,ByteArray.empty,[],0,0,[],()),[],0,())]:List DS1),()))) none) none)) none)
 (Option.map Sum.inr (cond (iLt 100 (lenI s481.2.2.2.2.2.2.2.2.2.1))
 (some (.inr (([]:List DS1),4,())))
 (some (.inl (s481.1,iAdd .i64 s481.2.1 1,s481.2.2.2.1,s481.2.2.2.2.1,s481.2.2.2.2.2.2.2.2.2.1,()))))))
 (s479.1,s479.2.1,0,s479.2.2.2.1,s479.2.2.2.2.1,s479.2.2.2.2.2.2.1,s479.2.2.2.2.2.2.2.1,s479.2.2.2.2.2.2.2.2.1,s479.2.2.2.2.2.2.2.2.2.1,s479.2.2.2.2.2.2.2.2.2.2.1,()))))
 (s477.1,s477.2.1,0,s477.2.2.2.1,s477.2.2.2.2.1,s477.2.2.2.2.2.1,s477.2.2.2.2.2.2.1,s477.2.2.2.2.2.2.2.1,s477.2.2.2.2.2.2.2.2.1,s477.2.2.2.2.2.2.2.2.2.1,([]:List DS1),()))))
 (s475.1,s475.2.1,0,s475.2.2.1,s475.2.2.2.1,s475.2.2.2.2.1,((atI s475.2.2.2.1 s475.2.1 ((0,0,()),[],[],())).1).1,((atI s475.2.2.2.1 s475.2.1 ((0,0,()),[],[],())).1).2.1,(atI s475.2.2.2.1 s475.2.1 ((0,0,()),[],[],())).2.1,(atI s475.2.2.2.1 s475.2.1 ((0,0,()),[],[],())).2.2.1,()))) none)
 (some (.inr (s475.2.2.2.2.1,0,()))))
 (s473.1,0,s473.2.2.1,s473.2.2.2.1,s473.2.2.2.2.1,()))))
 (a1,0,a0.1,a0.2.1,([]:List DS1),())))
noncomputable def cfg92:Cfg:=⟨ttab,gtab,[i142,i143,i144,i16,i9],[]⟩
theorem eqn92 (x:DS4 × Int × Unit):xfun cfg92 x92 143 [.t 4,.t 5] [tS4,(.int .i64)] [(.list tS1),(.int .i64)] x=m92 x.1 x.2.1:=by kernel_rfl
noncomputable def i92:PI:=⟨92,[tS4,(.int .i64)],[(.list tS1),(.int .i64)],fun (x:DS4 × Int × Unit)=>m92 x.1 x.2.1⟩
theorem oki92:POk Tryz.prog (gx gtab) i92:=pok mixed (cfg_p oki142 (cfg_p oki143 (cfg_p oki144 (cfg_p oki16 (cfg_p oki9 (cfg_nil _ _))))):CfgOk _ (cfg92)) F92 (eqn92)
noncomputable def x50:XC:=xoF Tryz.f50 (.d 3 (.s (.d 1 (.b (.l [] ⟨54,[(7,(.list (.int .i64))),(8,(.int .i64))],[(2,.ptr 0 0 0),(3,.ptr 1 0 0)],[.box 59 [.d (.list tS5)],.box 29 [.d (.list tS1),.d (.list tS3)]]⟩ .o))) .o))
theorem F50:Fn Tryz.prog 50 54 x50.er [.t 4,.t 5,.t 6]:=by unfold x50; exact fnX Tryz.func50 (by kernel_rfl) (by kernel_rfl) (by kernel_rfl) (by kernel_rfl)
noncomputable def m50 (a0:DS6) (a1:DS4):Option (Int × Int × Int × Unit) :=
 (m16 (a1.1,a1.2.1,())).bind fun y485 =>
 cond (not y485.1)
 (some (0,0,5,()))
 ((m91 (a1.1,a1.2.1,())).bind fun y486 =>
 loopO (S:=(List Int) × Int × (List DS5) × (List DS1) × (List DS3) × Unit) (R:=Int × Int × Int × Unit) (fun s487 =>
 cond (iLt s487.2.1 (lenI s487.1))
 (cond (bnd s487.2.1 (lenI s487.1))
 ((m92 (s487.2.2.2.1,s487.2.2.2.2.1,()) (atI s487.1 s487.2.1 0)).bind fun y488 =>
 cond (iNe y488.2.1 0)
 (cond (bnd s487.2.1 (lenI s487.1))
 (some (.inr (atI s487.1 s487.2.1 0,0,y488.2.1,()))) none)
 ((m89 (s487.2.2.1,()) y488.1).bind fun y489 =>
 cond (iNe y489.2.1 0)
 (cond (bnd s487.2.1 (lenI s487.1))
 (some (.inr (atI s487.1 s487.2.1 0,y489.1,y489.2.1,()))) none)
 (some (.inl (s487.1,iAdd .i64 s487.2.1 1,s487.2.2.1,s487.2.2.2.1,s487.2.2.2.2.1,()))))) none)
 (some (.inr (0,0,0,()))))
 (y486.1,0,a0.1,a1.1,a1.2.1,()))
noncomputable def cfg50:Cfg:=⟨ttab,gtab,[i16,i89,i91,i92],[]⟩
theorem eqn50 (x:DS6 × DS4 × Unit):xfun cfg50 x50 54 [.t 4,.t 5,.t 6] [tS6,tS4] [(.int .i64),(.int .i64),(.int .i64)] x=m50 x.1 x.2.1:=by kernel_rfl
noncomputable def i50:PI:=⟨50,[tS6,tS4],[(.int .i64),(.int .i64),(.int .i64)],fun (x:DS6 × DS4 × Unit)=>m50 x.1 x.2.1⟩
theorem oki50:POk Tryz.prog (gx gtab) i50:=pok mixed (cfg_p oki16 (cfg_p oki89 (cfg_p oki91 (cfg_p oki92 (cfg_nil _ _)))):CfgOk _ (cfg50)) F50 (eqn50)
noncomputable def x22:XC:=xoF Tryz.f22 (.d 2 (.s (.d 1 (.b (.l [.ghc 9 1 55 tS3] ⟨108,[(3,.bool),(10,(.int .i64))],[(0,.ptr 0 0 0),(5,.ptr 1 0 0),(8,.ptr 2 0 0),(9,.ptr 3 0 0)],[.box 65 [.d (.list (.int .i64)),.d (.int .i64)],.box 59 [.d (.list tS5)],.box 29 [.nil,.nil],.box 29 [.row 4,.row 5],.row 37 tS1 false,.row 55 tS3 false]⟩ (.d 1 (.s (.b (.d 3 (.s (.u [0]) (.s (.d 1 (.b (.l [.ghc 12 2 9 .str,.ghc 9 1 55 tS3] ⟨108,[(3,.bool),(10,(.int .i64)),(13,(.int .i64))],[(0,.ptr 0 0 0),(5,.ptr 1 0 0),(8,.ptr 2 0 0),(9,.ptr 3 0 0),(12,.ptr 4 0 0)],[.box 65 [.d (.list (.int .i64)),.d (.int .i64)],.box 59 [.d (.list tS5)],.box 29 [.nil,.nil],.box 29 [.row 5,.row 6],.box 55 [.d (.int .i64),.d (.int .i64),.row 7,.row 8],.row 37 tS1 false,.row 55 tS3 false,.row 9 .str false,.row 37 tS1 false]⟩ .o))) (.d 1 (.j [.fzc 12 2 (.list .str),.fzc 12 3 (.list tS1),.ghc 12 2 9 .str,.ghc 14 1 55 tS3,.ghc 9 1 55 tS3] ⟨108,[(3,.bool),(10,(.int .i64))],[(0,.ptr 0 0 0),(5,.ptr 1 0 0),(8,.ptr 2 0 0),(9,.ptr 3 0 0),(12,.ptr 4 0 0),(14,.ptr 5 0 0)],[.box 65 [.d (.list (.int .i64)),.d (.int .i64)],.box 59 [.d (.list tS5)],.box 29 [.nil,.nil],.box 29 [.row 6,.row 7],.box 55 [.d (.int .i64),.d (.int .i64),.d (.list .str),.d (.list tS1)],.box 29 [.row 6,.row 7],.row 37 tS1 false,.row 55 tS3 false]⟩ .o .o)))))) .o))))) .o))
theorem F22:Fn Tryz.prog 22 108 x22.er [.c 8 2 true]:=by unfold x22; exact fnX Tryz.func22 (by kernel_rfl) (by kernel_rfl) (by kernel_rfl) (by kernel_rfl)
noncomputable def m22 (a0:DS6) (a1:Int) (a2:Bool) (a3:List Int) (a4:Int):Option ((List Int) × Int × (List DS1) × (List DS3) × Unit) :=
 (m48 (a0.1,()) a1 (bs [99,45]) a3 a4).bind fun y505 =>
 (m24 3 y505.1 y505.2.1).bind fun y506 =>
 loopO (S:=Bool × Int × (List Int) × Int × (List DS5) × (List DS1) × (List DS3) × Unit) (R:=(List Int) × Int × (List DS1) × (List DS3) × Unit) (fun s507 =>
 cond (iLt 0 s507.2.1)
 ((m49 s507.2.2.1 s507.2.2.2.1).bind fun y508 =>
 cond (iLe (iMin y508.2.1 876599) y508.1)
 (some (.inl (s507.1,iSub .i64 s507.2.1 1,y508.2.2.1,y508.2.2.2.1,s507.2.2.2.2.1,s507.2.2.2.2.2.1,s507.2.2.2.2.2.2.1,())))
 (cond (sFits (bs [101]) (bsI ([IntKind.wrap .u8 (iAdd .i64 48 s507.2.1)]:List Int)))
 (cond (sFits (sCat (bs [101]) (bsI ([IntKind.wrap .u8 (iAdd .i64 48 s507.2.1)]:List Int))) (bs [45]))
 ((m48 (s507.2.2.2.2.1,()) 2 (sCat (sCat (bs [101]) (bsI ([IntKind.wrap .u8 (iAdd .i64 48 s507.2.1)]:List Int))) (bs [45])) y508.2.2.1 y508.2.2.2.1).bind fun y509 =>
 loopO (S:=Bool × Int × Int × (List Int) × Int × (List DS5) × Int × Int × (List DS1) × (List DS3) × (List ByteArray) × (List DS1) × Unit) (R:=(Bool × Int × (List Int) × Int × (List DS5) × (List DS1) × (List DS3) × Unit) ⊕ ((List Int) × Int × (List DS1) × (List DS3) × Unit)) (fun s510 =>
 cond (iLt s510.2.2.1 (lenI s510.2.2.2.2.2.2.2.2.1))
 ((m24 4 s510.2.2.2.1 s510.2.2.2.2.1).bind fun y511 =>
 cond (iEq y511.1 1)
 (cond (bnd s510.2.2.1 (lenI s510.2.2.2.2.2.2.2.2.1))
 (cond (inB (Int.toNat s510.2.2.1) s510.2.2.2.2.2.2.2.2.1)
 (cond (fits (List.length s510.2.2.2.2.2.2.2.2.2.2.1 + List.length ([(List.getD s510.2.2.2.2.2.2.2.2.1 (Int.toNat s510.2.2.1) (0,ByteArray.empty,(0,ByteArray.empty,[],0,0,[],()),[],0,())).2.1]:List ByteArray)) 16)
 (some (.inl (s510.1,s510.2.1,iAdd .i64 s510.2.2.1 1,y511.2.1,y511.2.2.1,s510.2.2.2.2.2.1,s510.2.2.2.2.2.2.1,s510.2.2.2.2.2.2.2.1,s510.2.2.2.2.2.2.2.2.1,s510.2.2.2.2.2.2.2.2.2.1,s510.2.2.2.2.2.2.2.2.2.2.1 ++ ([(List.getD s510.2.2.2.2.2.2.2.2.1 (Int.toNat s510.2.2.1) (0,ByteArray.empty,(0,ByteArray.empty,[],0,0,[],()),[],0,())).2.1]:List ByteArray),s510.2.2.2.2.2.2.2.2.2.2.2.1,()))) none) none) none)
 (some (.inl (s510.1,s510.2.1,iAdd .i64 s510.2.2.1 1,y511.2.1,y511.2.2.1,s510.2.2.2.2.2.1,s510.2.2.2.2.2.2.1,s510.2.2.2.2.2.2.2.1,s510.2.2.2.2.2.2.2.2.1,s510.2.2.2.2.2.2.2.2.2.1,s510.2.2.2.2.2.2.2.2.2.2.1,s510.2.2.2.2.2.2.2.2.2.2.2.1,()))))
 (Option.map Sum.inr ((m24 6 s510.2.2.2.1 s510.2.2.2.2.1).bind fun y512 =>
 cond (iEq y512.1 5)
 (cond (bnd 0 (lenI s510.2.2.2.2.2.2.2.2.1))
 (cond (inB (Int.toNat 0) s510.2.2.2.2.2.2.2.2.1)
 (cond (fits (List.length ([]:List DS1) + List.length ([List.getD s510.2.2.2.2.2.2.2.2.1 (Int.toNat 0) (0,ByteArray.empty,(0,ByteArray.empty,[],0,0,[],()),[],0,())]:List DS1)) 144)
 (joinO (S:=Bool × Int × (List Int) × Int × (List DS5) × Int × Int × (List ByteArray) × (List DS1) × (List DS1) × (List DS3) × Unit) (R:=(Bool × Int × (List Int) × Int × (List DS5) × (List DS1) × (List DS3) × Unit) ⊕ ((List Int) × Int × (List DS1) × (List DS3) × Unit))
 (some (.inl (s510.1,s510.2.1,y512.2.1,y512.2.2.1,s510.2.2.2.2.2.1,s510.2.2.2.2.2.2.1,s510.2.2.2.2.2.2.2.1,s510.2.2.2.2.2.2.2.2.2.2.1,([]:List DS1) ++ ([List.getD s510.2.2.2.2.2.2.2.2.1 (Int.toNat 0) (0,ByteArray.empty,(0,ByteArray.empty,[],0,0,[],()),[],0,())]:List DS1),s510.2.2.2.2.2.2.2.2.1,s510.2.2.2.2.2.2.2.2.2.1,())))
 (fun j513 =>
 cond (fits (List.length ([]:List DS3) + List.length j513.2.2.2.2.2.2.2.2.2.2.1) 64)
 (cond (fits (List.length (([]:List DS3) ++ j513.2.2.2.2.2.2.2.2.2.2.1) + List.length ([((j513.2.2.2.2.2.1,j513.2.2.2.2.2.2.1,()),j513.2.2.2.2.2.2.2.1,j513.2.2.2.2.2.2.2.2.1,())]:List DS3)) 64)
 ((m50 (j513.2.2.2.2.1,()) (j513.2.2.2.2.2.2.2.2.2.1,(([]:List DS3) ++ j513.2.2.2.2.2.2.2.2.2.2.1) ++ ([((j513.2.2.2.2.2.1,j513.2.2.2.2.2.2.1,()),j513.2.2.2.2.2.2.2.1,j513.2.2.2.2.2.2.2.2.1,())]:List DS3),())).bind fun y514 =>
 cond (cond (iEq y514.2.2.1 0) true (not j513.1))
 (some (.inl (j513.1,iSub .i64 j513.2.1 1,j513.2.2.1,j513.2.2.2.1,j513.2.2.2.2.1,j513.2.2.2.2.2.2.2.2.2.1,(([]:List DS3) ++ j513.2.2.2.2.2.2.2.2.2.2.1) ++ ([((j513.2.2.2.2.2.1,j513.2.2.2.2.2.2.1,()),j513.2.2.2.2.2.2.2.1,j513.2.2.2.2.2.2.2.2.1,())]:List DS3),())))
 (some (.inl (j513.1,iSub .i64 j513.2.1 1,j513.2.2.1,j513.2.2.2.1,j513.2.2.2.2.1,j513.2.2.2.2.2.2.2.2.2.1,j513.2.2.2.2.2.2.2.2.2.2.1,())))) none) none)) none) none) none)
 (joinO (S:=Bool × Int × (List Int) × Int × (List DS5) × Int × Int × (List ByteArray) × (List DS1) × (List DS1) × (List DS3) × Unit) (R:=(Bool × Int × (List Int) × Int × (List DS5) × (List DS1) × (List DS3) × Unit) ⊕ ((List Int) × Int × (List DS1) × (List DS3) × Unit))
 (some (.inl (s510.1,s510.2.1,y512.2.1,y512.2.2.1,s510.2.2.2.2.2.1,s510.2.2.2.2.2.2.1,s510.2.2.2.2.2.2.2.1,s510.2.2.2.2.2.2.2.2.2.2.1,s510.2.2.2.2.2.2.2.2.2.2.2.1,s510.2.2.2.2.2.2.2.2.1,s510.2.2.2.2.2.2.2.2.2.1,())))
 (fun j515 =>
 cond (fits (List.length ([]:List DS3) + List.length j515.2.2.2.2.2.2.2.2.2.2.1) 64)
 (cond (fits (List.length (([]:List DS3) ++ j515.2.2.2.2.2.2.2.2.2.2.1) + List.length ([((j515.2.2.2.2.2.1,j515.2.2.2.2.2.2.1,()),j515.2.2.2.2.2.2.2.1,j515.2.2.2.2.2.2.2.2.1,())]:List DS3)) 64)
 ((m50 (j515.2.2.2.2.1,()) (j515.2.2.2.2.2.2.2.2.2.1,(([]:List DS3) ++ j515.2.2.2.2.2.2.2.2.2.2.1) ++ ([((j515.2.2.2.2.2.1,j515.2.2.2.2.2.2.1,()),j515.2.2.2.2.2.2.2.1,j515.2.2.2.2.2.2.2.2.1,())]:List DS3),())).bind fun y516 =>
 cond (cond (iEq y516.2.2.1 0) true (not j515.1))
 (some (.inl (j515.1,iSub .i64 j515.2.1 1,j515.2.2.1,j515.2.2.2.1,j515.2.2.2.2.1,j515.2.2.2.2.2.2.2.2.2.1,(([]:List DS3) ++ j515.2.2.2.2.2.2.2.2.2.2.1) ++ ([((j515.2.2.2.2.2.1,j515.2.2.2.2.2.2.1,()),j515.2.2.2.2.2.2.2.1,j515.2.2.2.2.2.2.2.2.1,())]:List DS3),())))
 (some (.inl (j515.1,iSub .i64 j515.2.1 1,j515.2.2.1,j515.2.2.2.1,j515.2.2.2.2.1,j515.2.2.2.2.2.2.2.2.2.1,j515.2.2.2.2.2.2.2.2.2.2.1,())))) none) none)))))
 (s507.1,s507.2.1,0,y509.1,y509.2.1,s507.2.2.2.2.1,y508.1,iMin y508.2.1 876599,s507.2.2.2.2.2.1,s507.2.2.2.2.2.2.1,([]:List ByteArray),y509.2.2.1,())) none) none))
 (some (.inr (s507.2.2.1,s507.2.2.2.1,s507.2.2.2.2.2.1,s507.2.2.2.2.2.2.1,()))))
 (a2,y506.1,y506.2.1,y506.2.2.1,a0.1,y505.2.2.1,([]:List DS3),())
noncomputable def cfg22:Cfg:=⟨ttab,gtab,[i50],[h24,h48,h49]⟩
def ish22:Sh:=⟨4,[(1,tS6),(2,(.int .i64)),(3,.bool)],[(0,.ptr 0 0 0)],[.box 65 [.d (.list (.int .i64)),.d (.int .i64)]]⟩
def osh22:Sh:=⟨1,[],[(0,.agg [.row 1,.row 2])],[.box 65 [.d (.list (.int .i64)),.d (.int .i64)],.row 37 tS1 false,.row 55 tS3 false]⟩
theorem eqn22 (x:DS6 × Int × Bool × (List Int) × Int × Unit):xfunH cfg22 x22 108 [.c 8 2 true] [.ghc 8 1 55 tS3] ish22 osh22 x=m22 x.1 x.2.1 x.2.2.1 x.2.2.2.1 x.2.2.2.2.1:=by kernel_rfl
noncomputable def h22:HI:=⟨22,ish22,osh22,fun (x:DS6 × Int × Bool × (List Int) × Int × Unit)=>m22 x.1 x.2.1 x.2.2.1 x.2.2.2.1 x.2.2.2.2.1,[]⟩
theorem okh22:HOk Tryz.prog (gx gtab) h22:=hok mixed (cfg_p oki50 (cfg_h okh24 (cfg_h okh48 (cfg_h okh49 (cfg_nil _ _)))):CfgOk _ (cfg22)) F22 (eqn22)
noncomputable def x10:XC:=xoF Tryz.f10 .o
theorem F10:Fn Tryz.prog 10 11 x10.er [.c 2 2 true]:=by unfold x10; exact fnX Tryz.func10 (by kernel_rfl) (by kernel_rfl) (by kernel_rfl) (by kernel_rfl)
noncomputable def m10 (a0:List Int):Option (DS4 × Unit) :=
 (m14 a0).bind fun y9 =>
 (m24 6 y9.1 y9.2.1).bind fun y10 =>
 (m23 y10.1).bind fun y14 =>
 (m22 y14.1 6 false y10.2.1 y10.2.2.1).bind fun y517 =>
 some ((y517.2.2.1,y517.2.2.2.1,()),())
noncomputable def cfg10:Cfg:=⟨ttab,gtab,[i23],[h14,h22,h24]⟩
theorem eqn10 (x:(List Int) × Unit):xfun cfg10 x10 11 [.c 2 2 true] [(.list (.int .i64))] [tS4] x=m10 x.1:=by kernel_rfl
noncomputable def i10:PI:=⟨10,[(.list (.int .i64))],[tS4],fun (x:(List Int) × Unit)=>m10 x.1⟩
theorem oki10:POk Tryz.prog (gx gtab) i10:=pok mixed (cfg_p oki23 (cfg_h okh14 (cfg_h okh22 (cfg_h okh24 (cfg_nil _ _)))):CfgOk _ (cfg10)) F10 (eqn10)
noncomputable def x3:XC:=xoF Tryz.f3 (.d 2 (.s (.d 1 (.b (.l [.fz 0 (.list tS1)] ⟨59,[(0,(.list tS1)),(1,.str),(2,(.list (.int .i64))),(3,(.int .i64)),(9,(.int .i64))],[],[]⟩ .o))) .o))
theorem F3:Fn Tryz.prog 3 59 x3.er [.t 8]:=by unfold x3; exact fnX Tryz.func3 (by kernel_rfl) (by kernel_rfl) (by kernel_rfl) (by kernel_rfl)
noncomputable def m3 (a0:List DS1) (a1:ByteArray) (a2:List Int) (a3:Int):Option (Bool × Unit) :=
 cond (iLt 100 (lenI a0))
 ((m7).bind fun y521 =>
 some (y521.1,()))
 (loopO (S:=(List DS1) × ByteArray × (List Int) × Int × Int × Unit) (R:=Bool × Unit) (fun s522 =>
 cond (iLt s522.2.2.2.2.1 2)
 ((m8 s522.1 s522.2.1).bind fun y523 =>
 (m9 s522.1 s522.2.1).bind fun y524 =>
 cond (cond (iNe y523.1 y524.1) true (not (bEq y523.2.1 y524.2.1)))
 (some (.inr (false,())))
 ((m10 s522.2.2.1).bind fun y525 =>
 cond (fits (List.length ([]:List DS1) + List.length y525.1.1) 144)
 (cond (fits (List.length (([]:List DS1) ++ y525.1.1) + List.length y525.1.1) 144)
 ((m11 s522.2.2.2.1 (lenI ((([]:List DS1) ++ y525.1.1) ++ y525.1.1))).bind fun y526 =>
 cond (bnd y526.1 (lenI ((([]:List DS1) ++ y525.1.1) ++ y525.1.1)))
 (cond (inB (Int.toNat y526.1) ((([]:List DS1) ++ y525.1.1) ++ y525.1.1))
 (some (.inl ((([]:List DS1) ++ y525.1.1) ++ y525.1.1,(List.getD ((([]:List DS1) ++ y525.1.1) ++ y525.1.1) (Int.toNat y526.1) (0,ByteArray.empty,(0,ByteArray.empty,[],0,0,[],()),[],0,())).2.1,s522.2.2.1,s522.2.2.2.1,iAdd .i64 s522.2.2.2.2.1 1,()))) none) none) none) none))
 (Option.map Sum.inr ((m7).bind fun y527 =>
 some (y527.1,()))))
 (a0,a1,a2,a3,0,()))
noncomputable def cfg3:Cfg:=⟨ttab,gtab,[i10,i11,i7,i8,i9],[]⟩
theorem eqn3 (x:(List DS1) × ByteArray × (List Int) × Int × Unit):xfun cfg3 x3 59 [.t 8] [(.list tS1),.str,(.list (.int .i64)),(.int .i64)] [.bool] x=m3 x.1 x.2.1 x.2.2.1 x.2.2.2.1:=by kernel_rfl
noncomputable def i3:PI:=⟨3,[(.list tS1),.str,(.list (.int .i64)),(.int .i64)],[.bool],fun (x:(List DS1) × ByteArray × (List Int) × Int × Unit)=>m3 x.1 x.2.1 x.2.2.1 x.2.2.2.1⟩
theorem oki3:POk Tryz.prog (gx gtab) i3:=pok mixed (cfg_p oki10 (cfg_p oki11 (cfg_p oki7 (cfg_p oki8 (cfg_p oki9 (cfg_nil _ _))))):CfgOk _ (cfg3)) F3 (eqn3)
end Abs
end Go.Proofs.YtnhgeocdffhkjaaGreatDoor
