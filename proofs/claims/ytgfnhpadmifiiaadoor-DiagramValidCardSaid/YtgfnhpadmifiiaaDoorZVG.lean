/- Merged and trimmed by a program: ModelsA. -/
import Derived.Test.YtgfnhpadmifiiaaDoorZVF
import Derived.Test.YtgfnhpadmifiiaaDoorProg
import Derived.KernelRfl
set_option linter.unusedVariables false
set_option linter.unusedSimpArgs false
namespace Go.Proofs.YtgfnhpadmifiiaaDoor
namespace Abs
set_option maxRecDepth 100000
theorem mixed:Tryd.prog.follows .mixedOrders=true:=by kernel_rfl
abbrev tS0:Ty:=.tup [.str,(.int .i64),(.list .str),(.int .i64),(.int .i64)]
abbrev DS0:Type:=ByteArray × Int × (List ByteArray) × Int × Int × Unit
abbrev tS1:Ty:=.tup [(.int .i64),(.list (.int .i64)),(.list (.int .i64))]
abbrev DS1:Type:=Int × (List Int) × (List Int) × Unit
abbrev tS2:Ty:=.tup [(.list tS1),(.int .i64)]
abbrev DS2:Type:=(List DS1) × Int × Unit
abbrev tS3:Ty:=.tup [(.int .i64),(.int .i64)]
abbrev DS3:Type:=Int × Int × Unit
abbrev tS4:Ty:=.tup [.str,.bool]
abbrev DS4:Type:=ByteArray × Bool × Unit
abbrev tS5:Ty:=.tup [(.list tS0)]
abbrev DS5:Type:=(List DS0) × Unit
abbrev tS6:Ty:=.tup [(.int .u64),(.int .u64),(.int .u64),(.int .u64),(.int .u64),(.int .u64),(.int .u64),(.int .u64),(.int .u64),(.int .u64),(.int .u64),(.int .u64),(.int .u64),(.int .u64),(.int .u64),(.int .u64),(.int .u64),(.int .u64),(.int .u64),(.int .u64)]
abbrev DS6:Type:=Int × Int × Int × Int × Int × Int × Int × Int × Int × Int × Int × Int × Int × Int × Int × Int × Int × Int × Int × Int × Unit
instance (n:Nat):OfNat Opd n:=⟨.t n⟩
@[reducible] def qI (d:Nat) (i:I):Ins:=⟨some d,none,i⟩
@[reducible] def qT (d g:Nat) (i:I):Ins:=⟨some d,some (g,true),i⟩
@[reducible] def qF (d g:Nat) (i:I):Ins:=⟨some d,some (g,false),i⟩
@[reducible] def qN (i:I):Ins:=⟨none,none,i⟩
@[reducible] def kN:Opd:=.k (.slice none 0 0)
@[reducible] def kI (n:Int):Opd:=.k (.int .i64 n)
def ttab:Nat→Option Ty:=fun n=>if Nat.beq n 3=true then some (.int .i64) else if Nat.beq n 9=true then some .str else if Nat.beq n 37=true then some (.list (.int .i64)) else if Nat.beq n 64=true then some tS0 else if Nat.beq n 70=true then some tS1 else if Nat.beq n 82=true then some tS3 else if Nat.beq n 86=true then some tS3 else if Nat.beq n 95=true then some tS4 else none
def gtab:GXT:=fun n=>if Nat.beq n 0=true then some ⟨tS6,(show DS6 from (1,10,100,1000,10000,100000,1000000,10000000,100000000,1000000000,10000000000,100000000000,1000000000000,10000000000000,100000000000000,1000000000000000,10000000000000000,100000000000000000,1000000000000000000,10000000000000000000,()))⟩ else none
def hcl:List Nat:=[18,19,24,29,45,51,55,58,66,67,68,80,81,86,97,127,128,129,130,131,134]
theorem okiKey:POk Tryd.prog (gx gtab) iKey:=okhKey (by rfl)
def r99_0:List Ins:=[qI 2 (.mov (.k (.bool false)))]
def r99_1:List Ins:=[qI 3 (.mov 0), qI 4 (.bin .leq (.k (.int .u8 97)) 3), qI 5 (.mov 4), qT 6 5 (.mov 0), qT 7 5 (.bin .leq 6 (.k (.int .u8 122))), qI 8 (.pick 5 7 (.k (.bool false))), qI 2 (.mov 8)]
def x99:XC:=(.seq (.ops false r99_0) (.seq (.ops false r99_1) .ret))
theorem F99:Fn Tryd.prog 99 9 x99.er [.t 2]:=⟨Tryd.f99,hcl,Tryd.func99,by kernel_rfl,by kernel_rfl,by kernel_rfl,by kernel_rfl⟩
noncomputable def m99 (a0:Int):Option (Bool × Unit) :=
 some (cond (iLe 97 a0) (iLe a0 122) false,())
noncomputable def cfg99:Cfg:=⟨ttab,gtab,[],[]⟩
theorem eqn99 (x:Int × Unit):xfun cfg99 x99 9 [.t 2] [(.int .u8)] [.bool] x=m99 x.1:=by kernel_rfl
noncomputable def i99:PI:=⟨99,[(.int .u8)],[.bool],fun (x:Int × Unit)=>m99 x.1⟩
theorem oki99:POk Tryd.prog (gx gtab) i99:=pok mixed (cfg_nil _ _:CfgOk _ (cfg99)) F99 (eqn99)
def r106_0:List Ins:=[qI 2 (.mov (.k (.bool false)))]
def r106_1:List Ins:=[qI 3 (.mov 0), qI 4 (.bin .leq (.k (.int .u8 48)) 3), qI 5 (.mov 4), qT 6 5 (.mov 0), qT 7 5 (.bin .leq 6 (.k (.int .u8 57))), qI 8 (.pick 5 7 (.k (.bool false))), qI 2 (.mov 8)]
def x106:XC:=(.seq (.ops false r106_0) (.seq (.ops false r106_1) .ret))
theorem F106:Fn Tryd.prog 106 9 x106.er [.t 2]:=⟨Tryd.f106,hcl,Tryd.func106,by kernel_rfl,by kernel_rfl,by kernel_rfl,by kernel_rfl⟩
noncomputable def m106 (a0:Int):Option (Bool × Unit) :=
 some (cond (iLe 48 a0) (iLe a0 57) false,())
noncomputable def cfg106:Cfg:=⟨ttab,gtab,[],[]⟩
theorem eqn106 (x:Int × Unit):xfun cfg106 x106 9 [.t 2] [(.int .u8)] [.bool] x=m106 x.1:=by kernel_rfl
noncomputable def i106:PI:=⟨106,[(.int .u8)],[.bool],fun (x:Int × Unit)=>m106 x.1⟩
theorem oki106:POk Tryd.prog (gx gtab) i106:=pok mixed (cfg_nil _ _:CfgOk _ (cfg106)) F106 (eqn106)
def r101_0:List Ins:=[qI 2 (.mov (.k (.bool false)))]
def r101_1:List Ins:=[qI 3 (.mov 0), qI 4 (.call (.fn 99) [3]), qI 5 (.mov 4), qF 6 5 (.mov 0), qF 7 5 (.call (.fn 106) [6]), qI 8 (.pick 5 (.k (.bool true)) 7), qI 9 (.mov 8), qF 10 9 (.mov 0), qF 11 9 (.bin .eql 10 (.k (.int .u8 45))), qI 12 (.pick 9 (.k (.bool true)) 11), qI 2 (.mov 12)]
def x101:XC:=(.seq (.ops false r101_0) (.seq (.ops false r101_1) .ret))
theorem F101:Fn Tryd.prog 101 13 x101.er [.t 2]:=⟨Tryd.f101,hcl,Tryd.func101,by kernel_rfl,by kernel_rfl,by kernel_rfl,by kernel_rfl⟩
noncomputable def m101 (a0:Int):Option (Bool × Unit) :=
 (m99 a0).bind fun y4 =>
 cond y4.1
 (some (true,()))
 ((m106 a0).bind fun y5 =>
 some (cond y5.1 true (iEq a0 45),()))
noncomputable def cfg101:Cfg:=⟨ttab,gtab,[i106,i99],[]⟩
theorem eqn101 (x:Int × Unit):xfun cfg101 x101 13 [.t 2] [(.int .u8)] [.bool] x=m101 x.1:=by kernel_rfl
noncomputable def i101:PI:=⟨101,[(.int .u8)],[.bool],fun (x:Int × Unit)=>m101 x.1⟩
theorem oki101:POk Tryd.prog (gx gtab) i101:=pok mixed (cfg_p oki106 (cfg_p oki99 (cfg_nil _ _)):CfgOk _ (cfg101)) F101 (eqn101)
def r100_0:List Ins:=[qI 6 (.mov (kI 0))]
def r100_1:List Ins:=[qI 7 (.mov 1), qI 8 (.mov 0), qI 9 (.slen 8), qI 10 (.bin .lss 7 9), qI 11 (.mov 10), qT 12 11 (.mov 2), qT 13 11 (.mov 0), qT 14 11 (.mov 1), qT 15 11 (.idx 13 14), qT 16 11 (.call 12 [15]), qI 17 (.pick 11 16 (.k (.bool false)))]
def r100_2:List Ins:=[qI 18 (.mov 1), qI 19 (.bin .add 18 (kI 1)), qI 1 (.mov 19)]
def r100_3:List Ins:=[qI 20 (.mov 1), qI 6 (.mov 20)]
def x100:XC:=(.seq (.ops false r100_0) (.seq (.block 0 (.loop [] ⟨21,[(0,.str),(1,(.int .i64)),(2,(.fnc 101))],[],[]⟩ (.seq (.seq (.ops false r100_1) (.cond (.t 17) .skip (.exit 0))) (.block 1 (.ops false r100_2))))) (.seq (.ops false r100_3) .ret)))
theorem F100:Fn Tryd.prog 100 21 x100.er [.t 6]:=⟨Tryd.f100,hcl,Tryd.func100,by kernel_rfl,by kernel_rfl,by kernel_rfl,by kernel_rfl⟩
noncomputable def m100 (a0:ByteArray) (a1:Int) (a2:Unit):Option (Int × Unit) :=
 loopO (S:=ByteArray × Int × Unit × Unit) (R:=Int × Unit) (fun s7 =>
 cond (or (bnd s7.2.1 (sLen s7.1)) (not (bEq (iLt s7.2.1 (sLen s7.1)) true)))
 (cond (iLt s7.2.1 (sLen s7.1))
 ((m101 (sAt s7.1 s7.2.1)).bind fun y8 =>
 cond y8.1
 (some (.inl (s7.1,iAdd .i64 s7.2.1 1,s7.2.2.1,())))
 (some (.inr (s7.2.1,()))))
 (some (.inr (s7.2.1,())))) none)
 (a0,a1,(),())
noncomputable def cfg100:Cfg:=⟨ttab,gtab,[i101],[]⟩
theorem eqn100 (x:ByteArray × Int × Unit × Unit):xfun cfg100 x100 21 [.t 6] [.str,(.int .i64),(.fnc 101)] [(.int .i64)] x=m100 x.1 x.2.1 x.2.2.1:=by kernel_rfl
noncomputable def i100:PI:=⟨100,[.str,(.int .i64),(.fnc 101)],[(.int .i64)],fun (x:ByteArray × Int × Unit × Unit)=>m100 x.1 x.2.1 x.2.2.1⟩
theorem oki100:POk Tryd.prog (gx gtab) i100:=pok mixed (cfg_p oki101 (cfg_nil _ _):CfgOk _ (cfg100)) F100 (eqn100)
def r88_0:List Ins:=[qI 2 (.mov (.k (.bool false)))]
def r88_1:List Ins:=[qI 3 (.mov 0), qI 4 (.slen 3), qI 5 (.bin .eql 4 (kI 0)), qI 6 (.mov 5), qF 7 6 (.mov 0), qF 8 6 (.slen 7), qF 9 6 (.bin .gtr 8 (kI 16)), qI 10 (.pick 6 (.k (.bool true)) 9), qI 11 (.mov 10), qF 12 11 (.mov 0), qF 13 11 (.idx 12 (kI 0)), qF 14 11 (.call (.fn 99) [13]), qF 15 11 (.un .not 14), qI 16 (.pick 11 (.k (.bool true)) 15), qI 17 (.mov 16), qF 18 17 (.mov 0), qF 19 17 (.mov 0), qF 20 17 (.slen 19), qF 21 17 (.bin .sub 20 (kI 1)), qF 22 17 (.idx 18 21), qF 23 17 (.bin .eql 22 (.k (.int .u8 45))), qI 24 (.pick 17 (.k (.bool true)) 23)]
def r88_2:List Ins:=[qI 2 (.mov (.k (.bool false)))]
def r88_3:List Ins:=[qI 25 (.mov 0), qI 26 (.call (.fn 100) [25,(kI 0),(.fn 101)]), qI 27 (.mov 0), qI 28 (.slen 27), qI 29 (.bin .eql 26 28), qI 2 (.mov 29)]
def x88:XC:=(.seq (.ops false r88_0) (.seq (.seq (.ops false r88_1) (.cond (.t 24) (.seq (.ops false r88_2) .ret) .skip)) (.seq (.ops false r88_3) .ret)))
theorem F88:Fn Tryd.prog 88 30 x88.er [.t 2]:=⟨Tryd.f88,hcl,Tryd.func88,by kernel_rfl,by kernel_rfl,by kernel_rfl,by kernel_rfl⟩
noncomputable def m88 (a0:ByteArray):Option (Bool × Unit) :=
 cond (or (bnd 0 (sLen a0)) (not (bEq (cond (iEq (sLen a0) 0) true (iLt 16 (sLen a0))) false)))
 (cond (cond (iEq (sLen a0) 0) true (iLt 16 (sLen a0)))
 (cond (or (bnd (iSub .i64 (sLen a0) 1) (sLen a0)) (not (bEq true false)))
 (some (false,())) none)
 ((m99 (sAt a0 0)).bind fun y2 =>
 cond (or (bnd (iSub .i64 (sLen a0) 1) (sLen a0)) (not (bEq (not y2.1) false)))
 (cond (cond (not y2.1) true (iEq (sAt a0 (iSub .i64 (sLen a0) 1)) 45))
 (some (false,()))
 ((m100 a0 0 ()).bind fun y9 =>
 some (iEq y9.1 (sLen a0),()))) none)) none
noncomputable def cfg88:Cfg:=⟨ttab,gtab,[i100,i99],[]⟩
theorem eqn88 (x:ByteArray × Unit):xfun cfg88 x88 30 [.t 2] [.str] [.bool] x=m88 x.1:=by kernel_rfl
noncomputable def i88:PI:=⟨88,[.str],[.bool],fun (x:ByteArray × Unit)=>m88 x.1⟩
theorem oki88:POk Tryd.prog (gx gtab) i88:=pok mixed (cfg_p oki100 (cfg_p oki99 (cfg_nil _ _)):CfgOk _ (cfg88)) F88 (eqn88)
def r89_0:List Ins:=[qI 2 (.mov (.k (.bool false)))]
def r89_1:List Ins:=[qI 3 (.mov 0)]
def r89_2:List Ins:=[qI 5 (.bin .eql 3 (.k (.string (bs [97,110,100])))), qI 4 (.mov 5)]
def r89_3:List Ins:=[qI 6 (.bin .eql 3 (.k (.string (bs [97,118,101,114,97,103,101])))), qI 4 (.mov 6)]
def r89_4:List Ins:=[qI 7 (.bin .eql 3 (.k (.string (bs [99,111,105,110,115,117,114,97,110,99,101])))), qI 4 (.mov 7)]
def r89_5:List Ins:=[qI 8 (.bin .eql 3 (.k (.string (bs [99,111,110,100,105,116,105,111,110])))), qI 4 (.mov 8)]
def r89_6:List Ins:=[qI 9 (.bin .eql 3 (.k (.string (bs [99,111,118,101,114])))), qI 4 (.mov 9)]
def r89_7:List Ins:=[qI 10 (.bin .eql 3 (.k (.string (bs [100,101,100,117,99,116,105,98,108,101])))), qI 4 (.mov 10)]
def r89_8:List Ins:=[qI 11 (.bin .eql 3 (.k (.string (bs [100,101,102,105,110,101])))), qI 4 (.mov 11)]
def r89_9:List Ins:=[qI 12 (.bin .eql 3 (.k (.string (bs [101,110,100])))), qI 4 (.mov 12)]
def r89_10:List Ins:=[qI 13 (.bin .eql 3 (.k (.string (bs [101,110,100,111,114,115,101])))), qI 4 (.mov 13)]
def r89_11:List Ins:=[qI 14 (.bin .eql 3 (.k (.string (bs [101,120,99,108,117,100,101])))), qI 4 (.mov 14)]
def r89_12:List Ins:=[qI 15 (.bin .eql 3 (.k (.string (bs [102,97,108,115,101])))), qI 4 (.mov 15)]
def r89_13:List Ins:=[qI 16 (.bin .eql 3 (.k (.string (bs [102,114,97,110,99,104,105,115,101])))), qI 4 (.mov 16)]
def r89_14:List Ins:=[qI 17 (.bin .eql 3 (.k (.string (bs [102,114,111,109])))), qI 4 (.mov 17)]
def r89_15:List Ins:=[qI 18 (.bin .eql 3 (.k (.string (bs [105,110])))), qI 4 (.mov 18)]
def r89_16:List Ins:=[qI 19 (.bin .eql 3 (.k (.string (bs [108,105,109,105,116])))), qI 4 (.mov 19)]
def r89_17:List Ins:=[qI 20 (.bin .eql 3 (.k (.string (bs [110,111,116])))), qI 4 (.mov 20)]
def r89_18:List Ins:=[qI 21 (.bin .eql 3 (.k (.string (bs [111,114])))), qI 4 (.mov 21)]
def r89_19:List Ins:=[qI 22 (.bin .eql 3 (.k (.string (bs [114,101,109,111,118,101])))), qI 4 (.mov 22)]
def r89_20:List Ins:=[qI 23 (.bin .eql 3 (.k (.string (bs [115,117,98,108,105,109,105,116])))), qI 4 (.mov 23)]
def r89_21:List Ins:=[qI 24 (.bin .eql 3 (.k (.string (bs [116,111])))), qI 4 (.mov 24)]
def r89_22:List Ins:=[qI 25 (.bin .eql 3 (.k (.string (bs [116,114,117,101])))), qI 4 (.mov 25)]
def r89_23:List Ins:=[qI 26 (.bin .eql 3 (.k (.string (bs [117,110,108,101,115,115])))), qI 4 (.mov 26)]
def r89_24:List Ins:=[qI 27 (.bin .eql 3 (.k (.string (bs [119,104,101,110])))), qI 4 (.mov 27)]
def r89_25:List Ins:=[qI 2 (.mov (.k (.bool true)))]
def r89_26:List Ins:=[qI 2 (.mov (.k (.bool false)))]
def x89:XC:=(.seq (.ops false r89_0) (.seq (.seq (.ops false r89_1) (.block 0 (.seq (.seq (.ops false r89_2) (.cond (.t 4) .skip (.seq (.ops false r89_3) (.cond (.t 4) .skip (.seq (.ops false r89_4) (.cond (.t 4) .skip (.seq (.ops false r89_5) (.cond (.t 4) .skip (.seq (.ops false r89_6) (.cond (.t 4) .skip (.seq (.ops false r89_7) (.cond (.t 4) .skip (.seq (.ops false r89_8) (.cond (.t 4) .skip (.seq (.ops false r89_9) (.cond (.t 4) .skip (.seq (.ops false r89_10) (.cond (.t 4) .skip (.seq (.ops false r89_11) (.cond (.t 4) .skip (.seq (.ops false r89_12) (.cond (.t 4) .skip (.seq (.ops false r89_13) (.cond (.t 4) .skip (.seq (.ops false r89_14) (.cond (.t 4) .skip (.seq (.ops false r89_15) (.cond (.t 4) .skip (.seq (.ops false r89_16) (.cond (.t 4) .skip (.seq (.ops false r89_17) (.cond (.t 4) .skip (.seq (.ops false r89_18) (.cond (.t 4) .skip (.seq (.ops false r89_19) (.cond (.t 4) .skip (.seq (.ops false r89_20) (.cond (.t 4) .skip (.seq (.ops false r89_21) (.cond (.t 4) .skip (.seq (.ops false r89_22) (.cond (.t 4) .skip (.seq (.ops false r89_23) (.cond (.t 4) .skip (.ops false r89_24))))))))))))))))))))))))))))))))))))))))))))) (.cond (.t 4) (.seq (.ops false r89_25) .ret) .skip)))) (.seq (.ops false r89_26) .ret)))
theorem F89:Fn Tryd.prog 89 28 x89.er [.t 2]:=⟨Tryd.f89,hcl,Tryd.func89,by kernel_rfl,by kernel_rfl,by kernel_rfl,by kernel_rfl⟩
noncomputable def m89 (a0:ByteArray):Option (Bool × Unit) :=
 cond (sEq a0 (bs [97,110,100]))
 (some (true,()))
 (cond (sEq a0 (bs [97,118,101,114,97,103,101]))
 (some (true,()))
 (cond (sEq a0 (bs [99,111,105,110,115,117,114,97,110,99,101]))
 (some (true,()))
 (cond (sEq a0 (bs [99,111,110,100,105,116,105,111,110]))
 (some (true,()))
 (cond (sEq a0 (bs [99,111,118,101,114]))
 (some (true,()))
 (cond (sEq a0 (bs [100,101,100,117,99,116,105,98,108,101]))
 (some (true,()))
 (cond (sEq a0 (bs [100,101,102,105,110,101]))
 (some (true,()))
 (cond (sEq a0 (bs [101,110,100]))
 (some (true,()))
 (cond (sEq a0 (bs [101,110,100,111,114,115,101]))
 (some (true,()))
 (cond (sEq a0 (bs [101,120,99,108,117,100,101]))
 (some (true,()))
 (cond (sEq a0 (bs [102,97,108,115,101]))
 (some (true,()))
 (cond (sEq a0 (bs [102,114,97,110,99,104,105,115,101]))
 (some (true,()))
 (cond (sEq a0 (bs [102,114,111,109]))
 (some (true,()))
 (cond (sEq a0 (bs [105,110]))
 (some (true,()))
 (cond (sEq a0 (bs [108,105,109,105,116]))
 (some (true,()))
 (cond (sEq a0 (bs [110,111,116]))
 (some (true,()))
 (cond (sEq a0 (bs [111,114]))
 (some (true,()))
 (cond (sEq a0 (bs [114,101,109,111,118,101]))
 (some (true,()))
 (cond (sEq a0 (bs [115,117,98,108,105,109,105,116]))
 (some (true,()))
 (cond (sEq a0 (bs [116,111]))
 (some (true,()))
 (cond (sEq a0 (bs [116,114,117,101]))
 (some (true,()))
 (cond (sEq a0 (bs [117,110,108,101,115,115]))
 (some (true,()))
 (cond (sEq a0 (bs [119,104,101,110]))
 (some (true,()))
 (some (false,()))))))))))))))))))))))))
noncomputable def cfg89:Cfg:=⟨ttab,gtab,[],[]⟩
theorem eqn89 (x:ByteArray × Unit):xfun cfg89 x89 28 [.t 2] [.str] [.bool] x=m89 x.1:=by kernel_rfl
noncomputable def i89:PI:=⟨89,[.str],[.bool],fun (x:ByteArray × Unit)=>m89 x.1⟩
theorem oki89:POk Tryd.prog (gx gtab) i89:=pok mixed (cfg_nil _ _:CfgOk _ (cfg89)) F89 (eqn89)
def r73_0:List Ins:=[qI 2 (.mov (.k (.bool false)))]
def r73_1:List Ins:=[qI 3 (.mov 0), qI 4 (.call (.fn 88) [3]), qI 5 (.mov 4), qT 6 5 (.mov 0), qT 7 5 (.call (.fn 89) [6]), qT 8 5 (.un .not 7), qI 9 (.pick 5 8 (.k (.bool false))), qI 2 (.mov 9)]
def x73:XC:=(.seq (.ops false r73_0) (.seq (.ops false r73_1) .ret))
theorem F73:Fn Tryd.prog 73 10 x73.er [.t 2]:=⟨Tryd.f73,hcl,Tryd.func73,by kernel_rfl,by kernel_rfl,by kernel_rfl,by kernel_rfl⟩
noncomputable def m73 (a0:ByteArray):Option (Bool × Unit) :=
 (m88 a0).bind fun y10 =>
 cond y10.1
 ((m89 a0).bind fun y11 =>
 some (not y11.1,()))
 (some (false,()))
noncomputable def cfg73:Cfg:=⟨ttab,gtab,[i88,i89],[]⟩
theorem eqn73 (x:ByteArray × Unit):xfun cfg73 x73 10 [.t 2] [.str] [.bool] x=m73 x.1:=by kernel_rfl
noncomputable def i73:PI:=⟨73,[.str],[.bool],fun (x:ByteArray × Unit)=>m73 x.1⟩
theorem oki73:POk Tryd.prog (gx gtab) i73:=pok mixed (cfg_p oki88 (cfg_p oki89 (cfg_nil _ _)):CfgOk _ (cfg73)) F73 (eqn73)
def r74_0:List Ins:=[qI 2 (.box 24 1 0), qI 4 (.mov (kI 0)), qI 5 (.mov (.k (.bool false)))]
def r74_1:List Ins:=[qI 8 (.faddr 0 2), qI 9 (.load 1 false 8), qI 10 (.len 9), qI 11 (.mov (kI 0))]
def r74_2:List Ins:=[qI 12 (.bin .lss 11 10)]
def r74_3:List Ins:=[qI 13 (.mov 11), qI 14 (.iaddr 5 9 11), qI 15 (.load 5 true 14), qI 7 (.alloc 64 (.agg #[.string (bs []),.int .i64 0,.slice none 0 0,.int .i64 0,.int .i64 0])), qI 6 (.mov 13), qN (.store 5 7 15)]
def r74_4:List Ins:=[qI 16 (.faddr 0 7), qI 17 (.load 1 false 16), qI 18 (.mov 1), qI 19 (.bin .eql 17 18)]
def r74_5:List Ins:=[qI 20 (.mov 6), qI 4 (.mov 20), qI 5 (.mov (.k (.bool true)))]
def r74_6:List Ins:=[qI 21 (.bin .add 11 (kI 1)), qI 11 (.mov 21)]
def r74_7:List Ins:=[qI 4 (.mov (kI 0)), qI 5 (.mov (.k (.bool false)))]
def x74:XC:=(.seq (.ops false r74_0) (.seq (.seq (.ops false r74_1) (.block 0 (.loop [] ⟨22,[(1,.str),(9,(.list tS0)),(10,(.int .i64)),(11,(.int .i64))],[],[]⟩ (.seq (.ops false r74_2) (.seq (.cond (.t 12) .skip (.exit 0)) (.seq (.block 1 (.seq (.ops false r74_3) (.seq (.ops false r74_4) (.cond (.t 19) (.seq (.ops false r74_5) .ret) .skip)))) (.ops false r74_6))))))) (.seq (.ops false r74_7) .ret)))
theorem F74:Fn Tryd.prog 74 22 x74.er [.t 4,.t 5]:=⟨Tryd.f74,hcl,Tryd.func74,by kernel_rfl,by kernel_rfl,by kernel_rfl,by kernel_rfl⟩
noncomputable def m74 (a0:DS5) (a1:ByteArray):Option (Int × Bool × Unit) :=
 loopO (S:=ByteArray × (List DS0) × Int × Int × Unit) (R:=Int × Bool × Unit) (fun s14 =>
 cond (iLt s14.2.2.2.1 s14.2.2.1)
 (cond (bnd s14.2.2.2.1 (lenI s14.2.1))
 (cond (sEq ((atI s14.2.1 s14.2.2.2.1 (ByteArray.empty,0,[],0,0,())).1) s14.1)
 (some (.inr (s14.2.2.2.1,true,())))
 (some (.inl (s14.1,s14.2.1,s14.2.2.1,iAdd .i64 s14.2.2.2.1 1,())))) none)
 (some (.inr (0,false,()))))
 (a1,a0.1,lenI a0.1,0,())
noncomputable def cfg74:Cfg:=⟨ttab,gtab,[],[]⟩
theorem eqn74 (x:DS5 × ByteArray × Unit):xfun cfg74 x74 22 [.t 4,.t 5] [tS5,.str] [(.int .i64),.bool] x=m74 x.1 x.2.1:=by kernel_rfl
noncomputable def i74:PI:=⟨74,[tS5,.str],[(.int .i64),.bool],fun (x:DS5 × ByteArray × Unit)=>m74 x.1 x.2.1⟩
theorem oki74:POk Tryd.prog (gx gtab) i74:=pok mixed (cfg_nil _ _:CfgOk _ (cfg74)) F74 (eqn74)
def r107_0:List Ins:=[qI 4 (.mov (kI 0))]
def r107_1:List Ins:=[qI 6 (.mov 0), qI 7 (.len 6), qI 8 (.mov (kI 0))]
def r107_2:List Ins:=[qI 9 (.bin .lss 8 7)]
def r107_3:List Ins:=[qI 10 (.mov 8), qI 5 (.mov 10)]
def r107_4:List Ins:=[qI 11 (.mov 1), qI 12 (.mov 0), qI 13 (.mov 5), qI 14 (.iaddr 1 12 13), qI 15 (.load 1 false 14), qI 16 (.bin .eql 11 15)]
def r107_5:List Ins:=[qI 17 (.mov 5), qI 4 (.mov 17)]
def r107_6:List Ins:=[qI 18 (.bin .add 8 (kI 1)), qI 8 (.mov 18)]
def r107_7:List Ins:=[qI 4 (.mov (.k (.int .i64 (-1))))]
def x107:XC:=(.seq (.ops false r107_0) (.seq (.seq (.ops false r107_1) (.block 0 (.loop [] ⟨19,[(0,(.list .str)),(1,.str),(7,(.int .i64)),(8,(.int .i64))],[],[]⟩ (.seq (.ops false r107_2) (.seq (.cond (.t 9) .skip (.exit 0)) (.seq (.block 1 (.seq (.ops false r107_3) (.seq (.ops false r107_4) (.cond (.t 16) (.seq (.ops false r107_5) .ret) .skip)))) (.ops false r107_6))))))) (.seq (.ops false r107_7) .ret)))
theorem F107:Fn Tryd.prog 107 19 x107.er [.t 4]:=⟨Tryd.f107,hcl,Tryd.func107,by kernel_rfl,by kernel_rfl,by kernel_rfl,by kernel_rfl⟩
noncomputable def m107 (a0:List ByteArray) (a1:ByteArray):Option (Int × Unit) :=
 loopO (S:=(List ByteArray) × ByteArray × Int × Int × Unit) (R:=Int × Unit) (fun s20 =>
 cond (iLt s20.2.2.2.1 s20.2.2.1)
 (cond (bnd s20.2.2.2.1 (lenI s20.1))
 (cond (sEq s20.2.1 (atI s20.1 s20.2.2.2.1 ByteArray.empty))
 (some (.inr (s20.2.2.2.1,())))
 (some (.inl (s20.1,s20.2.1,s20.2.2.1,iAdd .i64 s20.2.2.2.1 1,())))) none)
 (some (.inr ((-1),()))))
 (a0,a1,lenI a0,0,())
noncomputable def cfg107:Cfg:=⟨ttab,gtab,[],[]⟩
theorem eqn107 (x:(List ByteArray) × ByteArray × Unit):xfun cfg107 x107 19 [.t 4] [(.list .str),.str] [(.int .i64)] x=m107 x.1 x.2.1:=by kernel_rfl
noncomputable def i107:PI:=⟨107,[(.list .str),.str],[(.int .i64)],fun (x:(List ByteArray) × ByteArray × Unit)=>m107 x.1 x.2.1⟩
theorem oki107:POk Tryd.prog (gx gtab) i107:=pok mixed (cfg_nil _ _:CfgOk _ (cfg107)) F107 (eqn107)
def r102_0:List Ins:=[qI 4 (.mov (.k (.bool false)))]
def r102_1:List Ins:=[qI 5 (.mov 0), qI 6 (.mov 1), qI 7 (.call (.fn 107) [5,6]), qI 8 (.bin .geq 7 (kI 0)), qI 4 (.mov 8)]
def x102:XC:=(.seq (.ops false r102_0) (.seq (.ops false r102_1) .ret))
theorem F102:Fn Tryd.prog 102 9 x102.er [.t 4]:=⟨Tryd.f102,hcl,Tryd.func102,by kernel_rfl,by kernel_rfl,by kernel_rfl,by kernel_rfl⟩
noncomputable def m102 (a0:List ByteArray) (a1:ByteArray):Option (Bool × Unit) :=
 (m107 a0 a1).bind fun y21 =>
 some (iLe 0 y21.1,())
noncomputable def cfg102:Cfg:=⟨ttab,gtab,[i107],[]⟩
theorem eqn102 (x:(List ByteArray) × ByteArray × Unit):xfun cfg102 x102 9 [.t 4] [(.list .str),.str] [.bool] x=m102 x.1 x.2.1:=by kernel_rfl
noncomputable def i102:PI:=⟨102,[(.list .str),.str],[.bool],fun (x:(List ByteArray) × ByteArray × Unit)=>m102 x.1 x.2.1⟩
theorem oki102:POk Tryd.prog (gx gtab) i102:=pok mixed (cfg_p oki107 (cfg_nil _ _):CfgOk _ (cfg102)) F102 (eqn102)
def r90_0:List Ins:=[qI 2 (.mov (kI 0))]
def r90_1:List Ins:=[qI 7 (.mov 0), qI 8 (.len 7), qI 9 (.bin .eql 8 (kI 0))]
def r90_2:List Ins:=[qI 2 (.mov (kI 19))]
def r90_3:List Ins:=[qI 10 (.mov 0), qI 11 (.len 10), qI 12 (.bin .gtr 11 (kI 12))]
def r90_4:List Ins:=[qI 2 (.mov (kI 4))]
def r90_5:List Ins:=[qI 13 (.mov 0), qI 14 (.len 13), qI 15 (.mov (kI 0))]
def r90_6:List Ins:=[qI 16 (.bin .lss 15 14)]
def r90_7:List Ins:=[qI 17 (.iaddr 1 13 15), qI 18 (.load 1 false 17), qI 4 (.mov 18)]
def r90_8:List Ins:=[qI 19 (.mov 4), qI 20 (.call (.fn 73) [19]), qI 21 (.un .not 20)]
def r90_9:List Ins:=[qI 2 (.mov (kI 6))]
def r90_10:List Ins:=[qI 22 (.bin .add 15 (kI 1)), qI 15 (.mov 22)]
def r90_11:List Ins:=[qI 23 (.mov 0), qI 24 (.len 23), qI 25 (.mov (kI 0))]
def r90_12:List Ins:=[qI 26 (.bin .lss 25 24)]
def r90_13:List Ins:=[qI 27 (.mov 25), qI 28 (.iaddr 1 23 25), qI 29 (.load 1 false 28), qI 5 (.mov 27), qI 6 (.mov 29)]
def r90_14:List Ins:=[qI 30 (.mov 0), qI 31 (.mov 5), qI 32 (.slice 1 30 none (some 31)), qI 33 (.mov 6), qI 34 (.call (.fn 102) [32,33])]
def r90_15:List Ins:=[qI 2 (.mov (kI 8))]
def r90_16:List Ins:=[qI 35 (.bin .add 25 (kI 1)), qI 25 (.mov 35)]
def r90_17:List Ins:=[qI 2 (.mov (kI 0))]
def x90:XC:=(.seq (.ops false r90_0) (.seq (.seq (.ops false r90_1) (.cond (.t 9) (.seq (.ops false r90_2) .ret) .skip)) (.seq (.seq (.ops false r90_3) (.cond (.t 12) (.seq (.ops false r90_4) .ret) .skip)) (.seq (.seq (.ops false r90_5) (.block 0 (.loop [] ⟨36,[(0,(.list .str)),(13,(.list .str)),(14,(.int .i64)),(15,(.int .i64))],[],[]⟩ (.seq (.ops false r90_6) (.seq (.cond (.t 16) .skip (.exit 0)) (.seq (.block 1 (.seq (.ops false r90_7) (.seq (.ops false r90_8) (.cond (.t 21) (.seq (.ops false r90_9) .ret) .skip)))) (.ops false r90_10))))))) (.seq (.seq (.ops false r90_11) (.block 2 (.loop [] ⟨36,[(0,(.list .str)),(23,(.list .str)),(24,(.int .i64)),(25,(.int .i64))],[],[]⟩ (.seq (.ops false r90_12) (.seq (.cond (.t 26) .skip (.exit 2)) (.seq (.block 3 (.seq (.ops false r90_13) (.seq (.ops false r90_14) (.cond (.t 34) (.seq (.ops false r90_15) .ret) .skip)))) (.ops false r90_16))))))) (.seq (.ops false r90_17) .ret))))))
theorem F90:Fn Tryd.prog 90 36 x90.er [.t 2]:=⟨Tryd.f90,hcl,Tryd.func90,by kernel_rfl,by kernel_rfl,by kernel_rfl,by kernel_rfl⟩
noncomputable def m90 (a0:List ByteArray):Option (Int × Unit) :=
 cond (iEq (lenI a0) 0)
 (some (19,()))
 (cond (iLt 12 (lenI a0))
 (some (4,()))
 (loopO (S:=(List ByteArray) × (List ByteArray) × Int × Int × Unit) (R:=Int × Unit) (fun s23 =>
 cond (iLt s23.2.2.2.1 s23.2.2.1)
 (cond (bnd s23.2.2.2.1 (lenI s23.2.1))
 ((m73 (atI s23.2.1 s23.2.2.2.1 ByteArray.empty)).bind fun y24 =>
 cond (not y24.1)
 (some (.inr (6,())))
 (some (.inl (s23.1,s23.2.1,s23.2.2.1,iAdd .i64 s23.2.2.2.1 1,())))) none)
 (Option.map Sum.inr (loopO (S:=(List ByteArray) × (List ByteArray) × Int × Int × Unit) (R:=Int × Unit) (fun s25 =>
 cond (iLt s25.2.2.2.1 s25.2.2.1)
 (cond (bnd s25.2.2.2.1 (lenI s25.2.1))
 (cond (cutOk 0 s25.2.2.2.1 (List.length s25.1))
 ((m102 (cutL 0 s25.2.2.2.1 s25.1) (atI s25.2.1 s25.2.2.2.1 ByteArray.empty)).bind fun y26 =>
 cond y26.1
 (some (.inr (8,())))
 (some (.inl (s25.1,s25.2.1,s25.2.2.1,iAdd .i64 s25.2.2.2.1 1,())))) none) none)
 (some (.inr (0,()))))
 (s23.1,s23.1,lenI s23.1,0,()))))
 (a0,a0,lenI a0,0,())))
noncomputable def cfg90:Cfg:=⟨ttab,gtab,[i102,i73],[]⟩
theorem eqn90 (x:(List ByteArray) × Unit):xfun cfg90 x90 36 [.t 2] [(.list .str)] [(.int .i64)] x=m90 x.1:=by kernel_rfl
noncomputable def i90:PI:=⟨90,[(.list .str)],[(.int .i64)],fun (x:(List ByteArray) × Unit)=>m90 x.1⟩
theorem oki90:POk Tryd.prog (gx gtab) i90:=pok mixed (cfg_p oki102 (cfg_p oki73 (cfg_nil _ _)):CfgOk _ (cfg90)) F90 (eqn90)
def r75_0:List Ins:=[qI 1 (.box 64 5 0), qI 2 (.mov (kI 0))]
def r75_1:List Ins:=[qI 3 (.faddr 1 1), qI 4 (.load 1 false 3)]
def r75_2:List Ins:=[qI 6 (.bin .eql 4 (kI 1)), qI 5 (.mov 6)]
def r75_3:List Ins:=[qI 7 (.faddr 3 1), qI 8 (.load 1 false 7), qI 9 (.bin .neq 8 (kI 0)), qI 10 (.mov 9), qF 11 10 (.faddr 4 1), qF 12 10 (.load 1 false 11), qF 13 10 (.bin .neq 12 (kI 0)), qI 14 (.pick 10 (.k (.bool true)) 13)]
def r75_4:List Ins:=[qI 2 (.mov (kI 20))]
def r75_5:List Ins:=[qI 15 (.faddr 2 1), qI 16 (.load 1 false 15), qI 17 (.call (.fn 90) [16]), qI 2 (.mov 17)]
def r75_6:List Ins:=[qI 19 (.bin .eql 4 (kI 2)), qI 18 (.mov 19)]
def r75_7:List Ins:=[qI 20 (.faddr 2 1), qI 21 (.load 1 false 20), qI 22 (.len 21), qI 23 (.bin .gtr 22 (kI 0))]
def r75_8:List Ins:=[qI 2 (.mov (kI 20))]
def r75_9:List Ins:=[qI 24 (.faddr 3 1), qI 25 (.load 1 false 24), qI 26 (.faddr 4 1), qI 27 (.load 1 false 26), qI 28 (.bin .gtr 25 27), qI 29 (.mov 28), qF 30 29 (.faddr 3 1), qF 31 29 (.load 1 false 30), qF 32 29 (.bin .lss 31 (.k (.int .i64 (-1000000000)))), qI 33 (.pick 29 (.k (.bool true)) 32), qI 34 (.mov 33), qF 35 34 (.faddr 4 1), qF 36 34 (.load 1 false 35), qF 37 34 (.bin .gtr 36 (kI 1000000000)), qI 38 (.pick 34 (.k (.bool true)) 37)]
def r75_10:List Ins:=[qI 2 (.mov (kI 1))]
def r75_11:List Ins:=[qI 40 (.bin .eql 4 (kI 3)), qI 39 (.mov 40)]
def r75_12:List Ins:=[qI 41 (.faddr 2 1), qI 42 (.load 1 false 41), qI 43 (.len 42), qI 44 (.bin .gtr 43 (kI 0)), qI 45 (.mov 44), qF 46 45 (.faddr 3 1), qF 47 45 (.load 1 false 46), qF 48 45 (.bin .neq 47 (kI 0)), qI 49 (.pick 45 (.k (.bool true)) 48), qI 50 (.mov 49), qF 51 50 (.faddr 4 1), qF 52 50 (.load 1 false 51), qF 53 50 (.bin .neq 52 (kI 0)), qI 54 (.pick 50 (.k (.bool true)) 53)]
def r75_13:List Ins:=[qI 2 (.mov (kI 20))]
def r75_14:List Ins:=[qI 2 (.mov (kI 11))]
def r75_15:List Ins:=[qI 2 (.mov (kI 0))]
def x75:XC:=(.seq (.ops false r75_0) (.seq (.seq (.ops false r75_1) (.block 0 (.seq (.ops false r75_2) (.cond (.t 5) (.seq (.seq (.ops false r75_3) (.cond (.t 14) (.seq (.ops false r75_4) .ret) .skip)) (.seq (.ops false r75_5) .ret)) (.seq (.ops false r75_6) (.cond (.t 18) (.seq (.seq (.ops false r75_7) (.cond (.t 23) (.seq (.ops false r75_8) .ret) .skip)) (.seq (.ops false r75_9) (.cond (.t 38) (.seq (.ops false r75_10) .ret) .skip))) (.seq (.ops false r75_11) (.cond (.t 39) (.seq (.ops false r75_12) (.cond (.t 54) (.seq (.ops false r75_13) .ret) .skip)) (.seq (.ops false r75_14) .ret))))))))) (.seq (.ops false r75_15) .ret)))
theorem F75:Fn Tryd.prog 75 55 x75.er [.t 2]:=⟨Tryd.f75,hcl,Tryd.func75,by kernel_rfl,by kernel_rfl,by kernel_rfl,by kernel_rfl⟩
noncomputable def m75 (a0:DS0):Option (Int × Unit) :=
 cond (iEq a0.2.1 1)
 (cond (cond (iNe a0.2.2.2.1 0) true (iNe a0.2.2.2.2.1 0))
 (some (20,()))
 ((m90 a0.2.2.1).bind fun y27 =>
 some (y27.1,())))
 (cond (iEq a0.2.1 2)
 (cond (iLt 0 (lenI a0.2.2.1))
 (some (20,()))
 (cond (cond (cond (iLt a0.2.2.2.2.1 a0.2.2.2.1) true (iLt a0.2.2.2.1 (-1000000000))) true (iLt 1000000000 a0.2.2.2.2.1))
 (some (1,()))
 (some (0,()))))
 (cond (iEq a0.2.1 3)
 (cond (cond (cond (iLt 0 (lenI a0.2.2.1)) true (iNe a0.2.2.2.1 0)) true (iNe a0.2.2.2.2.1 0))
 (some (20,()))
 (some (0,())))
 (some (11,()))))
noncomputable def cfg75:Cfg:=⟨ttab,gtab,[i90],[]⟩
theorem eqn75 (x:DS0 × Unit):xfun cfg75 x75 55 [.t 2] [tS0] [(.int .i64)] x=m75 x.1:=by kernel_rfl
noncomputable def i75:PI:=⟨75,[tS0],[(.int .i64)],fun (x:DS0 × Unit)=>m75 x.1⟩
theorem oki75:POk Tryd.prog (gx gtab) i75:=pok mixed (cfg_p oki90 (cfg_nil _ _):CfgOk _ (cfg75)) F75 (eqn75)
def r38_0:List Ins:=[qI 1 (.box 24 1 0), qI 2 (.mov (kI 0))]
def r38_1:List Ins:=[qI 8 (.faddr 0 1), qI 9 (.load 1 false 8), qI 10 (.len 9), qI 11 (.bin .eql 10 (kI 0))]
def r38_2:List Ins:=[qI 2 (.mov (kI 19))]
def r38_3:List Ins:=[qI 12 (.faddr 0 1), qI 13 (.load 1 false 12), qI 14 (.len 13), qI 15 (.bin .gtr 14 (kI 6))]
def r38_4:List Ins:=[qI 2 (.mov (kI 4))]
def r38_5:List Ins:=[qI 16 (.faddr 0 1), qI 17 (.load 1 false 16), qI 18 (.len 17), qI 19 (.mov (kI 0))]
def r38_6:List Ins:=[qI 20 (.bin .lss 19 18)]
def r38_7:List Ins:=[qI 21 (.mov 19), qI 22 (.iaddr 5 17 19), qI 23 (.load 5 true 22), qI 4 (.alloc 64 (.agg #[.string (bs []),.int .i64 0,.slice none 0 0,.int .i64 0,.int .i64 0])), qI 3 (.mov 21), qN (.store 5 4 23)]
def r38_8:List Ins:=[qI 24 (.faddr 0 4), qI 25 (.load 1 false 24), qI 26 (.call (.fn 73) [25]), qI 27 (.un .not 26)]
def r38_9:List Ins:=[qI 2 (.mov (kI 6))]
def r38_10:List Ins:=[qI 29 (.load 1 true 1), qI 30 (.faddr 0 4), qI 31 (.load 1 false 30), qI 32 (.call (.fn 74) [29,31]), qI 28 (.mov 32), qI 33 (.ext 0 28), qI 34 (.ext 1 28), qI 5 (.mov 33), qI 6 (.mov 34)]
def r38_11:List Ins:=[qI 35 (.mov 5), qI 36 (.mov 3), qI 37 (.bin .lss 35 36)]
def r38_12:List Ins:=[qI 2 (.mov (kI 8))]
def r38_13:List Ins:=[qI 38 (.load 5 true 4), qI 39 (.call (.fn 75) [38]), qI 7 (.mov 39)]
def r38_14:List Ins:=[qI 40 (.mov 7), qI 41 (.bin .neq 40 (kI 0))]
def r38_15:List Ins:=[qI 42 (.mov 7), qI 2 (.mov 42)]
def r38_16:List Ins:=[qI 43 (.bin .add 19 (kI 1)), qI 19 (.mov 43)]
def r38_17:List Ins:=[qI 2 (.mov (kI 0))]
def x38:XC:=(.seq (.ops false r38_0) (.seq (.seq (.ops false r38_1) (.cond (.t 11) (.seq (.ops false r38_2) .ret) .skip)) (.seq (.seq (.ops false r38_3) (.cond (.t 15) (.seq (.ops false r38_4) .ret) .skip)) (.seq (.seq (.ops false r38_5) (.block 0 (.loop [] ⟨44,[(17,(.list tS0)),(18,(.int .i64)),(19,(.int .i64))],[(1,.ptr 0 0 0)],[.box 24 [.d (.list tS0)]]⟩ (.seq (.ops false r38_6) (.seq (.cond (.t 20) .skip (.exit 0)) (.seq (.block 1 (.seq (.ops false r38_7) (.seq (.seq (.ops false r38_8) (.cond (.t 27) (.seq (.ops false r38_9) .ret) .skip)) (.seq (.seq (.ops false r38_10) (.seq (.ops false r38_11) (.cond (.t 37) (.seq (.ops false r38_12) .ret) .skip))) (.seq (.ops false r38_13) (.seq (.ops false r38_14) (.cond (.t 41) (.seq (.ops false r38_15) .ret) .skip))))))) (.ops false r38_16))))))) (.seq (.ops false r38_17) .ret)))))
theorem F38:Fn Tryd.prog 38 44 x38.er [.t 2]:=⟨Tryd.f38,hcl,Tryd.func38,by kernel_rfl,by kernel_rfl,by kernel_rfl,by kernel_rfl⟩
noncomputable def m38 (a0:DS5):Option (Int × Unit) :=
 cond (iEq (lenI a0.1) 0)
 (some (19,()))
 (cond (iLt 6 (lenI a0.1))
 (some (4,()))
 (loopO (S:=(List DS0) × Int × Int × (List DS0) × Unit) (R:=Int × Unit) (fun s29 =>
 cond (iLt s29.2.2.1 s29.2.1)
 (cond (bnd s29.2.2.1 (lenI s29.1))
 ((m73 ((atI s29.1 s29.2.2.1 (ByteArray.empty,0,[],0,0,())).1)).bind fun y30 =>
 cond (not y30.1)
 (some (.inr (6,())))
 ((m74 (s29.2.2.2.1,()) ((atI s29.1 s29.2.2.1 (ByteArray.empty,0,[],0,0,())).1)).bind fun y31 =>
 cond (iLt y31.1 s29.2.2.1)
 (some (.inr (8,())))
 ((m75 ((atI s29.1 s29.2.2.1 (ByteArray.empty,0,[],0,0,())).1,(atI s29.1 s29.2.2.1 (ByteArray.empty,0,[],0,0,())).2.1,(atI s29.1 s29.2.2.1 (ByteArray.empty,0,[],0,0,())).2.2.1,(atI s29.1 s29.2.2.1 (ByteArray.empty,0,[],0,0,())).2.2.2.1,(atI s29.1 s29.2.2.1 (ByteArray.empty,0,[],0,0,())).2.2.2.2.1,())).bind fun y32 =>
 cond (iNe y32.1 0)
 (some (.inr (y32.1,())))
 (some (.inl (s29.1,s29.2.1,iAdd .i64 s29.2.2.1 1,s29.2.2.2.1,())))))) none)
 (some (.inr (0,()))))
 (a0.1,lenI a0.1,0,a0.1,())))
noncomputable def cfg38:Cfg:=⟨ttab,gtab,[i73,i74,i75],[]⟩
theorem eqn38 (x:DS5 × Unit):xfun cfg38 x38 44 [.t 2] [tS5] [(.int .i64)] x=m38 x.1:=by kernel_rfl
noncomputable def i38:PI:=⟨38,[tS5],[(.int .i64)],fun (x:DS5 × Unit)=>m38 x.1⟩
theorem oki38:POk Tryd.prog (gx gtab) i38:=pok mixed (cfg_p oki73 (cfg_p oki74 (cfg_p oki75 (cfg_nil _ _))):CfgOk _ (cfg38)) F38 (eqn38)
def r76_0:List Ins:=[qI 1 (.box 64 5 0), qI 2 (.mov (kI 0)), qI 3 (.mov (kI 0))]
def r76_1:List Ins:=[qI 4 (.faddr 1 1), qI 5 (.load 1 false 4)]
def r76_2:List Ins:=[qI 7 (.bin .eql 5 (kI 1)), qI 6 (.mov 7)]
def r76_3:List Ins:=[qI 8 (.faddr 2 1), qI 9 (.load 1 false 8), qI 10 (.len 9), qI 11 (.bin .sub 10 (kI 1)), qI 2 (.mov (kI 0)), qI 3 (.mov 11)]
def r76_4:List Ins:=[qI 13 (.bin .eql 5 (kI 2)), qI 12 (.mov 13)]
def r76_5:List Ins:=[qI 14 (.faddr 3 1), qI 15 (.load 1 false 14), qI 16 (.faddr 4 1), qI 17 (.load 1 false 16), qI 2 (.mov 15), qI 3 (.mov 17)]
def r76_6:List Ins:=[qI 2 (.mov (kI 0)), qI 3 (.mov (kI 1))]
def x76:XC:=(.seq (.ops false r76_0) (.seq (.seq (.ops false r76_1) (.block 0 (.seq (.ops false r76_2) (.cond (.t 6) (.seq (.ops true r76_3) .ret) (.seq (.ops false r76_4) (.cond (.t 12) (.seq (.ops true r76_5) .ret) .skip)))))) (.seq (.ops false r76_6) .ret)))
theorem F76:Fn Tryd.prog 76 18 x76.er [.t 2,.t 3]:=⟨Tryd.f76,hcl,Tryd.func76,by kernel_rfl,by kernel_rfl,by kernel_rfl,by kernel_rfl⟩
noncomputable def m76 (a0:DS0):Option (Int × Int × Unit) :=
 cond (iEq a0.2.1 1)
 (some (0,iSub .i64 (lenI a0.2.2.1) 1,()))
 (cond (iEq a0.2.1 2)
 (some (a0.2.2.2.1,a0.2.2.2.2.1,()))
 (some (0,1,())))
noncomputable def cfg76:Cfg:=⟨ttab,gtab,[],[]⟩
theorem eqn76 (x:DS0 × Unit):xfun cfg76 x76 18 [.t 2,.t 3] [tS0] [(.int .i64),(.int .i64)] x=m76 x.1:=by kernel_rfl
noncomputable def i76:PI:=⟨76,[tS0],[(.int .i64),(.int .i64)],fun (x:DS0 × Unit)=>m76 x.1⟩
theorem oki76:POk Tryd.prog (gx gtab) i76:=pok mixed (cfg_nil _ _:CfgOk _ (cfg76)) F76 (eqn76)
def r39_0:List Ins:=[qI 2 (.box 24 1 0), qI 4 (.mov (kI 0)), qI 5 (.mov (kI 0))]
def r39_1:List Ins:=[qI 6 (.load 1 true 2), qI 7 (.call (.fn 38) [6]), qI 8 (.bin .neq 7 (kI 0)), qI 9 (.mov 8), qF 10 9 (.mov 1), qF 11 9 (.bin .lss 10 (kI 0)), qI 12 (.pick 9 (.k (.bool true)) 11), qI 13 (.mov 12), qF 14 13 (.mov 1), qF 15 13 (.faddr 0 2), qF 16 13 (.load 1 false 15), qF 17 13 (.len 16), qF 18 13 (.bin .geq 14 17), qI 19 (.pick 13 (.k (.bool true)) 18)]
def r39_2:List Ins:=[qI 4 (.mov (kI 0)), qI 5 (.mov (.k (.int .i64 (-1))))]
def r39_3:List Ins:=[qI 20 (.faddr 0 2), qI 21 (.load 1 false 20), qI 22 (.mov 1), qI 23 (.iaddr 5 21 22), qI 24 (.load 5 true 23), qI 25 (.call (.fn 76) [24]), qI 26 (.ext 0 25), qI 27 (.ext 1 25), qI 4 (.mov 26), qI 5 (.mov 27)]
def x39:XC:=(.seq (.ops false r39_0) (.seq (.seq (.ops false r39_1) (.cond (.t 19) (.seq (.ops false r39_2) .ret) .skip)) (.seq (.ops false r39_3) .ret)))
theorem F39:Fn Tryd.prog 39 28 x39.er [.t 4,.t 5]:=⟨Tryd.f39,hcl,Tryd.func39,by kernel_rfl,by kernel_rfl,by kernel_rfl,by kernel_rfl⟩
noncomputable def m39 (a0:DS5) (a1:Int):Option (Int × Int × Unit) :=
 (m38 (a0.1,())).bind fun y34 =>
 cond (cond (cond (iNe y34.1 0) true (iLt a1 0)) true (iLe (lenI a0.1) a1))
 (some (0,(-1),()))
 (cond (bnd a1 (lenI a0.1))
 ((m76 (atI a0.1 a1 (ByteArray.empty,0,[],0,0,()))).bind fun y35 =>
 some (y35.1,y35.2.1,())) none)
noncomputable def cfg39:Cfg:=⟨ttab,gtab,[i38,i76],[]⟩
theorem eqn39 (x:DS5 × Int × Unit):xfun cfg39 x39 28 [.t 4,.t 5] [tS5,(.int .i64)] [(.int .i64),(.int .i64)] x=m39 x.1 x.2.1:=by kernel_rfl
noncomputable def i39:PI:=⟨39,[tS5,(.int .i64)],[(.int .i64),(.int .i64)],fun (x:DS5 × Int × Unit)=>m39 x.1 x.2.1⟩
theorem oki39:POk Tryd.prog (gx gtab) i39:=pok mixed (cfg_p oki38 (cfg_p oki76 (cfg_nil _ _)):CfgOk _ (cfg39)) F39 (eqn39)
def r40_0:List Ins:=[qI 2 (.mov (kI 0))]
def r40_1:List Ins:=[qI 3 (.mov 0), qI 4 (.bin .sub (.k (.int .i64 (-1))) 3), qI 2 (.mov 4)]
def x40:XC:=(.seq (.ops false r40_0) (.seq (.ops false r40_1) .ret))
theorem F40:Fn Tryd.prog 40 5 x40.er [.t 2]:=⟨Tryd.f40,hcl,Tryd.func40,by kernel_rfl,by kernel_rfl,by kernel_rfl,by kernel_rfl⟩
noncomputable def m40 (a0:Int):Option (Int × Unit) :=
 some (iSub .i64 (-1) a0,())
noncomputable def cfg40:Cfg:=⟨ttab,gtab,[],[]⟩
theorem eqn40 (x:Int × Unit):xfun cfg40 x40 5 [.t 2] [(.int .i64)] [(.int .i64)] x=m40 x.1:=by kernel_rfl
noncomputable def i40:PI:=⟨40,[(.int .i64)],[(.int .i64)],fun (x:Int × Unit)=>m40 x.1⟩
theorem oki40:POk Tryd.prog (gx gtab) i40:=pok mixed (cfg_nil _ _:CfgOk _ (cfg40)) F40 (eqn40)
def r17_0:List Ins:=[qI 2 (.alloc 28 (.agg #[.slice none 0 0,.int .i64 0]))]
def r17_1:List Ins:=[qI 3 (.mov 0), qI 4 (.min2 3 (kI 255)), qI 5 (.max2 (kI 0) 4), qI 6 (.call (.fn 40) [5]), qI 7 (.build [.slice none 0 0,.int .i64 0] [(1,1,6)]), qN (.store 2 2 7)]
def x17:XC:=(.seq (.ops false r17_0) (.seq (.ops false r17_1) .ret))
theorem F17:Fn Tryd.prog 17 8 x17.er [.c 2 2 true]:=⟨Tryd.f17,hcl,Tryd.func17,by kernel_rfl,by kernel_rfl,by kernel_rfl,by kernel_rfl⟩
noncomputable def m17 (a0:Int):Option (DS2 × Unit) :=
 (m40 (iMax 0 (iMin a0 255))).bind fun y37 =>
 some ((([]:List DS1),y37.1,()),())
noncomputable def cfg17:Cfg:=⟨ttab,gtab,[i40],[]⟩
theorem eqn17 (x:Int × Unit):xfun cfg17 x17 8 [.c 2 2 true] [(.int .i64)] [tS2] x=m17 x.1:=by kernel_rfl
noncomputable def i17:PI:=⟨17,[(.int .i64)],[tS2],fun (x:Int × Unit)=>m17 x.1⟩
theorem oki17:POk Tryd.prog (gx gtab) i17:=pok mixed (cfg_p oki40 (cfg_nil _ _):CfgOk _ (cfg17)) F17 (eqn17)
def r12_0:List Ins:=[qI 4 (.box 24 1 0), qI 8 (.alloc 28 (.agg #[.slice none 0 0,.int .i64 0])), qI 9 (.mov (kI 0))]
def r12_1:List Ins:=[qI 15 (.load 1 true 4), qI 16 (.call (.fn 38) [15]), qI 10 (.mov 16)]
def r12_2:List Ins:=[qI 17 (.mov 10), qI 18 (.bin .neq 17 (kI 0))]
def r12_3:List Ins:=[qI 19 (.build [.slice none 0 0,.int .i64 0] []), qI 20 (.mov 10), qN (.store 2 8 19), qI 9 (.mov 20)]
def r12_4:List Ins:=[qI 21 (.mov 1), qI 22 (.bin .lss 21 (kI 0)), qI 23 (.mov 22), qF 24 23 (.mov 1), qF 25 23 (.faddr 0 4), qF 26 23 (.load 1 false 25), qF 27 23 (.len 26), qF 28 23 (.bin .geq 24 27), qI 29 (.pick 23 (.k (.bool true)) 28)]
def r12_5:List Ins:=[qI 30 (.build [.slice none 0 0,.int .i64 0] []), qN (.store 2 8 30), qI 9 (.mov (kI 7))]
def r12_6:List Ins:=[qI 32 (.load 1 true 4), qI 33 (.mov 1), qI 34 (.call (.fn 39) [32,33]), qI 31 (.mov 34), qI 35 (.ext 0 31), qI 36 (.ext 1 31), qI 11 (.mov 35), qI 12 (.mov 36)]
def r12_7:List Ins:=[qI 37 (.mov 2), qI 38 (.mov 11), qI 39 (.max2 37 38), qI 40 (.mov 3), qI 41 (.mov 12), qI 42 (.min2 40 41), qI 2 (.mov 39), qI 3 (.mov 42)]
def r12_8:List Ins:=[qI 43 (.mov 2), qI 44 (.mov 3), qI 45 (.bin .gtr 43 44)]
def r12_9:List Ins:=[qI 46 (.call (.fn 17) [(kI 0)]), qN (.store 2 8 46), qI 9 (.mov (kI 0))]
def r12_10:List Ins:=[qI 13 (.mov kN)]
def r12_11:List Ins:=[qI 47 (.call (.fn 40) [(kI 1)]), qI 48 (.bsc 3 [47]), qI 14 (.mov 48)]
def r12_12:List Ins:=[qI 49 (.mov 2), qI 50 (.mov 11), qI 51 (.bin .gtr 49 50)]
def r12_13:List Ins:=[qI 52 (.mov 13), qI 53 (.mov 2), qI 54 (.bsc 3 [53]), qI 55 (.app 3 1 8 52 54), qI 13 (.mov 55)]
def r12_14:List Ins:=[qI 56 (.call (.fn 40) [(kI 0)]), qI 57 (.call (.fn 40) [(kI 1)]), qI 58 (.bsc 3 [56,57]), qI 14 (.mov 58)]
def r12_15:List Ins:=[qI 59 (.mov 3), qI 60 (.mov 12), qI 61 (.bin .lss 59 60)]
def r12_16:List Ins:=[qI 62 (.mov 13), qI 63 (.mov 3), qI 64 (.bin .add 63 (kI 1)), qI 65 (.bsc 3 [64]), qI 66 (.app 3 1 8 62 65), qI 13 (.mov 66)]
def r12_17:List Ins:=[qI 67 (.mov 14), qI 68 (.call (.fn 40) [(kI 0)]), qI 69 (.bsc 3 [68]), qI 70 (.app 3 1 8 67 69), qI 14 (.mov 70)]
def r12_18:List Ins:=[qI 71 (.mov 13), qI 72 (.len 71), qI 73 (.bin .eql 72 (kI 0))]
def r12_19:List Ins:=[qI 74 (.call (.fn 17) [(kI 1)]), qN (.store 2 8 74), qI 9 (.mov (kI 0))]
def r12_20:List Ins:=[qI 75 (.mov 1), qI 76 (.mov 13), qI 77 (.mov 14), qI 78 (.build [.int .i64 0,.slice none 0 0,.slice none 0 0] [(0,1,75),(1,1,76),(2,1,77)]), qI 79 (.bslice 70 3 [78]), qI 80 (.build [.slice none 0 0,.int .i64 0] [(0,1,79)]), qN (.store 2 8 80), qI 9 (.mov (kI 0))]
def x12:XC:=(.seq (.ops false r12_0) (.seq (.seq (.ops false r12_1) (.seq (.ops false r12_2) (.cond (.t 18) (.seq (.ops false r12_3) .ret) .skip))) (.seq (.seq (.ops false r12_4) (.cond (.t 29) (.seq (.ops false r12_5) .ret) .skip)) (.seq (.ops false r12_6) (.seq (.ops false r12_7) (.seq (.seq (.ops false r12_8) (.cond (.t 45) (.seq (.ops false r12_9) .ret) .skip)) (.seq (.ops false r12_10) (.seq (.ops false r12_11) (.seqj [.gh 13 3 (.int .i64)] ⟨81,[(1,(.int .i64)),(3,(.int .i64)),(12,(.int .i64))],[(8,.ptr 0 0 0),(13,.row 1),(14,.row 2)],[.box 28 [.nil,.d (.int .i64)],.row 3 (.int .i64) false,.row 3 (.int .i64) false]⟩ (.seq (.ops false r12_12) (.cond (.t 51) (.seq (.ops false r12_13) (.ops false r12_14)) .skip)) (.seq (.seq (.ops false r12_15) (.cond (.t 61) (.seq (.ops false r12_16) (.ops false r12_17)) .skip)) (.seq (.seq (.ops false r12_18) (.cond (.t 73) (.seq (.ops false r12_19) .ret) .skip)) (.seq (.ops false r12_20) .ret))))))))))))
theorem F12:Fn Tryd.prog 12 81 x12.er [.c 8 2 true,.t 9]:=⟨Tryd.f12,hcl,Tryd.func12,by kernel_rfl,by kernel_rfl,by kernel_rfl,by kernel_rfl⟩
noncomputable def m12 (a0:DS5) (a1:Int) (a2:Int) (a3:Int):Option (DS2 × Int × Unit) :=
 (m38 (a0.1,())).bind fun y46 =>
 cond (iNe y46.1 0)
 (some ((([]:List DS1),0,()),y46.1,()))
 (cond (cond (iLt a1 0) true (iLe (lenI a0.1) a1))
 (some ((([]:List DS1),0,()),7,()))
 ((m39 (a0.1,()) a1).bind fun y47 =>
 cond (iLt (iMin a3 y47.2.1) (iMax a2 y47.1))
 ((m17 0).bind fun y48 =>
 some ((y48.1.1,y48.1.2.1,()),0,()))
 ((m40 1).bind fun y49 =>
 joinO (S:=Int × Int × Int × Int × (List Int) × (List Int) × Unit) (R:=DS2 × Int × Unit)
 (cond (iLt y47.1 (iMax a2 y47.1))
 (cond (fits (List.length ([iMax a2 y47.1]:List Int)) 8)
 ((m40 0).bind fun y50 =>
 (m40 1).bind fun y51 =>
 some (.inl (a1,iMin a3 y47.2.1,y47.2.1,0,([iMax a2 y47.1]:List Int),([y50.1,y51.1]:List Int),()))) none)
 (some (.inl (a1,iMin a3 y47.2.1,y47.2.1,0,([]:List Int),([y49.1]:List Int),()))))
 (fun j52 =>
 cond (iLt j52.2.1 j52.2.2.1)
 (cond (fits (List.length j52.2.2.2.2.1 + List.length ([iAdd .i64 j52.2.1 1]:List Int)) 8)
 ((m40 0).bind fun y53 =>
 cond (fits (List.length j52.2.2.2.2.2.1 + List.length ([y53.1]:List Int)) 8)
 (cond (iEq (lenI (j52.2.2.2.2.1 ++ ([iAdd .i64 j52.2.1 1]:List Int))) 0)
 ((m17 1).bind fun y54 =>
 some ((y54.1.1,y54.1.2.1,()),0,()))
 (some ((([(j52.1,j52.2.2.2.2.1 ++ ([iAdd .i64 j52.2.1 1]:List Int),j52.2.2.2.2.2.1 ++ ([y53.1]:List Int),())]:List DS1),0,()),0,()))) none) none)
 (cond (iEq (lenI j52.2.2.2.2.1) 0)
 ((m17 1).bind fun y55 =>
 some ((y55.1.1,y55.1.2.1,()),0,()))
 (some ((([(j52.1,j52.2.2.2.2.1,j52.2.2.2.2.2.1,())]:List DS1),0,()),0,())))))))
noncomputable def cfg12:Cfg:=⟨ttab,gtab,[i17,i38,i39,i40],[]⟩
theorem eqn12 (x:DS5 × Int × Int × Int × Unit):xfun cfg12 x12 81 [.c 8 2 true,.t 9] [tS5,(.int .i64),(.int .i64),(.int .i64)] [tS2,(.int .i64)] x=m12 x.1 x.2.1 x.2.2.1 x.2.2.2.1:=by kernel_rfl
noncomputable def i12:PI:=⟨12,[tS5,(.int .i64),(.int .i64),(.int .i64)],[tS2,(.int .i64)],fun (x:DS5 × Int × Int × Int × Unit)=>m12 x.1 x.2.1 x.2.2.1 x.2.2.2.1⟩
theorem oki12:POk Tryd.prog (gx gtab) i12:=pok mixed (cfg_p oki17 (cfg_p oki38 (cfg_p oki39 (cfg_p oki40 (cfg_nil _ _)))):CfgOk _ (cfg12)) F12 (eqn12)
def r59_0:List Ins:=[qI 2 (.box 28 2 0), qI 4 (.mov (.k (.bool false)))]
def r59_1:List Ins:=[qI 5 (.mov 1), qI 6 (.call (.fn 40) [(kI 255)]), qI 7 (.bin .geq 5 6), qI 8 (.mov 7), qT 9 8 (.mov 1), qT 10 8 (.faddr 0 2), qT 11 8 (.load 1 false 10), qT 12 8 (.len 11), qT 13 8 (.bin .lss 9 12), qI 14 (.pick 8 13 (.k (.bool false))), qI 4 (.mov 14)]
def x59:XC:=(.seq (.ops false r59_0) (.seq (.ops false r59_1) .ret))
theorem F59:Fn Tryd.prog 59 15 x59.er [.t 4]:=⟨Tryd.f59,hcl,Tryd.func59,by kernel_rfl,by kernel_rfl,by kernel_rfl,by kernel_rfl⟩
noncomputable def m59 (a0:DS2) (a1:Int):Option (Bool × Unit) :=
 (m40 255).bind fun y58 =>
 some (cond (iLe y58.1 a1) (iLt a1 (lenI a0.1)) false,())
noncomputable def cfg59:Cfg:=⟨ttab,gtab,[i40],[]⟩
theorem eqn59 (x:DS2 × Int × Unit):xfun cfg59 x59 15 [.t 4] [tS2,(.int .i64)] [.bool] x=m59 x.1 x.2.1:=by kernel_rfl
noncomputable def i59:PI:=⟨59,[tS2,(.int .i64)],[.bool],fun (x:DS2 × Int × Unit)=>m59 x.1 x.2.1⟩
theorem oki59:POk Tryd.prog (gx gtab) i59:=pok mixed (cfg_p oki40 (cfg_nil _ _):CfgOk _ (cfg59)) F59 (eqn59)
def r50_0:List Ins:=[qI 1 (.box 24 1 0), qI 2 (.mov kN)]
def r50_1:List Ins:=[qI 5 (.faddr 0 1), qI 6 (.load 1 false 5), qI 7 (.len 6), qI 8 (.mk 86 2 16 (.agg #[.int .i64 0,.int .i64 0]) 7), qI 3 (.mov 8)]
def r50_2:List Ins:=[qI 9 (.mov 3), qI 10 (.len 9), qI 11 (.mov (kI 0))]
def r50_3:List Ins:=[qI 12 (.bin .lss 11 10)]
def r50_4:List Ins:=[qI 13 (.mov 11), qI 4 (.mov 13)]
def r50_5:List Ins:=[qI 15 (.mov 3), qI 16 (.mov 4), qI 17 (.mov 3), qI 18 (.mov 4), qI 19 (.load 1 true 1), qI 20 (.mov 4), qI 21 (.call (.fn 39) [19,20]), qI 14 (.mov 21), qI 22 (.ext 0 14), qI 23 (.ext 1 14), qI 24 (.iaddr 2 15 16), qI 25 (.faddr 0 24), qN (.store 1 25 22), qI 26 (.iaddr 2 17 18), qI 27 (.faddr 1 26), qN (.store 1 27 23)]
def r50_6:List Ins:=[qI 28 (.bin .add 11 (kI 1)), qI 11 (.mov 28)]
def r50_7:List Ins:=[qI 29 (.mov 3), qI 2 (.mov 29)]
def x50:XC:=(.seq (.ops false r50_0) (.seq (.ops false r50_1) (.seq (.seq (.ops false r50_2) (.block 0 (.loop [] ⟨30,[(10,(.int .i64)),(11,(.int .i64))],[(1,.ptr 0 0 0),(3,.row 1)],[.box 24 [.d (.list tS0)],.row 86 tS3 false]⟩ (.seq (.ops false r50_3) (.seq (.cond (.t 12) .skip (.exit 0)) (.seq (.block 1 (.seq (.ops false r50_4) (.ops false r50_5))) (.ops false r50_6))))))) (.seq (.ops false r50_7) .ret))))
theorem F50:Fn Tryd.prog 50 30 x50.er [.t 2]:=⟨Tryd.f50,hcl,Tryd.func50,by kernel_rfl,by kernel_rfl,by kernel_rfl,by kernel_rfl⟩
noncomputable def m50 (a0:DS5):Option ((List DS3) × Unit) :=
 cond (fitsI (lenI a0.1) 16)
 (loopO (S:=Int × Int × (List DS0) × (List DS3) × Unit) (R:=(List DS3) × Unit) (fun s62 =>
 cond (iLt s62.2.1 s62.1)
 ((m39 (s62.2.2.1,()) s62.2.1).bind fun y63 =>
 cond (bnd s62.2.1 (lenI s62.2.2.2.1))
 (cond (inB (Int.toNat s62.2.1) s62.2.2.2.1)
 (cond (bnd s62.2.1 (lenI (List.set s62.2.2.2.1 (Int.toNat s62.2.1) (y63.1,(List.getD s62.2.2.2.1 (Int.toNat s62.2.1) (0,0,())).2.1,()))))
 (cond (inB (Int.toNat s62.2.1) (List.set s62.2.2.2.1 (Int.toNat s62.2.1) (y63.1,(List.getD s62.2.2.2.1 (Int.toNat s62.2.1) (0,0,())).2.1,())))
 (some (.inl (s62.1,iAdd .i64 s62.2.1 1,s62.2.2.1,List.set (List.set s62.2.2.2.1 (Int.toNat s62.2.1) (y63.1,(List.getD s62.2.2.2.1 (Int.toNat s62.2.1) (0,0,())).2.1,())) (Int.toNat s62.2.1) ((List.getD (List.set s62.2.2.2.1 (Int.toNat s62.2.1) (y63.1,(List.getD s62.2.2.2.1 (Int.toNat s62.2.1) (0,0,())).2.1,())) (Int.toNat s62.2.1) (0,0,())).1,y63.2.1,()),()))) none) none) none) none)
 (some (.inr (s62.2.2.2.1,()))))
 (lenI (List.replicate (Int.toNat (lenI a0.1)) (0,0,()):List DS3),0,a0.1,(List.replicate (Int.toNat (lenI a0.1)) (0,0,()):List DS3),())) none
noncomputable def cfg50:Cfg:=⟨ttab,gtab,[i39],[]⟩
theorem eqn50 (x:DS5 × Unit):xfun cfg50 x50 30 [.t 2] [tS5] [(.list tS3)] x=m50 x.1:=by kernel_rfl
noncomputable def i50:PI:=⟨50,[tS5],[(.list tS3)],fun (x:DS5 × Unit)=>m50 x.1⟩
theorem oki50:POk Tryd.prog (gx gtab) i50:=pok mixed (cfg_p oki39 (cfg_nil _ _):CfgOk _ (cfg50)) F50 (eqn50)
def r60_0:List Ins:=[qI 3 (.box 28 2 0), qI 4 (.box 70 3 1), qI 6 (.mov (.k (.bool false)))]
def r60_1:List Ins:=[qI 12 (.faddr 0 4), qI 13 (.load 1 false 12), qI 14 (.bin .lss 13 (kI 0)), qI 15 (.mov 14), qF 16 15 (.faddr 0 4), qF 17 15 (.load 1 false 16), qF 18 15 (.mov 2), qF 19 15 (.len 18), qF 20 15 (.bin .geq 17 19), qI 21 (.pick 15 (.k (.bool true)) 20), qI 22 (.mov 21), qF 23 22 (.faddr 1 4), qF 24 22 (.load 1 false 23), qF 25 22 (.len 24), qF 26 22 (.bin .eql 25 (kI 0)), qI 27 (.pick 22 (.k (.bool true)) 26), qI 28 (.mov 27), qF 29 28 (.faddr 2 4), qF 30 28 (.load 1 false 29), qF 31 28 (.len 30), qF 32 28 (.faddr 1 4), qF 33 28 (.load 1 false 32), qF 34 28 (.len 33), qF 35 28 (.bin .add 34 (kI 1)), qF 36 28 (.bin .neq 31 35), qI 37 (.pick 28 (.k (.bool true)) 36)]
def r60_2:List Ins:=[qI 6 (.mov (.k (.bool false)))]
def r60_3:List Ins:=[qI 38 (.mov 2), qI 39 (.faddr 0 4), qI 40 (.load 1 false 39), qI 41 (.iaddr 2 38 40), qI 42 (.faddr 0 41), qI 43 (.load 1 false 42), qI 7 (.mov 43)]
def r60_4:List Ins:=[qI 44 (.faddr 1 4), qI 45 (.load 1 false 44), qI 46 (.len 45), qI 47 (.mov (kI 0))]
def r60_5:List Ins:=[qI 48 (.bin .lss 47 46)]
def r60_6:List Ins:=[qI 49 (.iaddr 1 45 47), qI 50 (.load 1 false 49), qI 9 (.mov 50)]
def r60_7:List Ins:=[qI 51 (.mov 9), qI 52 (.mov 7), qI 53 (.bin .leq 51 52), qI 54 (.mov 53), qF 55 54 (.mov 9), qF 56 54 (.mov 2), qF 57 54 (.faddr 0 4), qF 58 54 (.load 1 false 57), qF 59 54 (.iaddr 2 56 58), qF 60 54 (.faddr 1 59), qF 61 54 (.load 1 false 60), qF 62 54 (.bin .gtr 55 61), qI 63 (.pick 54 (.k (.bool true)) 62)]
def r60_8:List Ins:=[qI 6 (.mov (.k (.bool false)))]
def r60_9:List Ins:=[qI 64 (.mov 9), qI 7 (.mov 64)]
def r60_10:List Ins:=[qI 65 (.bin .add 47 (kI 1)), qI 47 (.mov 65)]
def r60_11:List Ins:=[qI 66 (.faddr 2 4), qI 67 (.load 1 false 66), qI 68 (.len 67), qI 69 (.mov (kI 0))]
def r60_12:List Ins:=[qI 70 (.bin .lss 69 68)]
def r60_13:List Ins:=[qI 71 (.mov 69), qI 72 (.iaddr 1 67 69), qI 73 (.load 1 false 72), qI 10 (.mov 71), qI 11 (.mov 73)]
def r60_14:List Ins:=[qI 74 (.load 2 true 3), qI 75 (.mov 11), qI 76 (.call (.fn 59) [74,75]), qI 77 (.un .not 76), qI 78 (.mov 77), qF 79 78 (.mov 10), qF 80 78 (.bin .gtr 79 (kI 0)), qF 81 78 (.mov 80), qT 82 81 (.mov 11), qT 83 81 (.faddr 2 4), qT 84 81 (.load 1 false 83), qT 85 81 (.mov 10), qT 86 81 (.bin .sub 85 (kI 1)), qT 87 81 (.iaddr 1 84 86), qT 88 81 (.load 1 false 87), qT 89 81 (.bin .eql 82 88), qF 90 78 (.pick 81 89 (.k (.bool false))), qI 91 (.pick 78 (.k (.bool true)) 90)]
def r60_15:List Ins:=[qI 6 (.mov (.k (.bool false)))]
def r60_16:List Ins:=[qI 92 (.mov 11), qI 93 (.bin .geq 92 (kI 0)), qI 94 (.mov 93), qT 95 94 (.faddr 0 3), qT 96 94 (.load 1 false 95), qT 97 94 (.mov 11), qT 98 94 (.iaddr 3 96 97), qT 99 94 (.faddr 0 98), qT 100 94 (.load 1 false 99), qT 101 94 (.faddr 0 4), qT 102 94 (.load 1 false 101), qT 103 94 (.bin .leq 100 102), qI 104 (.pick 94 103 (.k (.bool false)))]
def r60_17:List Ins:=[qI 6 (.mov (.k (.bool false)))]
def r60_18:List Ins:=[qI 105 (.bin .add 69 (kI 1)), qI 69 (.mov 105)]
def r60_19:List Ins:=[qI 6 (.mov (.k (.bool true)))]
def x60:XC:=(.seq (.ops false r60_0) (.seq (.seq (.ops false r60_1) (.cond (.t 37) (.seq (.ops false r60_2) .ret) .skip)) (.seq (.ops false r60_3) (.seq (.seq (.ops false r60_4) (.block 0 (.loop [] ⟨106,[(2,(.list tS3)),(7,(.int .i64)),(45,(.list (.int .i64))),(46,(.int .i64)),(47,(.int .i64))],[(3,.ptr 0 0 0),(4,.ptr 1 0 0)],[.box 28 [.d (.list tS1),.d (.int .i64)],.box 70 [.d (.int .i64),.d (.list (.int .i64)),.d (.list (.int .i64))]]⟩ (.seq (.ops false r60_5) (.seq (.cond (.t 48) .skip (.exit 0)) (.seq (.block 1 (.seq (.ops false r60_6) (.seq (.seq (.ops false r60_7) (.cond (.t 63) (.seq (.ops false r60_8) .ret) .skip)) (.ops false r60_9)))) (.ops false r60_10))))))) (.seq (.seq (.ops false r60_11) (.block 2 (.loop [] ⟨106,[(67,(.list (.int .i64))),(68,(.int .i64)),(69,(.int .i64))],[(3,.ptr 0 0 0),(4,.ptr 1 0 0)],[.box 28 [.d (.list tS1),.d (.int .i64)],.box 70 [.d (.int .i64),.d (.list (.int .i64)),.d (.list (.int .i64))]]⟩ (.seq (.ops false r60_12) (.seq (.cond (.t 70) .skip (.exit 2)) (.seq (.block 3 (.seq (.ops false r60_13) (.seq (.seq (.ops false r60_14) (.cond (.t 91) (.seq (.ops false r60_15) .ret) .skip)) (.seq (.ops true r60_16) (.cond (.t 104) (.seq (.ops false r60_17) .ret) .skip))))) (.ops false r60_18))))))) (.seq (.ops false r60_19) .ret))))))
theorem F60:Fn Tryd.prog 60 106 x60.er [.t 6]:=⟨Tryd.f60,hcl,Tryd.func60,by kernel_rfl,by kernel_rfl,by kernel_rfl,by kernel_rfl⟩
noncomputable def m60 (a0:DS2) (a1:DS1) (a2:List DS3):Option (Bool × Unit) :=
 cond (cond (cond (cond (iLt a1.1 0) true (iLe (lenI a2) a1.1)) true (iEq (lenI a1.2.1) 0)) true (iNe (lenI a1.2.2.1) (iAdd .i64 (lenI a1.2.1) 1)))
 (some (false,()))
 (cond (bnd a1.1 (lenI a2))
 (loopO (S:=(List DS3) × Int × (List Int) × Int × Int × (List DS1) × Int × Int × (List Int) × (List Int) × Unit) (R:=Bool × Unit) (fun s69 =>
 cond (iLt s69.2.2.2.2.1 s69.2.2.2.1)
 (cond (bnd s69.2.2.2.2.1 (lenI s69.2.2.1))
 (cond (or (bnd s69.2.2.2.2.2.2.2.1 (lenI s69.1)) (not (bEq (iLe (atI s69.2.2.1 s69.2.2.2.2.1 0) s69.2.1) false)))
 (cond (cond (iLe (atI s69.2.2.1 s69.2.2.2.2.1 0) s69.2.1) true (iLt ((atI s69.1 s69.2.2.2.2.2.2.2.1 (0,0,())).2.1) (atI s69.2.2.1 s69.2.2.2.2.1 0)))
 (some (.inr (false,())))
 (some (.inl (s69.1,atI s69.2.2.1 s69.2.2.2.2.1 0,s69.2.2.1,s69.2.2.2.1,iAdd .i64 s69.2.2.2.2.1 1,s69.2.2.2.2.2.1,s69.2.2.2.2.2.2.1,s69.2.2.2.2.2.2.2.1,s69.2.2.2.2.2.2.2.2.1,s69.2.2.2.2.2.2.2.2.2.1,())))) none) none)
 (Option.map Sum.inr (loopO (S:=(List Int) × Int × Int × (List DS1) × Int × Int × (List Int) × (List Int) × Unit) (R:=Bool × Unit) (fun s70 =>
 cond (iLt s70.2.2.1 s70.2.1)
 (cond (bnd s70.2.2.1 (lenI s70.1))
 ((m59 (s70.2.2.2.1,s70.2.2.2.2.1,()) (atI s70.1 s70.2.2.1 0)).bind fun y71 =>
 cond (not y71.1)
 (some (.inr (false,())))
 (cond (or (bnd (iSub .i64 s70.2.2.1 1) (lenI s70.2.2.2.2.2.2.2.1)) (not (bEq (iLt 0 s70.2.2.1) true)))
 (cond (cond (iLt 0 s70.2.2.1) (iEq (atI s70.1 s70.2.2.1 0) (atI s70.2.2.2.2.2.2.2.1 (iSub .i64 s70.2.2.1 1) 0)) false)
 (some (.inr (false,())))
 (cond (or (bnd (atI s70.1 s70.2.2.1 0) (lenI s70.2.2.2.1)) (not (bEq (iLe 0 (atI s70.1 s70.2.2.1 0)) true)))
 (cond (cond (iLe 0 (atI s70.1 s70.2.2.1 0)) (iLe ((atI s70.2.2.2.1 (atI s70.1 s70.2.2.1 0) (0,[],[],())).1) s70.2.2.2.2.2.1) false)
 (some (.inr (false,())))
 (some (.inl (s70.1,s70.2.1,iAdd .i64 s70.2.2.1 1,s70.2.2.2.1,s70.2.2.2.2.1,s70.2.2.2.2.2.1,s70.2.2.2.2.2.2.1,s70.2.2.2.2.2.2.2.1,())))) none)) none)) none)
 (some (.inr (true,()))))
 (s69.2.2.2.2.2.2.2.2.2.1,lenI s69.2.2.2.2.2.2.2.2.2.1,0,s69.2.2.2.2.2.1,s69.2.2.2.2.2.2.1,s69.2.2.2.2.2.2.2.1,s69.2.2.2.2.2.2.2.2.1,s69.2.2.2.2.2.2.2.2.2.1,()))))
 (a2,(atI a2 a1.1 (0,0,())).1,a1.2.1,lenI a1.2.1,0,a0.1,a0.2.1,a1.1,a1.2.1,a1.2.2.1,())) none)
noncomputable def cfg60:Cfg:=⟨ttab,gtab,[i59],[]⟩
theorem eqn60 (x:DS2 × DS1 × (List DS3) × Unit):xfun cfg60 x60 106 [.t 6] [tS2,tS1,(.list tS3)] [.bool] x=m60 x.1 x.2.1 x.2.2.1:=by kernel_rfl
noncomputable def i60:PI:=⟨60,[tS2,tS1,(.list tS3)],[.bool],fun (x:DS2 × DS1 × (List DS3) × Unit)=>m60 x.1 x.2.1 x.2.2.1⟩
theorem oki60:POk Tryd.prog (gx gtab) i60:=pok mixed (cfg_p oki59 (cfg_nil _ _):CfgOk _ (cfg60)) F60 (eqn60)
def r62_0:List Ins:=[qI 3 (.box 28 2 0), qI 6 (.mov (kI 0)), qI 7 (.mov (.k (.bool false)))]
def r62_1:List Ins:=[qI 11 (.mov 1), qI 12 (.mov 2), qI 13 (.bin .lss 11 12)]
def r62_2:List Ins:=[qI 14 (.mov 2), qI 6 (.mov 14), qI 7 (.mov (.k (.bool true)))]
def r62_3:List Ins:=[qI 15 (.mov 1), qI 16 (.mov 2), qI 17 (.bin .gtr 15 16)]
def r62_4:List Ins:=[qI 18 (.mov 2), qI 6 (.mov 18), qI 7 (.mov (.k (.bool false)))]
def r62_5:List Ins:=[qI 19 (.mov 2), qI 20 (.bin .add 19 (kI 1)), qI 2 (.mov 20)]
def r62_6:List Ins:=[qI 21 (.faddr 0 3), qI 22 (.load 1 false 21), qI 23 (.mov 1), qI 24 (.iaddr 3 22 23), qI 25 (.faddr 2 24), qI 26 (.load 1 false 25), qI 27 (.len 26), qI 28 (.mov (kI 0))]
def r62_7:List Ins:=[qI 29 (.bin .lss 28 27)]
def r62_8:List Ins:=[qI 30 (.iaddr 1 26 28), qI 31 (.load 1 false 30), qI 9 (.mov 31)]
def r62_9:List Ins:=[qI 10 (.mov (.k (.bool false)))]
def r62_10:List Ins:=[qI 33 (.load 2 true 3), qI 34 (.mov 9), qI 35 (.mov 2), qI 36 (.call (.fn 62) [33,34,35]), qI 32 (.mov 36), qI 37 (.ext 0 32), qI 38 (.ext 1 32), qI 2 (.mov 37), qI 10 (.mov 38)]
def r62_11:List Ins:=[qI 39 (.mov 10), qI 40 (.un .not 39)]
def r62_12:List Ins:=[qI 41 (.mov 2), qI 6 (.mov 41), qI 7 (.mov (.k (.bool false)))]
def r62_13:List Ins:=[qI 42 (.bin .add 28 (kI 1)), qI 28 (.mov 42)]
def r62_14:List Ins:=[qI 43 (.mov 2), qI 6 (.mov 43), qI 7 (.mov (.k (.bool true)))]
def x62:XC:=(.seq (.ops false r62_0) (.seq (.seq (.ops false r62_1) (.cond (.t 13) (.seq (.ops false r62_2) .ret) .skip)) (.seq (.seq (.ops false r62_3) (.cond (.t 17) (.seq (.ops false r62_4) .ret) .skip)) (.seq (.ops false r62_5) (.seq (.seq (.ops false r62_6) (.block 0 (.loop [] ⟨44,[(2,(.int .i64)),(26,(.list (.int .i64))),(27,(.int .i64)),(28,(.int .i64))],[(3,.ptr 0 0 0)],[.box 28 [.d (.list tS1),.d (.int .i64)]]⟩ (.seq (.ops false r62_7) (.seq (.cond (.t 29) .skip (.exit 0)) (.seq (.block 1 (.seq (.ops false r62_8) (.seq (.ops false r62_9) (.seq (.ops false r62_10) (.seq (.ops false r62_11) (.cond (.t 40) (.seq (.ops false r62_12) .ret) .skip)))))) (.ops false r62_13))))))) (.seq (.ops false r62_14) .ret))))))
theorem F62:Fn Tryd.prog 62 44 x62.er [.t 6,.t 7]:=⟨Tryd.f62,hcl,Tryd.func62,by kernel_rfl,by kernel_rfl,by kernel_rfl,by kernel_rfl⟩
noncomputable def mb62 (self:(DS2 × Int × Int × Unit)→Option (Int × Bool × Unit)) (a0:DS2) (a1:Int) (a2:Int):Option (Int × Bool × Unit) :=
 cond (iLt a1 a2)
 (some (a2,true,()))
 (cond (iLt a2 a1)
 (some (a2,false,()))
 (cond (bnd a1 (lenI a0.1))
 (loopO (S:=Int × (List Int) × Int × Int × (List DS1) × Int × Unit) (R:=Int × Bool × Unit) (fun s76 =>
 cond (iLt s76.2.2.2.1 s76.2.2.1)
 (cond (bnd s76.2.2.2.1 (lenI s76.2.1))
 ((self ((s76.2.2.2.2.1,s76.2.2.2.2.2.1,()),atI s76.2.1 s76.2.2.2.1 0,s76.1,())).bind fun y77 =>
 cond (not y77.2.1)
 (some (.inr (y77.1,false,())))
 (some (.inl (y77.1,s76.2.1,s76.2.2.1,iAdd .i64 s76.2.2.2.1 1,s76.2.2.2.2.1,s76.2.2.2.2.2.1,())))) none)
 (some (.inr (s76.1,true,()))))
 (iAdd .i64 a2 1,(atI a0.1 a1 (0,[],[],())).2.2.1,lenI ((atI a0.1 a1 (0,[],[],())).2.2.1),0,a0.1,a0.2.1,())) none))
noncomputable def cfg62 (self:(DS2 × Int × Int × Unit)→Option (Int × Bool × Unit)):Cfg:=⟨ttab,gtab,[⟨62,[tS2,(.int .i64),(.int .i64)],[(.int .i64),.bool],self⟩],[]⟩
theorem eqn62 (self:(DS2 × Int × Int × Unit)→Option (Int × Bool × Unit)) (x:DS2 × Int × Int × Unit):xfun (cfg62 self) x62 44 [.t 6,.t 7] [tS2,(.int .i64),(.int .i64)] [(.int .i64),.bool] x=mb62 self x.1 x.2.1 x.2.2.1:=by kernel_rfl
noncomputable def m62 (a0:DS2) (a1:Int) (a2:Int):Option (Int × Bool × Unit):=fixO (fun self (x:DS2 × Int × Int × Unit)=>mb62 self x.1 x.2.1 x.2.2.1) (a0,a1,a2,())
noncomputable def i62:PI:=⟨62,[tS2,(.int .i64),(.int .i64)],[(.int .i64),.bool],fun (x:DS2 × Int × Int × Unit)=>m62 x.1 x.2.1 x.2.2.1⟩
theorem oki62:POk Tryd.prog (gx gtab) i62:=pok_fix (f:=62) (ps:=[tS2,(.int .i64),(.int .i64)]) (rs:=[(.int .i64),.bool]) (G:=fun self (x:DS2 × Int × Int × Unit)=>mb62 self x.1 x.2.1 x.2.2.1) F62.callable (fun run hr=>pok mixed (cfg_p hr (cfg_nil _ _):CfgOk _ (cfg62 run)) F62 (eqn62 run))
def r31_0:List Ins:=[qI 2 (.box 24 1 0), qI 3 (.box 28 2 1), qI 4 (.mov (.k (.bool false)))]
def r31_1:List Ins:=[qI 12 (.load 1 true 2), qI 13 (.call (.fn 38) [12]), qI 14 (.bin .neq 13 (kI 0)), qI 15 (.mov 14), qF 16 15 (.faddr 0 3), qF 17 15 (.load 1 false 16), qF 18 15 (.len 17), qF 19 15 (.bin .gtr 18 (kI 1000)), qI 20 (.pick 15 (.k (.bool true)) 19), qI 21 (.mov 20), qF 22 21 (.load 2 true 3), qF 23 21 (.faddr 1 3), qF 24 21 (.load 1 false 23), qF 25 21 (.call (.fn 59) [22,24]), qF 26 21 (.un .not 25), qI 27 (.pick 21 (.k (.bool true)) 26)]
def r31_2:List Ins:=[qI 4 (.mov (.k (.bool false)))]
def r31_3:List Ins:=[qI 28 (.load 1 true 2), qI 29 (.call (.fn 50) [28]), qI 5 (.mov 29)]
def r31_4:List Ins:=[qI 30 (.faddr 0 3), qI 31 (.load 1 false 30), qI 32 (.len 31), qI 33 (.mmk 95 (some 32)), qI 6 (.mov 33)]
def r31_5:List Ins:=[qI 34 (.faddr 0 3), qI 35 (.load 1 false 34), qI 36 (.len 35), qI 37 (.mov (kI 0))]
def r31_6:List Ins:=[qI 38 (.bin .lss 37 36)]
def r31_7:List Ins:=[qI 39 (.iaddr 3 35 37), qI 40 (.load 3 true 39), qI 8 (.alloc 70 (.agg #[.int .i64 0,.slice none 0 0,.slice none 0 0])), qN (.store 3 8 40)]
def r31_8:List Ins:=[qI 41 (.load 2 true 3), qI 42 (.load 3 true 8), qI 43 (.mov 5), qI 44 (.call (.fn 60) [41,42,43]), qI 45 (.un .not 44)]
def r31_9:List Ins:=[qI 4 (.mov (.k (.bool false)))]
def r31_10:List Ins:=[qI 46 (.faddr 0 8), qI 47 (.load 1 false 46), qI 48 (.faddr 1 8), qI 49 (.load 1 false 48), qI 50 (.faddr 2 8), qI 51 (.load 1 false 50), qI 52 (.call (.fn 61) [47,49,51]), qI 9 (.mov 52)]
def r31_11:List Ins:=[qI 53 (.mov 6), qI 54 (.mov 9), qI 55 (.mget (.str) false (.bool false) 53 54)]
def r31_12:List Ins:=[qI 4 (.mov (.k (.bool false)))]
def r31_13:List Ins:=[qI 56 (.mov 6), qI 57 (.mov 9), qN (.mput (.str) 56 57 (.k (.bool true)))]
def r31_14:List Ins:=[qI 58 (.bin .add 37 (kI 1)), qI 37 (.mov 58)]
def r31_15:List Ins:=[qI 60 (.load 2 true 3), qI 61 (.faddr 1 3), qI 62 (.load 1 false 61), qI 63 (.call (.fn 62) [60,62,(kI 0)]), qI 59 (.mov 63), qI 64 (.ext 0 59), qI 65 (.ext 1 59), qI 10 (.mov 64), qI 11 (.mov 65)]
def r31_16:List Ins:=[qI 66 (.mov 11), qI 67 (.mov 66), qT 68 67 (.mov 10), qT 69 67 (.faddr 0 3), qT 70 67 (.load 1 false 69), qT 71 67 (.len 70), qT 72 67 (.bin .eql 68 71), qI 73 (.pick 67 72 (.k (.bool false))), qI 4 (.mov 73)]
def x31:XC:=(.seq (.ops false r31_0) (.seq (.seq (.ops false r31_1) (.cond (.t 27) (.seq (.ops false r31_2) .ret) .skip)) (.seq (.ops false r31_3) (.seq (.ops false r31_4) (.seq (.seq (.ops false r31_5) (.block 0 (.loop [] ⟨74,[(5,(.list tS3)),(35,(.list tS1)),(36,(.int .i64)),(37,(.int .i64))],[(3,.ptr 0 0 0),(6,.mp 1)],[.box 28 [.d (.list tS1),.d (.int .i64)],.map 95 .str .bool]⟩ (.seq (.ops false r31_6) (.seq (.cond (.t 38) .skip (.exit 0)) (.seq (.block 1 (.seq (.ops false r31_7) (.seq (.seq (.ops false r31_8) (.cond (.t 45) (.seq (.ops false r31_9) .ret) .skip)) (.seq (.ops false r31_10) (.seq (.seq (.ops false r31_11) (.cond (.t 55) (.seq (.ops false r31_12) .ret) .skip)) (.ops false r31_13)))))) (.ops false r31_14))))))) (.seq (.ops false r31_15) (.seq (.ops false r31_16) .ret)))))))
theorem F31:Fn Tryd.prog 31 74 x31.er [.t 4]:=⟨Tryd.f31,hcl,Tryd.func31,by kernel_rfl,by kernel_rfl,by kernel_rfl,by kernel_rfl⟩
noncomputable def m31 (a0:DS5) (a1:DS2):Option (Bool × Unit) :=
 (m38 (a0.1,())).bind fun y79 =>
 cond (cond (iNe y79.1 0) true (iLt 1000 (lenI a1.1)))
 (some (false,()))
 ((m59 (a1.1,a1.2.1,()) a1.2.1).bind fun y80 =>
 cond (not y80.1)
 (some (false,()))
 ((m50 (a0.1,())).bind fun y81 =>
 loopO (S:=(List DS3) × (List DS1) × Int × Int × (List DS1) × Int × (List DS4) × Unit) (R:=Bool × Unit) (fun s82 =>
 cond (iLt s82.2.2.2.1 s82.2.2.1)
 (cond (bnd s82.2.2.2.1 (lenI s82.2.1))
 ((m60 (s82.2.2.2.2.1,s82.2.2.2.2.2.1,()) ((atI s82.2.1 s82.2.2.2.1 (0,[],[],())).1,(atI s82.2.1 s82.2.2.2.1 (0,[],[],())).2.1,(atI s82.2.1 s82.2.2.2.1 (0,[],[],())).2.2.1,()) s82.1).bind fun y83 =>
 cond (not y83.1)
 (some (.inr (false,())))
 ((mKey ((atI s82.2.1 s82.2.2.2.1 (0,[],[],())).1) ((atI s82.2.1 s82.2.2.2.1 (0,[],[],())).2.1) ((atI s82.2.1 s82.2.2.2.1 (0,[],[],())).2.2.1)).bind fun y84 =>
 cond (mapG sEq y84.1 s82.2.2.2.2.2.2.1 false)
 (some (.inr (false,())))
 (some (.inl (s82.1,s82.2.1,s82.2.2.1,iAdd .i64 s82.2.2.2.1 1,s82.2.2.2.2.1,s82.2.2.2.2.2.1,mapP sEq y84.1 true s82.2.2.2.2.2.2.1,()))))) none)
 (Option.map Sum.inr ((m62 (s82.2.2.2.2.1,s82.2.2.2.2.2.1,()) s82.2.2.2.2.2.1 0).bind fun y85 =>
 some (cond y85.2.1 (iEq y85.1 (lenI s82.2.2.2.2.1)) false,()))))
 (y81.1,a1.1,lenI a1.1,0,a1.1,a1.2.1,([]:List DS4),())))
noncomputable def cfg31:Cfg:=⟨ttab,gtab,[i38,i50,i59,i60,i62,iKey],[]⟩
theorem eqn31 (x:DS5 × DS2 × Unit):xfun cfg31 x31 74 [.t 4] [tS5,tS2] [.bool] x=m31 x.1 x.2.1:=by kernel_rfl
noncomputable def i31:PI:=⟨31,[tS5,tS2],[.bool],fun (x:DS5 × DS2 × Unit)=>m31 x.1 x.2.1⟩
theorem oki31:POk Tryd.prog (gx gtab) i31:=pok mixed (cfg_p oki38 (cfg_p oki50 (cfg_p oki59 (cfg_p oki60 (cfg_p oki62 (cfg_p okiKey (cfg_nil _ _)))))):CfgOk _ (cfg31)) F31 (eqn31)
def r72_0:List Ins:=[qI 2 (.mov (kI 0))]
def r72_1:List Ins:=[qI 3 (.mov 0), qI 4 (.bin .sub (.k (.int .i64 (-1))) 3), qI 2 (.mov 4)]
def x72:XC:=(.seq (.ops false r72_0) (.seq (.ops false r72_1) .ret))
theorem F72:Fn Tryd.prog 72 5 x72.er [.t 2]:=⟨Tryd.f72,hcl,Tryd.func72,by kernel_rfl,by kernel_rfl,by kernel_rfl,by kernel_rfl⟩
noncomputable def m72 (a0:Int):Option (Int × Unit) :=
 some (iSub .i64 (-1) a0,())
noncomputable def cfg72:Cfg:=⟨ttab,gtab,[],[]⟩
theorem eqn72 (x:Int × Unit):xfun cfg72 x72 5 [.t 2] [(.int .i64)] [(.int .i64)] x=m72 x.1:=by kernel_rfl
noncomputable def i72:PI:=⟨72,[(.int .i64)],[(.int .i64)],fun (x:Int × Unit)=>m72 x.1⟩
theorem oki72:POk Tryd.prog (gx gtab) i72:=pok mixed (cfg_nil _ _:CfgOk _ (cfg72)) F72 (eqn72)
def r82_0:List Ins:=[qI 4 (.mov (kI 0))]
def r82_1:List Ins:=[qI 5 (.mov 0), qI 6 (.bin .gtr 5 (kI 0)), qI 7 (.mov 6), qT 8 7 (.mov 1), qT 9 7 (.mov 0), qT 10 7 (.bin .quo (kI 17592186044416) 9), qT 11 7 (.bin .gtr 8 10), qI 12 (.pick 7 11 (.k (.bool false)))]
def r82_2:List Ins:=[qI 4 (.mov (kI 17592186044416))]
def r82_3:List Ins:=[qI 13 (.mov 0), qI 14 (.mov 1), qI 15 (.bin .mul 13 14), qI 4 (.mov 15)]
def x82:XC:=(.seq (.ops false r82_0) (.seq (.seq (.ops false r82_1) (.cond (.t 12) (.seq (.ops false r82_2) .ret) .skip)) (.seq (.ops false r82_3) .ret)))
theorem F82:Fn Tryd.prog 82 16 x82.er [.t 4]:=⟨Tryd.f82,hcl,Tryd.func82,by kernel_rfl,by kernel_rfl,by kernel_rfl,by kernel_rfl⟩
noncomputable def m82 (a0:Int) (a1:Int):Option (Int × Unit) :=
 cond (or (iNe a0 0) (not (bEq (iLt 0 a0) true)))
 (cond (cond (iLt 0 a0) (iLt (iQuo .i64 17592186044416 a0) a1) false)
 (some (17592186044416,()))
 (some (iMul .i64 a0 a1,()))) none
noncomputable def cfg82:Cfg:=⟨ttab,gtab,[],[]⟩
theorem eqn82 (x:Int × Int × Unit):xfun cfg82 x82 16 [.t 4] [(.int .i64),(.int .i64)] [(.int .i64)] x=m82 x.1 x.2.1:=by kernel_rfl
noncomputable def i82:PI:=⟨82,[(.int .i64),(.int .i64)],[(.int .i64)],fun (x:Int × Int × Unit)=>m82 x.1 x.2.1⟩
theorem oki82:POk Tryd.prog (gx gtab) i82:=pok mixed (cfg_nil _ _:CfgOk _ (cfg82)) F82 (eqn82)
def r81_0:List Ins:=[qI 8 (.mov (kI 0))]
def r81_1:List Ins:=[qI 11 (.mov 0), qI 12 (.nck 11), qI 13 (.faddr 1 12), qI 14 (.load 1 false 13), qI 15 (.mov 2), qI 16 (.mov 3), qI 17 (.slice 2 14 (some 15) (some 16)), qI 18 (.len 17), qI 19 (.mov (kI 0))]
def r81_2:List Ins:=[qI 20 (.bin .lss 19 18)]
def r81_3:List Ins:=[qI 21 (.iaddr 2 17 19), qI 22 (.load 2 true 21), qI 10 (.alloc 86 (.agg #[.int .i64 0,.int .i64 0])), qN (.store 2 10 22)]
def r81_4:List Ins:=[qI 23 (.mov 1), qI 24 (.faddr 1 10), qI 25 (.load 1 false 24), qI 26 (.faddr 0 10), qI 27 (.load 1 false 26), qI 28 (.bin .sub 25 27), qI 29 (.bin .add 28 (kI 1)), qI 30 (.call (.fn 82) [23,29]), qI 1 (.mov 30)]
def r81_5:List Ins:=[qI 31 (.bin .add 19 (kI 1)), qI 19 (.mov 31)]
def r81_6:List Ins:=[qI 32 (.mov 1), qI 8 (.mov 32)]
def x81:XC:=(.seq (.ops false r81_0) (.seq (.seq (.ops false r81_1) (.block 0 (.loop [] ⟨33,[(1,(.int .i64)),(17,(.list tS3)),(18,(.int .i64)),(19,(.int .i64))],[],[.box 84 [.d (.list tS1),.d (.list tS3),.d (.int .i64),.mp 1],.map 82 (.int .i64) (.int .i64)]⟩ (.seq (.ops false r81_2) (.seq (.cond (.t 20) .skip (.exit 0)) (.seq (.block 1 (.seq (.ops false r81_3) (.ops false r81_4))) (.ops false r81_5))))))) (.seq (.ops false r81_6) .ret)))
theorem F81:Fn Tryd.prog 81 33 x81.er [.t 8]:=⟨Tryd.f81,hcl,Tryd.func81,by kernel_rfl,by kernel_rfl,by kernel_rfl,by kernel_rfl⟩
noncomputable def m81 (a0:Int) (a1:Int) (a2:Int) (a3:List DS1) (a4:List DS3) (a5:Int) (a6:List DS3):Option (Int × (List DS1) × (List DS3) × Int × (List DS3) × Unit) :=
 cond (cutOk a1 a2 (List.length a4))
 (loopO (S:=Int × (List DS3) × Int × Int × (List DS1) × (List DS3) × Int × (List DS3) × Unit) (R:=Int × (List DS1) × (List DS3) × Int × (List DS3) × Unit) (fun s91 =>
 cond (iLt s91.2.2.2.1 s91.2.2.1)
 (cond (bnd s91.2.2.2.1 (lenI s91.2.1))
 ((m82 s91.1 (iAdd .i64 (iSub .i64 ((atI s91.2.1 s91.2.2.2.1 (0,0,())).2.1) ((atI s91.2.1 s91.2.2.2.1 (0,0,())).1)) 1)).bind fun y92 =>
 some (.inl (y92.1,s91.2.1,s91.2.2.1,iAdd .i64 s91.2.2.2.1 1,s91.2.2.2.2.1,s91.2.2.2.2.2.1,s91.2.2.2.2.2.2.1,s91.2.2.2.2.2.2.2.1,()))) none)
 (some (.inr (s91.1,s91.2.2.2.2.1,s91.2.2.2.2.2.1,s91.2.2.2.2.2.2.1,s91.2.2.2.2.2.2.2.1,()))))
 (a0,cutL a1 a2 a4,lenI (cutL a1 a2 a4),0,a3,a4,a5,a6,())) none
noncomputable def cfg81:Cfg:=⟨ttab,gtab,[i82],[]⟩
def ish81:Sh:=⟨4,[(1,(.int .i64)),(2,(.int .i64)),(3,(.int .i64))],[(0,.ptr 0 0 0)],[.box 84 [.d (.list tS1),.d (.list tS3),.d (.int .i64),.mp 1],.map 82 (.int .i64) (.int .i64)]⟩
def osh81:Sh:=⟨1,[(0,(.int .i64))],[],[.box 84 [.d (.list tS1),.d (.list tS3),.d (.int .i64),.mp 1],.map 82 (.int .i64) (.int .i64)]⟩
theorem eqn81 (x:Int × Int × Int × (List DS1) × (List DS3) × Int × (List DS3) × Unit):xfunH cfg81 x81 33 [.t 8] [] ish81 osh81 x=m81 x.1 x.2.1 x.2.2.1 x.2.2.2.1 x.2.2.2.2.1 x.2.2.2.2.2.1 x.2.2.2.2.2.2.1:=by kernel_rfl
noncomputable def h81:HI:=⟨81,ish81,osh81,fun (x:Int × Int × Int × (List DS1) × (List DS3) × Int × (List DS3) × Unit)=>m81 x.1 x.2.1 x.2.2.1 x.2.2.2.1 x.2.2.2.2.1 x.2.2.2.2.2.1 x.2.2.2.2.2.2.1,[]⟩
theorem okh81:HOk Tryd.prog (gx gtab) h81:=hok mixed (cfg_p oki82 (cfg_nil _ _):CfgOk _ (cfg81)) F81 (eqn81)
def r51_0:List Ins:=[qI 6 (.mov (kI 0))]
def r51_1:List Ins:=[qI 14 (.mov 1), qI 15 (.bin .lss 14 (kI 0))]
def r51_2:List Ins:=[qI 16 (.mov 1), qI 17 (.call (.fn 72) [16]), qI 18 (.mov 0), qI 19 (.nck 18), qI 20 (.faddr 2 19), qI 21 (.load 1 false 20), qI 22 (.bin .neq 17 21)]
def r51_3:List Ins:=[qI 6 (.mov (kI 0))]
def r51_4:List Ins:=[qI 23 (.mov 0), qI 24 (.mov 2), qI 25 (.mov 0), qI 26 (.nck 25), qI 27 (.faddr 1 26), qI 28 (.load 1 false 27), qI 29 (.len 28), qI 30 (.call (.fn 81) [23,(kI 1),24,29]), qI 6 (.mov 30)]
def r51_5:List Ins:=[qI 31 (.mov 0), qI 32 (.nck 31), qI 33 (.faddr 0 32), qI 34 (.load 1 false 33), qI 35 (.mov 1), qI 36 (.iaddr 3 34 35), qI 37 (.load 3 true 36), qI 7 (.alloc 70 (.agg #[.int .i64 0,.slice none 0 0,.slice none 0 0])), qN (.store 3 7 37)]
def r51_6:List Ins:=[qI 39 (.mov 0), qI 40 (.nck 39), qI 41 (.faddr 3 40), qI 42 (.load 1 false 41), qI 43 (.mov 1), qI 44 (.mget (.int .i64) true (.int .i64 0) 42 43), qI 38 (.mov 44), qI 45 (.ext 0 38), qI 46 (.ext 1 38), qI 8 (.mov 45), qI 9 (.mov 46)]
def r51_7:List Ins:=[qI 47 (.mov 9), qI 48 (.un .not 47)]
def r51_8:List Ins:=[qI 49 (.mov 0), qI 50 (.nck 49), qI 51 (.faddr 1 50), qI 52 (.load 1 false 51), qI 53 (.faddr 0 7), qI 54 (.load 1 false 53), qI 55 (.iaddr 2 52 54), qI 56 (.faddr 0 55), qI 57 (.load 1 false 56), qI 10 (.mov 57)]
def r51_9:List Ins:=[qI 58 (.faddr 2 7), qI 59 (.load 1 false 58), qI 60 (.len 59), qI 61 (.mov (kI 0))]
def r51_10:List Ins:=[qI 62 (.bin .lss 61 60)]
def r51_11:List Ins:=[qI 63 (.mov 61), qI 64 (.iaddr 1 59 61), qI 65 (.load 1 false 64), qI 11 (.mov 63), qI 12 (.mov 65)]
def r51_12:List Ins:=[qI 66 (.mov 0), qI 67 (.nck 66), qI 68 (.faddr 1 67), qI 69 (.load 1 false 68), qI 70 (.faddr 0 7), qI 71 (.load 1 false 70), qI 72 (.iaddr 2 69 71), qI 73 (.faddr 1 72), qI 74 (.load 1 false 73), qI 75 (.bin .add 74 (kI 1)), qI 13 (.mov 75)]
def r51_13:List Ins:=[qI 76 (.mov 11), qI 77 (.faddr 1 7), qI 78 (.load 1 false 77), qI 79 (.len 78), qI 80 (.bin .lss 76 79)]
def r51_14:List Ins:=[qI 81 (.faddr 1 7), qI 82 (.load 1 false 81), qI 83 (.mov 11), qI 84 (.iaddr 1 82 83), qI 85 (.load 1 false 84), qI 13 (.mov 85)]
def r51_15:List Ins:=[qI 86 (.mov 8), qI 87 (.mov 0), qI 88 (.mov 12), qI 89 (.faddr 0 7), qI 90 (.load 1 false 89), qI 91 (.bin .add 90 (kI 1)), qI 92 (.call (.fn 51) [87,88,91]), qI 93 (.mov 13), qI 94 (.mov 10), qI 95 (.bin .sub 93 94), qI 96 (.call (.fn 82) [92,95]), qI 97 (.bin .add 86 96), qI 98 (.min2 97 (kI 17592186044416)), qI 8 (.mov 98)]
def r51_16:List Ins:=[qI 99 (.mov 13), qI 10 (.mov 99)]
def r51_17:List Ins:=[qI 100 (.bin .add 61 (kI 1)), qI 61 (.mov 100)]
def r51_18:List Ins:=[qI 101 (.mov 0), qI 102 (.nck 101), qI 103 (.faddr 3 102), qI 104 (.load 1 false 103), qI 105 (.mov 1), qI 106 (.mov 8), qN (.mput (.int .i64) 104 105 106)]
def r51_19:List Ins:=[qI 107 (.mov 0), qI 108 (.mov 8), qI 109 (.mov 2), qI 110 (.faddr 0 7), qI 111 (.load 1 false 110), qI 112 (.call (.fn 81) [107,108,109,111]), qI 6 (.mov 112)]
def x51:XC:=(.seq (.ops false r51_0) (.seq (.seq (.ops false r51_1) (.cond (.t 15) (.seq (.seq (.ops true r51_2) (.cond (.t 22) (.seq (.ops false r51_3) .ret) .skip)) (.seq (.ops false r51_4) .ret)) .skip)) (.seq (.ops false r51_5) (.seq (.ops false r51_6) (.seq (.seq (.ops false r51_7) (.cond (.t 48) (.seq (.ops true r51_8) (.seq (.seq (.ops false r51_9) (.block 0 (.loop [] ⟨113,[(1,(.int .i64)),(2,(.int .i64)),(8,(.int .i64)),(10,(.int .i64)),(59,(.list (.int .i64))),(60,(.int .i64)),(61,(.int .i64))],[(0,.ptr 0 0 0),(7,.ptr 2 0 0)],[.box 84 [.d (.list tS1),.d (.list tS3),.d (.int .i64),.mp 1],.map 82 (.int .i64) (.int .i64),.box 70 [.d (.int .i64),.d (.list (.int .i64)),.d (.list (.int .i64))]]⟩ (.seq (.ops false r51_10) (.seq (.cond (.t 62) .skip (.exit 0)) (.seq (.block 1 (.seq (.ops false r51_11) (.seq (.ops true r51_12) (.seq (.seq (.ops false r51_13) (.cond (.t 80) (.ops false r51_14) .skip)) (.seq (.ops false r51_15) (.ops false r51_16)))))) (.ops false r51_17))))))) (.ops false r51_18))) .skip)) (.seq (.ops false r51_19) .ret))))))
theorem F51:Fn Tryd.prog 51 113 x51.er [.t 6]:=⟨Tryd.f51,hcl,Tryd.func51,by kernel_rfl,by kernel_rfl,by kernel_rfl,by kernel_rfl⟩
noncomputable def mb51 (self:(Int × Int × (List DS1) × (List DS3) × Int × (List DS3) × Unit)→Option (Int × (List DS1) × (List DS3) × Int × (List DS3) × Unit)) (a0:Int) (a1:Int) (a2:List DS1) (a3:List DS3) (a4:Int) (a5:List DS3):Option (Int × (List DS1) × (List DS3) × Int × (List DS3) × Unit) :=
 cond (iLt a0 0)
 ((m72 a0).bind fun y101 =>
 cond (iNe y101.1 a4)
 (some (0,a2,a3,a4,a5,()))
 ((m81 1 a1 (lenI a3) a2 a3 a4 a5).bind fun y102 =>
 some (y102.1,y102.2.1,y102.2.2.1,y102.2.2.2.1,y102.2.2.2.2.1,())))
 (cond (bnd a0 (lenI a2))
 (cond (not (mapH iEq a0 a5))
 (cond (bnd ((atI a2 a0 (0,[],[],())).1) (lenI a3))
 (loopO (S:=Int × Int × Int × Int × (List Int) × Int × Int × (List DS1) × (List DS3) × Int × (List DS3) × Int × (List Int) × (List Int) × Unit) (R:=Int × (List DS1) × (List DS3) × Int × (List DS3) × Unit) (fun s103 =>
 cond (iLt s103.2.2.2.2.2.2.1 s103.2.2.2.2.2.1)
 (cond (bnd s103.2.2.2.2.2.2.1 (lenI s103.2.2.2.2.1))
 (cond (bnd s103.2.2.2.2.2.2.2.2.2.2.2.1 (lenI s103.2.2.2.2.2.2.2.2.1))
 (cond (iLt s103.2.2.2.2.2.2.1 (lenI s103.2.2.2.2.2.2.2.2.2.2.2.2.1))
 (cond (bnd s103.2.2.2.2.2.2.1 (lenI s103.2.2.2.2.2.2.2.2.2.2.2.2.1))
 ((self (atI s103.2.2.2.2.1 s103.2.2.2.2.2.2.1 0,iAdd .i64 s103.2.2.2.2.2.2.2.2.2.2.2.1 1,s103.2.2.2.2.2.2.2.1,s103.2.2.2.2.2.2.2.2.1,s103.2.2.2.2.2.2.2.2.2.1,s103.2.2.2.2.2.2.2.2.2.2.1,())).bind fun y104 =>
 (m82 y104.1 (iSub .i64 (atI s103.2.2.2.2.2.2.2.2.2.2.2.2.1 s103.2.2.2.2.2.2.1 0) s103.2.2.2.1)).bind fun y105 =>
 some (.inl (s103.1,s103.2.1,iMin (iAdd .i64 s103.2.2.1 y105.1) 17592186044416,atI s103.2.2.2.2.2.2.2.2.2.2.2.2.1 s103.2.2.2.2.2.2.1 0,s103.2.2.2.2.1,s103.2.2.2.2.2.1,iAdd .i64 s103.2.2.2.2.2.2.1 1,y104.2.1,y104.2.2.1,y104.2.2.2.1,y104.2.2.2.2.1,s103.2.2.2.2.2.2.2.2.2.2.2.1,s103.2.2.2.2.2.2.2.2.2.2.2.2.1,s103.2.2.2.2.2.2.2.2.2.2.2.2.2.1,()))) none)
 ((self (atI s103.2.2.2.2.1 s103.2.2.2.2.2.2.1 0,iAdd .i64 s103.2.2.2.2.2.2.2.2.2.2.2.1 1,s103.2.2.2.2.2.2.2.1,s103.2.2.2.2.2.2.2.2.1,s103.2.2.2.2.2.2.2.2.2.1,s103.2.2.2.2.2.2.2.2.2.2.1,())).bind fun y106 =>
 (m82 y106.1 (iSub .i64 (iAdd .i64 ((atI s103.2.2.2.2.2.2.2.2.1 s103.2.2.2.2.2.2.2.2.2.2.2.1 (0,0,())).2.1) 1) s103.2.2.2.1)).bind fun y107 =>
 some (.inl (s103.1,s103.2.1,iMin (iAdd .i64 s103.2.2.1 y107.1) 17592186044416,iAdd .i64 ((atI s103.2.2.2.2.2.2.2.2.1 s103.2.2.2.2.2.2.2.2.2.2.2.1 (0,0,())).2.1) 1,s103.2.2.2.2.1,s103.2.2.2.2.2.1,iAdd .i64 s103.2.2.2.2.2.2.1 1,y106.2.1,y106.2.2.1,y106.2.2.2.1,y106.2.2.2.2.1,s103.2.2.2.2.2.2.2.2.2.2.2.1,s103.2.2.2.2.2.2.2.2.2.2.2.2.1,s103.2.2.2.2.2.2.2.2.2.2.2.2.2.1,())))) none) none)
 (Option.map Sum.inr ((m81 s103.2.2.1 s103.2.1 s103.2.2.2.2.2.2.2.2.2.2.2.1 s103.2.2.2.2.2.2.2.1 s103.2.2.2.2.2.2.2.2.1 s103.2.2.2.2.2.2.2.2.2.1 (mapP iEq s103.1 s103.2.2.1 s103.2.2.2.2.2.2.2.2.2.2.1)).bind fun y108 =>
 some (y108.1,y108.2.1,y108.2.2.1,y108.2.2.2.1,y108.2.2.2.2.1,()))))
 (a0,a1,mapG iEq a0 a5 0,(atI a3 ((atI a2 a0 (0,[],[],())).1) (0,0,())).1,(atI a2 a0 (0,[],[],())).2.2.1,lenI ((atI a2 a0 (0,[],[],())).2.2.1),0,a2,a3,a4,a5,(atI a2 a0 (0,[],[],())).1,(atI a2 a0 (0,[],[],())).2.1,(atI a2 a0 (0,[],[],())).2.2.1,())) none)
 ((m81 (mapG iEq a0 a5 0) a1 ((atI a2 a0 (0,[],[],())).1) a2 a3 a4 a5).bind fun y109 =>
 some (y109.1,y109.2.1,y109.2.2.1,y109.2.2.2.1,y109.2.2.2.2.1,()))) none)
def ish51:Sh:=⟨3,[(1,(.int .i64)),(2,(.int .i64))],[(0,.ptr 0 0 0)],[.box 84 [.d (.list tS1),.d (.list tS3),.d (.int .i64),.mp 1],.map 82 (.int .i64) (.int .i64)]⟩
def osh51:Sh:=⟨1,[(0,(.int .i64))],[],[.box 84 [.d (.list tS1),.d (.list tS3),.d (.int .i64),.mp 1],.map 82 (.int .i64) (.int .i64)]⟩
noncomputable def cfg51 (self:(Int × Int × (List DS1) × (List DS3) × Int × (List DS3) × Unit)→Option (Int × (List DS1) × (List DS3) × Int × (List DS3) × Unit)):Cfg:=⟨ttab,gtab,[i72,i82],[⟨51,ish51,osh51,self,[]⟩,h81]⟩
theorem eqn51 (self:(Int × Int × (List DS1) × (List DS3) × Int × (List DS3) × Unit)→Option (Int × (List DS1) × (List DS3) × Int × (List DS3) × Unit)) (x:Int × Int × (List DS1) × (List DS3) × Int × (List DS3) × Unit):xfunH (cfg51 self) x51 113 [.t 6] [] ish51 osh51 x=mb51 self x.1 x.2.1 x.2.2.1 x.2.2.2.1 x.2.2.2.2.1 x.2.2.2.2.2.1:=by kernel_rfl
noncomputable def m51 (a0:Int) (a1:Int) (a2:List DS1) (a3:List DS3) (a4:Int) (a5:List DS3):Option (Int × (List DS1) × (List DS3) × Int × (List DS3) × Unit):=fixO (fun self (x:Int × Int × (List DS1) × (List DS3) × Int × (List DS3) × Unit)=>mb51 self x.1 x.2.1 x.2.2.1 x.2.2.2.1 x.2.2.2.2.1 x.2.2.2.2.2.1) (a0,a1,a2,a3,a4,a5,())
noncomputable def h51:HI:=⟨51,ish51,osh51,fun (x:Int × Int × (List DS1) × (List DS3) × Int × (List DS3) × Unit)=>m51 x.1 x.2.1 x.2.2.1 x.2.2.2.1 x.2.2.2.2.1 x.2.2.2.2.2.1,[]⟩
theorem okh51:HOk Tryd.prog (gx gtab) h51:=hok_fix (f:=51) (ish:=ish51) (osh:=osh51) (G:=fun self (x:Int × Int × (List DS1) × (List DS3) × Int × (List DS3) × Unit)=>mb51 self x.1 x.2.1 x.2.2.1 x.2.2.2.1 x.2.2.2.2.1 x.2.2.2.2.2.1) F51.callable (fun run hr=>hok mixed (cfg_p oki72 (cfg_p oki82 (cfg_h hr (cfg_h okh81 (cfg_nil _ _)))):CfgOk _ (cfg51 run)) F51 (eqn51 run))
def r21_0:List Ins:=[qI 3 (.box 24 1 0), qI 4 (.box 28 2 1), qI 6 (.mov kN), qI 7 (.mov (.k (.bool false)))]
def r21_1:List Ins:=[qI 17 (.mov 2), qI 18 (.bin .lss 17 (kI 0)), qI 19 (.mov 18), qF 20 19 (.mov 2), qF 21 19 (.bin .gtr 20 (kI 255)), qI 22 (.pick 19 (.k (.bool true)) 21), qI 23 (.mov 22), qF 24 23 (.load 1 true 3), qF 25 23 (.load 2 true 4), qF 26 23 (.call (.fn 31) [24,25]), qF 27 23 (.un .not 26), qI 28 (.pick 23 (.k (.bool true)) 27)]
def r21_2:List Ins:=[qI 6 (.mov kN), qI 7 (.mov (.k (.bool false)))]
def r21_3:List Ins:=[qI 29 (.load 1 true 3), qI 30 (.call (.fn 50) [29]), qI 8 (.mov 30)]
def r21_4:List Ins:=[qI 31 (.faddr 0 4), qI 32 (.load 1 false 31), qI 33 (.mov 8), qI 34 (.mov 2), qI 35 (.mmk 82 none), qI 36 (.build [.slice none 0 0,.slice none 0 0,.int .i64 0,.map none] [(0,1,32),(1,1,33),(2,1,34),(3,1,35)]), qI 9 (.alloc 84 (.agg #[.slice none 0 0,.slice none 0 0,.int .i64 0,.map none])), qN (.store 4 9 36)]
def r21_5:List Ins:=[qI 37 (.faddr 1 4), qI 38 (.load 1 false 37), qI 39 (.call (.fn 51) [9,38,(kI 0)]), qI 40 (.bin .eql 39 (kI 0))]
def r21_6:List Ins:=[qI 6 (.mov kN), qI 7 (.mov (.k (.bool false)))]
def r21_7:List Ins:=[qI 41 (.mov 8), qI 42 (.len 41), qI 43 (.mk 3 1 8 (.int .i64 0) 42), qI 10 (.mov 43)]
def r21_8:List Ins:=[qI 44 (.mov 8), qI 45 (.len 44), qI 46 (.mov (kI 0))]
def r21_9:List Ins:=[qI 47 (.bin .lss 46 45)]
def r21_10:List Ins:=[qI 48 (.mov 46), qI 49 (.iaddr 2 44 46), qI 50 (.load 2 true 49), qI 12 (.alloc 86 (.agg #[.int .i64 0,.int .i64 0])), qI 11 (.mov 48), qN (.store 2 12 50)]
def r21_11:List Ins:=[qI 51 (.mov 10), qI 52 (.mov 11), qI 53 (.faddr 0 12), qI 54 (.load 1 false 53), qI 55 (.iaddr 1 51 52), qN (.store 1 55 54)]
def r21_12:List Ins:=[qI 56 (.bin .add 46 (kI 1)), qI 46 (.mov 56)]
def r21_13:List Ins:=[qI 57 (.faddr 1 4), qI 58 (.load 1 false 57), qI 13 (.mov 58)]
def r21_14:List Ins:=[qI 59 (.mov 13), qI 60 (.bin .geq 59 (kI 0))]
def r21_15:List Ins:=[qI 61 (.faddr 0 4), qI 62 (.load 1 false 61), qI 63 (.mov 13), qI 64 (.iaddr 3 62 63), qI 65 (.load 3 true 64), qI 14 (.alloc 70 (.agg #[.int .i64 0,.slice none 0 0,.slice none 0 0])), qN (.store 3 14 65)]
def r21_16:List Ins:=[qI 66 (.faddr 2 14), qI 67 (.load 1 false 66), qI 68 (.len 67), qI 69 (.mov (kI 0))]
def r21_17:List Ins:=[qI 70 (.bin .lss 69 68)]
def r21_18:List Ins:=[qI 71 (.mov 69), qI 72 (.iaddr 1 67 69), qI 73 (.load 1 false 72), qI 15 (.mov 71), qI 16 (.mov 73)]
def r21_19:List Ins:=[qI 74 (.mov 16), qI 75 (.faddr 0 14), qI 76 (.load 1 false 75), qI 77 (.bin .add 76 (kI 1)), qI 78 (.call (.fn 51) [9,74,77]), qI 79 (.bin .eql 78 (kI 0))]
def r21_20:List Ins:=[qI 80 (.mov 15), qI 81 (.bin .gtr 80 (kI 0))]
def r21_21:List Ins:=[qI 82 (.mov 10), qI 83 (.faddr 0 14), qI 84 (.load 1 false 83), qI 85 (.faddr 1 14), qI 86 (.load 1 false 85), qI 87 (.mov 15), qI 88 (.bin .sub 87 (kI 1)), qI 89 (.iaddr 1 86 88), qI 90 (.load 1 false 89), qI 91 (.iaddr 1 82 84), qN (.store 1 91 90)]
def r21_22:List Ins:=[qI 92 (.mov 16), qI 13 (.mov 92)]
def r21_23:List Ins:=[qI 93 (.bin .add 69 (kI 1)), qI 69 (.mov 93)]
def r21_24:List Ins:=[qI 94 (.mov 10), qI 6 (.mov 94), qI 7 (.mov (.k (.bool true)))]
def x21:XC:=(.seq (.ops false r21_0) (.seq (.seq (.ops false r21_1) (.cond (.t 28) (.seq (.ops false r21_2) .ret) .skip)) (.seq (.ops false r21_3) (.seq (.ops false r21_4) (.seq (.seq (.ops false r21_5) (.cond (.t 40) (.seq (.ops false r21_6) .ret) .skip)) (.seq (.ops false r21_7) (.seq (.seq (.ops false r21_8) (.block 0 (.loop [] ⟨95,[(44,(.list tS3)),(45,(.int .i64)),(46,(.int .i64))],[(4,.ptr 0 0 0),(9,.ptr 1 0 0),(10,.row 2)],[.box 28 [.d (.list tS1),.d (.int .i64)],.box 84 [.d (.list tS1),.d (.list tS3),.d (.int .i64),.mp 3],.row 3 (.int .i64) false,.map 82 (.int .i64) (.int .i64)]⟩ (.seq (.ops false r21_9) (.seq (.cond (.t 47) .skip (.exit 0)) (.seq (.block 1 (.seq (.ops false r21_10) (.ops false r21_11))) (.ops false r21_12))))))) (.seq (.ops false r21_13) (.seq (.block 2 (.loop [] ⟨95,[(13,(.int .i64))],[(4,.ptr 0 0 0),(9,.ptr 1 0 0),(10,.row 2)],[.box 28 [.d (.list tS1),.d (.int .i64)],.box 84 [.d (.list tS1),.d (.list tS3),.d (.int .i64),.mp 3],.row 3 (.int .i64) false,.map 82 (.int .i64) (.int .i64)]⟩ (.seq (.seq (.ops false r21_14) (.cond (.t 60) .skip (.exit 2))) (.block 3 (.seq (.ops false r21_15) (.seq (.ops false r21_16) (.block 4 (.loop [] ⟨95,[(13,(.int .i64)),(67,(.list (.int .i64))),(68,(.int .i64)),(69,(.int .i64))],[(4,.ptr 0 0 0),(9,.ptr 1 0 0),(10,.row 2),(14,.ptr 3 0 0)],[.box 28 [.d (.list tS1),.d (.int .i64)],.box 84 [.d (.list tS1),.d (.list tS3),.d (.int .i64),.mp 4],.row 3 (.int .i64) false,.box 70 [.d (.int .i64),.d (.list (.int .i64)),.d (.list (.int .i64))],.map 82 (.int .i64) (.int .i64)]⟩ (.seq (.ops false r21_17) (.seq (.cond (.t 70) .skip (.exit 4)) (.seq (.block 5 (.seq (.ops false r21_18) (.seq (.seq (.ops false r21_19) (.cond (.t 79) (.exit 5) .skip)) (.seq (.seq (.ops false r21_20) (.cond (.t 81) (.ops true r21_21) .skip)) (.seq (.ops false r21_22) (.exit 4)))))) (.ops false r21_23)))))))))))) (.seq (.ops false r21_24) .ret))))))))))
theorem F21:Fn Tryd.prog 21 95 x21.er [.t 6,.t 7]:=⟨Tryd.f21,hcl,Tryd.func21,by kernel_rfl,by kernel_rfl,by kernel_rfl,by kernel_rfl⟩
noncomputable def m21 (a0:DS5) (a1:DS2) (a2:Int):Option ((List Int) × Bool × Unit) :=
 cond (cond (iLt a2 0) true (iLt 255 a2))
 (some (([]:List Int),false,()))
 ((m31 (a0.1,()) (a1.1,a1.2.1,())).bind fun y115 =>
 cond (not y115.1)
 (some (([]:List Int),false,()))
 ((m50 (a0.1,())).bind fun y116 =>
 (m51 a1.2.1 0 a1.1 y116.1 a2 ([]:List DS3)).bind fun y117 =>
 cond (iEq y117.1 0)
 (some (([]:List Int),false,()))
 (cond (fitsI (lenI y116.1) 8)
 (loopO (S:=(List DS3) × Int × Int × (List DS1) × Int × (List DS1) × (List DS3) × Int × (List Int) × (List DS3) × Unit) (R:=(List Int) × Bool × Unit) (fun s118 =>
 cond (iLt s118.2.2.1 s118.2.1)
 (cond (bnd s118.2.2.1 (lenI s118.1))
 (cond (bnd s118.2.2.1 (lenI s118.2.2.2.2.2.2.2.2.1))
 (cond (inB (Int.toNat s118.2.2.1) s118.2.2.2.2.2.2.2.2.1)
 (some (.inl (s118.1,s118.2.1,iAdd .i64 s118.2.2.1 1,s118.2.2.2.1,s118.2.2.2.2.1,s118.2.2.2.2.2.1,s118.2.2.2.2.2.2.1,s118.2.2.2.2.2.2.2.1,List.set s118.2.2.2.2.2.2.2.2.1 (Int.toNat s118.2.2.1) ((atI s118.1 s118.2.2.1 (0,0,())).1),s118.2.2.2.2.2.2.2.2.2.1,()))) none) none) none)
 (Option.map Sum.inr (loopO (S:=Int × (List DS1) × Int × (List DS1) × (List DS3) × Int × (List Int) × (List DS3) × Unit) (R:=(List Int) × Bool × Unit) (fun s119 =>
 cond (iLe 0 s119.1)
 (cond (bnd s119.1 (lenI s119.2.1))
 (loopO (S:=Int × (List Int) × Int × Int × (List DS1) × Int × (List DS1) × (List DS3) × Int × (List Int) × Int × (List Int) × (List Int) × (List DS3) × Unit) (R:=(Int × (List DS1) × Int × (List DS1) × (List DS3) × Int × (List Int) × (List DS3) × Unit) ⊕ ((List Int) × Bool × Unit)) (fun s120 =>
 cond (iLt s120.2.2.2.1 s120.2.2.1)
 (cond (bnd s120.2.2.2.1 (lenI s120.2.1))
 ((m51 (atI s120.2.1 s120.2.2.2.1 0) (iAdd .i64 s120.2.2.2.2.2.2.2.2.2.2.1 1) s120.2.2.2.2.2.2.1 s120.2.2.2.2.2.2.2.1 s120.2.2.2.2.2.2.2.2.1 s120.2.2.2.2.2.2.2.2.2.2.2.2.2.1).bind fun y121 =>
 cond (iEq y121.1 0)
 (some (.inl (s120.1,s120.2.1,s120.2.2.1,iAdd .i64 s120.2.2.2.1 1,s120.2.2.2.2.1,s120.2.2.2.2.2.1,y121.2.1,y121.2.2.1,y121.2.2.2.1,s120.2.2.2.2.2.2.2.2.2.1,s120.2.2.2.2.2.2.2.2.2.2.1,s120.2.2.2.2.2.2.2.2.2.2.2.1,s120.2.2.2.2.2.2.2.2.2.2.2.2.1,y121.2.2.2.2.1,())))
 (cond (iLt 0 s120.2.2.2.1)
 (cond (bnd (iSub .i64 s120.2.2.2.1 1) (lenI s120.2.2.2.2.2.2.2.2.2.2.2.1))
 (cond (bnd s120.2.2.2.2.2.2.2.2.2.2.1 (lenI s120.2.2.2.2.2.2.2.2.2.1))
 (cond (inB (Int.toNat s120.2.2.2.2.2.2.2.2.2.2.1) s120.2.2.2.2.2.2.2.2.2.1)
 (some (.inr (.inl (atI s120.2.1 s120.2.2.2.1 0,s120.2.2.2.2.1,s120.2.2.2.2.2.1,y121.2.1,y121.2.2.1,y121.2.2.2.1,List.set s120.2.2.2.2.2.2.2.2.2.1 (Int.toNat s120.2.2.2.2.2.2.2.2.2.2.1) (atI s120.2.2.2.2.2.2.2.2.2.2.2.1 (iSub .i64 s120.2.2.2.1 1) 0),y121.2.2.2.2.1,())))) none) none) none)
 (some (.inr (.inl (atI s120.2.1 s120.2.2.2.1 0,s120.2.2.2.2.1,s120.2.2.2.2.2.1,y121.2.1,y121.2.2.1,y121.2.2.2.1,s120.2.2.2.2.2.2.2.2.2.1,y121.2.2.2.2.1,())))))) none)
 (some (.inr (.inl (s120.1,s120.2.2.2.2.1,s120.2.2.2.2.2.1,s120.2.2.2.2.2.2.1,s120.2.2.2.2.2.2.2.1,s120.2.2.2.2.2.2.2.2.1,s120.2.2.2.2.2.2.2.2.2.1,s120.2.2.2.2.2.2.2.2.2.2.2.2.2.1,())))))
 (s119.1,(atI s119.2.1 s119.1 (0,[],[],())).2.2.1,lenI ((atI s119.2.1 s119.1 (0,[],[],())).2.2.1),0,s119.2.1,s119.2.2.1,s119.2.2.2.1,s119.2.2.2.2.1,s119.2.2.2.2.2.1,s119.2.2.2.2.2.2.1,(atI s119.2.1 s119.1 (0,[],[],())).1,(atI s119.2.1 s119.1 (0,[],[],())).2.1,(atI s119.2.1 s119.1 (0,[],[],())).2.2.1,s119.2.2.2.2.2.2.2.1,())) none)
 (some (.inr (s119.2.2.2.2.2.2.1,true,()))))
 (s118.2.2.2.2.1,s118.2.2.2.1,s118.2.2.2.2.1,s118.2.2.2.2.2.1,s118.2.2.2.2.2.2.1,s118.2.2.2.2.2.2.2.1,s118.2.2.2.2.2.2.2.2.1,s118.2.2.2.2.2.2.2.2.2.1,()))))
 (y116.1,lenI y116.1,0,a1.1,a1.2.1,y117.2.1,y117.2.2.1,y117.2.2.2.1,(List.replicate (Int.toNat (lenI y116.1)) 0:List Int),y117.2.2.2.2.1,())) none)))
noncomputable def cfg21:Cfg:=⟨ttab,gtab,[i31,i50],[h51]⟩
theorem eqn21 (x:DS5 × DS2 × Int × Unit):xfun cfg21 x21 95 [.t 6,.t 7] [tS5,tS2,(.int .i64)] [(.list (.int .i64)),.bool] x=m21 x.1 x.2.1 x.2.2.1:=by kernel_rfl
noncomputable def i21:PI:=⟨21,[tS5,tS2,(.int .i64)],[(.list (.int .i64)),.bool],fun (x:DS5 × DS2 × Int × Unit)=>m21 x.1 x.2.1 x.2.2.1⟩
theorem oki21:POk Tryd.prog (gx gtab) i21:=pok mixed (cfg_p oki31 (cfg_p oki50 (cfg_h okh51 (cfg_nil _ _))):CfgOk _ (cfg21)) F21 (eqn21)
def r26_0:List Ins:=[qI 3 (.box 24 1 0), qI 4 (.box 28 2 1), qI 6 (.mov (kI 0))]
def r26_1:List Ins:=[qI 8 (.mov 2), qI 9 (.bin .lss 8 (kI 0)), qI 10 (.mov 9), qF 11 10 (.mov 2), qF 12 10 (.bin .gtr 11 (kI 255)), qI 13 (.pick 10 (.k (.bool true)) 12), qI 14 (.mov 13), qF 15 14 (.load 1 true 3), qF 16 14 (.load 2 true 4), qF 17 14 (.call (.fn 31) [15,16]), qF 18 14 (.un .not 17), qI 19 (.pick 14 (.k (.bool true)) 18)]
def r26_2:List Ins:=[qI 6 (.mov (kI 0))]
def r26_3:List (Nat × Ins):=[(0,qI 20 (.faddr 0 4)),
(1,qI 21 (.load 1 false 20)),
(1,qI 22 (.load 1 true 3)),
(1,qI 23 (.call (.fn 50) [22])),
(0,qI 24 (.mov 2)),
(2,qI 25 (.mmk 82 none)),
(0,qI 26 (.build [.slice none 0 0,.slice none 0 0,.int .i64 0,.map none] [(0,1,21),(1,1,23),(2,1,24),(3,1,25)])),
(2,qI 7 (.alloc 84 (.agg #[.slice none 0 0,.slice none 0 0,.int .i64 0,.map none]))),
(0,qN (.store 4 7 26))]
def r26_4:List Ins:=[qI 27 (.faddr 1 4), qI 28 (.load 1 false 27), qI 29 (.call (.fn 51) [7,28,(kI 0)]), qI 6 (.mov 29)]
def x26:XC:=(.seq (.ops false r26_0) (.seq (.seq (.ops false r26_1) (.cond (.t 19) (.seq (.ops false r26_2) .ret) .skip)) (.seq (.rops [] r26_3) (.seq (.ops false r26_4) .ret))))
theorem F26:Fn Tryd.prog 26 30 x26.er [.t 6]:=⟨Tryd.f26,hcl,Tryd.func26,by kernel_rfl,by kernel_rfl,by kernel_rfl,by kernel_rfl⟩
noncomputable def m26 (a0:DS5) (a1:DS2) (a2:Int):Option (Int × Unit) :=
 cond (cond (iLt a2 0) true (iLt 255 a2))
 (some (0,()))
 ((m31 (a0.1,()) (a1.1,a1.2.1,())).bind fun y123 =>
 cond (not y123.1)
 (some (0,()))
 ((m50 (a0.1,())).bind fun y124 =>
 (m51 a1.2.1 0 a1.1 y124.1 a2 ([]:List DS3)).bind fun y125 =>
 some (y125.1,())))
noncomputable def cfg26:Cfg:=⟨ttab,gtab,[i31,i50],[h51]⟩
theorem eqn26 (x:DS5 × DS2 × Int × Unit):xfun cfg26 x26 30 [.t 6] [tS5,tS2,(.int .i64)] [(.int .i64)] x=m26 x.1 x.2.1 x.2.2.1:=by kernel_rfl
noncomputable def i26:PI:=⟨26,[tS5,tS2,(.int .i64)],[(.int .i64)],fun (x:DS5 × DS2 × Int × Unit)=>m26 x.1 x.2.1 x.2.2.1⟩
theorem oki26:POk Tryd.prog (gx gtab) i26:=pok mixed (cfg_p oki31 (cfg_p oki50 (cfg_h okh51 (cfg_nil _ _))):CfgOk _ (cfg26)) F26 (eqn26)
def r11_0:List Ins:=[qI 0 (.mov (.k (.bool false)))]
def r11_1:List Ins:=[qI 6 (.build [.string (bs []),.int .i64 0,.slice none 0 0,.int .i64 0,.int .i64 0] [(0,1,(.k (.string (bs [120])))),(1,1,(kI 2)),(3,1,(kI 1)),(4,1,(kI 9))]), qI 7 (.bslice 64 5 [6]), qI 8 (.build [.slice none 0 0] [(0,1,7)]), qI 1 (.alloc 24 (.agg #[.slice none 0 0])), qN (.store 1 1 8)]
def r11_2:List Ins:=[qI 10 (.load 1 true 1), qI 11 (.call (.fn 12) [10,(kI 0),(kI 3),(kI 20)]), qI 9 (.mov 11), qI 12 (.ext 0 9), qI 13 (.ext 1 9), qI 2 (.alloc 28 (.agg #[.slice none 0 0,.int .i64 0])), qN (.store 2 2 12), qI 3 (.mov 13)]
def r11_3:List Ins:=[qI 15 (.load 1 true 1), qI 16 (.load 2 true 2), qI 17 (.call (.fn 21) [15,16,(kI 1)]), qI 14 (.mov 17), qI 18 (.ext 0 14), qI 19 (.ext 1 14), qI 4 (.mov 18), qI 5 (.mov 19)]
def r11_4:List Ins:=[qI 20 (.mov 3), qI 21 (.bin .eql 20 (kI 0)), qI 22 (.mov 21), qT 23 22 (.faddr 0 2), qT 24 22 (.load 1 false 23), qT 25 22 (.len 24), qT 26 22 (.bin .eql 25 (kI 1)), qI 27 (.pick 22 26 (.k (.bool false))), qI 28 (.mov 27), qT 29 28 (.faddr 1 2), qT 30 28 (.load 1 false 29), qT 31 28 (.bin .eql 30 (kI 0)), qI 32 (.pick 28 31 (.k (.bool false))), qI 33 (.mov 32), qT 34 33 (.mov 5), qI 35 (.pick 33 34 (.k (.bool false))), qI 36 (.mov 35), qT 37 36 (.mov 4), qT 38 36 (.len 37), qT 39 36 (.bin .eql 38 (kI 1)), qI 40 (.pick 36 39 (.k (.bool false))), qI 41 (.mov 40), qT 42 41 (.mov 4), qT 43 41 (.iaddr 1 42 (kI 0)), qT 44 41 (.load 1 false 43), qT 45 41 (.bin .eql 44 (kI 3)), qI 46 (.pick 41 45 (.k (.bool false))), qI 47 (.mov 46), qT 48 47 (.load 1 true 1), qT 49 47 (.load 2 true 2), qT 50 47 (.call (.fn 26) [48,49,(kI 1)]), qT 51 47 (.bin .eql 50 (kI 7)), qI 52 (.pick 47 51 (.k (.bool false))), qI 0 (.mov 52)]
def x11:XC:=(.seq (.ops false r11_0) (.seq (.ops false r11_1) (.seq (.ops false r11_2) (.seq (.ops false r11_3) (.seq (.ops false r11_4) .ret)))))
theorem F11:Fn Tryd.prog 11 53 x11.er [.t 0]:=⟨Tryd.f11,hcl,Tryd.func11,by kernel_rfl,by kernel_rfl,by kernel_rfl,by kernel_rfl⟩
noncomputable def m11:Option (Bool × Unit) :=
 (m12 (([((bs [120]),2,([]:List ByteArray),1,9,())]:List DS0),()) 0 3 20).bind fun y56 =>
 (m21 (([((bs [120]),2,([]:List ByteArray),1,9,())]:List DS0),()) (y56.1.1,y56.1.2.1,()) 1).bind fun y122 =>
 cond (or (bnd 0 (lenI y122.1)) (not (bEq (cond (cond (cond (cond (iEq y56.2.1 0) (iEq (lenI y56.1.1) 1) false) (iEq y56.1.2.1 0) false) y122.2.1 false) (iEq (lenI y122.1) 1) false) true)))
 (cond (cond (cond (cond (cond (cond (iEq y56.2.1 0) (iEq (lenI y56.1.1) 1) false) (iEq y56.1.2.1 0) false) y122.2.1 false) (iEq (lenI y122.1) 1) false) (iEq (atI y122.1 0 0) 3) false)
 ((m26 (([((bs [120]),2,([]:List ByteArray),1,9,())]:List DS0),()) (y56.1.1,y56.1.2.1,()) 1).bind fun y126 =>
 some (iEq y126.1 7,()))
 (some (false,()))) none
noncomputable def cfg11:Cfg:=⟨ttab,gtab,[i12,i21,i26],[]⟩
theorem eqn11 (x:Unit):xfun cfg11 x11 53 [.t 0] [] [.bool] x=m11:=by kernel_rfl
noncomputable def i11:PI:=⟨11,[],[.bool],fun (x:Unit)=>m11⟩
theorem oki11:POk Tryd.prog (gx gtab) i11:=pok mixed (cfg_p oki12 (cfg_p oki21 (cfg_p oki26 (cfg_nil _ _))):CfgOk _ (cfg11)) F11 (eqn11)
def r16_0:List Ins:=[qI 4 (.mov (kI 0))]
def r16_1:List Ins:=[qI 5 (.mov 0), qI 6 (.mov 1), qI 7 (.bin .rem 5 6), qI 8 (.mov 1), qI 9 (.bin .add 7 8), qI 10 (.mov 1), qI 11 (.bin .rem 9 10), qI 4 (.mov 11)]
def x16:XC:=(.seq (.ops false r16_0) (.seq (.ops false r16_1) .ret))
theorem F16:Fn Tryd.prog 16 12 x16.er [.t 4]:=⟨Tryd.f16,hcl,Tryd.func16,by kernel_rfl,by kernel_rfl,by kernel_rfl,by kernel_rfl⟩
noncomputable def m16 (a0:Int) (a1:Int):Option (Int × Unit) :=
 cond (iNe a1 0)
 (cond (iNe a1 0)
 (some (iRem (iAdd .i64 (iRem a0 a1) a1) a1,())) none) none
noncomputable def cfg16:Cfg:=⟨ttab,gtab,[],[]⟩
theorem eqn16 (x:Int × Int × Unit):xfun cfg16 x16 12 [.t 4] [(.int .i64),(.int .i64)] [(.int .i64)] x=m16 x.1 x.2.1:=by kernel_rfl
noncomputable def i16:PI:=⟨16,[(.int .i64),(.int .i64)],[(.int .i64)],fun (x:Int × Int × Unit)=>m16 x.1 x.2.1⟩
theorem oki16:POk Tryd.prog (gx gtab) i16:=pok mixed (cfg_nil _ _:CfgOk _ (cfg16)) F16 (eqn16)
def r43_0:List Ins:=[qI 0 (.alloc 64 (.agg #[.string (bs []),.int .i64 0,.slice none 0 0,.int .i64 0,.int .i64 0]))]
def r43_1:List Ins:=[qI 1 (.bsc 9 [(.k (.string (bs [102,105,114,101]))),(.k (.string (bs [102,108,111,111,100]))),(.k (.string (bs [119,105,110,100]))),(.k (.string (bs [116,104,101,102,116])))]), qI 2 (.build [.string (bs []),.int .i64 0,.slice none 0 0,.int .i64 0,.int .i64 0] [(0,1,(.k (.string (bs [112,101,114,105,108])))),(1,1,(kI 1)),(2,1,1)]), qN (.store 5 0 2)]
def x43:XC:=(.seq (.ops false r43_0) (.seq (.ops false r43_1) .ret))
theorem F43:Fn Tryd.prog 43 3 x43.er [.c 0 5 true]:=⟨Tryd.f43,hcl,Tryd.func43,by kernel_rfl,by kernel_rfl,by kernel_rfl,by kernel_rfl⟩
noncomputable def m43:Option (DS0 × Unit) :=
 some (((bs [112,101,114,105,108]),1,([(bs [102,105,114,101]),(bs [102,108,111,111,100]),(bs [119,105,110,100]),(bs [116,104,101,102,116])]:List ByteArray),0,0,()),())
noncomputable def cfg43:Cfg:=⟨ttab,gtab,[],[]⟩
theorem eqn43 (x:Unit):xfun cfg43 x43 3 [.c 0 5 true] [] [tS0] x=m43:=by kernel_rfl
noncomputable def i43:PI:=⟨43,[],[tS0],fun (x:Unit)=>m43⟩
theorem oki43:POk Tryd.prog (gx gtab) i43:=pok mixed (cfg_nil _ _:CfgOk _ (cfg43)) F43 (eqn43)
def r15_0:List Ins:=[qI 2 (.alloc 24 (.agg #[.slice none 0 0]))]
def r15_1:List Ins:=[qI 3 (.mov 0), qI 4 (.call (.fn 16) [3,(kI 6)])]
def r15_2:List Ins:=[qI 6 (.bin .eql 4 (kI 0)), qI 5 (.mov 6)]
def r15_3:List Ins:=[qI 7 (.call (.fn 43) []), qI 8 (.build [.string (bs []),.int .i64 0,.slice none 0 0,.int .i64 0,.int .i64 0] [(0,1,(.k (.string (bs [115,116,111,114,101,121,115])))),(1,1,(kI 2)),(3,1,(kI 1)),(4,1,(kI 9))]), qI 9 (.build [.string (bs []),.int .i64 0,.slice none 0 0,.int .i64 0,.int .i64 0] [(0,1,(.k (.string (bs [97,108,97,114,109])))),(1,1,(kI 3))]), qI 10 (.bslice 64 5 [7,8,9]), qI 11 (.build [.slice none 0 0] [(0,1,10)]), qN (.store 1 2 11)]
def r15_4:List Ins:=[qI 13 (.bin .eql 4 (kI 1)), qI 12 (.mov 13)]
def r15_5:List Ins:=[qI 14 (.build [.string (bs []),.int .i64 0,.slice none 0 0,.int .i64 0,.int .i64 0] [(0,1,(.k (.string (bs [110])))),(1,1,(kI 2)),(3,1,(.k (.int .i64 (-5)))),(4,1,(kI 20))]), qI 15 (.bslice 64 5 [14]), qI 16 (.build [.slice none 0 0] [(0,1,15)]), qN (.store 1 2 16)]
def r15_6:List Ins:=[qI 18 (.bin .eql 4 (kI 2)), qI 17 (.mov 18)]
def r15_7:List Ins:=[qI 19 (.build [.string (bs []),.int .i64 0,.slice none 0 0,.int .i64 0,.int .i64 0] [(0,1,(.k (.string (bs [97])))),(1,1,(kI 3))]), qI 20 (.bsc 9 [(.k (.string (bs [99,114,101,119]))),(.k (.string (bs [103,117,101,115,116])))]), qI 21 (.build [.string (bs []),.int .i64 0,.slice none 0 0,.int .i64 0,.int .i64 0] [(0,1,(.k (.string (bs [114,111,108,101])))),(1,1,(kI 1)),(2,1,20)]), qI 22 (.build [.string (bs []),.int .i64 0,.slice none 0 0,.int .i64 0,.int .i64 0] [(0,1,(.k (.string (bs [98])))),(1,1,(kI 3))]), qI 23 (.bslice 64 5 [19,21,22]), qI 24 (.build [.slice none 0 0] [(0,1,23)]), qN (.store 1 2 24)]
def r15_8:List Ins:=[qI 26 (.bin .eql 4 (kI 3)), qI 25 (.mov 26)]
def r15_9:List Ins:=[qI 27 (.build [.string (bs []),.int .i64 0,.slice none 0 0,.int .i64 0,.int .i64 0] [(0,1,(.k (.string (bs [110])))),(1,1,(kI 2)),(3,1,(.k (.int .i64 (-1000000000)))),(4,1,(kI 1000000000))]), qI 28 (.build [.string (bs []),.int .i64 0,.slice none 0 0,.int .i64 0,.int .i64 0] [(0,1,(.k (.string (bs [116])))),(1,1,(kI 3))]), qI 29 (.bslice 64 5 [27,28]), qI 30 (.build [.slice none 0 0] [(0,1,29)]), qN (.store 1 2 30)]
def r15_10:List Ins:=[qI 32 (.bin .eql 4 (kI 4)), qI 31 (.mov 32)]
def r15_11:List Ins:=[qI 33 (.bsc 9 [(.k (.string (bs [111,110,108,121])))]), qI 34 (.build [.string (bs []),.int .i64 0,.slice none 0 0,.int .i64 0,.int .i64 0] [(0,1,(.k (.string (bs [111,110,101])))),(1,1,(kI 1)),(2,1,33)]), qI 35 (.call (.fn 43) []), qI 36 (.build [.string (bs []),.int .i64 0,.slice none 0 0,.int .i64 0,.int .i64 0] [(0,1,(.k (.string (bs [110])))),(1,1,(kI 2)),(3,1,(kI 0)),(4,1,(kI 6))]), qI 37 (.build [.string (bs []),.int .i64 0,.slice none 0 0,.int .i64 0,.int .i64 0] [(0,1,(.k (.string (bs [116])))),(1,1,(kI 3))]), qI 38 (.bslice 64 5 [34,35,36,37]), qI 39 (.build [.slice none 0 0] [(0,1,38)]), qN (.store 1 2 39)]
def r15_12:List Ins:=[qI 40 (.build [.string (bs []),.int .i64 0,.slice none 0 0,.int .i64 0,.int .i64 0] [(0,1,(.k (.string (bs [116])))),(1,1,(kI 3))]), qI 41 (.bslice 64 5 [40]), qI 42 (.build [.slice none 0 0] [(0,1,41)]), qN (.store 1 2 42)]
def x15:XC:=(.seq (.ops false r15_0) (.seq (.seq (.ops false r15_1) (.block 0 (.seq (.ops false r15_2) (.cond (.t 5) (.seq (.ops false r15_3) .ret) (.seq (.ops false r15_4) (.cond (.t 12) (.seq (.ops false r15_5) .ret) (.seq (.ops false r15_6) (.cond (.t 17) (.seq (.ops false r15_7) .ret) (.seq (.ops false r15_8) (.cond (.t 25) (.seq (.ops false r15_9) .ret) (.seq (.ops false r15_10) (.cond (.t 31) (.seq (.ops false r15_11) .ret) .skip)))))))))))) (.seq (.ops false r15_12) .ret)))
theorem F15:Fn Tryd.prog 15 43 x15.er [.c 2 1 true]:=⟨Tryd.f15,hcl,Tryd.func15,by kernel_rfl,by kernel_rfl,by kernel_rfl,by kernel_rfl⟩
noncomputable def m15 (a0:Int):Option (DS5 × Unit) :=
 (m16 a0 6).bind fun y128 =>
 cond (iEq y128.1 0)
 ((m43).bind fun y129 =>
 some ((([y129.1,((bs [115,116,111,114,101,121,115]),2,([]:List ByteArray),1,9,()),((bs [97,108,97,114,109]),3,([]:List ByteArray),0,0,())]:List DS0),()),()))
 (cond (iEq y128.1 1)
 (some ((([((bs [110]),2,([]:List ByteArray),(-5),20,())]:List DS0),()),()))
 (cond (iEq y128.1 2)
 (some ((([((bs [97]),3,([]:List ByteArray),0,0,()),((bs [114,111,108,101]),1,([(bs [99,114,101,119]),(bs [103,117,101,115,116])]:List ByteArray),0,0,()),((bs [98]),3,([]:List ByteArray),0,0,())]:List DS0),()),()))
 (cond (iEq y128.1 3)
 (some ((([((bs [110]),2,([]:List ByteArray),(-1000000000),1000000000,()),((bs [116]),3,([]:List ByteArray),0,0,())]:List DS0),()),()))
 (cond (iEq y128.1 4)
 ((m43).bind fun y130 =>
 some ((([((bs [111,110,101]),1,([(bs [111,110,108,121])]:List ByteArray),0,0,()),y130.1,((bs [110]),2,([]:List ByteArray),0,6,()),((bs [116]),3,([]:List ByteArray),0,0,())]:List DS0),()),()))
 (some ((([((bs [116]),3,([]:List ByteArray),0,0,())]:List DS0),()),()))))))
noncomputable def cfg15:Cfg:=⟨ttab,gtab,[i16,i43],[]⟩
theorem eqn15 (x:Int × Unit):xfun cfg15 x15 43 [.c 2 1 true] [(.int .i64)] [tS5] x=m15 x.1:=by kernel_rfl
noncomputable def i15:PI:=⟨15,[(.int .i64)],[tS5],fun (x:Int × Unit)=>m15 x.1⟩
theorem oki15:POk Tryd.prog (gx gtab) i15:=pok mixed (cfg_p oki16 (cfg_p oki43 (cfg_nil _ _)):CfgOk _ (cfg15)) F15 (eqn15)
def r19_0:List Ins:=[qI 2 (.mov (.k (.pointer none)))]
def r19_1:List Ins:=[qI 3 (.mov 0), qI 4 (.build [.slice none 0 0,.int .i64 0] [(0,1,3)]), qI 5 (.box 78 2 4), qI 2 (.mov 5)]
def x19:XC:=(.seq (.ops false r19_0) (.seq (.ops false r19_1) .ret))
theorem F19:Fn Tryd.prog 19 6 x19.er [.t 2]:=⟨Tryd.f19,hcl,Tryd.func19,by kernel_rfl,by kernel_rfl,by kernel_rfl,by kernel_rfl⟩
noncomputable def m19 (a0:List Int):Option ((List Int) × Int × Unit) :=
 some (a0,0,())
noncomputable def cfg19:Cfg:=⟨ttab,gtab,[],[]⟩
def ish19:Sh:=⟨1,[(0,(.list (.int .i64)))],[],[]⟩
def osh19:Sh:=⟨1,[],[(0,.ptr 0 0 0)],[.box 78 [.d (.list (.int .i64)),.d (.int .i64)]]⟩
theorem eqn19 (x:(List Int) × Unit):xfunH cfg19 x19 6 [.t 2] [] ish19 osh19 x=m19 x.1:=by kernel_rfl
noncomputable def h19:HI:=⟨19,ish19,osh19,fun (x:(List Int) × Unit)=>m19 x.1,[]⟩
theorem okh19:HOk Tryd.prog (gx gtab) h19:=hok mixed (cfg_nil _ _:CfgOk _ (cfg19)) F19 (eqn19)
def r103_0:List Ins:=[qI 2 (.mov (.k (.bool false)))]
def r103_1:List Ins:=[qI 3 (.mov 0), qI 4 (.bin .geq 3 (.k (.int .u8 97))), qI 5 (.mov 4), qT 6 5 (.mov 0), qT 7 5 (.bin .leq 6 (.k (.int .u8 122))), qI 8 (.pick 5 7 (.k (.bool false))), qI 2 (.mov 8)]
def x103:XC:=(.seq (.ops false r103_0) (.seq (.ops false r103_1) .ret))
theorem F103:Fn Tryd.prog 103 9 x103.er [.t 2]:=⟨Tryd.f103,hcl,Tryd.func103,by kernel_rfl,by kernel_rfl,by kernel_rfl,by kernel_rfl⟩
noncomputable def m103 (a0:Int):Option (Bool × Unit) :=
 some (cond (iLe 97 a0) (iLe a0 122) false,())
noncomputable def cfg103:Cfg:=⟨ttab,gtab,[],[]⟩
theorem eqn103 (x:Int × Unit):xfun cfg103 x103 9 [.t 2] [(.int .u8)] [.bool] x=m103 x.1:=by kernel_rfl
noncomputable def i103:PI:=⟨103,[(.int .u8)],[.bool],fun (x:Int × Unit)=>m103 x.1⟩
theorem oki103:POk Tryd.prog (gx gtab) i103:=pok mixed (cfg_nil _ _:CfgOk _ (cfg103)) F103 (eqn103)
def r104_0:List Ins:=[qI 2 (.mov (.k (.bool false)))]
def r104_1:List Ins:=[qI 3 (.mov 0), qI 4 (.bin .geq 3 (.k (.int .u8 48))), qI 5 (.mov 4), qT 6 5 (.mov 0), qT 7 5 (.bin .leq 6 (.k (.int .u8 57))), qI 8 (.pick 5 7 (.k (.bool false))), qI 2 (.mov 8)]
def x104:XC:=(.seq (.ops false r104_0) (.seq (.ops false r104_1) .ret))
theorem F104:Fn Tryd.prog 104 9 x104.er [.t 2]:=⟨Tryd.f104,hcl,Tryd.func104,by kernel_rfl,by kernel_rfl,by kernel_rfl,by kernel_rfl⟩
noncomputable def m104 (a0:Int):Option (Bool × Unit) :=
 some (cond (iLe 48 a0) (iLe a0 57) false,())
noncomputable def cfg104:Cfg:=⟨ttab,gtab,[],[]⟩
theorem eqn104 (x:Int × Unit):xfun cfg104 x104 9 [.t 2] [(.int .u8)] [.bool] x=m104 x.1:=by kernel_rfl
noncomputable def i104:PI:=⟨104,[(.int .u8)],[.bool],fun (x:Int × Unit)=>m104 x.1⟩
theorem oki104:POk Tryd.prog (gx gtab) i104:=pok mixed (cfg_nil _ _:CfgOk _ (cfg104)) F104 (eqn104)
def r91_0:List Ins:=[qI 2 (.mov (.k (.bool false)))]
def r91_1:List Ins:=[qI 4 (.mov 0), qI 5 (.slen 4), qI 6 (.bin .lss 5 (kI 1)), qI 7 (.mov 6), qF 8 7 (.mov 0), qF 9 7 (.slen 8), qF 10 7 (.bin .gtr 9 (kI 16)), qI 11 (.pick 7 (.k (.bool true)) 10), qI 12 (.mov 11), qF 13 12 (.mov 0), qF 14 12 (.idx 13 (kI 0)), qF 15 12 (.call (.fn 103) [14]), qF 16 12 (.un .not 15), qI 17 (.pick 12 (.k (.bool true)) 16), qI 18 (.mov 17), qF 19 18 (.mov 0), qF 20 18 (.mov 0), qF 21 18 (.slen 20), qF 22 18 (.bin .sub 21 (kI 1)), qF 23 18 (.idx 19 22), qF 24 18 (.bin .eql 23 (.k (.int .u8 45))), qI 25 (.pick 18 (.k (.bool true)) 24)]
def r91_2:List Ins:=[qI 2 (.mov (.k (.bool false)))]
def r91_3:List Ins:=[qI 3 (.mov (kI 0))]
def r91_4:List Ins:=[qI 26 (.mov 3), qI 27 (.mov 0), qI 28 (.slen 27), qI 29 (.bin .lss 26 28)]
def r91_5:List Ins:=[qI 32 (.mov 0), qI 33 (.mov 3), qI 34 (.idx 32 33), qI 35 (.call (.fn 103) [34]), qI 36 (.un .not 35), qI 37 (.mov 36), qT 38 37 (.mov 0), qT 39 37 (.mov 3), qT 40 37 (.idx 38 39), qT 41 37 (.call (.fn 104) [40]), qT 42 37 (.un .not 41), qI 43 (.pick 37 42 (.k (.bool false))), qI 44 (.mov 43), qT 45 44 (.mov 0), qT 46 44 (.mov 3), qT 47 44 (.idx 45 46), qT 48 44 (.bin .neq 47 (.k (.int .u8 45))), qI 49 (.pick 44 48 (.k (.bool false)))]
def r91_6:List Ins:=[qI 2 (.mov (.k (.bool false)))]
def r91_7:List Ins:=[qI 30 (.mov 3), qI 31 (.bin .add 30 (kI 1)), qI 3 (.mov 31)]
def r91_8:List Ins:=[qI 2 (.mov (.k (.bool true)))]
def x91:XC:=(.seq (.ops false r91_0) (.seq (.seq (.ops false r91_1) (.cond (.t 25) (.seq (.ops false r91_2) .ret) .skip)) (.seq (.seq (.ops false r91_3) (.block 0 (.loop [] ⟨50,[(0,.str),(3,(.int .i64))],[],[]⟩ (.seq (.seq (.ops false r91_4) (.cond (.t 29) .skip (.exit 0))) (.seq (.block 1 (.seq (.ops false r91_5) (.cond (.t 49) (.seq (.ops false r91_6) .ret) .skip))) (.ops false r91_7)))))) (.seq (.ops false r91_8) .ret))))
theorem F91:Fn Tryd.prog 91 50 x91.er [.t 2]:=⟨Tryd.f91,hcl,Tryd.func91,by kernel_rfl,by kernel_rfl,by kernel_rfl,by kernel_rfl⟩
noncomputable def m91 (a0:ByteArray):Option (Bool × Unit) :=
 cond (or (bnd 0 (sLen a0)) (not (bEq (cond (iLt (sLen a0) 1) true (iLt 16 (sLen a0))) false)))
 (cond (cond (iLt (sLen a0) 1) true (iLt 16 (sLen a0)))
 (cond (or (bnd (iSub .i64 (sLen a0) 1) (sLen a0)) (not (bEq true false)))
 (some (false,())) none)
 ((m103 (sAt a0 0)).bind fun y139 =>
 cond (or (bnd (iSub .i64 (sLen a0) 1) (sLen a0)) (not (bEq (not y139.1) false)))
 (cond (cond (not y139.1) true (iEq (sAt a0 (iSub .i64 (sLen a0) 1)) 45))
 (some (false,()))
 (loopO (S:=ByteArray × Int × Unit) (R:=Bool × Unit) (fun s140 =>
 cond (iLt s140.2.1 (sLen s140.1))
 (cond (bnd s140.2.1 (sLen s140.1))
 ((m103 (sAt s140.1 s140.2.1)).bind fun y141 =>
 cond (or (bnd s140.2.1 (sLen s140.1)) (not (bEq (not y141.1) true)))
 (cond (not y141.1)
 ((m104 (sAt s140.1 s140.2.1)).bind fun y142 =>
 cond (or (bnd s140.2.1 (sLen s140.1)) (not (bEq (not y142.1) true)))
 (cond (cond (not y142.1) (iNe (sAt s140.1 s140.2.1) 45) false)
 (some (.inr (false,())))
 (some (.inl (s140.1,iAdd .i64 s140.2.1 1,())))) none)
 (cond (or (bnd s140.2.1 (sLen s140.1)) (not (bEq false true)))
 (some (.inl (s140.1,iAdd .i64 s140.2.1 1,()))) none)) none) none)
 (some (.inr (true,()))))
 (a0,0,()))) none)) none
noncomputable def cfg91:Cfg:=⟨ttab,gtab,[i103,i104],[]⟩
theorem eqn91 (x:ByteArray × Unit):xfun cfg91 x91 50 [.t 2] [.str] [.bool] x=m91 x.1:=by kernel_rfl
noncomputable def i91:PI:=⟨91,[.str],[.bool],fun (x:ByteArray × Unit)=>m91 x.1⟩
theorem oki91:POk Tryd.prog (gx gtab) i91:=pok mixed (cfg_p oki103 (cfg_p oki104 (cfg_nil _ _)):CfgOk _ (cfg91)) F91 (eqn91)
def r92_0:List Ins:=[qI 2 (.mov (.k (.bool false)))]
def r92_1:List Ins:=[qI 3 (.mov 0)]
def r92_2:List Ins:=[qI 5 (.bin .eql 3 (.k (.string (bs [97,110,100])))), qI 4 (.mov 5)]
def r92_3:List Ins:=[qI 6 (.bin .eql 3 (.k (.string (bs [97,118,101,114,97,103,101])))), qI 4 (.mov 6)]
def r92_4:List Ins:=[qI 7 (.bin .eql 3 (.k (.string (bs [99,111,105,110,115,117,114,97,110,99,101])))), qI 4 (.mov 7)]
def r92_5:List Ins:=[qI 8 (.bin .eql 3 (.k (.string (bs [99,111,110,100,105,116,105,111,110])))), qI 4 (.mov 8)]
def r92_6:List Ins:=[qI 9 (.bin .eql 3 (.k (.string (bs [99,111,118,101,114])))), qI 4 (.mov 9)]
def r92_7:List Ins:=[qI 10 (.bin .eql 3 (.k (.string (bs [100,101,100,117,99,116,105,98,108,101])))), qI 4 (.mov 10)]
def r92_8:List Ins:=[qI 11 (.bin .eql 3 (.k (.string (bs [100,101,102,105,110,101])))), qI 4 (.mov 11)]
def r92_9:List Ins:=[qI 12 (.bin .eql 3 (.k (.string (bs [101,110,100])))), qI 4 (.mov 12)]
def r92_10:List Ins:=[qI 13 (.bin .eql 3 (.k (.string (bs [101,110,100,111,114,115,101])))), qI 4 (.mov 13)]
def r92_11:List Ins:=[qI 14 (.bin .eql 3 (.k (.string (bs [101,120,99,108,117,100,101])))), qI 4 (.mov 14)]
def r92_12:List Ins:=[qI 15 (.bin .eql 3 (.k (.string (bs [102,97,108,115,101])))), qI 4 (.mov 15)]
def r92_13:List Ins:=[qI 16 (.bin .eql 3 (.k (.string (bs [102,114,97,110,99,104,105,115,101])))), qI 4 (.mov 16)]
def r92_14:List Ins:=[qI 17 (.bin .eql 3 (.k (.string (bs [102,114,111,109])))), qI 4 (.mov 17)]
def r92_15:List Ins:=[qI 18 (.bin .eql 3 (.k (.string (bs [105,110])))), qI 4 (.mov 18)]
def r92_16:List Ins:=[qI 19 (.bin .eql 3 (.k (.string (bs [108,105,109,105,116])))), qI 4 (.mov 19)]
def r92_17:List Ins:=[qI 20 (.bin .eql 3 (.k (.string (bs [110,111,116])))), qI 4 (.mov 20)]
def r92_18:List Ins:=[qI 21 (.bin .eql 3 (.k (.string (bs [111,114])))), qI 4 (.mov 21)]
def r92_19:List Ins:=[qI 22 (.bin .eql 3 (.k (.string (bs [114,101,109,111,118,101])))), qI 4 (.mov 22)]
def r92_20:List Ins:=[qI 23 (.bin .eql 3 (.k (.string (bs [115,117,98,108,105,109,105,116])))), qI 4 (.mov 23)]
def r92_21:List Ins:=[qI 24 (.bin .eql 3 (.k (.string (bs [116,111])))), qI 4 (.mov 24)]
def r92_22:List Ins:=[qI 25 (.bin .eql 3 (.k (.string (bs [116,114,117,101])))), qI 4 (.mov 25)]
def r92_23:List Ins:=[qI 26 (.bin .eql 3 (.k (.string (bs [117,110,108,101,115,115])))), qI 4 (.mov 26)]
def r92_24:List Ins:=[qI 27 (.bin .eql 3 (.k (.string (bs [119,104,101,110])))), qI 4 (.mov 27)]
def r92_25:List Ins:=[qI 2 (.mov (.k (.bool true)))]
def r92_26:List Ins:=[qI 2 (.mov (.k (.bool false)))]
def x92:XC:=(.seq (.ops false r92_0) (.seq (.seq (.ops false r92_1) (.block 0 (.seq (.seq (.ops false r92_2) (.cond (.t 4) .skip (.seq (.ops false r92_3) (.cond (.t 4) .skip (.seq (.ops false r92_4) (.cond (.t 4) .skip (.seq (.ops false r92_5) (.cond (.t 4) .skip (.seq (.ops false r92_6) (.cond (.t 4) .skip (.seq (.ops false r92_7) (.cond (.t 4) .skip (.seq (.ops false r92_8) (.cond (.t 4) .skip (.seq (.ops false r92_9) (.cond (.t 4) .skip (.seq (.ops false r92_10) (.cond (.t 4) .skip (.seq (.ops false r92_11) (.cond (.t 4) .skip (.seq (.ops false r92_12) (.cond (.t 4) .skip (.seq (.ops false r92_13) (.cond (.t 4) .skip (.seq (.ops false r92_14) (.cond (.t 4) .skip (.seq (.ops false r92_15) (.cond (.t 4) .skip (.seq (.ops false r92_16) (.cond (.t 4) .skip (.seq (.ops false r92_17) (.cond (.t 4) .skip (.seq (.ops false r92_18) (.cond (.t 4) .skip (.seq (.ops false r92_19) (.cond (.t 4) .skip (.seq (.ops false r92_20) (.cond (.t 4) .skip (.seq (.ops false r92_21) (.cond (.t 4) .skip (.seq (.ops false r92_22) (.cond (.t 4) .skip (.seq (.ops false r92_23) (.cond (.t 4) .skip (.ops false r92_24))))))))))))))))))))))))))))))))))))))))))))) (.cond (.t 4) (.seq (.ops false r92_25) .ret) .skip)))) (.seq (.ops false r92_26) .ret)))
theorem F92:Fn Tryd.prog 92 28 x92.er [.t 2]:=⟨Tryd.f92,hcl,Tryd.func92,by kernel_rfl,by kernel_rfl,by kernel_rfl,by kernel_rfl⟩
noncomputable def m92 (a0:ByteArray):Option (Bool × Unit) :=
 cond (sEq a0 (bs [97,110,100]))
 (some (true,()))
 (cond (sEq a0 (bs [97,118,101,114,97,103,101]))
 (some (true,()))
 (cond (sEq a0 (bs [99,111,105,110,115,117,114,97,110,99,101]))
 (some (true,()))
 (cond (sEq a0 (bs [99,111,110,100,105,116,105,111,110]))
 (some (true,()))
 (cond (sEq a0 (bs [99,111,118,101,114]))
 (some (true,()))
 (cond (sEq a0 (bs [100,101,100,117,99,116,105,98,108,101]))
 (some (true,()))
 (cond (sEq a0 (bs [100,101,102,105,110,101]))
 (some (true,()))
 (cond (sEq a0 (bs [101,110,100]))
 (some (true,()))
 (cond (sEq a0 (bs [101,110,100,111,114,115,101]))
 (some (true,()))
 (cond (sEq a0 (bs [101,120,99,108,117,100,101]))
 (some (true,()))
 (cond (sEq a0 (bs [102,97,108,115,101]))
 (some (true,()))
 (cond (sEq a0 (bs [102,114,97,110,99,104,105,115,101]))
 (some (true,()))
 (cond (sEq a0 (bs [102,114,111,109]))
 (some (true,()))
 (cond (sEq a0 (bs [105,110]))
 (some (true,()))
 (cond (sEq a0 (bs [108,105,109,105,116]))
 (some (true,()))
 (cond (sEq a0 (bs [110,111,116]))
 (some (true,()))
 (cond (sEq a0 (bs [111,114]))
 (some (true,()))
 (cond (sEq a0 (bs [114,101,109,111,118,101]))
 (some (true,()))
 (cond (sEq a0 (bs [115,117,98,108,105,109,105,116]))
 (some (true,()))
 (cond (sEq a0 (bs [116,111]))
 (some (true,()))
 (cond (sEq a0 (bs [116,114,117,101]))
 (some (true,()))
 (cond (sEq a0 (bs [117,110,108,101,115,115]))
 (some (true,()))
 (cond (sEq a0 (bs [119,104,101,110]))
 (some (true,()))
 (some (false,()))))))))))))))))))))))))
noncomputable def cfg92:Cfg:=⟨ttab,gtab,[],[]⟩
theorem eqn92 (x:ByteArray × Unit):xfun cfg92 x92 28 [.t 2] [.str] [.bool] x=m92 x.1:=by kernel_rfl
noncomputable def i92:PI:=⟨92,[.str],[.bool],fun (x:ByteArray × Unit)=>m92 x.1⟩
theorem oki92:POk Tryd.prog (gx gtab) i92:=pok mixed (cfg_nil _ _:CfgOk _ (cfg92)) F92 (eqn92)
def r77_0:List Ins:=[qI 2 (.mov (.k (.bool false)))]
def r77_1:List Ins:=[qI 3 (.mov 0), qI 4 (.call (.fn 91) [3]), qI 5 (.mov 4), qT 6 5 (.mov 0), qT 7 5 (.call (.fn 92) [6]), qT 8 5 (.un .not 7), qI 9 (.pick 5 8 (.k (.bool false))), qI 2 (.mov 9)]
def x77:XC:=(.seq (.ops false r77_0) (.seq (.ops false r77_1) .ret))
theorem F77:Fn Tryd.prog 77 10 x77.er [.t 2]:=⟨Tryd.f77,hcl,Tryd.func77,by kernel_rfl,by kernel_rfl,by kernel_rfl,by kernel_rfl⟩
noncomputable def m77 (a0:ByteArray):Option (Bool × Unit) :=
 (m91 a0).bind fun y143 =>
 cond y143.1
 ((m92 a0).bind fun y144 =>
 some (not y144.1,()))
 (some (false,()))
noncomputable def cfg77:Cfg:=⟨ttab,gtab,[i91,i92],[]⟩
theorem eqn77 (x:ByteArray × Unit):xfun cfg77 x77 10 [.t 2] [.str] [.bool] x=m77 x.1:=by kernel_rfl
noncomputable def i77:PI:=⟨77,[.str],[.bool],fun (x:ByteArray × Unit)=>m77 x.1⟩
theorem oki77:POk Tryd.prog (gx gtab) i77:=pok mixed (cfg_p oki91 (cfg_p oki92 (cfg_nil _ _)):CfgOk _ (cfg77)) F77 (eqn77)
def r93_0:List Ins:=[qI 2 (.mov (.k (.bool false)))]
def r93_1:List Ins:=[qI 3 (.mov (kI 0))]
def r93_2:List Ins:=[qI 4 (.mov 3), qI 5 (.mov 0), qI 6 (.len 5), qI 7 (.bin .lss 4 6)]
def r93_3:List Ins:=[qI 10 (.mov 0), qI 11 (.mov 3), qI 12 (.iaddr 1 10 11), qI 13 (.load 1 false 12), qI 14 (.call (.fn 77) [13]), qI 15 (.un .not 14)]
def r93_4:List Ins:=[qI 2 (.mov (.k (.bool false)))]
def r93_5:List Ins:=[qI 8 (.mov 3), qI 9 (.bin .add 8 (kI 1)), qI 3 (.mov 9)]
def r93_6:List Ins:=[qI 2 (.mov (.k (.bool true)))]
def x93:XC:=(.seq (.ops false r93_0) (.seq (.seq (.ops false r93_1) (.block 0 (.loop [] ⟨16,[(0,(.list .str)),(3,(.int .i64))],[],[]⟩ (.seq (.seq (.ops false r93_2) (.cond (.t 7) .skip (.exit 0))) (.seq (.block 1 (.seq (.ops false r93_3) (.cond (.t 15) (.seq (.ops false r93_4) .ret) .skip))) (.ops false r93_5)))))) (.seq (.ops false r93_6) .ret)))
theorem F93:Fn Tryd.prog 93 16 x93.er [.t 2]:=⟨Tryd.f93,hcl,Tryd.func93,by kernel_rfl,by kernel_rfl,by kernel_rfl,by kernel_rfl⟩
noncomputable def m93 (a0:List ByteArray):Option (Bool × Unit) :=
 loopO (S:=(List ByteArray) × Int × Unit) (R:=Bool × Unit) (fun s149 =>
 cond (iLt s149.2.1 (lenI s149.1))
 (cond (bnd s149.2.1 (lenI s149.1))
 ((m77 (atI s149.1 s149.2.1 ByteArray.empty)).bind fun y150 =>
 cond (not y150.1)
 (some (.inr (false,())))
 (some (.inl (s149.1,iAdd .i64 s149.2.1 1,())))) none)
 (some (.inr (true,()))))
 (a0,0,())
noncomputable def cfg93:Cfg:=⟨ttab,gtab,[i77],[]⟩
theorem eqn93 (x:(List ByteArray) × Unit):xfun cfg93 x93 16 [.t 2] [(.list .str)] [.bool] x=m93 x.1:=by kernel_rfl
noncomputable def i93:PI:=⟨93,[(.list .str)],[.bool],fun (x:(List ByteArray) × Unit)=>m93 x.1⟩
theorem oki93:POk Tryd.prog (gx gtab) i93:=pok mixed (cfg_p oki77 (cfg_nil _ _):CfgOk _ (cfg93)) F93 (eqn93)
def r94_0:List Ins:=[qI 2 (.mov (.k (.bool false)))]
def r94_1:List Ins:=[qI 3 (.mov (kI 0))]
def r94_2:List Ins:=[qI 5 (.mov 3), qI 6 (.mov 0), qI 7 (.len 6), qI 8 (.bin .lss 5 7)]
def r94_3:List Ins:=[qI 4 (.mov (kI 0))]
def r94_4:List Ins:=[qI 11 (.mov 4), qI 12 (.mov 3), qI 13 (.bin .lss 11 12)]
def r94_5:List Ins:=[qI 16 (.mov 0), qI 17 (.mov 3), qI 18 (.iaddr 1 16 17), qI 19 (.load 1 false 18), qI 20 (.mov 0), qI 21 (.mov 4), qI 22 (.iaddr 1 20 21), qI 23 (.load 1 false 22), qI 24 (.bin .eql 19 23)]
def r94_6:List Ins:=[qI 2 (.mov (.k (.bool false)))]
def r94_7:List Ins:=[qI 14 (.mov 4), qI 15 (.bin .add 14 (kI 1)), qI 4 (.mov 15)]
def r94_8:List Ins:=[qI 9 (.mov 3), qI 10 (.bin .add 9 (kI 1)), qI 3 (.mov 10)]
def r94_9:List Ins:=[qI 2 (.mov (.k (.bool true)))]
def x94:XC:=(.seq (.ops false r94_0) (.seq (.seq (.ops false r94_1) (.block 0 (.loop [] ⟨25,[(0,(.list .str)),(3,(.int .i64))],[],[]⟩ (.seq (.seq (.ops false r94_2) (.cond (.t 8) .skip (.exit 0))) (.seq (.block 1 (.seq (.ops false r94_3) (.block 2 (.loop [] ⟨25,[(0,(.list .str)),(3,(.int .i64)),(4,(.int .i64))],[],[]⟩ (.seq (.seq (.ops false r94_4) (.cond (.t 13) .skip (.exit 2))) (.seq (.block 3 (.seq (.ops true r94_5) (.cond (.t 24) (.seq (.ops false r94_6) .ret) .skip))) (.ops false r94_7))))))) (.ops false r94_8)))))) (.seq (.ops false r94_9) .ret)))
theorem F94:Fn Tryd.prog 94 25 x94.er [.t 2]:=⟨Tryd.f94,hcl,Tryd.func94,by kernel_rfl,by kernel_rfl,by kernel_rfl,by kernel_rfl⟩
noncomputable def m94 (a0:List ByteArray):Option (Bool × Unit) :=
 loopO (S:=(List ByteArray) × Int × Unit) (R:=Bool × Unit) (fun s154 =>
 cond (iLt s154.2.1 (lenI s154.1))
 (loopO (S:=(List ByteArray) × Int × Int × Unit) (R:=((List ByteArray) × Int × Unit) ⊕ (Bool × Unit)) (fun s155 =>
 cond (iLt s155.2.2.1 s155.2.1)
 (cond (bnd s155.2.1 (lenI s155.1))
 (cond (bnd s155.2.2.1 (lenI s155.1))
 (cond (sEq (atI s155.1 s155.2.1 ByteArray.empty) (atI s155.1 s155.2.2.1 ByteArray.empty))
 (some (.inr (.inr (false,()))))
 (some (.inl (s155.1,s155.2.1,iAdd .i64 s155.2.2.1 1,())))) none) none)
 (some (.inr (.inl (s155.1,iAdd .i64 s155.2.1 1,())))))
 (s154.1,s154.2.1,0,()))
 (some (.inr (true,()))))
 (a0,0,())
noncomputable def cfg94:Cfg:=⟨ttab,gtab,[],[]⟩
theorem eqn94 (x:(List ByteArray) × Unit):xfun cfg94 x94 25 [.t 2] [(.list .str)] [.bool] x=m94 x.1:=by kernel_rfl
noncomputable def i94:PI:=⟨94,[(.list .str)],[.bool],fun (x:(List ByteArray) × Unit)=>m94 x.1⟩
theorem oki94:POk Tryd.prog (gx gtab) i94:=pok mixed (cfg_nil _ _:CfgOk _ (cfg94)) F94 (eqn94)
def r95_0:List Ins:=[qI 2 (.mov (.k (.bool false)))]
def r95_1:List Ins:=[qI 3 (.mov 0), qI 4 (.bin .gtr 3 (kI 1000000000)), qI 5 (.mov 4), qF 6 5 (.mov 0), qF 7 5 (.bin .lss 6 (.k (.int .i64 (-1000000000)))), qI 8 (.pick 5 (.k (.bool true)) 7), qI 2 (.mov 8)]
def x95:XC:=(.seq (.ops false r95_0) (.seq (.ops false r95_1) .ret))
theorem F95:Fn Tryd.prog 95 9 x95.er [.t 2]:=⟨Tryd.f95,hcl,Tryd.func95,by kernel_rfl,by kernel_rfl,by kernel_rfl,by kernel_rfl⟩
noncomputable def m95 (a0:Int):Option (Bool × Unit) :=
 some (cond (iLt 1000000000 a0) true (iLt a0 (-1000000000)),())
noncomputable def cfg95:Cfg:=⟨ttab,gtab,[],[]⟩
theorem eqn95 (x:Int × Unit):xfun cfg95 x95 9 [.t 2] [(.int .i64)] [.bool] x=m95 x.1:=by kernel_rfl
noncomputable def i95:PI:=⟨95,[(.int .i64)],[.bool],fun (x:Int × Unit)=>m95 x.1⟩
theorem oki95:POk Tryd.prog (gx gtab) i95:=pok mixed (cfg_nil _ _:CfgOk _ (cfg95)) F95 (eqn95)
def r78_0:List Ins:=[qI 1 (.box 64 5 0), qI 2 (.mov (kI 0))]
def r78_1:List Ins:=[qI 3 (.faddr 1 1), qI 4 (.load 1 false 3)]
def r78_2:List Ins:=[qI 6 (.bin .eql 4 (kI 1)), qI 5 (.mov 6)]
def r78_3:List Ins:=[qI 8 (.faddr 3 1), qI 9 (.load 1 false 8), qI 10 (.bin .neq 9 (kI 0)), qI 11 (.mov 10), qF 12 11 (.faddr 4 1), qF 13 11 (.load 1 false 12), qF 14 11 (.bin .neq 13 (kI 0)), qI 15 (.pick 11 (.k (.bool true)) 14), qI 7 (.mov 15)]
def r78_4:List Ins:=[qI 2 (.mov (kI 20))]
def r78_5:List Ins:=[qI 17 (.faddr 2 1), qI 18 (.load 1 false 17), qI 19 (.len 18), qI 20 (.bin .eql 19 (kI 0)), qI 16 (.mov 20)]
def r78_6:List Ins:=[qI 2 (.mov (kI 19))]
def r78_7:List Ins:=[qI 22 (.faddr 2 1), qI 23 (.load 1 false 22), qI 24 (.len 23), qI 25 (.bin .gtr 24 (kI 12)), qI 21 (.mov 25)]
def r78_8:List Ins:=[qI 2 (.mov (kI 4))]
def r78_9:List Ins:=[qI 27 (.faddr 2 1), qI 28 (.load 1 false 27), qI 29 (.call (.fn 93) [28]), qI 30 (.un .not 29), qI 26 (.mov 30)]
def r78_10:List Ins:=[qI 2 (.mov (kI 6))]
def r78_11:List Ins:=[qI 32 (.faddr 2 1), qI 33 (.load 1 false 32), qI 34 (.call (.fn 94) [33]), qI 35 (.un .not 34), qI 31 (.mov 35)]
def r78_12:List Ins:=[qI 2 (.mov (kI 8))]
def r78_13:List Ins:=[qI 2 (.mov (kI 0))]
def r78_14:List Ins:=[qI 37 (.bin .eql 4 (kI 2)), qI 36 (.mov 37)]
def r78_15:List Ins:=[qI 38 (.faddr 2 1), qI 39 (.load 1 false 38), qI 40 (.len 39), qI 41 (.bin .gtr 40 (kI 0))]
def r78_16:List Ins:=[qI 2 (.mov (kI 20))]
def r78_17:List Ins:=[qI 42 (.faddr 3 1), qI 43 (.load 1 false 42), qI 44 (.faddr 4 1), qI 45 (.load 1 false 44), qI 46 (.bin .gtr 43 45), qI 47 (.mov 46), qF 48 47 (.faddr 3 1), qF 49 47 (.load 1 false 48), qF 50 47 (.call (.fn 95) [49]), qI 51 (.pick 47 (.k (.bool true)) 50), qI 52 (.mov 51), qF 53 52 (.faddr 4 1), qF 54 52 (.load 1 false 53), qF 55 52 (.call (.fn 95) [54]), qI 56 (.pick 52 (.k (.bool true)) 55)]
def r78_18:List Ins:=[qI 2 (.mov (kI 1))]
def r78_19:List Ins:=[qI 2 (.mov (kI 0))]
def r78_20:List Ins:=[qI 58 (.bin .eql 4 (kI 3)), qI 57 (.mov 58)]
def r78_21:List Ins:=[qI 59 (.faddr 2 1), qI 60 (.load 1 false 59), qI 61 (.len 60), qI 62 (.bin .gtr 61 (kI 0)), qI 63 (.mov 62), qF 64 63 (.faddr 3 1), qF 65 63 (.load 1 false 64), qF 66 63 (.bin .neq 65 (kI 0)), qI 67 (.pick 63 (.k (.bool true)) 66), qI 68 (.mov 67), qF 69 68 (.faddr 4 1), qF 70 68 (.load 1 false 69), qF 71 68 (.bin .neq 70 (kI 0)), qI 72 (.pick 68 (.k (.bool true)) 71)]
def r78_22:List Ins:=[qI 2 (.mov (kI 20))]
def r78_23:List Ins:=[qI 2 (.mov (kI 0))]
def r78_24:List Ins:=[qI 2 (.mov (kI 11))]
def x78:XC:=(.seq (.ops false r78_0) (.seq (.seq (.ops false r78_1) (.block 0 (.seq (.ops false r78_2) (.cond (.t 5) (.seq (.block 1 (.seq (.ops false r78_3) (.cond (.t 7) (.seq (.ops false r78_4) .ret) (.seq (.ops false r78_5) (.cond (.t 16) (.seq (.ops false r78_6) .ret) (.seq (.ops false r78_7) (.cond (.t 21) (.seq (.ops false r78_8) .ret) (.seq (.ops false r78_9) (.cond (.t 26) (.seq (.ops false r78_10) .ret) (.seq (.ops false r78_11) (.cond (.t 31) (.seq (.ops false r78_12) .ret) .skip))))))))))) (.seq (.ops false r78_13) .ret)) (.seq (.ops false r78_14) (.cond (.t 36) (.seq (.seq (.ops false r78_15) (.cond (.t 41) (.seq (.ops false r78_16) .ret) .skip)) (.seq (.seq (.ops false r78_17) (.cond (.t 56) (.seq (.ops false r78_18) .ret) .skip)) (.seq (.ops false r78_19) .ret))) (.seq (.ops false r78_20) (.cond (.t 57) (.seq (.seq (.ops false r78_21) (.cond (.t 72) (.seq (.ops false r78_22) .ret) .skip)) (.seq (.ops false r78_23) .ret)) .skip)))))))) (.seq (.ops false r78_24) .ret)))
theorem F78:Fn Tryd.prog 78 73 x78.er [.t 2]:=⟨Tryd.f78,hcl,Tryd.func78,by kernel_rfl,by kernel_rfl,by kernel_rfl,by kernel_rfl⟩
noncomputable def m78 (a0:DS0):Option (Int × Unit) :=
 cond (iEq a0.2.1 1)
 (cond (cond (iNe a0.2.2.2.1 0) true (iNe a0.2.2.2.2.1 0))
 (some (20,()))
 (cond (iEq (lenI a0.2.2.1) 0)
 (some (19,()))
 (cond (iLt 12 (lenI a0.2.2.1))
 (some (4,()))
 ((m93 a0.2.2.1).bind fun y151 =>
 cond (not y151.1)
 (some (6,()))
 ((m94 a0.2.2.1).bind fun y156 =>
 cond (not y156.1)
 (some (8,()))
 (some (0,())))))))
 (cond (iEq a0.2.1 2)
 (cond (iLt 0 (lenI a0.2.2.1))
 (some (20,()))
 (cond (iLt a0.2.2.2.2.1 a0.2.2.2.1)
 (some (1,()))
 ((m95 a0.2.2.2.1).bind fun y157 =>
 cond y157.1
 (some (1,()))
 ((m95 a0.2.2.2.2.1).bind fun y158 =>
 cond y158.1
 (some (1,()))
 (some (0,()))))))
 (cond (iEq a0.2.1 3)
 (cond (cond (cond (iLt 0 (lenI a0.2.2.1)) true (iNe a0.2.2.2.1 0)) true (iNe a0.2.2.2.2.1 0))
 (some (20,()))
 (some (0,())))
 (some (11,()))))
noncomputable def cfg78:Cfg:=⟨ttab,gtab,[i93,i94,i95],[]⟩
theorem eqn78 (x:DS0 × Unit):xfun cfg78 x78 73 [.t 2] [tS0] [(.int .i64)] x=m78 x.1:=by kernel_rfl
noncomputable def i78:PI:=⟨78,[tS0],[(.int .i64)],fun (x:DS0 × Unit)=>m78 x.1⟩
theorem oki78:POk Tryd.prog (gx gtab) i78:=pok mixed (cfg_p oki93 (cfg_p oki94 (cfg_p oki95 (cfg_nil _ _))):CfgOk _ (cfg78)) F78 (eqn78)
def r41_0:List Ins:=[qI 1 (.box 24 1 0), qI 2 (.mov (kI 0))]
def r41_1:List Ins:=[qI 7 (.faddr 0 1), qI 8 (.load 1 false 7), qI 9 (.len 8), qI 10 (.bin .eql 9 (kI 0))]
def r41_2:List Ins:=[qI 2 (.mov (kI 19))]
def r41_3:List Ins:=[qI 11 (.faddr 0 1), qI 12 (.load 1 false 11), qI 13 (.len 12), qI 14 (.bin .gtr 13 (kI 6))]
def r41_4:List Ins:=[qI 2 (.mov (kI 4))]
def r41_5:List Ins:=[qI 3 (.mov (kI 0))]
def r41_6:List Ins:=[qI 15 (.mov 3), qI 16 (.faddr 0 1), qI 17 (.load 1 false 16), qI 18 (.len 17), qI 19 (.bin .lss 15 18)]
def r41_7:List Ins:=[qI 22 (.faddr 0 1), qI 23 (.load 1 false 22), qI 24 (.mov 3), qI 25 (.iaddr 5 23 24), qI 26 (.load 5 true 25), qI 4 (.alloc 64 (.agg #[.string (bs []),.int .i64 0,.slice none 0 0,.int .i64 0,.int .i64 0])), qN (.store 5 4 26)]
def r41_8:List Ins:=[qI 27 (.faddr 0 4), qI 28 (.load 1 false 27), qI 29 (.call (.fn 77) [28]), qI 30 (.un .not 29)]
def r41_9:List Ins:=[qI 2 (.mov (kI 6))]
def r41_10:List Ins:=[qI 5 (.mov (kI 0))]
def r41_11:List Ins:=[qI 31 (.mov 5), qI 32 (.mov 3), qI 33 (.bin .lss 31 32)]
def r41_12:List Ins:=[qI 36 (.faddr 0 1), qI 37 (.load 1 false 36), qI 38 (.mov 5), qI 39 (.iaddr 5 37 38), qI 40 (.faddr 0 39), qI 41 (.load 1 false 40), qI 42 (.faddr 0 4), qI 43 (.load 1 false 42), qI 44 (.bin .eql 41 43)]
def r41_13:List Ins:=[qI 2 (.mov (kI 8))]
def r41_14:List Ins:=[qI 34 (.mov 5), qI 35 (.bin .add 34 (kI 1)), qI 5 (.mov 35)]
def r41_15:List Ins:=[qI 45 (.load 5 true 4), qI 46 (.call (.fn 78) [45]), qI 6 (.mov 46)]
def r41_16:List Ins:=[qI 47 (.mov 6), qI 48 (.bin .neq 47 (kI 0))]
def r41_17:List Ins:=[qI 49 (.mov 6), qI 2 (.mov 49)]
def r41_18:List Ins:=[qI 20 (.mov 3), qI 21 (.bin .add 20 (kI 1)), qI 3 (.mov 21)]
def r41_19:List Ins:=[qI 2 (.mov (kI 0))]
def x41:XC:=(.seq (.ops false r41_0) (.seq (.seq (.ops false r41_1) (.cond (.t 10) (.seq (.ops false r41_2) .ret) .skip)) (.seq (.seq (.ops false r41_3) (.cond (.t 14) (.seq (.ops false r41_4) .ret) .skip)) (.seq (.seq (.ops false r41_5) (.block 0 (.loop [] ⟨50,[(3,(.int .i64))],[(1,.ptr 0 0 0)],[.box 24 [.d (.list tS0)]]⟩ (.seq (.seq (.ops false r41_6) (.cond (.t 19) .skip (.exit 0))) (.seq (.block 1 (.seq (.ops false r41_7) (.seq (.seq (.ops false r41_8) (.cond (.t 30) (.seq (.ops false r41_9) .ret) .skip)) (.seq (.seq (.ops false r41_10) (.block 2 (.loop [] ⟨50,[(3,(.int .i64)),(5,(.int .i64))],[(1,.ptr 0 0 0),(4,.ptr 1 0 0)],[.box 24 [.d (.list tS0)],.box 64 [.d .str,.d (.int .i64),.d (.list .str),.d (.int .i64),.d (.int .i64)]]⟩ (.seq (.seq (.ops false r41_11) (.cond (.t 33) .skip (.exit 2))) (.seq (.block 3 (.seq (.ops true r41_12) (.cond (.t 44) (.seq (.ops false r41_13) .ret) .skip))) (.ops false r41_14)))))) (.seq (.ops false r41_15) (.seq (.ops false r41_16) (.cond (.t 48) (.seq (.ops false r41_17) .ret) .skip))))))) (.ops false r41_18)))))) (.seq (.ops false r41_19) .ret)))))
theorem F41:Fn Tryd.prog 41 50 x41.er [.t 2]:=⟨Tryd.f41,hcl,Tryd.func41,by kernel_rfl,by kernel_rfl,by kernel_rfl,by kernel_rfl⟩
noncomputable def m41 (a0:DS5):Option (Int × Unit) :=
 cond (iEq (lenI a0.1) 0)
 (some (19,()))
 (cond (iLt 6 (lenI a0.1))
 (some (4,()))
 (loopO (S:=Int × (List DS0) × Unit) (R:=Int × Unit) (fun s160 =>
 cond (iLt s160.1 (lenI s160.2.1))
 (cond (bnd s160.1 (lenI s160.2.1))
 ((m77 ((atI s160.2.1 s160.1 (ByteArray.empty,0,[],0,0,())).1)).bind fun y161 =>
 cond (not y161.1)
 (some (.inr (6,())))
 (loopO (S:=Int × Int × (List DS0) × ByteArray × Int × (List ByteArray) × Int × Int × Unit) (R:=(Int × (List DS0) × Unit) ⊕ (Int × Unit)) (fun s162 =>
 cond (iLt s162.2.1 s162.1)
 (cond (bnd s162.2.1 (lenI s162.2.2.1))
 (cond (sEq ((atI s162.2.2.1 s162.2.1 (ByteArray.empty,0,[],0,0,())).1) s162.2.2.2.1)
 (some (.inr (.inr (8,()))))
 (some (.inl (s162.1,iAdd .i64 s162.2.1 1,s162.2.2.1,s162.2.2.2.1,s162.2.2.2.2.1,s162.2.2.2.2.2.1,s162.2.2.2.2.2.2.1,s162.2.2.2.2.2.2.2.1,())))) none)
 (Option.map Sum.inr ((m78 (s162.2.2.2.1,s162.2.2.2.2.1,s162.2.2.2.2.2.1,s162.2.2.2.2.2.2.1,s162.2.2.2.2.2.2.2.1,())).bind fun y163 =>
 cond (iNe y163.1 0)
 (some (.inr (y163.1,())))
 (some (.inl (iAdd .i64 s162.1 1,s162.2.2.1,()))))))
 (s160.1,0,s160.2.1,(atI s160.2.1 s160.1 (ByteArray.empty,0,[],0,0,())).1,(atI s160.2.1 s160.1 (ByteArray.empty,0,[],0,0,())).2.1,(atI s160.2.1 s160.1 (ByteArray.empty,0,[],0,0,())).2.2.1,(atI s160.2.1 s160.1 (ByteArray.empty,0,[],0,0,())).2.2.2.1,(atI s160.2.1 s160.1 (ByteArray.empty,0,[],0,0,())).2.2.2.2.1,()))) none)
 (some (.inr (0,()))))
 (0,a0.1,())))
noncomputable def cfg41:Cfg:=⟨ttab,gtab,[i77,i78],[]⟩
theorem eqn41 (x:DS5 × Unit):xfun cfg41 x41 50 [.t 2] [tS5] [(.int .i64)] x=m41 x.1:=by kernel_rfl
noncomputable def i41:PI:=⟨41,[tS5],[(.int .i64)],fun (x:DS5 × Unit)=>m41 x.1⟩
theorem oki41:POk Tryd.prog (gx gtab) i41:=pok mixed (cfg_p oki77 (cfg_p oki78 (cfg_nil _ _)):CfgOk _ (cfg41)) F41 (eqn41)
def r42_0:List Ins:=[qI 2 (.box 24 1 0), qI 4 (.mov (kI 0)), qI 5 (.mov (kI 0))]
def r42_1:List Ins:=[qI 7 (.load 1 true 2), qI 8 (.call (.fn 41) [7]), qI 9 (.bin .neq 8 (kI 0)), qI 10 (.mov 9), qF 11 10 (.mov 1), qF 12 10 (.bin .lss 11 (kI 0)), qI 13 (.pick 10 (.k (.bool true)) 12), qI 14 (.mov 13), qF 15 14 (.mov 1), qF 16 14 (.faddr 0 2), qF 17 14 (.load 1 false 16), qF 18 14 (.len 17), qF 19 14 (.bin .geq 15 18), qI 20 (.pick 14 (.k (.bool true)) 19)]
def r42_2:List Ins:=[qI 4 (.mov (kI 0)), qI 5 (.mov (.k (.int .i64 (-1))))]
def r42_3:List Ins:=[qI 21 (.faddr 0 2), qI 22 (.load 1 false 21), qI 23 (.mov 1), qI 24 (.iaddr 5 22 23), qI 25 (.load 5 true 24), qI 6 (.alloc 64 (.agg #[.string (bs []),.int .i64 0,.slice none 0 0,.int .i64 0,.int .i64 0])), qN (.store 5 6 25)]
def r42_4:List Ins:=[qI 26 (.faddr 1 6), qI 27 (.load 1 false 26)]
def r42_5:List Ins:=[qI 29 (.bin .eql 27 (kI 1)), qI 28 (.mov 29)]
def r42_6:List Ins:=[qI 30 (.faddr 2 6), qI 31 (.load 1 false 30), qI 32 (.len 31), qI 33 (.bin .sub 32 (kI 1)), qI 4 (.mov (kI 0)), qI 5 (.mov 33)]
def r42_7:List Ins:=[qI 35 (.bin .eql 27 (kI 2)), qI 34 (.mov 35)]
def r42_8:List Ins:=[qI 36 (.faddr 3 6), qI 37 (.load 1 false 36), qI 38 (.faddr 4 6), qI 39 (.load 1 false 38), qI 4 (.mov 37), qI 5 (.mov 39)]
def r42_9:List Ins:=[qI 4 (.mov (kI 0)), qI 5 (.mov (kI 1))]
def x42:XC:=(.seq (.ops false r42_0) (.seq (.seq (.ops false r42_1) (.cond (.t 20) (.seq (.ops false r42_2) .ret) .skip)) (.seq (.ops false r42_3) (.seq (.seq (.ops false r42_4) (.block 0 (.seq (.ops false r42_5) (.cond (.t 28) (.seq (.ops true r42_6) .ret) (.seq (.ops false r42_7) (.cond (.t 34) (.seq (.ops true r42_8) .ret) .skip)))))) (.seq (.ops false r42_9) .ret)))))
theorem F42:Fn Tryd.prog 42 40 x42.er [.t 4,.t 5]:=⟨Tryd.f42,hcl,Tryd.func42,by kernel_rfl,by kernel_rfl,by kernel_rfl,by kernel_rfl⟩
noncomputable def m42 (a0:DS5) (a1:Int):Option (Int × Int × Unit) :=
 (m41 (a0.1,())).bind fun y164 =>
 cond (cond (cond (iNe y164.1 0) true (iLt a1 0)) true (iLe (lenI a0.1) a1))
 (some (0,(-1),()))
 (cond (bnd a1 (lenI a0.1))
 (cond (iEq ((atI a0.1 a1 (ByteArray.empty,0,[],0,0,())).2.1) 1)
 (some (0,iSub .i64 (lenI ((atI a0.1 a1 (ByteArray.empty,0,[],0,0,())).2.2.1)) 1,()))
 (cond (iEq ((atI a0.1 a1 (ByteArray.empty,0,[],0,0,())).2.1) 2)
 (some ((atI a0.1 a1 (ByteArray.empty,0,[],0,0,())).2.2.2.1,(atI a0.1 a1 (ByteArray.empty,0,[],0,0,())).2.2.2.2.1,()))
 (some (0,1,())))) none)
noncomputable def cfg42:Cfg:=⟨ttab,gtab,[i41],[]⟩
theorem eqn42 (x:DS5 × Int × Unit):xfun cfg42 x42 40 [.t 4,.t 5] [tS5,(.int .i64)] [(.int .i64),(.int .i64)] x=m42 x.1 x.2.1:=by kernel_rfl
noncomputable def i42:PI:=⟨42,[tS5,(.int .i64)],[(.int .i64),(.int .i64)],fun (x:DS5 × Int × Unit)=>m42 x.1 x.2.1⟩
theorem oki42:POk Tryd.prog (gx gtab) i42:=pok mixed (cfg_p oki41 (cfg_nil _ _):CfgOk _ (cfg42)) F42 (eqn42)
def r44_0:List Ins:=[qI 1 (.box 24 1 0), qI 2 (.mov kN)]
def r44_1:List Ins:=[qI 3 (.mov kN)]
def r44_2:List Ins:=[qI 4 (.mov (kI 0))]
def r44_3:List Ins:=[qI 7 (.mov 4), qI 8 (.faddr 0 1), qI 9 (.load 1 false 8), qI 10 (.len 9), qI 11 (.bin .lss 7 10)]
def r44_4:List Ins:=[qI 15 (.load 1 true 1), qI 16 (.mov 4), qI 17 (.call (.fn 42) [15,16]), qI 14 (.mov 17), qI 18 (.ext 0 14), qI 19 (.ext 1 14), qI 5 (.mov 18), qI 6 (.mov 19)]
def r44_5:List Ins:=[qI 20 (.mov 3), qI 21 (.mov 5), qI 22 (.bsc 3 [21]), qI 23 (.bslice 37 1 [22]), qI 24 (.app 37 1 24 20 23), qI 3 (.mov 24)]
def r44_6:List Ins:=[qI 12 (.mov 4), qI 13 (.bin .add 12 (kI 1)), qI 4 (.mov 13)]
def r44_7:List Ins:=[qI 25 (.mov 3), qI 2 (.mov 25)]
def x44:XC:=(.seq (.ops false r44_0) (.seq (.ops false r44_1) (.seq (.seq (.ops false r44_2) (.block 0 (.loop [.gh 3 37 (.list (.int .i64))] ⟨26,[(4,(.int .i64))],[(1,.ptr 0 0 0),(3,.row 1)],[.box 24 [.d (.list tS0)],.row 37 (.list (.int .i64)) false]⟩ (.seq (.seq (.ops false r44_3) (.cond (.t 11) .skip (.exit 0))) (.seq (.block 1 (.seq (.ops false r44_4) (.ops false r44_5))) (.ops false r44_6)))))) (.seq (.ops false r44_7) .ret))))
theorem F44:Fn Tryd.prog 44 26 x44.er [.t 2]:=⟨Tryd.f44,hcl,Tryd.func44,by kernel_rfl,by kernel_rfl,by kernel_rfl,by kernel_rfl⟩
noncomputable def m44 (a0:DS5):Option ((List (List Int)) × Unit) :=
 loopO (S:=Int × (List DS0) × (List (List Int)) × Unit) (R:=(List (List Int)) × Unit) (fun s166 =>
 cond (iLt s166.1 (lenI s166.2.1))
 ((m42 (s166.2.1,()) s166.1).bind fun y167 =>
 cond (fits (List.length s166.2.2.1 + List.length ([([y167.1]:List Int)]:List (List Int))) 24)
 (some (.inl (iAdd .i64 s166.1 1,s166.2.1,s166.2.2.1 ++ ([([y167.1]:List Int)]:List (List Int)),()))) none)
 (some (.inr (s166.2.2.1,()))))
 (0,a0.1,([]:List (List Int)),())
noncomputable def cfg44:Cfg:=⟨ttab,gtab,[i42],[]⟩
theorem eqn44 (x:DS5 × Unit):xfun cfg44 x44 26 [.t 2] [tS5] [(.list (.list (.int .i64)))] x=m44 x.1:=by kernel_rfl
noncomputable def i44:PI:=⟨44,[tS5],[(.list (.list (.int .i64)))],fun (x:DS5 × Unit)=>m44 x.1⟩
theorem oki44:POk Tryd.prog (gx gtab) i44:=pok mixed (cfg_p oki42 (cfg_nil _ _):CfgOk _ (cfg44)) F44 (eqn44)
def r45_0:List Ins:=[qI 4 (.mov (kI 0))]
def r45_1:List Ins:=[qI 5 (.mov 0), qI 6 (.nck 5), qI 7 (.faddr 1 6), qI 8 (.load 1 false 7), qI 9 (.mov 0), qI 10 (.nck 9), qI 11 (.faddr 0 10), qI 12 (.load 1 false 11), qI 13 (.len 12), qI 14 (.bin .geq 8 13)]
def r45_2:List Ins:=[qI 4 (.mov (kI 0))]
def r45_3:List Ins:=[qI 15 (.mov 0), qI 16 (.nck 15), qI 17 (.faddr 1 16), qI 18 (.load 1 false 17), qI 19 (.bin .add 18 (kI 1)), qI 20 (.nck 15), qI 21 (.faddr 1 20), qN (.store 1 21 19)]
def r45_4:List Ins:=[qI 22 (.mov 0), qI 23 (.nck 22), qI 24 (.faddr 0 23), qI 25 (.load 1 false 24), qI 26 (.mov 0), qI 27 (.nck 26), qI 28 (.faddr 1 27), qI 29 (.load 1 false 28), qI 30 (.bin .sub 29 (kI 1)), qI 31 (.iaddr 1 25 30), qI 32 (.load 1 false 31), qI 33 (.mov 1), qI 34 (.bin .rem 32 33), qI 35 (.mov 1), qI 36 (.bin .add 34 35), qI 37 (.mov 1), qI 38 (.bin .rem 36 37), qI 4 (.mov 38)]
def x45:XC:=(.seq (.ops false r45_0) (.seq (.seq (.ops true r45_1) (.cond (.t 14) (.seq (.ops false r45_2) .ret) .skip)) (.seq (.ops false r45_3) (.seq (.ops true r45_4) .ret))))
theorem F45:Fn Tryd.prog 45 39 x45.er [.t 4]:=⟨Tryd.f45,hcl,Tryd.func45,by kernel_rfl,by kernel_rfl,by kernel_rfl,by kernel_rfl⟩
noncomputable def m45 (a0:Int) (a1:List Int) (a2:Int):Option (Int × (List Int) × Int × Unit) :=
 cond (iLe (lenI a1) a2)
 (some (0,a1,a2,()))
 (cond (bnd (iSub .i64 (iAdd .i64 a2 1) 1) (lenI a1))
 (cond (iNe a0 0)
 (cond (iNe a0 0)
 (some (iRem (iAdd .i64 (iRem (atI a1 (iSub .i64 (iAdd .i64 a2 1) 1) 0) a0) a0) a0,a1,iAdd .i64 a2 1,())) none) none) none)
noncomputable def cfg45:Cfg:=⟨ttab,gtab,[],[]⟩
def ish45:Sh:=⟨2,[(1,(.int .i64))],[(0,.ptr 0 0 0)],[.box 78 [.d (.list (.int .i64)),.d (.int .i64)]]⟩
def osh45:Sh:=⟨1,[(0,(.int .i64))],[],[.box 78 [.d (.list (.int .i64)),.d (.int .i64)]]⟩
theorem eqn45 (x:Int × (List Int) × Int × Unit):xfunH cfg45 x45 39 [.t 4] [] ish45 osh45 x=m45 x.1 x.2.1 x.2.2.1:=by kernel_rfl
noncomputable def h45:HI:=⟨45,ish45,osh45,fun (x:Int × (List Int) × Int × Unit)=>m45 x.1 x.2.1 x.2.2.1,[]⟩
theorem okh45:HOk Tryd.prog (gx gtab) h45:=hok mixed (cfg_nil _ _:CfgOk _ (cfg45)) F45 (eqn45)
def r24_0:List Ins:=[qI 3 (.box 24 1 1), qI 4 (.mov kN)]
def r24_1:List Ins:=[qI 5 (.mov kN)]
def r24_2:List Ins:=[qI 6 (.mov (kI 0))]
def r24_3:List Ins:=[qI 10 (.mov 6), qI 11 (.faddr 0 3), qI 12 (.load 1 false 11), qI 13 (.len 12), qI 14 (.bin .lss 10 13)]
def r24_4:List Ins:=[qI 18 (.load 1 true 3), qI 19 (.mov 6), qI 20 (.call (.fn 42) [18,19]), qI 17 (.mov 20), qI 21 (.ext 0 17), qI 22 (.ext 1 17), qI 7 (.mov 21), qI 8 (.mov 22)]
def r24_5:List Ins:=[qI 23 (.mov 7), qI 24 (.mov 0), qI 25 (.mov 8), qI 26 (.mov 7), qI 27 (.bin .sub 25 26), qI 28 (.bin .add 27 (kI 1)), qI 29 (.call (.fn 45) [24,28]), qI 30 (.bin .add 23 29), qI 9 (.mov 30)]
def r24_6:List Ins:=[qI 31 (.mov 0), qI 32 (.call (.fn 45) [31,(kI 5)])]
def r24_7:List Ins:=[qI 34 (.bin .eql 32 (kI 0)), qI 33 (.mov 34)]
def r24_8:List Ins:=[qI 35 (.mov 7), qI 9 (.mov 35)]
def r24_9:List Ins:=[qI 37 (.bin .eql 32 (kI 1)), qI 36 (.mov 37)]
def r24_10:List Ins:=[qI 38 (.mov 8), qI 9 (.mov 38)]
def r24_11:List Ins:=[qI 40 (.bin .eql 32 (kI 2)), qI 39 (.mov 40)]
def r24_12:List Ins:=[qI 41 (.mov 0), qI 42 (.call (.fn 45) [41,(kI 12)]), qI 43 (.bin .sub 42 (kI 4)), qI 44 (.mov 7), qI 45 (.max2 43 44), qI 46 (.mov 8), qI 47 (.min2 45 46), qI 9 (.mov 47)]
def r24_13:List Ins:=[qI 48 (.mov 5), qI 49 (.mov 9), qI 50 (.bsc 3 [49]), qI 51 (.app 3 1 8 48 50), qI 5 (.mov 51)]
def r24_14:List Ins:=[qI 15 (.mov 6), qI 16 (.bin .add 15 (kI 1)), qI 6 (.mov 16)]
def r24_15:List Ins:=[qI 52 (.mov 5), qI 4 (.mov 52)]
def x24:XC:=(.seq (.ops false r24_0) (.seq (.ops false r24_1) (.seq (.seq (.ops false r24_2) (.block 0 (.loop [.gh 5 3 (.int .i64)] ⟨53,[(6,(.int .i64))],[(0,.ptr 0 0 0),(3,.ptr 1 0 0),(5,.row 2)],[.box 78 [.d (.list (.int .i64)),.d (.int .i64)],.box 24 [.d (.list tS0)],.row 3 (.int .i64) false]⟩ (.seq (.seq (.ops false r24_3) (.cond (.t 14) .skip (.exit 0))) (.seq (.block 1 (.seq (.ops false r24_4) (.seq (.ops false r24_5) (.seq (.seq (.ops false r24_6) (.block 2 (.seq (.ops false r24_7) (.cond (.t 33) (.ops false r24_8) (.seq (.ops false r24_9) (.cond (.t 36) (.ops false r24_10) (.seq (.ops false r24_11) (.cond (.t 39) (.ops false r24_12) .skip)))))))) (.ops false r24_13))))) (.ops false r24_14)))))) (.seq (.ops false r24_15) .ret))))
theorem F24:Fn Tryd.prog 24 53 x24.er [.t 4]:=⟨Tryd.f24,hcl,Tryd.func24,by kernel_rfl,by kernel_rfl,by kernel_rfl,by kernel_rfl⟩
noncomputable def m24 (a0:DS5) (a1:List Int) (a2:Int):Option ((List Int) × Int × (List Int) × Unit) :=
 loopO (S:=Int × (List Int) × Int × (List DS0) × (List Int) × Unit) (R:=(List Int) × Int × (List Int) × Unit) (fun s182 =>
 cond (iLt s182.1 (lenI s182.2.2.2.1))
 ((m42 (s182.2.2.2.1,()) s182.1).bind fun y183 =>
 (m45 (iAdd .i64 (iSub .i64 y183.2.1 y183.1) 1) s182.2.1 s182.2.2.1).bind fun y184 =>
 (m45 5 y184.2.1 y184.2.2.1).bind fun y185 =>
 cond (iEq y185.1 0)
 (cond (fits (List.length s182.2.2.2.2.1 + List.length ([y183.1]:List Int)) 8)
 (some (.inl (iAdd .i64 s182.1 1,y185.2.1,y185.2.2.1,s182.2.2.2.1,s182.2.2.2.2.1 ++ ([y183.1]:List Int),()))) none)
 (cond (iEq y185.1 1)
 (cond (fits (List.length s182.2.2.2.2.1 + List.length ([y183.2.1]:List Int)) 8)
 (some (.inl (iAdd .i64 s182.1 1,y185.2.1,y185.2.2.1,s182.2.2.2.1,s182.2.2.2.2.1 ++ ([y183.2.1]:List Int),()))) none)
 (cond (iEq y185.1 2)
 ((m45 12 y185.2.1 y185.2.2.1).bind fun y186 =>
 cond (fits (List.length s182.2.2.2.2.1 + List.length ([iMin (iMax (iSub .i64 y186.1 4) y183.1) y183.2.1]:List Int)) 8)
 (some (.inl (iAdd .i64 s182.1 1,y186.2.1,y186.2.2.1,s182.2.2.2.1,s182.2.2.2.2.1 ++ ([iMin (iMax (iSub .i64 y186.1 4) y183.1) y183.2.1]:List Int),()))) none)
 (cond (fits (List.length s182.2.2.2.2.1 + List.length ([iAdd .i64 y183.1 y184.1]:List Int)) 8)
 (some (.inl (iAdd .i64 s182.1 1,y185.2.1,y185.2.2.1,s182.2.2.2.1,s182.2.2.2.2.1 ++ ([iAdd .i64 y183.1 y184.1]:List Int),()))) none))))
 (some (.inr (s182.2.1,s182.2.2.1,s182.2.2.2.2.1,()))))
 (0,a1,a2,a0.1,([]:List Int),())
noncomputable def cfg24:Cfg:=⟨ttab,gtab,[i42],[h45]⟩
def ish24:Sh:=⟨2,[(1,tS5)],[(0,.ptr 0 0 0)],[.box 78 [.d (.list (.int .i64)),.d (.int .i64)]]⟩
def osh24:Sh:=⟨1,[],[(0,.row 1)],[.box 78 [.d (.list (.int .i64)),.d (.int .i64)],.row 3 (.int .i64) false]⟩
theorem eqn24 (x:DS5 × (List Int) × Int × Unit):xfunH cfg24 x24 53 [.t 4] [.gh 4 3 (.int .i64)] ish24 osh24 x=m24 x.1 x.2.1 x.2.2.1:=by kernel_rfl
noncomputable def h24:HI:=⟨24,ish24,osh24,fun (x:DS5 × (List Int) × Int × Unit)=>m24 x.1 x.2.1 x.2.2.1,[]⟩
theorem okh24:HOk Tryd.prog (gx gtab) h24:=hok mixed (cfg_p oki42 (cfg_h okh45 (cfg_nil _ _)):CfgOk _ (cfg24)) F24 (eqn24)
def r96_0:List Ins:=[qI 4 (.mov kN)]
def r96_1:List Ins:=[qI 5 (.mov kN)]
def r96_2:List Ins:=[qI 6 (.mov (.k (.bool false)))]
def r96_3:List Ins:=[qI 7 (.mov (kI 0))]
def r96_4:List Ins:=[qI 8 (.mov 7), qI 9 (.mov 0), qI 10 (.len 9), qI 11 (.bin .lss 8 10)]
def r96_5:List Ins:=[qI 14 (.mov 6), qI 15 (.un .not 14), qI 16 (.mov 15), qT 17 16 (.mov 1), qT 18 16 (.mov 0), qT 19 16 (.mov 7), qT 20 16 (.iaddr 1 18 19), qT 21 16 (.load 1 false 20), qT 22 16 (.bin .leq 17 21), qI 23 (.pick 16 22 (.k (.bool false)))]
def r96_6:List Ins:=[qI 24 (.mov 1), qI 25 (.mov 0), qI 26 (.mov 7), qI 27 (.iaddr 1 25 26), qI 28 (.load 1 false 27), qI 29 (.bin .lss 24 28)]
def r96_7:List Ins:=[qI 30 (.mov 5), qI 31 (.mov 1), qI 32 (.bsc 3 [31]), qI 33 (.app 3 1 8 30 32), qI 5 (.mov 33)]
def r96_8:List Ins:=[qI 6 (.mov (.k (.bool true)))]
def r96_9:List Ins:=[qI 34 (.mov 5), qI 35 (.mov 0), qI 36 (.mov 7), qI 37 (.iaddr 1 35 36), qI 38 (.load 1 false 37), qI 39 (.bsc 3 [38]), qI 40 (.app 3 1 8 34 39), qI 5 (.mov 40)]
def r96_10:List Ins:=[qI 12 (.mov 7), qI 13 (.bin .add 12 (kI 1)), qI 7 (.mov 13)]
def r96_11:List Ins:=[qI 41 (.mov 6), qI 42 (.un .not 41)]
def r96_12:List Ins:=[qI 43 (.mov 5), qI 44 (.mov 1), qI 45 (.bsc 3 [44]), qI 46 (.app 3 1 8 43 45), qI 5 (.mov 46)]
def r96_13:List Ins:=[qI 47 (.mov 5), qI 4 (.mov 47)]
def x96:XC:=(.seq (.ops false r96_0) (.seq (.ops false r96_1) (.seq (.ops false r96_2) (.seq (.seq (.ops false r96_3) (.block 0 (.loop [.gh 5 3 (.int .i64)] ⟨48,[(0,(.list (.int .i64))),(1,(.int .i64)),(6,.bool),(7,(.int .i64))],[(5,.row 0)],[.row 3 (.int .i64) false]⟩ (.seq (.seq (.ops false r96_4) (.cond (.t 11) .skip (.exit 0))) (.seq (.block 1 (.seq (.seq (.ops false r96_5) (.cond (.t 23) (.seq (.seq (.ops false r96_6) (.cond (.t 29) (.ops false r96_7) .skip)) (.ops false r96_8)) .skip)) (.ops false r96_9))) (.ops false r96_10)))))) (.seq (.seq (.ops false r96_11) (.cond (.t 42) (.ops false r96_12) .skip)) (.seq (.ops false r96_13) .ret))))))
theorem F96:Fn Tryd.prog 96 48 x96.er [.t 4]:=⟨Tryd.f96,hcl,Tryd.func96,by kernel_rfl,by kernel_rfl,by kernel_rfl,by kernel_rfl⟩
noncomputable def m96 (a0:List Int) (a1:Int):Option ((List Int) × Unit) :=
 loopO (S:=(List Int) × Int × Bool × Int × (List Int) × Unit) (R:=(List Int) × Unit) (fun s190 =>
 cond (iLt s190.2.2.2.1 (lenI s190.1))
 (cond (or (bnd s190.2.2.2.1 (lenI s190.1)) (not (bEq (not s190.2.2.1) true)))
 (cond (cond (not s190.2.2.1) (iLe s190.2.1 (atI s190.1 s190.2.2.2.1 0)) false)
 (cond (bnd s190.2.2.2.1 (lenI s190.1))
 (cond (iLt s190.2.1 (atI s190.1 s190.2.2.2.1 0))
 (cond (fits (List.length s190.2.2.2.2.1 + List.length ([s190.2.1]:List Int)) 8)
 (cond (bnd s190.2.2.2.1 (lenI s190.1))
 (cond (fits (List.length (s190.2.2.2.2.1 ++ ([s190.2.1]:List Int)) + List.length ([atI s190.1 s190.2.2.2.1 0]:List Int)) 8)
 (some (.inl (s190.1,s190.2.1,true,iAdd .i64 s190.2.2.2.1 1,(s190.2.2.2.2.1 ++ ([s190.2.1]:List Int)) ++ ([atI s190.1 s190.2.2.2.1 0]:List Int),()))) none) none) none)
 (cond (bnd s190.2.2.2.1 (lenI s190.1))
 (cond (fits (List.length s190.2.2.2.2.1 + List.length ([atI s190.1 s190.2.2.2.1 0]:List Int)) 8)
 (some (.inl (s190.1,s190.2.1,true,iAdd .i64 s190.2.2.2.1 1,s190.2.2.2.2.1 ++ ([atI s190.1 s190.2.2.2.1 0]:List Int),()))) none) none)) none)
 (cond (bnd s190.2.2.2.1 (lenI s190.1))
 (cond (fits (List.length s190.2.2.2.2.1 + List.length ([atI s190.1 s190.2.2.2.1 0]:List Int)) 8)
 (some (.inl (s190.1,s190.2.1,s190.2.2.1,iAdd .i64 s190.2.2.2.1 1,s190.2.2.2.2.1 ++ ([atI s190.1 s190.2.2.2.1 0]:List Int),()))) none) none)) none)
 (Option.map Sum.inr (cond (not s190.2.2.1)
 (cond (fits (List.length s190.2.2.2.2.1 + List.length ([s190.2.1]:List Int)) 8)
 (some (s190.2.2.2.2.1 ++ ([s190.2.1]:List Int),())) none)
 (some (s190.2.2.2.2.1,())))))
 (a0,a1,false,0,([]:List Int),())
noncomputable def cfg96:Cfg:=⟨ttab,gtab,[],[]⟩
theorem eqn96 (x:(List Int) × Int × Unit):xfun cfg96 x96 48 [.t 4] [(.list (.int .i64)),(.int .i64)] [(.list (.int .i64))] x=m96 x.1 x.2.1:=by kernel_rfl
noncomputable def i96:PI:=⟨96,[(.list (.int .i64)),(.int .i64)],[(.list (.int .i64))],fun (x:(List Int) × Int × Unit)=>m96 x.1 x.2.1⟩
theorem oki96:POk Tryd.prog (gx gtab) i96:=pok mixed (cfg_nil _ _:CfgOk _ (cfg96)) F96 (eqn96)
def r79_0:List Ins:=[qI 4 (.mov kN)]
def r79_1:List Ins:=[qI 5 (.mov 0), qI 6 (.mov 1), qI 7 (.call (.fn 96) [5,6]), qI 4 (.mov 7)]
def x79:XC:=(.seq (.ops false r79_0) (.seq (.ops false r79_1) .ret))
theorem F79:Fn Tryd.prog 79 8 x79.er [.t 4]:=⟨Tryd.f79,hcl,Tryd.func79,by kernel_rfl,by kernel_rfl,by kernel_rfl,by kernel_rfl⟩
noncomputable def m79 (a0:List Int) (a1:Int):Option ((List Int) × Unit) :=
 (m96 a0 a1).bind fun y191 =>
 some (y191.1,())
noncomputable def cfg79:Cfg:=⟨ttab,gtab,[i96],[]⟩
theorem eqn79 (x:(List Int) × Int × Unit):xfun cfg79 x79 8 [.t 4] [(.list (.int .i64)),(.int .i64)] [(.list (.int .i64))] x=m79 x.1 x.2.1:=by kernel_rfl
noncomputable def i79:PI:=⟨79,[(.list (.int .i64)),(.int .i64)],[(.list (.int .i64))],fun (x:(List Int) × Int × Unit)=>m79 x.1 x.2.1⟩
theorem oki79:POk Tryd.prog (gx gtab) i79:=pok mixed (cfg_p oki96 (cfg_nil _ _):CfgOk _ (cfg79)) F79 (eqn79)
def r46_0:List Ins:=[qI 4 (.box 24 1 0), qI 8 (.mov kN)]
def r46_1:List Ins:=[qI 13 (.load 1 true 4), qI 14 (.mov 2), qI 15 (.call (.fn 42) [13,14]), qI 12 (.mov 15), qI 16 (.ext 0 12), qI 17 (.ext 1 12), qI 9 (.mov 16), qI 10 (.mov 17)]
def r46_2:List Ins:=[qI 18 (.mov 3), qI 19 (.mov 9), qI 20 (.bin .leq 18 19), qI 21 (.mov 20), qF 22 21 (.mov 3), qF 23 21 (.mov 10), qF 24 21 (.bin .gtr 22 23), qI 25 (.pick 21 (.k (.bool true)) 24)]
def r46_3:List Ins:=[qI 26 (.mov 1), qI 8 (.mov 26)]
def r46_4:List Ins:=[qI 27 (.bslice 37 1 []), qI 28 (.mov 1), qI 29 (.app 37 1 24 27 28), qI 11 (.mov 29)]
def r46_5:List Ins:=[qI 30 (.mov 11), qI 31 (.mov 2), qI 32 (.mov 1), qI 33 (.mov 2), qI 34 (.iaddr 1 32 33), qI 35 (.load 1 false 34), qI 36 (.mov 3), qI 37 (.call (.fn 79) [35,36]), qI 38 (.iaddr 1 30 31), qN (.store 1 38 37)]
def r46_6:List Ins:=[qI 39 (.mov 11), qI 8 (.mov 39)]
def x46:XC:=(.seq (.ops false r46_0) (.seq (.ops false r46_1) (.seq (.seq (.ops false r46_2) (.cond (.t 25) (.seq (.ops false r46_3) .ret) .skip)) (.seq (.ops false r46_4) (.seq (.ops false r46_5) (.seq (.ops false r46_6) .ret))))))
theorem F46:Fn Tryd.prog 46 40 x46.er [.t 8]:=⟨Tryd.f46,hcl,Tryd.func46,by kernel_rfl,by kernel_rfl,by kernel_rfl,by kernel_rfl⟩
noncomputable def m46 (a0:DS5) (a1:List (List Int)) (a2:Int) (a3:Int):Option ((List (List Int)) × Unit) :=
 (m42 (a0.1,()) a2).bind fun y188 =>
 cond (cond (iLe a3 y188.1) true (iLt y188.2.1 a3))
 (some (a1,()))
 (cond (fits (List.length ([]:List (List Int)) + List.length a1) 24)
 (cond (bnd a2 (lenI a1))
 ((m79 (atI a1 a2 []) a3).bind fun y192 =>
 cond (bnd a2 (lenI (([]:List (List Int)) ++ a1)))
 (cond (inB (Int.toNat a2) (([]:List (List Int)) ++ a1))
 (some (List.set (([]:List (List Int)) ++ a1) (Int.toNat a2) y192.1,())) none) none) none) none)
noncomputable def cfg46:Cfg:=⟨ttab,gtab,[i42,i79],[]⟩
theorem eqn46 (x:DS5 × (List (List Int)) × Int × Int × Unit):xfun cfg46 x46 40 [.t 8] [tS5,(.list (.list (.int .i64))),(.int .i64),(.int .i64)] [(.list (.list (.int .i64)))] x=m46 x.1 x.2.1 x.2.2.1 x.2.2.2.1:=by kernel_rfl
noncomputable def i46:PI:=⟨46,[tS5,(.list (.list (.int .i64))),(.int .i64),(.int .i64)],[(.list (.list (.int .i64)))],fun (x:DS5 × (List (List Int)) × Int × Int × Unit)=>m46 x.1 x.2.1 x.2.2.1 x.2.2.2.1⟩
theorem oki46:POk Tryd.prog (gx gtab) i46:=pok mixed (cfg_p oki42 (cfg_p oki79 (cfg_nil _ _)):CfgOk _ (cfg46)) F46 (eqn46)
def r47_0:List Ins:=[qI 2 (.mov (kI 0))]
def r47_1:List Ins:=[qI 3 (.mov (kI 1))]
def r47_2:List Ins:=[qI 4 (.mov (kI 0))]
def r47_3:List Ins:=[qI 5 (.mov 4), qI 6 (.mov 0), qI 7 (.len 6), qI 8 (.bin .lss 5 7)]
def r47_4:List Ins:=[qI 11 (.mov 3), qI 12 (.mov 0), qI 13 (.mov 4), qI 14 (.iaddr 1 12 13), qI 15 (.load 1 false 14), qI 16 (.len 15), qI 17 (.bin .mul 11 16), qI 18 (.min2 17 (kI 8193)), qI 3 (.mov 18)]
def r47_5:List Ins:=[qI 9 (.mov 4), qI 10 (.bin .add 9 (kI 1)), qI 4 (.mov 10)]
def r47_6:List Ins:=[qI 19 (.mov 3), qI 2 (.mov 19)]
def x47:XC:=(.seq (.ops false r47_0) (.seq (.ops false r47_1) (.seq (.seq (.ops false r47_2) (.block 0 (.loop [] ⟨20,[(0,(.list (.list (.int .i64)))),(3,(.int .i64)),(4,(.int .i64))],[],[]⟩ (.seq (.seq (.ops false r47_3) (.cond (.t 8) .skip (.exit 0))) (.seq (.block 1 (.ops false r47_4)) (.ops false r47_5)))))) (.seq (.ops false r47_6) .ret))))
theorem F47:Fn Tryd.prog 47 20 x47.er [.t 2]:=⟨Tryd.f47,hcl,Tryd.func47,by kernel_rfl,by kernel_rfl,by kernel_rfl,by kernel_rfl⟩
noncomputable def m47 (a0:List (List Int)):Option (Int × Unit) :=
 loopO (S:=(List (List Int)) × Int × Int × Unit) (R:=Int × Unit) (fun s195 =>
 cond (iLt s195.2.2.1 (lenI s195.1))
 (cond (bnd s195.2.2.1 (lenI s195.1))
 (some (.inl (s195.1,iMin (iMul .i64 s195.2.1 (lenI (atI s195.1 s195.2.2.1 []))) 8193,iAdd .i64 s195.2.2.1 1,()))) none)
 (some (.inr (s195.2.1,()))))
 (a0,1,0,())
noncomputable def cfg47:Cfg:=⟨ttab,gtab,[],[]⟩
theorem eqn47 (x:(List (List Int)) × Unit):xfun cfg47 x47 20 [.t 2] [(.list (.list (.int .i64)))] [(.int .i64)] x=m47 x.1:=by kernel_rfl
noncomputable def i47:PI:=⟨47,[(.list (.list (.int .i64)))],[(.int .i64)],fun (x:(List (List Int)) × Unit)=>m47 x.1⟩
theorem oki47:POk Tryd.prog (gx gtab) i47:=pok mixed (cfg_nil _ _:CfgOk _ (cfg47)) F47 (eqn47)
def r97_0:List Ins:=[qI 8 (.mov (kI 0))]
def r97_1:List Ins:=[qI 9 (.mov kN)]
def r97_2:List Ins:=[qI 14 (.mov 3), qI 15 (.iaddr 1 14 (kI 0)), qI 16 (.load 1 false 15), qI 17 (.bsc 3 [16]), qI 10 (.mov 17)]
def r97_3:List Ins:=[qI 11 (.mov (kI 1))]
def r97_4:List Ins:=[qI 18 (.mov 11), qI 19 (.mov 3), qI 20 (.len 19), qI 21 (.bin .lss 18 20)]
def r97_5:List Ins:=[qI 24 (.mov 3), qI 25 (.mov 11), qI 26 (.iaddr 1 24 25), qI 27 (.load 1 false 26), qI 28 (.mov 10), qI 29 (.mov 10), qI 30 (.len 29), qI 31 (.bin .sub 30 (kI 1)), qI 32 (.iaddr 1 28 31), qI 33 (.load 1 false 32), qI 34 (.bin .neq 27 33)]
def r97_6:List (Nat × Ins):=[(0,qI 35 (.mov 9)),
(0,qI 36 (.mov 2)),
(0,qI 37 (.mov 11)),
(0,qI 38 (.iaddr 1 36 37)),
(1,qI 39 (.load 1 false 38)),
(2,qI 40 (.bsc 3 [39])),
(2,qI 41 (.app 3 1 8 35 40)),
(0,qI 42 (.mov 10)),
(0,qI 43 (.mov 3)),
(0,qI 44 (.mov 11)),
(0,qI 45 (.iaddr 1 43 44)),
(1,qI 46 (.load 1 false 45)),
(2,qI 47 (.bsc 3 [46])),
(0,qI 48 (.app 3 1 8 42 47)),
(0,qI 9 (.mov 41)),
(0,qI 10 (.mov 48))]
def r97_7:List Ins:=[qI 22 (.mov 11), qI 23 (.bin .add 22 (kI 1)), qI 11 (.mov 23)]
def r97_8:List Ins:=[qI 49 (.mov 10), qI 50 (.len 49), qI 51 (.bin .eql 50 (kI 1))]
def r97_9:List Ins:=[qI 52 (.mov 10), qI 53 (.iaddr 1 52 (kI 0)), qI 54 (.load 1 false 53), qI 8 (.mov 54)]
def r97_10:List Ins:=[qI 12 (.mov (kI 0))]
def r97_11:List Ins:=[qI 55 (.mov 12), qI 56 (.mov 0), qI 57 (.nck 56), qI 58 (.faddr 2 57), qI 59 (.load 1 false 58), qI 60 (.len 59), qI 61 (.bin .lss 55 60)]
def r97_12:List Ins:=[qI 64 (.mov 0), qI 65 (.nck 64), qI 66 (.faddr 2 65), qI 67 (.load 1 false 66), qI 68 (.mov 12), qI 69 (.iaddr 3 67 68), qI 70 (.load 3 true 69), qI 13 (.alloc 70 (.agg #[.int .i64 0,.slice none 0 0,.slice none 0 0])), qN (.store 3 13 70)]
def r97_13:List Ins:=[qI 71 (.faddr 0 13), qI 72 (.load 1 false 71), qI 73 (.mov 1), qI 74 (.bin .eql 72 73), qI 75 (.mov 74), qT 76 75 (.faddr 1 13), qT 77 75 (.load 1 false 76), qT 78 75 (.mov 9), qT 79 75 (.call (.fn 23) [77,78]), qI 80 (.pick 75 79 (.k (.bool false))), qI 81 (.mov 80), qT 82 81 (.faddr 2 13), qT 83 81 (.load 1 false 82), qT 84 81 (.mov 10), qT 85 81 (.call (.fn 23) [83,84]), qI 86 (.pick 81 85 (.k (.bool false)))]
def r97_14:List Ins:=[qI 87 (.mov 12), qI 8 (.mov 87)]
def r97_15:List Ins:=[qI 62 (.mov 12), qI 63 (.bin .add 62 (kI 1)), qI 12 (.mov 63)]
def r97_16:List Ins:=[qI 88 (.mov 0), qI 89 (.mov 0), qI 90 (.nck 89), qI 91 (.faddr 2 90), qI 92 (.load 1 false 91), qI 93 (.mov 1), qI 94 (.mov 9), qI 95 (.mov 10), qI 96 (.build [.int .i64 0,.slice none 0 0,.slice none 0 0] [(0,1,93),(1,1,94),(2,1,95)]), qI 97 (.bslice 70 3 [96]), qI 98 (.app 70 3 56 92 97), qI 99 (.nck 88), qI 100 (.faddr 2 99), qN (.store 1 100 98)]
def r97_17:List Ins:=[qI 101 (.mov 0), qI 102 (.nck 101), qI 103 (.faddr 2 102), qI 104 (.load 1 false 103), qI 105 (.len 104), qI 106 (.bin .sub 105 (kI 1)), qI 8 (.mov 106)]
def r23_0:List Ins:=[qI 4 (.mov (.k (.bool false)))]
def r23_1:List Ins:=[qI 6 (.mov 0), qI 7 (.len 6), qI 8 (.mov 1), qI 9 (.len 8), qI 10 (.bin .neq 7 9)]
def r23_2:List Ins:=[qI 4 (.mov (.k (.bool false)))]
def r23_3:List Ins:=[qI 5 (.mov (kI 0))]
def r23_4:List Ins:=[qI 11 (.mov 5), qI 12 (.mov 0), qI 13 (.len 12), qI 14 (.bin .lss 11 13)]
def r23_5:List Ins:=[qI 17 (.mov 0), qI 18 (.mov 5), qI 19 (.iaddr 1 17 18), qI 20 (.load 1 false 19), qI 21 (.mov 1), qI 22 (.mov 5), qI 23 (.iaddr 1 21 22), qI 24 (.load 1 false 23), qI 25 (.bin .neq 20 24)]
def r23_6:List Ins:=[qI 4 (.mov (.k (.bool false)))]
def r23_7:List Ins:=[qI 15 (.mov 5), qI 16 (.bin .add 15 (kI 1)), qI 5 (.mov 16)]
def r23_8:List Ins:=[qI 4 (.mov (.k (.bool true)))]
def x23:XC:=(.seq (.ops false r23_0) (.seq (.seq (.ops false r23_1) (.cond (.t 10) (.seq (.ops false r23_2) .ret) .skip)) (.seq (.seq (.ops false r23_3) (.block 0 (.loop [] ⟨26,[(0,(.list (.int .i64))),(1,(.list (.int .i64))),(5,(.int .i64))],[],[]⟩ (.seq (.seq (.ops false r23_4) (.cond (.t 14) .skip (.exit 0))) (.seq (.block 1 (.seq (.ops true r23_5) (.cond (.t 25) (.seq (.ops false r23_6) .ret) .skip))) (.ops false r23_7)))))) (.seq (.ops false r23_8) .ret))))
theorem F23:Fn Tryd.prog 23 26 x23.er [.t 4]:=⟨Tryd.f23,hcl,Tryd.func23,by kernel_rfl,by kernel_rfl,by kernel_rfl,by kernel_rfl⟩
noncomputable def m23 (a0:List Int) (a1:List Int):Option (Bool × Unit) :=
 cond (iNe (lenI a0) (lenI a1))
 (some (false,()))
 (loopO (S:=(List Int) × (List Int) × Int × Unit) (R:=Bool × Unit) (fun s221 =>
 cond (iLt s221.2.2.1 (lenI s221.1))
 (cond (bnd s221.2.2.1 (lenI s221.1))
 (cond (bnd s221.2.2.1 (lenI s221.2.1))
 (cond (iNe (atI s221.1 s221.2.2.1 0) (atI s221.2.1 s221.2.2.1 0))
 (some (.inr (false,())))
 (some (.inl (s221.1,s221.2.1,iAdd .i64 s221.2.2.1 1,())))) none) none)
 (some (.inr (true,()))))
 (a0,a1,0,()))
noncomputable def cfg23:Cfg:=⟨ttab,gtab,[],[]⟩
theorem eqn23 (x:(List Int) × (List Int) × Unit):xfun cfg23 x23 26 [.t 4] [(.list (.int .i64)),(.list (.int .i64))] [.bool] x=m23 x.1 x.2.1:=by kernel_rfl
noncomputable def i23:PI:=⟨23,[(.list (.int .i64)),(.list (.int .i64))],[.bool],fun (x:(List Int) × (List Int) × Unit)=>m23 x.1 x.2.1⟩
theorem oki23:POk Tryd.prog (gx gtab) i23:=pok mixed (cfg_nil _ _:CfgOk _ (cfg23)) F23 (eqn23)
def x97_1:XC:=(.seq (.ops false r97_0) (.seq (.ops false r97_1) (.seq (.ops false r97_2) (.seq (.seq (.ops false r97_3) (.block 0 (.loop [.gh 9 3 (.int .i64)] ⟨107,[(1,(.int .i64)),(2,(.list (.int .i64))),(11,(.int .i64))],[(0,.ptr 0 0 0),(3,.row 1),(9,.row 3),(10,.row 4)],[.box 93 [.d (.list (.list (.int .i64))),.d (.list (.int .i64)),.row 2],.row 3 (.int .i64) false,.row 70 tS1 false,.row 3 (.int .i64) false,.row 3 (.int .i64) false]⟩ (.seq (.seq (.ops false r97_4) (.cond (.t 21) .skip (.exit 0))) (.seq (.block 1 (.seq (.ops true r97_5) (.cond (.t 34) (.rops [3] r97_6) .skip))) (.ops false r97_7)))))) (.seq (.seq (.ops false r97_8) (.cond (.t 51) (.seq (.ops false r97_9) .ret) .skip)) (.seq (.seq (.ops false r97_10) (.block 2 (.loop [.gh 9 3 (.int .i64)] ⟨107,[(1,(.int .i64)),(12,(.int .i64))],[(0,.ptr 0 0 0),(9,.row 3),(10,.row 4)],[.box 93 [.d (.list (.list (.int .i64))),.d (.list (.int .i64)),.row 2],.row 3 (.int .i64) false,.row 70 tS1 false,.row 3 (.int .i64) false,.row 3 (.int .i64) false]⟩ (.seq (.seq (.ops false r97_11) (.cond (.t 61) .skip (.exit 2))) (.seq (.block 3 (.seq (.ops false r97_12) (.seq (.ops false r97_13) (.cond (.t 86) (.seq (.ops false r97_14) .ret) .skip)))) (.ops false r97_15)))))) (.seq (.ops false r97_16) (.seq (.ops false r97_17) .ret))))))))
theorem F97_1:Fn Tryd.prog 97 107 x97_1.er [.t 8]:=⟨Tryd.f97,hcl,Tryd.func97,by kernel_rfl,by kernel_rfl,by kernel_rfl,by kernel_rfl⟩
noncomputable def m97_1 (a0:Int) (a1:List Int) (a2:List (List Int)) (a3:List Int) (a4:List Int) (a5:List DS1):Option (Int × (List (List Int)) × (List Int) × (List Int) × (List DS1) × Unit) :=
 cond (bnd 0 (lenI a4))
 (cond (inB (Int.toNat 0) a4)
 (loopO (S:=Int × (List Int) × Int × (List (List Int)) × (List Int) × (List Int) × (List DS1) × (List Int) × (List Int) × Unit) (R:=Int × (List (List Int)) × (List Int) × (List Int) × (List DS1) × Unit) (fun s228 =>
 cond (iLt s228.2.2.1 (lenI s228.2.2.2.2.2.1))
 (cond (bnd s228.2.2.1 (lenI s228.2.2.2.2.2.1))
 (cond (inB (Int.toNat s228.2.2.1) s228.2.2.2.2.2.1)
 (cond (bnd (iSub .i64 (lenI s228.2.2.2.2.2.2.2.2.1) 1) (lenI s228.2.2.2.2.2.2.2.2.1))
 (cond (inB (Int.toNat (iSub .i64 (lenI s228.2.2.2.2.2.2.2.2.1) 1)) s228.2.2.2.2.2.2.2.2.1)
 (cond (iNe (List.getD s228.2.2.2.2.2.1 (Int.toNat s228.2.2.1) 0) (List.getD s228.2.2.2.2.2.2.2.2.1 (Int.toNat (iSub .i64 (lenI s228.2.2.2.2.2.2.2.2.1) 1)) 0))
 (cond (bnd s228.2.2.1 (lenI s228.2.1))
 (cond (fits (List.length s228.2.2.2.2.2.2.2.1 + List.length ([atI s228.2.1 s228.2.2.1 0]:List Int)) 8)
 (cond (bnd s228.2.2.1 (lenI s228.2.2.2.2.2.1))
 (cond (inB (Int.toNat s228.2.2.1) s228.2.2.2.2.2.1)
 (cond (fits (List.length s228.2.2.2.2.2.2.2.2.1 + List.length ([List.getD s228.2.2.2.2.2.1 (Int.toNat s228.2.2.1) 0]:List Int)) 8)
 (some (.inl (s228.1,s228.2.1,iAdd .i64 s228.2.2.1 1,s228.2.2.2.1,s228.2.2.2.2.1,s228.2.2.2.2.2.1,s228.2.2.2.2.2.2.1,s228.2.2.2.2.2.2.2.1 ++ ([atI s228.2.1 s228.2.2.1 0]:List Int),s228.2.2.2.2.2.2.2.2.1 ++ ([List.getD s228.2.2.2.2.2.1 (Int.toNat s228.2.2.1) 0]:List Int),()))) none) none) none) none) none)
 (some (.inl (s228.1,s228.2.1,iAdd .i64 s228.2.2.1 1,s228.2.2.2.1,s228.2.2.2.2.1,s228.2.2.2.2.2.1,s228.2.2.2.2.2.2.1,s228.2.2.2.2.2.2.2.1,s228.2.2.2.2.2.2.2.2.1,())))) none) none) none) none)
 (Option.map Sum.inr (cond (iEq (lenI s228.2.2.2.2.2.2.2.2.1) 1)
 (cond (bnd 0 (lenI s228.2.2.2.2.2.2.2.2.1))
 (cond (inB (Int.toNat 0) s228.2.2.2.2.2.2.2.2.1)
 (some (List.getD s228.2.2.2.2.2.2.2.2.1 (Int.toNat 0) 0,s228.2.2.2.1,s228.2.2.2.2.1,s228.2.2.2.2.2.1,s228.2.2.2.2.2.2.1,())) none) none)
 (loopO (S:=Int × Int × (List (List Int)) × (List Int) × (List Int) × (List DS1) × (List Int) × (List Int) × Unit) (R:=Int × (List (List Int)) × (List Int) × (List Int) × (List DS1) × Unit) (fun s229 =>
 cond (iLt s229.2.1 (lenI s229.2.2.2.2.2.1))
 (cond (bnd s229.2.1 (lenI s229.2.2.2.2.2.1))
 (cond (inB (Int.toNat s229.2.1) s229.2.2.2.2.2.1)
 (cond (iEq ((List.getD s229.2.2.2.2.2.1 (Int.toNat s229.2.1) (0,[],[],())).1) s229.1)
 ((m23 ((List.getD s229.2.2.2.2.2.1 (Int.toNat s229.2.1) (0,[],[],())).2.1) s229.2.2.2.2.2.2.1).bind fun y230 =>
 cond y230.1
 ((m23 ((List.getD s229.2.2.2.2.2.1 (Int.toNat s229.2.1) (0,[],[],())).2.2.1) s229.2.2.2.2.2.2.2.1).bind fun y231 =>
 cond y231.1
 (some (.inr (s229.2.1,s229.2.2.1,s229.2.2.2.1,s229.2.2.2.2.1,s229.2.2.2.2.2.1,())))
 (some (.inl (s229.1,iAdd .i64 s229.2.1 1,s229.2.2.1,s229.2.2.2.1,s229.2.2.2.2.1,s229.2.2.2.2.2.1,s229.2.2.2.2.2.2.1,s229.2.2.2.2.2.2.2.1,()))))
 (some (.inl (s229.1,iAdd .i64 s229.2.1 1,s229.2.2.1,s229.2.2.2.1,s229.2.2.2.2.1,s229.2.2.2.2.2.1,s229.2.2.2.2.2.2.1,s229.2.2.2.2.2.2.2.1,()))))
 (some (.inl (s229.1,iAdd .i64 s229.2.1 1,s229.2.2.1,s229.2.2.2.1,s229.2.2.2.2.1,s229.2.2.2.2.2.1,s229.2.2.2.2.2.2.1,s229.2.2.2.2.2.2.2.1,())))) none) none)
 (Option.map Sum.inr (cond (fits (List.length s229.2.2.2.2.2.1 + List.length ([(s229.1,s229.2.2.2.2.2.2.1,s229.2.2.2.2.2.2.2.1,())]:List DS1)) 56)
 (some (iSub .i64 (lenI (s229.2.2.2.2.2.1 ++ ([(s229.1,s229.2.2.2.2.2.2.1,s229.2.2.2.2.2.2.2.1,())]:List DS1))) 1,s229.2.2.1,s229.2.2.2.1,s229.2.2.2.2.1,s229.2.2.2.2.2.1 ++ ([(s229.1,s229.2.2.2.2.2.2.1,s229.2.2.2.2.2.2.2.1,())]:List DS1),())) none)))
 (s228.1,0,s228.2.2.2.1,s228.2.2.2.2.1,s228.2.2.2.2.2.1,s228.2.2.2.2.2.2.1,s228.2.2.2.2.2.2.2.1,s228.2.2.2.2.2.2.2.2.1,())))))
 (a0,a1,1,a2,a3,a4,a5,([]:List Int),([List.getD a4 (Int.toNat 0) 0]:List Int),())) none) none
noncomputable def cfg97_1:Cfg:=⟨ttab,gtab,[i23],[]⟩
def ish97_1:Sh:=⟨4,[(1,(.int .i64)),(2,(.list (.int .i64)))],[(0,.ptr 0 0 0),(3,.row 1)],[.box 93 [.d (.list (.list (.int .i64))),.d (.list (.int .i64)),.row 2],.row 3 (.int .i64) false,.row 70 tS1 false]⟩
def osh97_1:Sh:=⟨1,[(0,(.int .i64))],[],[.box 93 [.d (.list (.list (.int .i64))),.d (.list (.int .i64)),.row 2],.row 3 (.int .i64) false,.row 70 tS1 false]⟩
theorem eqn97_1 (x:Int × (List Int) × (List (List Int)) × (List Int) × (List Int) × (List DS1) × Unit):xfunH cfg97_1 x97_1 107 [.t 8] [] ish97_1 osh97_1 x=m97_1 x.1 x.2.1 x.2.2.1 x.2.2.2.1 x.2.2.2.2.1 x.2.2.2.2.2.1:=by kernel_rfl
noncomputable def h97_1:HI:=⟨97,ish97_1,osh97_1,fun (x:Int × (List Int) × (List (List Int)) × (List Int) × (List Int) × (List DS1) × Unit)=>m97_1 x.1 x.2.1 x.2.2.1 x.2.2.2.1 x.2.2.2.2.1 x.2.2.2.2.2.1,[1]⟩
theorem okh97_1:HOk Tryd.prog (gx gtab) h97_1:=hok mixed (cfg_p oki23 (cfg_nil _ _):CfgOk _ (cfg97_1)) F97_1 (eqn97_1)
def r80_0:List Ins:=[qI 8 (.mov (kI 0))]
def r80_1:List Ins:=[qI 12 (.mov 1), qI 13 (.mov 0), qI 14 (.nck 13), qI 15 (.faddr 0 14), qI 16 (.load 1 false 15), qI 17 (.len 16), qI 18 (.bin .eql 12 17)]
def r80_2:List Ins:=[qI 19 (.mov 0), qI 20 (.nck 19), qI 21 (.faddr 1 20), qI 22 (.load 1 false 21), qI 23 (.mov 2), qI 24 (.iaddr 1 22 23), qI 25 (.load 1 false 24), qI 26 (.bin .sub (.k (.int .i64 (-1))) 25), qI 8 (.mov 26)]
def r80_3:List Ins:=[qI 27 (.mov 3), qI 28 (.mov 0), qI 29 (.nck 28), qI 30 (.faddr 0 29), qI 31 (.load 1 false 30), qI 32 (.mov 1), qI 33 (.iaddr 1 31 32), qI 34 (.load 1 false 33), qI 35 (.len 34), qI 36 (.bin .quo 27 35), qI 9 (.mov 36)]
def r80_4:List Ins:=[qI 10 (.mov kN)]
def r80_5:List Ins:=[qI 11 (.mov (kI 0))]
def r80_6:List Ins:=[qI 37 (.mov 11), qI 38 (.mov 0), qI 39 (.nck 38), qI 40 (.faddr 0 39), qI 41 (.load 1 false 40), qI 42 (.mov 1), qI 43 (.iaddr 1 41 42), qI 44 (.load 1 false 43), qI 45 (.len 44), qI 46 (.bin .lss 37 45)]
def r80_7:List Ins:=[qI 49 (.mov 10), qI 50 (.mov 0), qI 51 (.mov 1), qI 52 (.bin .add 51 (kI 1)), qI 53 (.mov 2), qI 54 (.mov 11), qI 55 (.mov 9), qI 56 (.bin .mul 54 55), qI 57 (.bin .add 53 56), qI 58 (.mov 9), qI 59 (.call (.fn 80) [50,52,57,58]), qI 60 (.bsc 3 [59]), qI 61 (.app 3 1 8 49 60), qI 10 (.mov 61)]
def r80_8:List Ins:=[qI 47 (.mov 11), qI 48 (.bin .add 47 (kI 1)), qI 11 (.mov 48)]
def r80_9:List Ins:=[qI 62 (.mov 0), qI 63 (.mov 1), qI 64 (.mov 0), qI 65 (.nck 64), qI 66 (.faddr 0 65), qI 67 (.load 1 false 66), qI 68 (.mov 1), qI 69 (.iaddr 1 67 68), qI 70 (.load 1 false 69), qI 71 (.mov 10), qI 72 (.call (.fn 97) [62,63,70,71]), qI 8 (.mov 72)]
def x80:XC:=(.seq (.ops false r80_0) (.seq (.seq (.ops false r80_1) (.cond (.t 18) (.seq (.ops false r80_2) .ret) .skip)) (.seq (.ops false r80_3) (.seq (.ops false r80_4) (.seq (.seq (.ops false r80_5) (.block 0 (.loop [.gh 10 3 (.int .i64)] ⟨73,[(1,(.int .i64)),(2,(.int .i64)),(9,(.int .i64)),(11,(.int .i64))],[(0,.ptr 0 0 0),(10,.row 2)],[.box 93 [.d (.list (.list (.int .i64))),.d (.list (.int .i64)),.row 1],.row 70 tS1 false,.row 3 (.int .i64) false]⟩ (.seq (.seq (.ops false r80_6) (.cond (.t 46) .skip (.exit 0))) (.seq (.block 1 (.ops false r80_7)) (.ops false r80_8)))))) (.seq (.ops false r80_9) .ret))))))
theorem F80:Fn Tryd.prog 80 73 x80.er [.t 8]:=⟨Tryd.f80,hcl,Tryd.func80,by kernel_rfl,by kernel_rfl,by kernel_rfl,by kernel_rfl⟩
noncomputable def mb80 (self:(Int × Int × Int × (List (List Int)) × (List Int) × (List DS1) × Unit)→Option (Int × (List (List Int)) × (List Int) × (List DS1) × Unit)) (a0:Int) (a1:Int) (a2:Int) (a3:List (List Int)) (a4:List Int) (a5:List DS1):Option (Int × (List (List Int)) × (List Int) × (List DS1) × Unit) :=
 cond (iEq a0 (lenI a3))
 (cond (bnd a1 (lenI a4))
 (some (iSub .i64 (-1) (atI a4 a1 0),a3,a4,a5,())) none)
 (cond (bnd a0 (lenI a3))
 (cond (iNe (lenI (atI a3 a0 [])) 0)
 (loopO (S:=Int × Int × Int × Int × (List (List Int)) × (List Int) × (List DS1) × (List Int) × Unit) (R:=Int × (List (List Int)) × (List Int) × (List DS1) × Unit) (fun s216 =>
 cond (bnd s216.1 (lenI s216.2.2.2.2.1))
 (cond (iLt s216.2.2.2.1 (lenI (atI s216.2.2.2.2.1 s216.1 [])))
 ((self (iAdd .i64 s216.1 1,iAdd .i64 s216.2.1 (iMul .i64 s216.2.2.2.1 s216.2.2.1),s216.2.2.1,s216.2.2.2.2.1,s216.2.2.2.2.2.1,s216.2.2.2.2.2.2.1,())).bind fun y217 =>
 cond (fits (List.length s216.2.2.2.2.2.2.2.1 + List.length ([y217.1]:List Int)) 8)
 (some (.inl (s216.1,s216.2.1,s216.2.2.1,iAdd .i64 s216.2.2.2.1 1,y217.2.1,y217.2.2.1,y217.2.2.2.1,s216.2.2.2.2.2.2.2.1 ++ ([y217.1]:List Int),()))) none)
 (Option.map Sum.inr (cond (bnd s216.1 (lenI s216.2.2.2.2.1))
 ((m97_1 s216.1 (atI s216.2.2.2.2.1 s216.1 []) s216.2.2.2.2.1 s216.2.2.2.2.2.1 s216.2.2.2.2.2.2.2.1 s216.2.2.2.2.2.2.1).bind fun y232 =>
 cond (and (Nat.beq (List.length s216.2.2.2.2.2.2.2.1) (List.length y232.2.2.2.1)) true)
 (some (y232.1,y232.2.1,y232.2.2.1,y232.2.2.2.2.1,())) none) none))) none)
 (a0,a1,iQuo .i64 a2 (lenI (atI a3 a0 [])),0,a3,a4,a5,([]:List Int),())) none) none)
def ish80:Sh:=⟨4,[(1,(.int .i64)),(2,(.int .i64)),(3,(.int .i64))],[(0,.ptr 0 0 0)],[.box 93 [.d (.list (.list (.int .i64))),.d (.list (.int .i64)),.row 1],.row 70 tS1 false]⟩
def osh80:Sh:=⟨1,[(0,(.int .i64))],[],[.box 93 [.d (.list (.list (.int .i64))),.d (.list (.int .i64)),.row 1],.row 70 tS1 false]⟩
noncomputable def cfg80 (self:(Int × Int × Int × (List (List Int)) × (List Int) × (List DS1) × Unit)→Option (Int × (List (List Int)) × (List Int) × (List DS1) × Unit)):Cfg:=⟨ttab,gtab,[],[⟨80,ish80,osh80,self,[]⟩,h97_1]⟩
theorem eqn80 (self:(Int × Int × Int × (List (List Int)) × (List Int) × (List DS1) × Unit)→Option (Int × (List (List Int)) × (List Int) × (List DS1) × Unit)) (x:Int × Int × Int × (List (List Int)) × (List Int) × (List DS1) × Unit):xfunH (cfg80 self) x80 73 [.t 8] [] ish80 osh80 x=mb80 self x.1 x.2.1 x.2.2.1 x.2.2.2.1 x.2.2.2.2.1 x.2.2.2.2.2.1:=by kernel_rfl
noncomputable def m80 (a0:Int) (a1:Int) (a2:Int) (a3:List (List Int)) (a4:List Int) (a5:List DS1):Option (Int × (List (List Int)) × (List Int) × (List DS1) × Unit):=fixO (fun self (x:Int × Int × Int × (List (List Int)) × (List Int) × (List DS1) × Unit)=>mb80 self x.1 x.2.1 x.2.2.1 x.2.2.2.1 x.2.2.2.2.1 x.2.2.2.2.2.1) (a0,a1,a2,a3,a4,a5,())
noncomputable def h80:HI:=⟨80,ish80,osh80,fun (x:Int × Int × Int × (List (List Int)) × (List Int) × (List DS1) × Unit)=>m80 x.1 x.2.1 x.2.2.1 x.2.2.2.1 x.2.2.2.2.1 x.2.2.2.2.2.1,[]⟩
theorem okh80:HOk Tryd.prog (gx gtab) h80:=hok_fix (f:=80) (ish:=ish80) (osh:=osh80) (G:=fun self (x:Int × Int × Int × (List (List Int)) × (List Int) × (List DS1) × Unit)=>mb80 self x.1 x.2.1 x.2.2.1 x.2.2.2.1 x.2.2.2.2.1 x.2.2.2.2.2.1) F80.callable (fun run hr=>hok mixed (cfg_h hr (cfg_h okh97_1 (cfg_nil _ _)):CfgOk _ (cfg80 run)) F80 (eqn80 run))
def x80_1:XC:=(.seq (.ops false r80_0) (.seq (.seq (.ops false r80_1) (.cond (.t 18) (.seq (.ops false r80_2) .ret) .skip)) (.seq (.ops false r80_3) (.seq (.ops false r80_4) (.seq (.seq (.ops false r80_5) (.block 0 (.loop [.gh 10 3 (.int .i64),.ghc 0 2 70 tS1] ⟨73,[(1,(.int .i64)),(2,(.int .i64)),(9,(.int .i64)),(11,(.int .i64))],[(0,.ptr 0 0 0),(10,.row 1)],[.box 93 [.d (.list (.list (.int .i64))),.d (.list (.int .i64)),.row 2],.row 3 (.int .i64) false,.row 70 tS1 false]⟩ (.seq (.seq (.ops false r80_6) (.cond (.t 46) .skip (.exit 0))) (.seq (.block 1 (.ops false r80_7)) (.ops false r80_8)))))) (.seq (.ops false r80_9) .ret))))))
theorem F80_1:Fn Tryd.prog 80 73 x80_1.er [.t 8]:=⟨Tryd.f80,hcl,Tryd.func80,by kernel_rfl,by kernel_rfl,by kernel_rfl,by kernel_rfl⟩
noncomputable def m80_1 (a0:Int) (a1:Int) (a2:Int) (a3:List (List Int)) (a4:List Int):Option (Int × (List (List Int)) × (List Int) × (List DS1) × Unit) :=
 cond (iEq a0 (lenI a3))
 (cond (bnd a1 (lenI a4))
 (some (iSub .i64 (-1) (atI a4 a1 0),a3,a4,([]:List DS1),())) none)
 (cond (bnd a0 (lenI a3))
 (cond (iNe (lenI (atI a3 a0 [])) 0)
 (loopO (S:=Int × Int × Int × Int × (List (List Int)) × (List Int) × (List Int) × (List DS1) × Unit) (R:=Int × (List (List Int)) × (List Int) × (List DS1) × Unit) (fun s213 =>
 cond (bnd s213.1 (lenI s213.2.2.2.2.1))
 (cond (iLt s213.2.2.2.1 (lenI (atI s213.2.2.2.2.1 s213.1 [])))
 ((m80 (iAdd .i64 s213.1 1) (iAdd .i64 s213.2.1 (iMul .i64 s213.2.2.2.1 s213.2.2.1)) s213.2.2.1 s213.2.2.2.2.1 s213.2.2.2.2.2.1 s213.2.2.2.2.2.2.2.1).bind fun y233 =>
 cond (fits (List.length s213.2.2.2.2.2.2.1 + List.length ([y233.1]:List Int)) 8)
 (some (.inl (s213.1,s213.2.1,s213.2.2.1,iAdd .i64 s213.2.2.2.1 1,y233.2.1,y233.2.2.1,s213.2.2.2.2.2.2.1 ++ ([y233.1]:List Int),y233.2.2.2.1,()))) none)
 (Option.map Sum.inr (cond (bnd s213.1 (lenI s213.2.2.2.2.1))
 ((m97_1 s213.1 (atI s213.2.2.2.2.1 s213.1 []) s213.2.2.2.2.1 s213.2.2.2.2.2.1 s213.2.2.2.2.2.2.1 s213.2.2.2.2.2.2.2.1).bind fun y234 =>
 cond (and (Nat.beq (List.length s213.2.2.2.2.2.2.1) (List.length y234.2.2.2.1)) true)
 (some (y234.1,y234.2.1,y234.2.2.1,y234.2.2.2.2.1,())) none) none))) none)
 (a0,a1,iQuo .i64 a2 (lenI (atI a3 a0 [])),0,a3,a4,([]:List Int),([]:List DS1),())) none) none)
noncomputable def cfg80_1:Cfg:=⟨ttab,gtab,[],[h80,h97_1]⟩
def ish80_1:Sh:=⟨4,[(1,(.int .i64)),(2,(.int .i64)),(3,(.int .i64))],[(0,.ptr 0 0 0)],[.box 93 [.d (.list (.list (.int .i64))),.d (.list (.int .i64)),.nil]]⟩
def osh80_1:Sh:=⟨1,[(0,(.int .i64))],[],[.box 93 [.d (.list (.list (.int .i64))),.d (.list (.int .i64)),.row 1],.row 70 tS1 false]⟩
theorem eqn80_1 (x:Int × Int × Int × (List (List Int)) × (List Int) × Unit):xfunH cfg80_1 x80_1 73 [.t 8] [.ghc 0 2 70 tS1] ish80_1 osh80_1 x=m80_1 x.1 x.2.1 x.2.2.1 x.2.2.2.1 x.2.2.2.2.1:=by kernel_rfl
noncomputable def h80_1:HI:=⟨80,ish80_1,osh80_1,fun (x:Int × Int × Int × (List (List Int)) × (List Int) × Unit)=>m80_1 x.1 x.2.1 x.2.2.1 x.2.2.2.1 x.2.2.2.2.1,[]⟩
theorem okh80_1:HOk Tryd.prog (gx gtab) h80_1:=hok mixed (cfg_h okh80 (cfg_h okh97_1 (cfg_nil _ _)):CfgOk _ (cfg80_1)) F80_1 (eqn80_1)
def r58_0:List Ins:=[qI 8 (.mov kN)]
def r58_1:List Ins:=[qI 10 (.mov 3), qI 11 (.bin .lss 10 (kI 0)), qI 12 (.mov 11), qF 13 12 (.mov 2), qF 14 12 (.mov 3), qF 15 12 (.iaddr 1 13 14), qF 16 12 (.load 1 false 15), qF 17 12 (.bin .geq 16 (kI 0)), qI 18 (.pick 12 (.k (.bool true)) 17)]
def r58_2:List Ins:=[qI 19 (.mov 1), qI 8 (.mov 19)]
def r58_3:List Ins:=[qI 20 (.mov 2), qI 21 (.mov 3), qI 22 (.mov 1), qI 23 (.len 22), qI 24 (.iaddr 1 20 21), qN (.store 1 24 23)]
def r58_4:List Ins:=[qI 25 (.mov 1), qI 26 (.mov 0), qI 27 (.nck 26), qI 28 (.faddr 2 27), qI 29 (.load 1 false 28), qI 30 (.mov 3), qI 31 (.iaddr 3 29 30), qI 32 (.load 3 true 31), qI 33 (.bslice 70 3 [32]), qI 34 (.app 70 3 56 25 33), qI 1 (.mov 34)]
def r58_5:List Ins:=[qI 9 (.mov (kI 0))]
def r58_6:List Ins:=[qI 35 (.mov 9), qI 36 (.mov 0), qI 37 (.nck 36), qI 38 (.faddr 2 37), qI 39 (.load 1 false 38), qI 40 (.mov 3), qI 41 (.iaddr 3 39 40), qI 42 (.faddr 2 41), qI 43 (.load 1 false 42), qI 44 (.len 43), qI 45 (.bin .lss 35 44)]
def r58_7:List Ins:=[qI 48 (.mov 0), qI 49 (.mov 1), qI 50 (.mov 2), qI 51 (.mov 0), qI 52 (.nck 51), qI 53 (.faddr 2 52), qI 54 (.load 1 false 53), qI 55 (.mov 3), qI 56 (.iaddr 3 54 55), qI 57 (.faddr 2 56), qI 58 (.load 1 false 57), qI 59 (.mov 9), qI 60 (.iaddr 1 58 59), qI 61 (.load 1 false 60), qI 62 (.call (.fn 58) [48,49,50,61]), qI 1 (.mov 62)]
def r58_8:List Ins:=[qI 46 (.mov 9), qI 47 (.bin .add 46 (kI 1)), qI 9 (.mov 47)]
def r58_9:List Ins:=[qI 63 (.mov 1), qI 8 (.mov 63)]
def x58:XC:=(.seq (.ops false r58_0) (.seq (.seq (.ops false r58_1) (.cond (.t 18) (.seq (.ops false r58_2) .ret) .skip)) (.seq (.ops false r58_3) (.seq (.ops false r58_4) (.seq (.seq (.ops false r58_5) (.block 0 (.loop [] ⟨64,[(3,(.int .i64)),(9,(.int .i64))],[(0,.ptr 0 0 0),(1,.row 1),(2,.row 2)],[.box 93 [.d (.list (.list (.int .i64))),.d (.list (.int .i64)),.row 3],.row 70 tS1 false,.row 3 (.int .i64) false,.row 70 tS1 false]⟩ (.seq (.seq (.ops false r58_6) (.cond (.t 45) .skip (.exit 0))) (.seq (.block 1 (.ops false r58_7)) (.ops false r58_8)))))) (.seq (.ops false r58_9) .ret))))))
theorem F58:Fn Tryd.prog 58 64 x58.er [.t 8]:=⟨Tryd.f58,hcl,Tryd.func58,by kernel_rfl,by kernel_rfl,by kernel_rfl,by kernel_rfl⟩
noncomputable def mb58 (self:(Int × (List (List Int)) × (List Int) × (List DS1) × (List Int) × (List DS1) × Unit)→Option ((List (List Int)) × (List Int) × (List DS1) × (List Int) × (List DS1) × Unit)) (a0:Int) (a1:List (List Int)) (a2:List Int) (a3:List DS1) (a4:List Int) (a5:List DS1):Option ((List (List Int)) × (List Int) × (List DS1) × (List Int) × (List DS1) × Unit) :=
 cond (or (bnd a0 (lenI a4)) (not (bEq (iLt a0 0) false)))
 (cond (or (inB (Int.toNat a0) a4) (not (bEq (iLt a0 0) false)))
 (cond (cond (iLt a0 0) true (iLe 0 (List.getD a4 (Int.toNat a0) 0)))
 (some (a1,a2,a3,a4,a5,()))
 (cond (bnd a0 (lenI a4))
 (cond (inB (Int.toNat a0) a4)
 (cond (bnd a0 (lenI a5))
 (cond (inB (Int.toNat a0) a5)
 (cond (fits (List.length a3 + List.length ([List.getD a5 (Int.toNat a0) (0,[],[],())]:List DS1)) 56)
 (loopO (S:=Int × Int × (List (List Int)) × (List Int) × (List DS1) × (List Int) × (List DS1) × Unit) (R:=(List (List Int)) × (List Int) × (List DS1) × (List Int) × (List DS1) × Unit) (fun s240 =>
 cond (bnd s240.1 (lenI s240.2.2.2.2.2.2.1))
 (cond (inB (Int.toNat s240.1) s240.2.2.2.2.2.2.1)
 (cond (iLt s240.2.1 (lenI ((List.getD s240.2.2.2.2.2.2.1 (Int.toNat s240.1) (0,[],[],())).2.2.1)))
 (cond (bnd s240.1 (lenI s240.2.2.2.2.2.2.1))
 (cond (inB (Int.toNat s240.1) s240.2.2.2.2.2.2.1)
 (cond (bnd s240.2.1 (lenI ((List.getD s240.2.2.2.2.2.2.1 (Int.toNat s240.1) (0,[],[],())).2.2.1)))
 ((self (atI ((List.getD s240.2.2.2.2.2.2.1 (Int.toNat s240.1) (0,[],[],())).2.2.1) s240.2.1 0,s240.2.2.1,s240.2.2.2.1,s240.2.2.2.2.1,s240.2.2.2.2.2.1,s240.2.2.2.2.2.2.1,())).bind fun y241 =>
 cond (and (Nat.beq (List.length s240.2.2.2.2.2.1) (List.length y241.2.2.2.1)) true)
 (some (.inl (s240.1,iAdd .i64 s240.2.1 1,y241.1,y241.2.1,y241.2.2.1,y241.2.2.2.1,y241.2.2.2.2.1,()))) none) none) none) none)
 (some (.inr (s240.2.2.1,s240.2.2.2.1,s240.2.2.2.2.1,s240.2.2.2.2.2.1,s240.2.2.2.2.2.2.1,())))) none) none)
 (a0,0,a1,a2,a3 ++ ([List.getD a5 (Int.toNat a0) (0,[],[],())]:List DS1),List.set a4 (Int.toNat a0) (lenI a3),a5,())) none) none) none) none) none)) none) none
def ish58:Sh:=⟨4,[(3,(.int .i64))],[(0,.ptr 0 0 0),(1,.row 1),(2,.row 2)],[.box 93 [.d (.list (.list (.int .i64))),.d (.list (.int .i64)),.row 3],.row 70 tS1 false,.row 3 (.int .i64) false,.row 70 tS1 false]⟩
def osh58:Sh:=⟨1,[],[(0,.row 1)],[.box 93 [.d (.list (.list (.int .i64))),.d (.list (.int .i64)),.row 3],.row 70 tS1 false,.row 3 (.int .i64) false,.row 70 tS1 false]⟩
noncomputable def cfg58 (self:(Int × (List (List Int)) × (List Int) × (List DS1) × (List Int) × (List DS1) × Unit)→Option ((List (List Int)) × (List Int) × (List DS1) × (List Int) × (List DS1) × Unit)):Cfg:=⟨ttab,gtab,[],[⟨58,ish58,osh58,self,[2]⟩]⟩
theorem eqn58 (self:(Int × (List (List Int)) × (List Int) × (List DS1) × (List Int) × (List DS1) × Unit)→Option ((List (List Int)) × (List Int) × (List DS1) × (List Int) × (List DS1) × Unit)) (x:Int × (List (List Int)) × (List Int) × (List DS1) × (List Int) × (List DS1) × Unit):xfunH (cfg58 self) x58 64 [.t 8] [] ish58 osh58 x=mb58 self x.1 x.2.1 x.2.2.1 x.2.2.2.1 x.2.2.2.2.1 x.2.2.2.2.2.1:=by kernel_rfl
noncomputable def m58 (a0:Int) (a1:List (List Int)) (a2:List Int) (a3:List DS1) (a4:List Int) (a5:List DS1):Option ((List (List Int)) × (List Int) × (List DS1) × (List Int) × (List DS1) × Unit):=fixO (fun self (x:Int × (List (List Int)) × (List Int) × (List DS1) × (List Int) × (List DS1) × Unit)=>mb58 self x.1 x.2.1 x.2.2.1 x.2.2.2.1 x.2.2.2.2.1 x.2.2.2.2.2.1) (a0,a1,a2,a3,a4,a5,())
noncomputable def h58:HI:=⟨58,ish58,osh58,fun (x:Int × (List (List Int)) × (List Int) × (List DS1) × (List Int) × (List DS1) × Unit)=>m58 x.1 x.2.1 x.2.2.1 x.2.2.2.1 x.2.2.2.2.1 x.2.2.2.2.2.1,[2]⟩
theorem okh58:HOk Tryd.prog (gx gtab) h58:=hok_fix (f:=58) (ish:=ish58) (osh:=osh58) (G:=fun self (x:Int × (List (List Int)) × (List Int) × (List DS1) × (List Int) × (List DS1) × Unit)=>mb58 self x.1 x.2.1 x.2.2.1 x.2.2.2.1 x.2.2.2.2.1 x.2.2.2.2.2.1) F58.callable (fun run hr=>hok mixed (cfg_h hr (cfg_nil _ _):CfgOk _ (cfg58 run)) F58 (eqn58 run))
def x58_1:XC:=(.seq (.ops false r58_0) (.seq (.seq (.ops false r58_1) (.cond (.t 18) (.seq (.ops false r58_2) .ret) .skip)) (.seq (.ops false r58_3) (.seq (.ops false r58_4) (.seq (.seq (.ops false r58_5) (.block 0 (.loop [] ⟨64,[(3,(.int .i64)),(9,(.int .i64))],[(0,.ptr 0 0 0),(1,.row 3),(2,.row 1)],[.box 93 [.d (.list (.list (.int .i64))),.d (.list (.int .i64)),.row 2],.row 3 (.int .i64) false,.row 70 tS1 false,.row 70 tS1 false]⟩ (.seq (.seq (.ops false r58_6) (.cond (.t 45) .skip (.exit 0))) (.seq (.block 1 (.ops false r58_7)) (.ops false r58_8)))))) (.seq (.ops false r58_9) .ret))))))
theorem F58_1:Fn Tryd.prog 58 64 x58_1.er [.t 8]:=⟨Tryd.f58,hcl,Tryd.func58,by kernel_rfl,by kernel_rfl,by kernel_rfl,by kernel_rfl⟩
noncomputable def m58_1 (a0:Int) (a1:List (List Int)) (a2:List Int) (a3:List Int) (a4:List DS1):Option ((List (List Int)) × (List Int) × (List Int) × (List DS1) × (List DS1) × Unit) :=
 cond (or (bnd a0 (lenI a3)) (not (bEq (iLt a0 0) false)))
 (cond (or (inB (Int.toNat a0) a3) (not (bEq (iLt a0 0) false)))
 (cond (cond (iLt a0 0) true (iLe 0 (List.getD a3 (Int.toNat a0) 0)))
 (some (a1,a2,a3,a4,([]:List DS1),()))
 (cond (bnd a0 (lenI a3))
 (cond (inB (Int.toNat a0) a3)
 (cond (bnd a0 (lenI a4))
 (cond (inB (Int.toNat a0) a4)
 (cond (fits (List.length ([List.getD a4 (Int.toNat a0) (0,[],[],())]:List DS1)) 56)
 (loopO (S:=Int × Int × (List (List Int)) × (List Int) × (List Int) × (List DS1) × (List DS1) × Unit) (R:=(List (List Int)) × (List Int) × (List Int) × (List DS1) × (List DS1) × Unit) (fun s243 =>
 cond (bnd s243.1 (lenI s243.2.2.2.2.2.1))
 (cond (inB (Int.toNat s243.1) s243.2.2.2.2.2.1)
 (cond (iLt s243.2.1 (lenI ((List.getD s243.2.2.2.2.2.1 (Int.toNat s243.1) (0,[],[],())).2.2.1)))
 (cond (bnd s243.1 (lenI s243.2.2.2.2.2.1))
 (cond (inB (Int.toNat s243.1) s243.2.2.2.2.2.1)
 (cond (bnd s243.2.1 (lenI ((List.getD s243.2.2.2.2.2.1 (Int.toNat s243.1) (0,[],[],())).2.2.1)))
 ((m58 (atI ((List.getD s243.2.2.2.2.2.1 (Int.toNat s243.1) (0,[],[],())).2.2.1) s243.2.1 0) s243.2.2.1 s243.2.2.2.1 s243.2.2.2.2.2.2.1 s243.2.2.2.2.1 s243.2.2.2.2.2.1).bind fun y244 =>
 cond (and (Nat.beq (List.length s243.2.2.2.2.1) (List.length y244.2.2.2.1)) true)
 (some (.inl (s243.1,iAdd .i64 s243.2.1 1,y244.1,y244.2.1,y244.2.2.2.1,y244.2.2.2.2.1,y244.2.2.1,()))) none) none) none) none)
 (some (.inr (s243.2.2.1,s243.2.2.2.1,s243.2.2.2.2.1,s243.2.2.2.2.2.1,s243.2.2.2.2.2.2.1,())))) none) none)
 (a0,0,a1,a2,List.set a3 (Int.toNat a0) 0,a4,([List.getD a4 (Int.toNat a0) (0,[],[],())]:List DS1),())) none) none) none) none) none)) none) none
noncomputable def cfg58_1:Cfg:=⟨ttab,gtab,[],[h58]⟩
def ish58_1:Sh:=⟨4,[(3,(.int .i64))],[(0,.ptr 0 0 0),(1,.nil),(2,.row 1)],[.box 93 [.d (.list (.list (.int .i64))),.d (.list (.int .i64)),.row 2],.row 3 (.int .i64) false,.row 70 tS1 false]⟩
def osh58_1:Sh:=⟨1,[],[(0,.row 3)],[.box 93 [.d (.list (.list (.int .i64))),.d (.list (.int .i64)),.row 2],.row 3 (.int .i64) false,.row 70 tS1 false,.row 70 tS1 false]⟩
theorem eqn58_1 (x:Int × (List (List Int)) × (List Int) × (List Int) × (List DS1) × Unit):xfunH cfg58_1 x58_1 64 [.t 8] [.gh 8 70 tS1] ish58_1 osh58_1 x=m58_1 x.1 x.2.1 x.2.2.1 x.2.2.2.1 x.2.2.2.2.1:=by kernel_rfl
noncomputable def h58_1:HI:=⟨58,ish58_1,osh58_1,fun (x:Int × (List (List Int)) × (List Int) × (List Int) × (List DS1) × Unit)=>m58_1 x.1 x.2.1 x.2.2.1 x.2.2.2.1 x.2.2.2.2.1,[1]⟩
theorem okh58_1:HOk Tryd.prog (gx gtab) h58_1:=hok mixed (cfg_h okh58 (cfg_nil _ _):CfgOk _ (cfg58_1)) F58_1 (eqn58_1)
def r48_0:List Ins:=[qI 4 (.alloc 28 (.agg #[.slice none 0 0,.int .i64 0])), qI 5 (.mov (kI 0))]
def r48_1:List Ins:=[qI 15 (.mov 0), qI 16 (.mov 1), qI 17 (.build [.slice none 0 0,.slice none 0 0,.slice none 0 0] [(0,1,15),(1,1,16)]), qI 18 (.box 93 3 17), qI 6 (.mov 18)]
def r48_2:List Ins:=[qI 19 (.mov 6), qI 20 (.mov 1), qI 21 (.len 20), qI 22 (.call (.fn 80) [19,(kI 0),(kI 0),21]), qI 7 (.mov 22)]
def r48_3:List Ins:=[qI 23 (.mov 6), qI 24 (.nck 23), qI 25 (.faddr 2 24), qI 26 (.load 1 false 25), qI 27 (.len 26), qI 28 (.bin .gtr 27 (kI 1000))]
def r48_4:List Ins:=[qI 29 (.build [.slice none 0 0,.int .i64 0] []), qN (.store 2 4 29), qI 5 (.mov (kI 4))]
def r48_5:List Ins:=[qI 30 (.mov 6), qI 31 (.nck 30), qI 32 (.faddr 2 31), qI 33 (.load 1 false 32), qI 34 (.len 33), qI 35 (.mk 3 1 8 (.int .i64 0) 34), qI 8 (.mov 35)]
def r48_6:List Ins:=[qI 9 (.mov (kI 0))]
def r48_7:List Ins:=[qI 36 (.mov 9), qI 37 (.mov 8), qI 38 (.len 37), qI 39 (.bin .lss 36 38)]
def r48_8:List Ins:=[qI 42 (.mov 8), qI 43 (.mov 9), qI 44 (.iaddr 1 42 43), qN (.store 1 44 (.k (.int .i64 (-1))))]
def r48_9:List Ins:=[qI 40 (.mov 9), qI 41 (.bin .add 40 (kI 1)), qI 9 (.mov 41)]
def r48_10:List Ins:=[qI 45 (.mov 6), qI 46 (.mov 8), qI 47 (.mov 7), qI 48 (.call (.fn 58) [45,kN,46,47]), qI 10 (.mov 48)]
def r48_11:List Ins:=[qI 11 (.mov (kI 0))]
def r48_12:List Ins:=[qI 49 (.mov 11), qI 50 (.mov 10), qI 51 (.len 50), qI 52 (.bin .lss 49 51)]
def r48_13:List Ins:=[qI 12 (.mov kN)]
def r48_14:List Ins:=[qI 13 (.mov (kI 0))]
def r48_15:List Ins:=[qI 55 (.mov 13), qI 56 (.mov 10), qI 57 (.mov 11), qI 58 (.iaddr 3 56 57), qI 59 (.faddr 2 58), qI 60 (.load 1 false 59), qI 61 (.len 60), qI 62 (.bin .lss 55 61)]
def r48_16:List Ins:=[qI 65 (.mov 10), qI 66 (.mov 11), qI 67 (.iaddr 3 65 66), qI 68 (.faddr 2 67), qI 69 (.load 1 false 68), qI 70 (.mov 13), qI 71 (.iaddr 1 69 70), qI 72 (.load 1 false 71), qI 14 (.mov 72)]
def r48_17:List Ins:=[qI 73 (.mov 14), qI 74 (.bin .geq 73 (kI 0))]
def r48_18:List Ins:=[qI 75 (.mov 8), qI 76 (.mov 14), qI 77 (.iaddr 1 75 76), qI 78 (.load 1 false 77), qI 14 (.mov 78)]
def r48_19:List Ins:=[qI 79 (.mov 12), qI 80 (.mov 14), qI 81 (.bsc 3 [80]), qI 82 (.app 3 1 8 79 81), qI 12 (.mov 82)]
def r48_20:List Ins:=[qI 63 (.mov 13), qI 64 (.bin .add 63 (kI 1)), qI 13 (.mov 64)]
def r48_21:List Ins:=[qI 83 (.mov 10), qI 84 (.mov 11), qI 85 (.mov 10), qI 86 (.mov 11), qI 87 (.iaddr 3 85 86), qI 88 (.faddr 0 87), qI 89 (.load 1 false 88), qI 90 (.mov 10), qI 91 (.mov 11), qI 92 (.iaddr 3 90 91), qI 93 (.faddr 1 92), qI 94 (.load 1 false 93), qI 95 (.mov 12), qI 96 (.build [.int .i64 0,.slice none 0 0,.slice none 0 0] [(0,1,89),(1,1,94),(2,1,95)]), qI 97 (.iaddr 3 83 84), qN (.store 3 97 96)]
def r48_22:List Ins:=[qI 53 (.mov 11), qI 54 (.bin .add 53 (kI 1)), qI 11 (.mov 54)]
def r48_23:List Ins:=[qI 98 (.mov 7), qI 99 (.bin .geq 98 (kI 0))]
def r48_24:List Ins:=[qI 100 (.mov 8), qI 101 (.mov 7), qI 102 (.iaddr 1 100 101), qI 103 (.load 1 false 102), qI 7 (.mov 103)]
def r48_25:List Ins:=[qI 104 (.mov 10), qI 105 (.mov 7), qI 106 (.build [.slice none 0 0,.int .i64 0] [(0,1,104),(1,1,105)]), qN (.store 2 4 106), qI 5 (.mov (kI 0))]
def x48:XC:=(.seq (.ops false r48_0) (.seq (.ops false r48_1) (.seq (.ops false r48_2) (.seq (.seq (.ops false r48_3) (.cond (.t 28) (.seq (.ops false r48_4) .ret) .skip)) (.seq (.ops false r48_5) (.seq (.seq (.ops false r48_6) (.block 0 (.loop [] ⟨107,[(7,(.int .i64)),(9,(.int .i64))],[(4,.ptr 0 0 0),(6,.ptr 1 0 0),(8,.row 2)],[.box 28 [.nil,.d (.int .i64)],.box 93 [.d (.list (.list (.int .i64))),.d (.list (.int .i64)),.row 3],.row 3 (.int .i64) false,.row 70 tS1 false]⟩ (.seq (.seq (.ops false r48_7) (.cond (.t 39) .skip (.exit 0))) (.seq (.block 1 (.ops false r48_8)) (.ops false r48_9)))))) (.seq (.ops false r48_10) (.seq (.seq (.ops false r48_11) (.block 2 (.loop [] ⟨107,[(7,(.int .i64)),(11,(.int .i64))],[(4,.ptr 0 0 0),(8,.row 1),(10,.row 2)],[.box 28 [.nil,.d (.int .i64)],.row 3 (.int .i64) false,.row 70 tS1 false]⟩ (.seq (.seq (.ops false r48_12) (.cond (.t 52) .skip (.exit 2))) (.seq (.block 3 (.seq (.ops false r48_13) (.seq (.seq (.ops false r48_14) (.block 4 (.loop [.gh 12 3 (.int .i64)] ⟨107,[(7,(.int .i64)),(11,(.int .i64)),(13,(.int .i64))],[(4,.ptr 0 0 0),(8,.row 1),(10,.row 2),(12,.row 3)],[.box 28 [.nil,.d (.int .i64)],.row 3 (.int .i64) false,.row 70 tS1 false,.row 3 (.int .i64) false]⟩ (.seq (.seq (.ops false r48_15) (.cond (.t 62) .skip (.exit 4))) (.seq (.block 5 (.seq (.ops false r48_16) (.seq (.seq (.ops false r48_17) (.cond (.t 74) (.ops false r48_18) .skip)) (.ops false r48_19)))) (.ops false r48_20)))))) (.ops true r48_21)))) (.ops false r48_22)))))) (.seq (.seq (.ops false r48_23) (.cond (.t 99) (.ops false r48_24) .skip)) (.seq (.ops false r48_25) .ret))))))))))
theorem F48:Fn Tryd.prog 48 107 x48.er [.c 4 2 true,.t 5]:=⟨Tryd.f48,hcl,Tryd.func48,by kernel_rfl,by kernel_rfl,by kernel_rfl,by kernel_rfl⟩
noncomputable def m48 (a0:List (List Int)) (a1:List Int):Option (DS2 × Int × Unit) :=
 (m80_1 0 0 (lenI a1) a0 a1).bind fun y248 =>
 cond (iLt 1000 (lenI y248.2.2.2.1))
 (some ((([]:List DS1),0,()),4,()))
 (cond (fitsI (lenI y248.2.2.2.1) 8)
 (loopO (S:=Int × Int × Int × (List (List Int)) × (List Int) × (List Int) × (List DS1) × Unit) (R:=DS2 × Int × Unit) (fun s249 =>
 cond (iLt s249.2.1 (lenI s249.2.2.2.2.2.1))
 (cond (bnd s249.2.1 (lenI s249.2.2.2.2.2.1))
 (cond (inB (Int.toNat s249.2.1) s249.2.2.2.2.2.1)
 (some (.inl (s249.1,iAdd .i64 s249.2.1 1,s249.2.2.1,s249.2.2.2.1,s249.2.2.2.2.1,List.set s249.2.2.2.2.2.1 (Int.toNat s249.2.1) (-1),s249.2.2.2.2.2.2.1,()))) none) none)
 (Option.map Sum.inr ((m58_1 s249.1 s249.2.2.2.1 s249.2.2.2.2.1 s249.2.2.2.2.2.1 s249.2.2.2.2.2.2.1).bind fun y250 =>
 cond (and (Nat.beq (List.length s249.2.2.2.2.2.1) (List.length y250.2.2.1)) true)
 (loopO (S:=Int × Int × Int × (List Int) × (List DS1) × Unit) (R:=DS2 × Int × Unit) (fun s251 =>
 cond (iLt s251.2.1 (lenI s251.2.2.2.2.1))
 (loopO (S:=Int × Int × Int × Int × (List Int) × (List DS1) × (List Int) × Unit) (R:=(Int × Int × Int × (List Int) × (List DS1) × Unit) ⊕ (DS2 × Int × Unit)) (fun s252 =>
 cond (bnd s252.2.1 (lenI s252.2.2.2.2.2.1))
 (cond (inB (Int.toNat s252.2.1) s252.2.2.2.2.2.1)
 (cond (iLt s252.2.2.1 (lenI ((List.getD s252.2.2.2.2.2.1 (Int.toNat s252.2.1) (0,[],[],())).2.2.1)))
 (cond (bnd s252.2.1 (lenI s252.2.2.2.2.2.1))
 (cond (inB (Int.toNat s252.2.1) s252.2.2.2.2.2.1)
 (cond (bnd s252.2.2.1 (lenI ((List.getD s252.2.2.2.2.2.1 (Int.toNat s252.2.1) (0,[],[],())).2.2.1)))
 (cond (iLe 0 (atI ((List.getD s252.2.2.2.2.2.1 (Int.toNat s252.2.1) (0,[],[],())).2.2.1) s252.2.2.1 0))
 (cond (bnd (atI ((List.getD s252.2.2.2.2.2.1 (Int.toNat s252.2.1) (0,[],[],())).2.2.1) s252.2.2.1 0) (lenI s252.2.2.2.2.1))
 (cond (inB (Int.toNat (atI ((List.getD s252.2.2.2.2.2.1 (Int.toNat s252.2.1) (0,[],[],())).2.2.1) s252.2.2.1 0)) s252.2.2.2.2.1)
 (cond (fits (List.length s252.2.2.2.2.2.2.1 + List.length ([List.getD s252.2.2.2.2.1 (Int.toNat (atI ((List.getD s252.2.2.2.2.2.1 (Int.toNat s252.2.1) (0,[],[],())).2.2.1) s252.2.2.1 0)) 0]:List Int)) 8)
 (some (.inl (s252.1,s252.2.1,iAdd .i64 s252.2.2.1 1,s252.2.2.2.1,s252.2.2.2.2.1,s252.2.2.2.2.2.1,s252.2.2.2.2.2.2.1 ++ ([List.getD s252.2.2.2.2.1 (Int.toNat (atI ((List.getD s252.2.2.2.2.2.1 (Int.toNat s252.2.1) (0,[],[],())).2.2.1) s252.2.2.1 0)) 0]:List Int),()))) none) none) none)
 (cond (fits (List.length s252.2.2.2.2.2.2.1 + List.length ([atI ((List.getD s252.2.2.2.2.2.1 (Int.toNat s252.2.1) (0,[],[],())).2.2.1) s252.2.2.1 0]:List Int)) 8)
 (some (.inl (s252.1,s252.2.1,iAdd .i64 s252.2.2.1 1,s252.2.2.2.1,s252.2.2.2.2.1,s252.2.2.2.2.2.1,s252.2.2.2.2.2.2.1 ++ ([atI ((List.getD s252.2.2.2.2.2.1 (Int.toNat s252.2.1) (0,[],[],())).2.2.1) s252.2.2.1 0]:List Int),()))) none)) none) none) none)
 (Option.map Sum.inr (cond (bnd s252.2.1 (lenI s252.2.2.2.2.2.1))
 (cond (inB (Int.toNat s252.2.1) s252.2.2.2.2.2.1)
 (cond (bnd s252.2.1 (lenI s252.2.2.2.2.2.1))
 (cond (inB (Int.toNat s252.2.1) s252.2.2.2.2.2.1)
 (cond (bnd s252.2.1 (lenI s252.2.2.2.2.2.1))
 (cond (inB (Int.toNat s252.2.1) s252.2.2.2.2.2.1)
 (some (.inl (s252.1,iAdd .i64 s252.2.1 1,s252.2.2.2.1,s252.2.2.2.2.1,List.set s252.2.2.2.2.2.1 (Int.toNat s252.2.1) ((List.getD s252.2.2.2.2.2.1 (Int.toNat s252.2.1) (0,[],[],())).1,(List.getD s252.2.2.2.2.2.1 (Int.toNat s252.2.1) (0,[],[],())).2.1,s252.2.2.2.2.2.2.1,()),()))) none) none) none) none) none) none))) none) none)
 (s251.1,s251.2.1,0,s251.2.2.1,s251.2.2.2.1,s251.2.2.2.2.1,([]:List Int),()))
 (Option.map Sum.inr (cond (iLe 0 s251.1)
 (cond (bnd s251.1 (lenI s251.2.2.2.1))
 (cond (inB (Int.toNat s251.1) s251.2.2.2.1)
 (some ((s251.2.2.2.2.1,List.getD s251.2.2.2.1 (Int.toNat s251.1) 0,()),0,())) none) none)
 (some ((s251.2.2.2.2.1,s251.1,()),0,())))))
 (s249.1,0,s249.2.2.1,y250.2.2.1,y250.2.2.2.2.1,())) none)))
 (y248.1,0,0,y248.2.1,y248.2.2.1,(List.replicate (Int.toNat (lenI y248.2.2.2.1)) 0:List Int),y248.2.2.2.1,())) none)
noncomputable def cfg48:Cfg:=⟨ttab,gtab,[],[h58_1,h80_1]⟩
theorem eqn48 (x:(List (List Int)) × (List Int) × Unit):xfun cfg48 x48 107 [.c 4 2 true,.t 5] [(.list (.list (.int .i64))),(.list (.int .i64))] [tS2,(.int .i64)] x=m48 x.1 x.2.1:=by kernel_rfl
noncomputable def i48:PI:=⟨48,[(.list (.list (.int .i64))),(.list (.int .i64))],[tS2,(.int .i64)],fun (x:(List (List Int)) × (List Int) × Unit)=>m48 x.1 x.2.1⟩
theorem oki48:POk Tryd.prog (gx gtab) i48:=pok mixed (cfg_h okh58_1 (cfg_h okh80_1 (cfg_nil _ _)):CfgOk _ (cfg48)) F48 (eqn48)
def r18_0:List Ins:=[qI 3 (.box 24 1 0), qI 6 (.alloc 28 (.agg #[.slice none 0 0,.int .i64 0]))]
def r18_1:List Ins:=[qI 15 (.load 1 true 3), qI 16 (.call (.fn 44) [15]), qI 7 (.mov 16)]
def r18_2:List Ins:=[qI 17 (.mov 1), qI 18 (.call (.fn 45) [17,(kI 5)]), qI 8 (.mov 18)]
def r18_3:List Ins:=[qI 19 (.mov 8), qI 20 (.bin .gtr 19 (kI 0))]
def r18_4:List Ins:=[qI 23 (.mov 1), qI 24 (.faddr 0 3), qI 25 (.load 1 false 24), qI 26 (.len 25), qI 27 (.call (.fn 45) [23,26]), qI 9 (.mov 27)]
def r18_5:List Ins:=[qI 28 (.mov 1), qI 29 (.load 1 true 3), qI 30 (.call (.fn 24) [28,29]), qI 10 (.mov 30)]
def r18_6:List Ins:=[qI 31 (.load 1 true 3), qI 32 (.mov 7), qI 33 (.mov 9), qI 34 (.mov 10), qI 35 (.mov 9), qI 36 (.iaddr 1 34 35), qI 37 (.load 1 false 36), qI 38 (.call (.fn 46) [31,32,33,37]), qI 7 (.mov 38)]
def r18_7:List Ins:=[qI 21 (.mov 8), qI 22 (.bin .sub 21 (kI 1)), qI 8 (.mov 22)]
def r18_8:List Ins:=[qI 11 (.mov kN)]
def r18_9:List Ins:=[qI 39 (.mov 7), qI 40 (.call (.fn 47) [39]), qI 12 (.mov 40)]
def r18_10:List Ins:=[qI 41 (.mov 12), qI 42 (.bin .gtr 41 (kI 0))]
def r18_11:List Ins:=[qI 45 (.mov 11), qI 46 (.mov 1), qI 47 (.mov 2), qI 48 (.call (.fn 45) [46,47]), qI 49 (.bsc 3 [48]), qI 50 (.app 3 1 8 45 49), qI 11 (.mov 50)]
def r18_12:List Ins:=[qI 43 (.mov 12), qI 44 (.bin .sub 43 (kI 1)), qI 12 (.mov 44)]
def r18_13:List Ins:=[qI 52 (.mov 7), qI 53 (.mov 11), qI 54 (.call (.fn 48) [52,53]), qI 51 (.mov 54), qI 55 (.ext 0 51), qI 56 (.ext 1 51), qI 13 (.alloc 28 (.agg #[.slice none 0 0,.int .i64 0])), qN (.store 2 13 55), qI 14 (.mov 56)]
def r18_14:List Ins:=[qI 57 (.load 2 true 13), qN (.store 2 6 57)]
def x18:XC:=(.seq (.ops false r18_0) (.seq (.ops false r18_1) (.seq (.seq (.ops false r18_2) (.block 0 (.loop [] ⟨58,[(2,(.int .i64)),(7,(.list (.list (.int .i64)))),(8,(.int .i64))],[(1,.ptr 0 0 0),(3,.ptr 1 0 0),(6,.ptr 2 0 0)],[.box 78 [.d (.list (.int .i64)),.d (.int .i64)],.box 24 [.d (.list tS0)],.box 28 [.nil,.d (.int .i64)]]⟩ (.seq (.seq (.ops false r18_3) (.cond (.t 20) .skip (.exit 0))) (.seq (.block 1 (.seq (.ops false r18_4) (.seq (.ops false r18_5) (.ops true r18_6)))) (.ops false r18_7)))))) (.seq (.ops false r18_8) (.seq (.seq (.ops false r18_9) (.block 2 (.loop [.gh 11 3 (.int .i64)] ⟨58,[(2,(.int .i64)),(7,(.list (.list (.int .i64)))),(12,(.int .i64))],[(1,.ptr 0 0 0),(6,.ptr 1 0 0),(11,.row 2)],[.box 78 [.d (.list (.int .i64)),.d (.int .i64)],.box 28 [.nil,.d (.int .i64)],.row 3 (.int .i64) false]⟩ (.seq (.seq (.ops false r18_10) (.cond (.t 42) .skip (.exit 2))) (.seq (.block 3 (.ops false r18_11)) (.ops false r18_12)))))) (.seq (.ops false r18_13) (.seq (.ops false r18_14) .ret)))))))
theorem F18:Fn Tryd.prog 18 58 x18.er [.c 6 2 true]:=⟨Tryd.f18,hcl,Tryd.func18,by kernel_rfl,by kernel_rfl,by kernel_rfl,by kernel_rfl⟩
noncomputable def m18 (a0:DS5) (a1:Int) (a2:List Int) (a3:Int):Option ((List DS1) × Int × (List Int) × Int × Unit) :=
 (m44 (a0.1,())).bind fun y254 =>
 (m45 5 a2 a3).bind fun y255 =>
 loopO (S:=Int × (List (List Int)) × Int × (List Int) × Int × (List DS0) × Int × Unit) (R:=(List DS1) × Int × (List Int) × Int × Unit) (fun s256 =>
 cond (iLt 0 s256.2.2.1)
 ((m45 (lenI s256.2.2.2.2.2.1) s256.2.2.2.1 s256.2.2.2.2.1).bind fun y257 =>
 (m24 (s256.2.2.2.2.2.1,()) y257.2.1 y257.2.2.1).bind fun y258 =>
 cond (bnd y257.1 (lenI y258.2.2.1))
 (cond (inB (Int.toNat y257.1) y258.2.2.1)
 ((m46 (s256.2.2.2.2.2.1,()) s256.2.1 y257.1 (List.getD y258.2.2.1 (Int.toNat y257.1) 0)).bind fun y259 =>
 some (.inl (s256.1,y259.1,iSub .i64 s256.2.2.1 1,y258.1,y258.2.1,s256.2.2.2.2.2.1,s256.2.2.2.2.2.2.1,()))) none) none)
 (Option.map Sum.inr ((m47 s256.2.1).bind fun y260 =>
 loopO (S:=Int × (List (List Int)) × Int × (List Int) × Int × Int × (List Int) × Unit) (R:=(List DS1) × Int × (List Int) × Int × Unit) (fun s261 =>
 cond (iLt 0 s261.2.2.1)
 ((m45 s261.1 s261.2.2.2.1 s261.2.2.2.2.1).bind fun y262 =>
 cond (fits (List.length s261.2.2.2.2.2.2.1 + List.length ([y262.1]:List Int)) 8)
 (some (.inl (s261.1,s261.2.1,iSub .i64 s261.2.2.1 1,y262.2.1,y262.2.2.1,s261.2.2.2.2.2.1,s261.2.2.2.2.2.2.1 ++ ([y262.1]:List Int),()))) none)
 (Option.map Sum.inr ((m48 s261.2.1 s261.2.2.2.2.2.2.1).bind fun y263 =>
 some (y263.1.1,y263.1.2.1,s261.2.2.2.1,s261.2.2.2.2.1,()))))
 (s256.1,s256.2.1,y260.1,s256.2.2.2.1,s256.2.2.2.2.1,s256.2.2.2.2.2.2.1,([]:List Int),()))))
 (a1,y254.1,y255.1,y255.2.1,y255.2.2.1,a0.1,0,())
noncomputable def cfg18:Cfg:=⟨ttab,gtab,[i44,i46,i47,i48],[h24,h45]⟩
def ish18:Sh:=⟨3,[(0,tS5),(2,(.int .i64))],[(1,.ptr 0 0 0)],[.box 78 [.d (.list (.int .i64)),.d (.int .i64)]]⟩
def osh18:Sh:=⟨1,[],[(0,.agg [.d (.list tS1),.d (.int .i64)])],[.box 78 [.d (.list (.int .i64)),.d (.int .i64)]]⟩
theorem eqn18 (x:DS5 × Int × (List Int) × Int × Unit):xfunH cfg18 x18 58 [.c 6 2 true] [] ish18 osh18 x=m18 x.1 x.2.1 x.2.2.1 x.2.2.2.1:=by kernel_rfl
noncomputable def h18:HI:=⟨18,ish18,osh18,fun (x:DS5 × Int × (List Int) × Int × Unit)=>m18 x.1 x.2.1 x.2.2.1 x.2.2.2.1,[]⟩
theorem okh18:HOk Tryd.prog (gx gtab) h18:=hok mixed (cfg_p oki44 (cfg_p oki46 (cfg_p oki47 (cfg_p oki48 (cfg_h okh24 (cfg_h okh45 (cfg_nil _ _)))))):CfgOk _ (cfg18)) F18 (eqn18)
def r55_0:List Ins:=[qI 6 (.mov (kI 0))]
def r55_1:List Ins:=[qI 7 (.mov 1), qI 8 (.mov 0), qI 9 (.mov 2), qI 10 (.mov 1), qI 11 (.bin .sub 9 10), qI 12 (.bin .add 11 (kI 1)), qI 13 (.call (.fn 45) [8,12]), qI 14 (.bin .add 7 13), qI 6 (.mov 14)]
def x55:XC:=(.seq (.ops false r55_0) (.seq (.ops false r55_1) .ret))
theorem F55:Fn Tryd.prog 55 15 x55.er [.t 6]:=⟨Tryd.f55,hcl,Tryd.func55,by kernel_rfl,by kernel_rfl,by kernel_rfl,by kernel_rfl⟩
noncomputable def m55 (a0:Int) (a1:Int) (a2:List Int) (a3:Int):Option (Int × (List Int) × Int × Unit) :=
 (m45 (iAdd .i64 (iSub .i64 a1 a0) 1) a2 a3).bind fun y267 =>
 some (iAdd .i64 a0 y267.1,y267.2.1,y267.2.2.1,())
noncomputable def cfg55:Cfg:=⟨ttab,gtab,[],[h45]⟩
def ish55:Sh:=⟨3,[(1,(.int .i64)),(2,(.int .i64))],[(0,.ptr 0 0 0)],[.box 78 [.d (.list (.int .i64)),.d (.int .i64)]]⟩
def osh55:Sh:=⟨1,[(0,(.int .i64))],[],[.box 78 [.d (.list (.int .i64)),.d (.int .i64)]]⟩
theorem eqn55 (x:Int × Int × (List Int) × Int × Unit):xfunH cfg55 x55 15 [.t 6] [] ish55 osh55 x=m55 x.1 x.2.1 x.2.2.1 x.2.2.2.1:=by kernel_rfl
noncomputable def h55:HI:=⟨55,ish55,osh55,fun (x:Int × Int × (List Int) × Int × Unit)=>m55 x.1 x.2.1 x.2.2.1 x.2.2.2.1,[]⟩
theorem okh55:HOk Tryd.prog (gx gtab) h55:=hok mixed (cfg_h okh45 (cfg_nil _ _):CfgOk _ (cfg55)) F55 (eqn55)
def r29_0:List Ins:=[qI 2 (.box 28 2 0), qI 4 (.alloc 28 (.agg #[.slice none 0 0,.int .i64 0]))]
def r29_1:List Ins:=[qI 9 (.bslice 70 3 []), qI 10 (.faddr 0 2), qI 11 (.load 1 false 10), qI 12 (.app 70 3 56 9 11), qI 5 (.mov 12)]
def r29_2:List Ins:=[qI 13 (.mov 5), qI 14 (.len 13), qI 15 (.bin .eql 14 (kI 0)), qI 16 (.mov 15), qF 17 16 (.mov 1), qF 18 16 (.call (.fn 45) [17,(kI 6)]), qF 19 16 (.bin .eql 18 (kI 0)), qI 20 (.pick 16 (.k (.bool true)) 19)]
def r29_3:List Ins:=[qI 21 (.mov 1), qI 22 (.call (.fn 55) [21,(.k (.int .i64 (-258))),(kI 2)]), qI 23 (.faddr 1 2), qN (.store 1 23 22)]
def r29_4:List Ins:=[qI 24 (.load 2 true 2), qN (.store 2 4 24)]
def r29_5:List Ins:=[qI 25 (.mov 1), qI 26 (.mov 5), qI 27 (.len 26), qI 28 (.call (.fn 45) [25,27]), qI 6 (.mov 28)]
def r29_6:List Ins:=[qI 29 (.mov 5), qI 30 (.mov 6), qI 31 (.iaddr 3 29 30), qI 32 (.load 3 true 31), qI 7 (.alloc 70 (.agg #[.int .i64 0,.slice none 0 0,.slice none 0 0])), qN (.store 3 7 32)]
def r29_7:List (Nat × Ins):=[(2,qI 33 (.bsc 3 [])),
(0,qI 34 (.faddr 1 7)),
(1,qI 35 (.load 1 false 34)),
(2,qI 36 (.app 3 1 8 33 35)),
(2,qI 37 (.bsc 3 [])),
(0,qI 38 (.faddr 2 7)),
(1,qI 39 (.load 1 false 38)),
(0,qI 40 (.app 3 1 8 37 39)),
(0,qI 41 (.faddr 1 7)),
(0,qN (.store 1 41 36)),
(0,qI 42 (.faddr 2 7)),
(0,qN (.store 1 42 40))]
def r29_8:List Ins:=[qI 43 (.mov 1), qI 44 (.call (.fn 45) [43,(kI 6)])]
def r29_9:List Ins:=[qI 46 (.bin .eql 44 (kI 0)), qI 45 (.mov 46)]
def r29_10:List Ins:=[qI 47 (.mov 1), qI 48 (.call (.fn 55) [47,(.k (.int .i64 (-1))),(kI 4)]), qI 49 (.faddr 0 7), qN (.store 1 49 48)]
def r29_11:List Ins:=[qI 51 (.bin .eql 44 (kI 1)), qI 50 (.mov 51)]
def r29_12:List (Nat × Ins):=[(0,qI 52 (.faddr 1 7)),
(1,qI 53 (.load 1 false 52)),
(0,qI 54 (.mov 1)),
(0,qI 55 (.faddr 1 7)),
(0,qI 56 (.load 1 false 55)),
(0,qI 57 (.len 56)),
(2,qI 58 (.call (.fn 45) [54,57])),
(0,qI 59 (.mov 1)),
(2,qI 60 (.call (.fn 55) [59,(.k (.int .i64 (-6))),(kI 21)])),
(0,qI 61 (.iaddr 1 53 58)),
(0,qN (.store 1 61 60))]
def r29_13:List Ins:=[qI 63 (.bin .eql 44 (kI 2)), qI 62 (.mov 63)]
def r29_14:List (Nat × Ins):=[(0,qI 64 (.faddr 2 7)),
(1,qI 65 (.load 1 false 64)),
(0,qI 66 (.mov 1)),
(0,qI 67 (.faddr 2 7)),
(0,qI 68 (.load 1 false 67)),
(0,qI 69 (.len 68)),
(2,qI 70 (.call (.fn 45) [66,69])),
(0,qI 71 (.mov 1)),
(0,qI 72 (.mov 5)),
(0,qI 73 (.len 72)),
(2,qI 74 (.call (.fn 55) [71,(.k (.int .i64 (-5))),73])),
(0,qI 75 (.iaddr 1 65 70)),
(0,qN (.store 1 75 74))]
def r29_15:List Ins:=[qI 77 (.bin .eql 44 (kI 3)), qI 76 (.mov 77)]
def r29_16:List (Nat × Ins):=[(0,qI 78 (.faddr 1 7)),
(1,qI 79 (.load 1 false 78)),
(0,qI 80 (.faddr 1 7)),
(0,qI 81 (.load 1 false 80)),
(0,qI 82 (.faddr 1 7)),
(0,qI 83 (.load 1 false 82)),
(0,qI 84 (.len 83)),
(0,qI 85 (.bin .sub 84 (kI 1))),
(0,qI 86 (.iaddr 1 81 85)),
(0,qI 87 (.load 1 false 86)),
(0,qI 88 (.bin .add 87 (kI 1))),
(2,qI 89 (.bsc 3 [88])),
(0,qI 90 (.app 3 1 8 79 89)),
(0,qI 91 (.faddr 1 7)),
(0,qN (.store 1 91 90))]
def r29_17:List Ins:=[qI 92 (.faddr 2 7), qI 93 (.load 1 false 92), qI 94 (.bsc 3 [(.k (.int .i64 (-1)))]), qI 95 (.app 3 1 8 93 94), qI 96 (.faddr 2 7), qN (.store 1 96 95)]
def r29_18:List Ins:=[qI 98 (.bin .eql 44 (kI 4)), qI 97 (.mov 98)]
def r29_19:List Ins:=[qI 99 (.mov 5), qI 100 (.load 3 true 7), qI 101 (.bslice 70 3 [100]), qI 102 (.app 70 3 56 99 101), qI 5 (.mov 102)]
def r29_20:List Ins:=[qI 104 (.bin .eql 44 (kI 5)), qI 103 (.mov 104)]
def r29_21:List Ins:=[qI 105 (.mov 1), qI 106 (.mov 5), qI 107 (.len 106), qI 108 (.call (.fn 45) [105,107]), qI 8 (.mov 108)]
def r29_22:List Ins:=[qI 109 (.mov 5), qI 110 (.mov 8), qI 111 (.mov 5), qI 112 (.mov 8), qI 113 (.iaddr 3 111 112), qI 114 (.load 3 true 113), qI 115 (.load 3 true 7), qN (.store 3 7 114), qI 116 (.iaddr 3 109 110), qN (.store 3 116 115)]
def r29_23:List Ins:=[qI 117 (.mov 5), qI 118 (.mov 6), qI 119 (.load 3 true 7), qI 120 (.iaddr 3 117 118), qN (.store 3 120 119)]
def r29_24:List Ins:=[qI 121 (.mov 5), qI 122 (.faddr 0 2), qN (.store 1 122 121)]
def r29_25:List Ins:=[qI 123 (.load 2 true 2), qN (.store 2 4 123)]
def x29:XC:=(.seq (.ops false r29_0) (.seq (.ops false r29_1) (.seq (.seq (.ops false r29_2) (.cond (.t 20) (.seq (.ops false r29_3) (.seq (.ops false r29_4) .ret)) .skip)) (.seq (.ops false r29_5) (.seq (.ops false r29_6) (.seq (.rops [] r29_7) (.seq (.seq (.ops false r29_8) (.block 0 (.seq (.ops false r29_9) (.cond (.t 45) (.ops false r29_10) (.seq (.ops false r29_11) (.cond (.t 50) (.rops [0] r29_12) (.seq (.ops false r29_13) (.cond (.t 62) (.rops [0] r29_14) (.seq (.ops false r29_15) (.cond (.t 76) (.seq (.rops [] r29_16) (.ops false r29_17)) (.seq (.ops false r29_18) (.cond (.t 97) (.ops false r29_19) (.seq (.ops false r29_20) (.cond (.t 103) (.seq (.ops false r29_21) (.ops true r29_22)) .skip)))))))))))))) (.seq (.ops false r29_23) (.seq (.ops false r29_24) (.seq (.ops false r29_25) .ret))))))))))
theorem F29:Fn Tryd.prog 29 124 x29.er [.c 4 2 true]:=⟨Tryd.f29,hcl,Tryd.func29,by kernel_rfl,by kernel_rfl,by kernel_rfl,by kernel_rfl⟩
noncomputable def m29 (a0:DS2) (a1:List Int) (a2:Int):Option (DS2 × (List Int) × Int × Unit) :=
 cond (fits (List.length ([]:List DS1) + List.length a0.1) 56)
 (cond (iEq (lenI (([]:List DS1) ++ a0.1)) 0)
 ((m55 (-258) 2 a1 a2).bind fun y279 =>
 some ((a0.1,y279.1,()),y279.2.1,y279.2.2.1,()))
 ((m45 6 a1 a2).bind fun y280 =>
 cond (iEq y280.1 0)
 ((m55 (-258) 2 y280.2.1 y280.2.2.1).bind fun y281 =>
 some ((a0.1,y281.1,()),y281.2.1,y281.2.2.1,()))
 ((m45 (lenI (([]:List DS1) ++ a0.1)) y280.2.1 y280.2.2.1).bind fun y282 =>
 cond (bnd y282.1 (lenI (([]:List DS1) ++ a0.1)))
 (cond (inB (Int.toNat y282.1) (([]:List DS1) ++ a0.1))
 (cond (fits (List.length ([]:List Int) + List.length ((List.getD (([]:List DS1) ++ a0.1) (Int.toNat y282.1) (0,[],[],())).2.1)) 8)
 (cond (fits (List.length ([]:List Int) + List.length ((List.getD (([]:List DS1) ++ a0.1) (Int.toNat y282.1) (0,[],[],())).2.2.1)) 8)
 ((m45 6 y282.2.1 y282.2.2.1).bind fun y283 =>
 cond (iEq y283.1 0)
 ((m55 (-1) 4 y283.2.1 y283.2.2.1).bind fun y284 =>
 cond (bnd y282.1 (lenI (([]:List DS1) ++ a0.1)))
 (cond (inB (Int.toNat y282.1) (([]:List DS1) ++ a0.1))
 (some ((List.set (([]:List DS1) ++ a0.1) (Int.toNat y282.1) (y284.1,([]:List Int) ++ ((List.getD (([]:List DS1) ++ a0.1) (Int.toNat y282.1) (0,[],[],())).2.1),([]:List Int) ++ ((List.getD (([]:List DS1) ++ a0.1) (Int.toNat y282.1) (0,[],[],())).2.2.1),()),a0.2.1,()),y284.2.1,y284.2.2.1,())) none) none)
 (cond (iEq y283.1 1)
 ((m45 (lenI (([]:List Int) ++ ((List.getD (([]:List DS1) ++ a0.1) (Int.toNat y282.1) (0,[],[],())).2.1))) y283.2.1 y283.2.2.1).bind fun y285 =>
 (m55 (-6) 21 y285.2.1 y285.2.2.1).bind fun y286 =>
 cond (bnd y285.1 (lenI (([]:List Int) ++ ((List.getD (([]:List DS1) ++ a0.1) (Int.toNat y282.1) (0,[],[],())).2.1))))
 (cond (inB (Int.toNat y285.1) (([]:List Int) ++ ((List.getD (([]:List DS1) ++ a0.1) (Int.toNat y282.1) (0,[],[],())).2.1)))
 (cond (bnd y282.1 (lenI (([]:List DS1) ++ a0.1)))
 (cond (inB (Int.toNat y282.1) (([]:List DS1) ++ a0.1))
 (some ((List.set (([]:List DS1) ++ a0.1) (Int.toNat y282.1) ((List.getD (([]:List DS1) ++ a0.1) (Int.toNat y282.1) (0,[],[],())).1,List.set (([]:List Int) ++ ((List.getD (([]:List DS1) ++ a0.1) (Int.toNat y282.1) (0,[],[],())).2.1)) (Int.toNat y285.1) y286.1,([]:List Int) ++ ((List.getD (([]:List DS1) ++ a0.1) (Int.toNat y282.1) (0,[],[],())).2.2.1),()),a0.2.1,()),y286.2.1,y286.2.2.1,())) none) none) none) none)
 (cond (iEq y283.1 2)
 ((m45 (lenI (([]:List Int) ++ ((List.getD (([]:List DS1) ++ a0.1) (Int.toNat y282.1) (0,[],[],())).2.2.1))) y283.2.1 y283.2.2.1).bind fun y287 =>
 (m55 (-5) (lenI (([]:List DS1) ++ a0.1)) y287.2.1 y287.2.2.1).bind fun y288 =>
 cond (bnd y287.1 (lenI (([]:List Int) ++ ((List.getD (([]:List DS1) ++ a0.1) (Int.toNat y282.1) (0,[],[],())).2.2.1))))
 (cond (inB (Int.toNat y287.1) (([]:List Int) ++ ((List.getD (([]:List DS1) ++ a0.1) (Int.toNat y282.1) (0,[],[],())).2.2.1)))
 (cond (bnd y282.1 (lenI (([]:List DS1) ++ a0.1)))
 (cond (inB (Int.toNat y282.1) (([]:List DS1) ++ a0.1))
 (some ((List.set (([]:List DS1) ++ a0.1) (Int.toNat y282.1) ((List.getD (([]:List DS1) ++ a0.1) (Int.toNat y282.1) (0,[],[],())).1,([]:List Int) ++ ((List.getD (([]:List DS1) ++ a0.1) (Int.toNat y282.1) (0,[],[],())).2.1),List.set (([]:List Int) ++ ((List.getD (([]:List DS1) ++ a0.1) (Int.toNat y282.1) (0,[],[],())).2.2.1)) (Int.toNat y287.1) y288.1,()),a0.2.1,()),y288.2.1,y288.2.2.1,())) none) none) none) none)
 (cond (iEq y283.1 3)
 (cond (bnd (iSub .i64 (lenI (([]:List Int) ++ ((List.getD (([]:List DS1) ++ a0.1) (Int.toNat y282.1) (0,[],[],())).2.1))) 1) (lenI (([]:List Int) ++ ((List.getD (([]:List DS1) ++ a0.1) (Int.toNat y282.1) (0,[],[],())).2.1))))
 (cond (inB (Int.toNat (iSub .i64 (lenI (([]:List Int) ++ ((List.getD (([]:List DS1) ++ a0.1) (Int.toNat y282.1) (0,[],[],())).2.1))) 1)) (([]:List Int) ++ ((List.getD (([]:List DS1) ++ a0.1) (Int.toNat y282.1) (0,[],[],())).2.1)))
 (cond (fits (List.length (([]:List Int) ++ ((List.getD (([]:List DS1) ++ a0.1) (Int.toNat y282.1) (0,[],[],())).2.1)) + List.length ([iAdd .i64 (List.getD (([]:List Int) ++ ((List.getD (([]:List DS1) ++ a0.1) (Int.toNat y282.1) (0,[],[],())).2.1)) (Int.toNat (iSub .i64 (lenI (([]:List Int) ++ ((List.getD (([]:List DS1) ++ a0.1) (Int.toNat y282.1) (0,[],[],())).2.1))) 1)) 0) 1]:List Int)) 8)
 (cond (fits (List.length (([]:List Int) ++ ((List.getD (([]:List DS1) ++ a0.1) (Int.toNat y282.1) (0,[],[],())).2.2.1)) + List.length ([(-1)]:List Int)) 8)
 (cond (bnd y282.1 (lenI (([]:List DS1) ++ a0.1)))
 (cond (inB (Int.toNat y282.1) (([]:List DS1) ++ a0.1))
 (some ((List.set (([]:List DS1) ++ a0.1) (Int.toNat y282.1) ((List.getD (([]:List DS1) ++ a0.1) (Int.toNat y282.1) (0,[],[],())).1,(([]:List Int) ++ ((List.getD (([]:List DS1) ++ a0.1) (Int.toNat y282.1) (0,[],[],())).2.1)) ++ ([iAdd .i64 (List.getD (([]:List Int) ++ ((List.getD (([]:List DS1) ++ a0.1) (Int.toNat y282.1) (0,[],[],())).2.1)) (Int.toNat (iSub .i64 (lenI (([]:List Int) ++ ((List.getD (([]:List DS1) ++ a0.1) (Int.toNat y282.1) (0,[],[],())).2.1))) 1)) 0) 1]:List Int),(([]:List Int) ++ ((List.getD (([]:List DS1) ++ a0.1) (Int.toNat y282.1) (0,[],[],())).2.2.1)) ++ ([(-1)]:List Int),()),a0.2.1,()),y283.2.1,y283.2.2.1,())) none) none) none) none) none) none)
 (cond (iEq y283.1 4)
 (cond (fits (List.length (([]:List DS1) ++ a0.1) + List.length ([((List.getD (([]:List DS1) ++ a0.1) (Int.toNat y282.1) (0,[],[],())).1,([]:List Int) ++ ((List.getD (([]:List DS1) ++ a0.1) (Int.toNat y282.1) (0,[],[],())).2.1),([]:List Int) ++ ((List.getD (([]:List DS1) ++ a0.1) (Int.toNat y282.1) (0,[],[],())).2.2.1),())]:List DS1)) 56)
 (cond (bnd y282.1 (lenI ((([]:List DS1) ++ a0.1) ++ ([((List.getD (([]:List DS1) ++ a0.1) (Int.toNat y282.1) (0,[],[],())).1,([]:List Int) ++ ((List.getD (([]:List DS1) ++ a0.1) (Int.toNat y282.1) (0,[],[],())).2.1),([]:List Int) ++ ((List.getD (([]:List DS1) ++ a0.1) (Int.toNat y282.1) (0,[],[],())).2.2.1),())]:List DS1))))
 (cond (inB (Int.toNat y282.1) ((([]:List DS1) ++ a0.1) ++ ([((List.getD (([]:List DS1) ++ a0.1) (Int.toNat y282.1) (0,[],[],())).1,([]:List Int) ++ ((List.getD (([]:List DS1) ++ a0.1) (Int.toNat y282.1) (0,[],[],())).2.1),([]:List Int) ++ ((List.getD (([]:List DS1) ++ a0.1) (Int.toNat y282.1) (0,[],[],())).2.2.1),())]:List DS1)))
 (some ((List.set ((([]:List DS1) ++ a0.1) ++ ([((List.getD (([]:List DS1) ++ a0.1) (Int.toNat y282.1) (0,[],[],())).1,([]:List Int) ++ ((List.getD (([]:List DS1) ++ a0.1) (Int.toNat y282.1) (0,[],[],())).2.1),([]:List Int) ++ ((List.getD (([]:List DS1) ++ a0.1) (Int.toNat y282.1) (0,[],[],())).2.2.1),())]:List DS1)) (Int.toNat y282.1) ((List.getD (([]:List DS1) ++ a0.1) (Int.toNat y282.1) (0,[],[],())).1,([]:List Int) ++ ((List.getD (([]:List DS1) ++ a0.1) (Int.toNat y282.1) (0,[],[],())).2.1),([]:List Int) ++ ((List.getD (([]:List DS1) ++ a0.1) (Int.toNat y282.1) (0,[],[],())).2.2.1),()),a0.2.1,()),y283.2.1,y283.2.2.1,())) none) none) none)
 (cond (iEq y283.1 5)
 ((m45 (lenI (([]:List DS1) ++ a0.1)) y283.2.1 y283.2.2.1).bind fun y289 =>
 cond (bnd y289.1 (lenI (([]:List DS1) ++ a0.1)))
 (cond (inB (Int.toNat y289.1) (([]:List DS1) ++ a0.1))
 (cond (bnd y289.1 (lenI (([]:List DS1) ++ a0.1)))
 (cond (inB (Int.toNat y289.1) (([]:List DS1) ++ a0.1))
 (cond (bnd y282.1 (lenI (List.set (([]:List DS1) ++ a0.1) (Int.toNat y289.1) ((List.getD (([]:List DS1) ++ a0.1) (Int.toNat y282.1) (0,[],[],())).1,([]:List Int) ++ ((List.getD (([]:List DS1) ++ a0.1) (Int.toNat y282.1) (0,[],[],())).2.1),([]:List Int) ++ ((List.getD (([]:List DS1) ++ a0.1) (Int.toNat y282.1) (0,[],[],())).2.2.1),()))))
 (cond (inB (Int.toNat y282.1) (List.set (([]:List DS1) ++ a0.1) (Int.toNat y289.1) ((List.getD (([]:List DS1) ++ a0.1) (Int.toNat y282.1) (0,[],[],())).1,([]:List Int) ++ ((List.getD (([]:List DS1) ++ a0.1) (Int.toNat y282.1) (0,[],[],())).2.1),([]:List Int) ++ ((List.getD (([]:List DS1) ++ a0.1) (Int.toNat y282.1) (0,[],[],())).2.2.1),())))
 (some ((List.set (List.set (([]:List DS1) ++ a0.1) (Int.toNat y289.1) ((List.getD (([]:List DS1) ++ a0.1) (Int.toNat y282.1) (0,[],[],())).1,([]:List Int) ++ ((List.getD (([]:List DS1) ++ a0.1) (Int.toNat y282.1) (0,[],[],())).2.1),([]:List Int) ++ ((List.getD (([]:List DS1) ++ a0.1) (Int.toNat y282.1) (0,[],[],())).2.2.1),())) (Int.toNat y282.1) ((List.getD (([]:List DS1) ++ a0.1) (Int.toNat y289.1) (0,[],[],())).1,(List.getD (([]:List DS1) ++ a0.1) (Int.toNat y289.1) (0,[],[],())).2.1,(List.getD (([]:List DS1) ++ a0.1) (Int.toNat y289.1) (0,[],[],())).2.2.1,()),a0.2.1,()),y289.2.1,y289.2.2.1,())) none) none) none) none) none) none)
 (cond (bnd y282.1 (lenI (([]:List DS1) ++ a0.1)))
 (cond (inB (Int.toNat y282.1) (([]:List DS1) ++ a0.1))
 (some ((List.set (([]:List DS1) ++ a0.1) (Int.toNat y282.1) ((List.getD (([]:List DS1) ++ a0.1) (Int.toNat y282.1) (0,[],[],())).1,([]:List Int) ++ ((List.getD (([]:List DS1) ++ a0.1) (Int.toNat y282.1) (0,[],[],())).2.1),([]:List Int) ++ ((List.getD (([]:List DS1) ++ a0.1) (Int.toNat y282.1) (0,[],[],())).2.2.1),()),a0.2.1,()),y283.2.1,y283.2.2.1,())) none) none))))))) none) none) none) none))) none
noncomputable def cfg29:Cfg:=⟨ttab,gtab,[],[h45,h55]⟩
def ish29:Sh:=⟨2,[(0,tS2)],[(1,.ptr 0 0 0)],[.box 78 [.d (.list (.int .i64)),.d (.int .i64)]]⟩
def osh29:Sh:=⟨1,[(0,tS2)],[],[.box 78 [.d (.list (.int .i64)),.d (.int .i64)]]⟩
theorem eqn29 (x:DS2 × (List Int) × Int × Unit):xfunHz cfg29 x29 124 [.c 4 2 true] [] tS2 ish29 osh29 x=m29 x.1 x.2.1 x.2.2.1:=by kernel_rfl
noncomputable def h29:HI:=⟨29,ish29,osh29,fun (x:DS2 × (List Int) × Int × Unit)=>m29 x.1 x.2.1 x.2.2.1,[]⟩
theorem okh29:HOk Tryd.prog (gx gtab) h29:=hokz mixed (cfg_h okh45 (cfg_h okh55 (cfg_nil _ _)):CfgOk _ (cfg29)) F29 (eqn29)
def r56_0:List Ins:=[qI 2 (.box 28 2 0), qI 4 (.mov (.k (.bool false)))]
def r56_1:List Ins:=[qI 5 (.mov 1), qI 6 (.bin .lss 5 (kI 0))]
def r56_2:List Ins:=[qI 7 (.mov 1), qI 8 (.bin .geq 7 (.k (.int .i64 (-256)))), qI 4 (.mov 8)]
def r56_3:List Ins:=[qI 9 (.mov 1), qI 10 (.faddr 0 2), qI 11 (.load 1 false 10), qI 12 (.len 11), qI 13 (.bin .lss 9 12), qI 4 (.mov 13)]
def x56:XC:=(.seq (.ops false r56_0) (.seq (.seq (.ops false r56_1) (.cond (.t 6) (.seq (.ops false r56_2) .ret) .skip)) (.seq (.ops false r56_3) .ret)))
theorem F56:Fn Tryd.prog 56 14 x56.er [.t 4]:=⟨Tryd.f56,hcl,Tryd.func56,by kernel_rfl,by kernel_rfl,by kernel_rfl,by kernel_rfl⟩
noncomputable def m56 (a0:DS2) (a1:Int):Option (Bool × Unit) :=
 cond (iLt a1 0)
 (some (iLe (-256) a1,()))
 (some (iLt a1 (lenI a0.1),()))
noncomputable def cfg56:Cfg:=⟨ttab,gtab,[],[]⟩
theorem eqn56 (x:DS2 × Int × Unit):xfun cfg56 x56 14 [.t 4] [tS2,(.int .i64)] [.bool] x=m56 x.1 x.2.1:=by kernel_rfl
noncomputable def i56:PI:=⟨56,[tS2,(.int .i64)],[.bool],fun (x:DS2 × Int × Unit)=>m56 x.1 x.2.1⟩
theorem oki56:POk Tryd.prog (gx gtab) i56:=pok mixed (cfg_nil _ _:CfgOk _ (cfg56)) F56 (eqn56)
def r57_0:List Ins:=[qI 3 (.box 24 1 0), qI 4 (.box 28 2 1), qI 5 (.box 70 3 2), qI 6 (.mov (.k (.bool false)))]
def r57_1:List Ins:=[qI 12 (.faddr 0 5), qI 13 (.load 1 false 12), qI 14 (.bin .lss 13 (kI 0)), qI 15 (.mov 14), qF 16 15 (.faddr 0 5), qF 17 15 (.load 1 false 16), qF 18 15 (.faddr 0 3), qF 19 15 (.load 1 false 18), qF 20 15 (.len 19), qF 21 15 (.bin .geq 17 20), qI 22 (.pick 15 (.k (.bool true)) 21), qI 23 (.mov 22), qF 24 23 (.faddr 1 5), qF 25 23 (.load 1 false 24), qF 26 23 (.len 25), qF 27 23 (.bin .lss 26 (kI 1)), qI 28 (.pick 23 (.k (.bool true)) 27), qI 29 (.mov 28), qF 30 29 (.faddr 2 5), qF 31 29 (.load 1 false 30), qF 32 29 (.len 31), qF 33 29 (.bin .sub 32 (kI 1)), qF 34 29 (.faddr 1 5), qF 35 29 (.load 1 false 34), qF 36 29 (.len 35), qF 37 29 (.bin .neq 33 36), qI 38 (.pick 29 (.k (.bool true)) 37)]
def r57_2:List Ins:=[qI 6 (.mov (.k (.bool false)))]
def r57_3:List Ins:=[qI 40 (.load 1 true 3), qI 41 (.faddr 0 5), qI 42 (.load 1 false 41), qI 43 (.call (.fn 42) [40,42]), qI 39 (.mov 43), qI 44 (.ext 0 39), qI 45 (.ext 1 39), qI 7 (.mov 44), qI 8 (.mov 45)]
def r57_4:List Ins:=[qI 9 (.mov (kI 0))]
def r57_5:List Ins:=[qI 46 (.mov 9), qI 47 (.faddr 1 5), qI 48 (.load 1 false 47), qI 49 (.len 48), qI 50 (.bin .lss 46 49)]
def r57_6:List Ins:=[qI 53 (.faddr 1 5), qI 54 (.load 1 false 53), qI 55 (.mov 9), qI 56 (.iaddr 1 54 55), qI 57 (.load 1 false 56), qI 58 (.mov 7), qI 59 (.bin .leq 57 58), qI 60 (.mov 59), qF 61 60 (.faddr 1 5), qF 62 60 (.load 1 false 61), qF 63 60 (.mov 9), qF 64 60 (.iaddr 1 62 63), qF 65 60 (.load 1 false 64), qF 66 60 (.mov 8), qF 67 60 (.bin .gtr 65 66), qI 68 (.pick 60 (.k (.bool true)) 67), qI 69 (.mov 68), qF 70 69 (.mov 9), qF 71 69 (.bin .gtr 70 (kI 0)), qF 72 69 (.mov 71), qT 73 72 (.faddr 1 5), qT 74 72 (.load 1 false 73), qT 75 72 (.mov 9), qT 76 72 (.iaddr 1 74 75), qT 77 72 (.load 1 false 76), qT 78 72 (.faddr 1 5), qT 79 72 (.load 1 false 78), qT 80 72 (.mov 9), qT 81 72 (.bin .sub 80 (kI 1)), qT 82 72 (.iaddr 1 79 81), qT 83 72 (.load 1 false 82), qT 84 72 (.bin .leq 77 83), qF 85 69 (.pick 72 84 (.k (.bool false))), qI 86 (.pick 69 (.k (.bool true)) 85)]
def r57_7:List Ins:=[qI 6 (.mov (.k (.bool false)))]
def r57_8:List Ins:=[qI 51 (.mov 9), qI 52 (.bin .add 51 (kI 1)), qI 9 (.mov 52)]
def r57_9:List Ins:=[qI 10 (.mov (kI 0))]
def r57_10:List Ins:=[qI 87 (.mov 10), qI 88 (.faddr 2 5), qI 89 (.load 1 false 88), qI 90 (.len 89), qI 91 (.bin .lss 87 90)]
def r57_11:List Ins:=[qI 94 (.faddr 2 5), qI 95 (.load 1 false 94), qI 96 (.mov 10), qI 97 (.iaddr 1 95 96), qI 98 (.load 1 false 97), qI 11 (.mov 98)]
def r57_12:List Ins:=[qI 99 (.load 2 true 4), qI 100 (.mov 11), qI 101 (.call (.fn 56) [99,100]), qI 102 (.un .not 101), qI 103 (.mov 102), qF 104 103 (.mov 10), qF 105 103 (.bin .gtr 104 (kI 0)), qF 106 103 (.mov 105), qT 107 106 (.mov 11), qT 108 106 (.faddr 2 5), qT 109 106 (.load 1 false 108), qT 110 106 (.mov 10), qT 111 106 (.bin .sub 110 (kI 1)), qT 112 106 (.iaddr 1 109 111), qT 113 106 (.load 1 false 112), qT 114 106 (.bin .eql 107 113), qF 115 103 (.pick 106 114 (.k (.bool false))), qI 116 (.pick 103 (.k (.bool true)) 115), qI 117 (.mov 116), qF 118 117 (.mov 11), qF 119 117 (.bin .geq 118 (kI 0)), qF 120 117 (.mov 119), qT 121 120 (.faddr 0 4), qT 122 120 (.load 1 false 121), qT 123 120 (.mov 11), qT 124 120 (.iaddr 3 122 123), qT 125 120 (.faddr 0 124), qT 126 120 (.load 1 false 125), qT 127 120 (.faddr 0 5), qT 128 120 (.load 1 false 127), qT 129 120 (.bin .leq 126 128), qF 130 117 (.pick 120 129 (.k (.bool false))), qI 131 (.pick 117 (.k (.bool true)) 130)]
def r57_13:List Ins:=[qI 6 (.mov (.k (.bool false)))]
def r57_14:List Ins:=[qI 92 (.mov 10), qI 93 (.bin .add 92 (kI 1)), qI 10 (.mov 93)]
def r57_15:List Ins:=[qI 6 (.mov (.k (.bool true)))]
def x57:XC:=(.seq (.ops false r57_0) (.seq (.seq (.ops false r57_1) (.cond (.t 38) (.seq (.ops false r57_2) .ret) .skip)) (.seq (.ops false r57_3) (.seq (.seq (.ops false r57_4) (.block 0 (.loop [] ⟨132,[(7,(.int .i64)),(8,(.int .i64)),(9,(.int .i64))],[(4,.ptr 0 0 0),(5,.ptr 1 0 0)],[.box 28 [.d (.list tS1),.d (.int .i64)],.box 70 [.d (.int .i64),.d (.list (.int .i64)),.d (.list (.int .i64))]]⟩ (.seq (.seq (.ops false r57_5) (.cond (.t 50) .skip (.exit 0))) (.seq (.block 1 (.seq (.ops true r57_6) (.cond (.t 86) (.seq (.ops false r57_7) .ret) .skip))) (.ops false r57_8)))))) (.seq (.seq (.ops false r57_9) (.block 2 (.loop [] ⟨132,[(10,(.int .i64))],[(4,.ptr 0 0 0),(5,.ptr 1 0 0)],[.box 28 [.d (.list tS1),.d (.int .i64)],.box 70 [.d (.int .i64),.d (.list (.int .i64)),.d (.list (.int .i64))]]⟩ (.seq (.seq (.ops false r57_10) (.cond (.t 91) .skip (.exit 2))) (.seq (.block 3 (.seq (.ops false r57_11) (.seq (.ops true r57_12) (.cond (.t 131) (.seq (.ops false r57_13) .ret) .skip)))) (.ops false r57_14)))))) (.seq (.ops false r57_15) .ret))))))
theorem F57:Fn Tryd.prog 57 132 x57.er [.t 6]:=⟨Tryd.f57,hcl,Tryd.func57,by kernel_rfl,by kernel_rfl,by kernel_rfl,by kernel_rfl⟩
noncomputable def m57 (a0:DS5) (a1:DS2) (a2:DS1):Option (Bool × Unit) :=
 cond (cond (cond (cond (iLt a2.1 0) true (iLe (lenI a0.1) a2.1)) true (iLt (lenI a2.2.1) 1)) true (iNe (iSub .i64 (lenI a2.2.2.1) 1) (lenI a2.2.1)))
 (some (false,()))
 ((m42 (a0.1,()) a2.1).bind fun y300 =>
 loopO (S:=Int × Int × Int × (List DS1) × Int × Int × (List Int) × (List Int) × Unit) (R:=Bool × Unit) (fun s301 =>
 cond (iLt s301.2.2.1 (lenI s301.2.2.2.2.2.2.1))
 (cond (bnd s301.2.2.1 (lenI s301.2.2.2.2.2.2.1))
 (cond (or (bnd s301.2.2.1 (lenI s301.2.2.2.2.2.2.1)) (not (bEq (iLe (atI s301.2.2.2.2.2.2.1 s301.2.2.1 0) s301.1) false)))
 (cond (cond (iLe (atI s301.2.2.2.2.2.2.1 s301.2.2.1 0) s301.1) true (iLt s301.2.1 (atI s301.2.2.2.2.2.2.1 s301.2.2.1 0)))
 (some (.inr (false,())))
 (cond (or (bnd s301.2.2.1 (lenI s301.2.2.2.2.2.2.1)) (not (bEq (iLt 0 s301.2.2.1) true)))
 (cond (or (bnd (iSub .i64 s301.2.2.1 1) (lenI s301.2.2.2.2.2.2.1)) (not (bEq (iLt 0 s301.2.2.1) true)))
 (cond (cond (iLt 0 s301.2.2.1) (iLe (atI s301.2.2.2.2.2.2.1 s301.2.2.1 0) (atI s301.2.2.2.2.2.2.1 (iSub .i64 s301.2.2.1 1) 0)) false)
 (some (.inr (false,())))
 (some (.inl (s301.1,s301.2.1,iAdd .i64 s301.2.2.1 1,s301.2.2.2.1,s301.2.2.2.2.1,s301.2.2.2.2.2.1,s301.2.2.2.2.2.2.1,s301.2.2.2.2.2.2.2.1,())))) none) none)) none) none)
 (Option.map Sum.inr (loopO (S:=Int × (List DS1) × Int × Int × (List Int) × (List Int) × Unit) (R:=Bool × Unit) (fun s302 =>
 cond (iLt s302.1 (lenI s302.2.2.2.2.2.1))
 (cond (bnd s302.1 (lenI s302.2.2.2.2.2.1))
 ((m56 (s302.2.1,s302.2.2.1,()) (atI s302.2.2.2.2.2.1 s302.1 0)).bind fun y303 =>
 cond (not y303.1)
 (some (.inr (false,())))
 (cond (or (bnd (iSub .i64 s302.1 1) (lenI s302.2.2.2.2.2.1)) (not (bEq (iLt 0 s302.1) true)))
 (cond (cond (iLt 0 s302.1) (iEq (atI s302.2.2.2.2.2.1 s302.1 0) (atI s302.2.2.2.2.2.1 (iSub .i64 s302.1 1) 0)) false)
 (some (.inr (false,())))
 (cond (or (bnd (atI s302.2.2.2.2.2.1 s302.1 0) (lenI s302.2.1)) (not (bEq (iLe 0 (atI s302.2.2.2.2.2.1 s302.1 0)) true)))
 (cond (cond (iLe 0 (atI s302.2.2.2.2.2.1 s302.1 0)) (iLe ((atI s302.2.1 (atI s302.2.2.2.2.2.1 s302.1 0) (0,[],[],())).1) s302.2.2.2.1) false)
 (some (.inr (false,())))
 (some (.inl (iAdd .i64 s302.1 1,s302.2.1,s302.2.2.1,s302.2.2.2.1,s302.2.2.2.2.1,s302.2.2.2.2.2.1,())))) none)) none)) none)
 (some (.inr (true,()))))
 (0,s301.2.2.2.1,s301.2.2.2.2.1,s301.2.2.2.2.2.1,s301.2.2.2.2.2.2.1,s301.2.2.2.2.2.2.2.1,()))))
 (y300.1,y300.2.1,0,a1.1,a1.2.1,a2.1,a2.2.1,a2.2.2.1,()))
noncomputable def cfg57:Cfg:=⟨ttab,gtab,[i42,i56],[]⟩
theorem eqn57 (x:DS5 × DS2 × DS1 × Unit):xfun cfg57 x57 132 [.t 6] [tS5,tS2,tS1] [.bool] x=m57 x.1 x.2.1 x.2.2.1:=by kernel_rfl
noncomputable def i57:PI:=⟨57,[tS5,tS2,tS1],[.bool],fun (x:DS5 × DS2 × DS1 × Unit)=>m57 x.1 x.2.1 x.2.2.1⟩
theorem oki57:POk Tryd.prog (gx gtab) i57:=pok mixed (cfg_p oki42 (cfg_p oki56 (cfg_nil _ _)):CfgOk _ (cfg57)) F57 (eqn57)
def x58_2:XC:=(.seq (.ops false r58_0) (.seq (.seq (.ops false r58_1) (.cond (.t 18) (.seq (.ops false r58_2) .ret) .skip)) (.seq (.ops false r58_3) (.seq (.ops false r58_4) (.seq (.seq (.ops false r58_5) (.block 0 (.loop [] ⟨64,[(3,(.int .i64)),(9,(.int .i64))],[(0,.ptr 0 0 0),(1,.row 1),(2,.row 2)],[.box 93 [.nil,.nil,.d (.list tS1)],.row 70 tS1 false,.row 3 (.int .i64) false]⟩ (.seq (.seq (.ops false r58_6) (.cond (.t 45) .skip (.exit 0))) (.seq (.block 1 (.ops false r58_7)) (.ops false r58_8)))))) (.seq (.ops false r58_9) .ret))))))
theorem F58_2:Fn Tryd.prog 58 64 x58_2.er [.t 8]:=⟨Tryd.f58,hcl,Tryd.func58,by kernel_rfl,by kernel_rfl,by kernel_rfl,by kernel_rfl⟩
noncomputable def mb58_2 (self:(Int × (List DS1) × (List DS1) × (List Int) × Unit)→Option ((List DS1) × (List DS1) × (List Int) × Unit)) (a0:Int) (a1:List DS1) (a2:List DS1) (a3:List Int):Option ((List DS1) × (List DS1) × (List Int) × Unit) :=
 cond (or (bnd a0 (lenI a3)) (not (bEq (iLt a0 0) false)))
 (cond (or (inB (Int.toNat a0) a3) (not (bEq (iLt a0 0) false)))
 (cond (cond (iLt a0 0) true (iLe 0 (List.getD a3 (Int.toNat a0) 0)))
 (some (a1,a2,a3,()))
 (cond (bnd a0 (lenI a3))
 (cond (inB (Int.toNat a0) a3)
 (cond (bnd a0 (lenI a1))
 (cond (fits (List.length a2 + List.length ([atI a1 a0 (0,[],[],())]:List DS1)) 56)
 (loopO (S:=Int × Int × (List DS1) × (List DS1) × (List Int) × Unit) (R:=(List DS1) × (List DS1) × (List Int) × Unit) (fun s312 =>
 cond (bnd s312.1 (lenI s312.2.2.1))
 (cond (iLt s312.2.1 (lenI ((atI s312.2.2.1 s312.1 (0,[],[],())).2.2.1)))
 (cond (bnd s312.1 (lenI s312.2.2.1))
 (cond (bnd s312.2.1 (lenI ((atI s312.2.2.1 s312.1 (0,[],[],())).2.2.1)))
 ((self (atI ((atI s312.2.2.1 s312.1 (0,[],[],())).2.2.1) s312.2.1 0,s312.2.2.1,s312.2.2.2.1,s312.2.2.2.2.1,())).bind fun y313 =>
 cond (and (Nat.beq (List.length s312.2.2.2.2.1) (List.length y313.2.2.1)) true)
 (some (.inl (s312.1,iAdd .i64 s312.2.1 1,y313.1,y313.2.1,y313.2.2.1,()))) none) none) none)
 (some (.inr (s312.2.2.1,s312.2.2.2.1,s312.2.2.2.2.1,())))) none)
 (a0,0,a1,a2 ++ ([atI a1 a0 (0,[],[],())]:List DS1),List.set a3 (Int.toNat a0) (lenI a2),())) none) none) none) none)) none) none
def ish58_2:Sh:=⟨4,[(3,(.int .i64))],[(0,.ptr 0 0 0),(1,.row 1),(2,.row 2)],[.box 93 [.nil,.nil,.d (.list tS1)],.row 70 tS1 false,.row 3 (.int .i64) false]⟩
def osh58_2:Sh:=⟨1,[],[(0,.row 1)],[.box 93 [.nil,.nil,.d (.list tS1)],.row 70 tS1 false,.row 3 (.int .i64) false]⟩
noncomputable def cfg58_2 (self:(Int × (List DS1) × (List DS1) × (List Int) × Unit)→Option ((List DS1) × (List DS1) × (List Int) × Unit)):Cfg:=⟨ttab,gtab,[],[⟨58,ish58_2,osh58_2,self,[2]⟩]⟩
theorem eqn58_2 (self:(Int × (List DS1) × (List DS1) × (List Int) × Unit)→Option ((List DS1) × (List DS1) × (List Int) × Unit)) (x:Int × (List DS1) × (List DS1) × (List Int) × Unit):xfunH (cfg58_2 self) x58_2 64 [.t 8] [] ish58_2 osh58_2 x=mb58_2 self x.1 x.2.1 x.2.2.1 x.2.2.2.1:=by kernel_rfl
noncomputable def m58_2 (a0:Int) (a1:List DS1) (a2:List DS1) (a3:List Int):Option ((List DS1) × (List DS1) × (List Int) × Unit):=fixO (fun self (x:Int × (List DS1) × (List DS1) × (List Int) × Unit)=>mb58_2 self x.1 x.2.1 x.2.2.1 x.2.2.2.1) (a0,a1,a2,a3,())
noncomputable def h58_2:HI:=⟨58,ish58_2,osh58_2,fun (x:Int × (List DS1) × (List DS1) × (List Int) × Unit)=>m58_2 x.1 x.2.1 x.2.2.1 x.2.2.2.1,[2]⟩
theorem okh58_2:HOk Tryd.prog (gx gtab) h58_2:=hok_fix (f:=58) (ish:=ish58_2) (osh:=osh58_2) (G:=fun self (x:Int × (List DS1) × (List DS1) × (List Int) × Unit)=>mb58_2 self x.1 x.2.1 x.2.2.1 x.2.2.2.1) F58_2.callable (fun run hr=>hok mixed (cfg_h hr (cfg_nil _ _):CfgOk _ (cfg58_2 run)) F58_2 (eqn58_2 run))
def x58_3:XC:=(.seq (.ops false r58_0) (.seq (.seq (.ops false r58_1) (.cond (.t 18) (.seq (.ops false r58_2) .ret) .skip)) (.seq (.ops false r58_3) (.seq (.ops false r58_4) (.seq (.seq (.ops false r58_5) (.block 0 (.loop [] ⟨64,[(3,(.int .i64)),(9,(.int .i64))],[(0,.ptr 0 0 0),(1,.row 2),(2,.row 1)],[.box 93 [.nil,.nil,.d (.list tS1)],.row 3 (.int .i64) false,.row 70 tS1 false]⟩ (.seq (.seq (.ops false r58_6) (.cond (.t 45) .skip (.exit 0))) (.seq (.block 1 (.ops false r58_7)) (.ops false r58_8)))))) (.seq (.ops false r58_9) .ret))))))
theorem F58_3:Fn Tryd.prog 58 64 x58_3.er [.t 8]:=⟨Tryd.f58,hcl,Tryd.func58,by kernel_rfl,by kernel_rfl,by kernel_rfl,by kernel_rfl⟩
noncomputable def m58_3 (a0:Int) (a1:List DS1) (a2:List Int):Option ((List DS1) × (List Int) × (List DS1) × Unit) :=
 cond (or (bnd a0 (lenI a2)) (not (bEq (iLt a0 0) false)))
 (cond (or (inB (Int.toNat a0) a2) (not (bEq (iLt a0 0) false)))
 (cond (cond (iLt a0 0) true (iLe 0 (List.getD a2 (Int.toNat a0) 0)))
 (some (a1,a2,([]:List DS1),()))
 (cond (bnd a0 (lenI a2))
 (cond (inB (Int.toNat a0) a2)
 (cond (bnd a0 (lenI a1))
 (cond (fits (List.length ([atI a1 a0 (0,[],[],())]:List DS1)) 56)
 (loopO (S:=Int × Int × (List DS1) × (List Int) × (List DS1) × Unit) (R:=(List DS1) × (List Int) × (List DS1) × Unit) (fun s315 =>
 cond (bnd s315.1 (lenI s315.2.2.1))
 (cond (iLt s315.2.1 (lenI ((atI s315.2.2.1 s315.1 (0,[],[],())).2.2.1)))
 (cond (bnd s315.1 (lenI s315.2.2.1))
 (cond (bnd s315.2.1 (lenI ((atI s315.2.2.1 s315.1 (0,[],[],())).2.2.1)))
 ((m58_2 (atI ((atI s315.2.2.1 s315.1 (0,[],[],())).2.2.1) s315.2.1 0) s315.2.2.1 s315.2.2.2.2.1 s315.2.2.2.1).bind fun y316 =>
 cond (and (Nat.beq (List.length s315.2.2.2.1) (List.length y316.2.2.1)) true)
 (some (.inl (s315.1,iAdd .i64 s315.2.1 1,y316.1,y316.2.2.1,y316.2.1,()))) none) none) none)
 (some (.inr (s315.2.2.1,s315.2.2.2.1,s315.2.2.2.2.1,())))) none)
 (a0,0,a1,List.set a2 (Int.toNat a0) 0,([atI a1 a0 (0,[],[],())]:List DS1),())) none) none) none) none)) none) none
noncomputable def cfg58_3:Cfg:=⟨ttab,gtab,[],[h58_2]⟩
def ish58_3:Sh:=⟨4,[(3,(.int .i64))],[(0,.ptr 0 0 0),(1,.nil),(2,.row 1)],[.box 93 [.nil,.nil,.d (.list tS1)],.row 3 (.int .i64) false]⟩
def osh58_3:Sh:=⟨1,[],[(0,.row 2)],[.box 93 [.nil,.nil,.d (.list tS1)],.row 3 (.int .i64) false,.row 70 tS1 false]⟩
theorem eqn58_3 (x:Int × (List DS1) × (List Int) × Unit):xfunH cfg58_3 x58_3 64 [.t 8] [.gh 8 70 tS1] ish58_3 osh58_3 x=m58_3 x.1 x.2.1 x.2.2.1:=by kernel_rfl
noncomputable def h58_3:HI:=⟨58,ish58_3,osh58_3,fun (x:Int × (List DS1) × (List Int) × Unit)=>m58_3 x.1 x.2.1 x.2.2.1,[1]⟩
theorem okh58_3:HOk Tryd.prog (gx gtab) h58_3:=hok mixed (cfg_h okh58_2 (cfg_nil _ _):CfgOk _ (cfg58_3)) F58_3 (eqn58_3)
end Abs
end Go.Proofs.YtgfnhpadmifiiaaDoor
