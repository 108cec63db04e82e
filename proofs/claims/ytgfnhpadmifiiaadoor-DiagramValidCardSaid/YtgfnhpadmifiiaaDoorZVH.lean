/- Merged and trimmed by a program: Models. -/
import Derived.Test.YtgfnhpadmifiiaaDoorZVG
set_option linter.unusedVariables false
set_option linter.unusedSimpArgs false
namespace Go.Proofs.YtgfnhpadmifiiaaDoor
namespace Abs
set_option maxRecDepth 100000
def r30_0:List Ins:=[qI 2 (.box 24 1 0), qI 3 (.box 28 2 1), qI 4 (.mov (.k (.bool false)))]
def r30_1:List Ins:=[qI 13 (.load 1 true 2), qI 14 (.call (.fn 41) [13]), qI 15 (.bin .neq 14 (kI 0)), qI 16 (.mov 15), qF 17 16 (.faddr 0 3), qF 18 16 (.load 1 false 17), qF 19 16 (.len 18), qF 20 16 (.bin .gtr 19 (kI 1000)), qI 21 (.pick 16 (.k (.bool true)) 20), qI 22 (.mov 21), qF 23 22 (.load 2 true 3), qF 24 22 (.faddr 1 3), qF 25 22 (.load 1 false 24), qF 26 22 (.call (.fn 56) [23,25]), qF 27 22 (.un .not 26), qI 28 (.pick 22 (.k (.bool true)) 27)]
def r30_2:List Ins:=[qI 4 (.mov (.k (.bool false)))]
def r30_3:List Ins:=[qI 5 (.mov (kI 0))]
def r30_4:List Ins:=[qI 29 (.mov 5), qI 30 (.faddr 0 3), qI 31 (.load 1 false 30), qI 32 (.len 31), qI 33 (.bin .lss 29 32)]
def r30_5:List Ins:=[qI 36 (.faddr 0 3), qI 37 (.load 1 false 36), qI 38 (.mov 5), qI 39 (.iaddr 3 37 38), qI 40 (.load 3 true 39), qI 6 (.alloc 70 (.agg #[.int .i64 0,.slice none 0 0,.slice none 0 0])), qN (.store 3 6 40)]
def r30_6:List Ins:=[qI 41 (.load 1 true 2), qI 42 (.load 2 true 3), qI 43 (.load 3 true 6), qI 44 (.call (.fn 57) [41,42,43]), qI 45 (.un .not 44)]
def r30_7:List Ins:=[qI 4 (.mov (.k (.bool false)))]
def r30_8:List Ins:=[qI 7 (.mov (kI 0))]
def r30_9:List Ins:=[qI 46 (.mov 7), qI 47 (.mov 5), qI 48 (.bin .lss 46 47)]
def r30_10:List Ins:=[qI 51 (.faddr 0 3), qI 52 (.load 1 false 51), qI 53 (.mov 7), qI 54 (.iaddr 3 52 53), qI 55 (.load 3 true 54), qI 8 (.alloc 70 (.agg #[.int .i64 0,.slice none 0 0,.slice none 0 0])), qN (.store 3 8 55)]
def r30_11:List Ins:=[qI 56 (.faddr 0 8), qI 57 (.load 1 false 56), qI 58 (.faddr 0 6), qI 59 (.load 1 false 58), qI 60 (.bin .eql 57 59), qI 61 (.mov 60), qT 62 61 (.faddr 1 8), qT 63 61 (.load 1 false 62), qT 64 61 (.faddr 1 6), qT 65 61 (.load 1 false 64), qT 66 61 (.call (.fn 23) [63,65]), qI 67 (.pick 61 66 (.k (.bool false))), qI 68 (.mov 67), qT 69 68 (.faddr 2 8), qT 70 68 (.load 1 false 69), qT 71 68 (.faddr 2 6), qT 72 68 (.load 1 false 71), qT 73 68 (.call (.fn 23) [70,72]), qI 74 (.pick 68 73 (.k (.bool false)))]
def r30_12:List Ins:=[qI 4 (.mov (.k (.bool false)))]
def r30_13:List Ins:=[qI 49 (.mov 7), qI 50 (.bin .add 49 (kI 1)), qI 7 (.mov 50)]
def r30_14:List Ins:=[qI 34 (.mov 5), qI 35 (.bin .add 34 (kI 1)), qI 5 (.mov 35)]
def r30_15:List Ins:=[qI 75 (.faddr 0 3), qI 76 (.load 1 false 75), qI 77 (.build [.slice none 0 0,.slice none 0 0,.slice none 0 0] [(2,1,76)]), qI 78 (.box 93 3 77), qI 9 (.mov 78)]
def r30_16:List Ins:=[qI 79 (.faddr 0 3), qI 80 (.load 1 false 79), qI 81 (.len 80), qI 82 (.mk 3 1 8 (.int .i64 0) 81), qI 10 (.mov 82)]
def r30_17:List Ins:=[qI 11 (.mov (kI 0))]
def r30_18:List Ins:=[qI 83 (.mov 11), qI 84 (.mov 10), qI 85 (.len 84), qI 86 (.bin .lss 83 85)]
def r30_19:List Ins:=[qI 89 (.mov 10), qI 90 (.mov 11), qI 91 (.iaddr 1 89 90), qN (.store 1 91 (.k (.int .i64 (-1))))]
def r30_20:List Ins:=[qI 87 (.mov 11), qI 88 (.bin .add 87 (kI 1)), qI 11 (.mov 88)]
def r30_21:List Ins:=[qI 92 (.mov 9), qI 93 (.mov 10), qI 94 (.faddr 1 3), qI 95 (.load 1 false 94), qI 96 (.call (.fn 58) [92,kN,93,95])]
def r30_22:List Ins:=[qI 12 (.mov (kI 0))]
def r30_23:List Ins:=[qI 97 (.mov 12), qI 98 (.mov 10), qI 99 (.len 98), qI 100 (.bin .lss 97 99)]
def r30_24:List Ins:=[qI 103 (.mov 10), qI 104 (.mov 12), qI 105 (.iaddr 1 103 104), qI 106 (.load 1 false 105), qI 107 (.mov 12), qI 108 (.bin .neq 106 107)]
def r30_25:List Ins:=[qI 4 (.mov (.k (.bool false)))]
def r30_26:List Ins:=[qI 101 (.mov 12), qI 102 (.bin .add 101 (kI 1)), qI 12 (.mov 102)]
def r30_27:List Ins:=[qI 4 (.mov (.k (.bool true)))]
def x30:XC:=(.seq (.ops false r30_0) (.seq (.seq (.ops false r30_1) (.cond (.t 28) (.seq (.ops false r30_2) .ret) .skip)) (.seq (.seq (.ops false r30_3) (.block 0 (.loop [] ⟨109,[(5,(.int .i64))],[(2,.ptr 0 0 0),(3,.ptr 1 0 0)],[.box 24 [.d (.list tS0)],.box 28 [.d (.list tS1),.d (.int .i64)]]⟩ (.seq (.seq (.ops false r30_4) (.cond (.t 33) .skip (.exit 0))) (.seq (.block 1 (.seq (.ops false r30_5) (.seq (.seq (.ops false r30_6) (.cond (.t 45) (.seq (.ops false r30_7) .ret) .skip)) (.seq (.ops false r30_8) (.block 2 (.loop [] ⟨109,[(5,(.int .i64)),(7,(.int .i64))],[(2,.ptr 0 0 0),(3,.ptr 1 0 0),(6,.ptr 2 0 0)],[.box 24 [.d (.list tS0)],.box 28 [.d (.list tS1),.d (.int .i64)],.box 70 [.d (.int .i64),.d (.list (.int .i64)),.d (.list (.int .i64))]]⟩ (.seq (.seq (.ops false r30_9) (.cond (.t 48) .skip (.exit 2))) (.seq (.block 3 (.seq (.ops false r30_10) (.seq (.ops false r30_11) (.cond (.t 74) (.seq (.ops false r30_12) .ret) .skip)))) (.ops false r30_13))))))))) (.ops false r30_14)))))) (.seq (.ops false r30_15) (.seq (.ops false r30_16) (.seq (.seq (.ops false r30_17) (.block 4 (.loop [] ⟨109,[(11,(.int .i64))],[(3,.ptr 0 0 0),(9,.ptr 1 0 0),(10,.row 2)],[.box 28 [.d (.list tS1),.d (.int .i64)],.box 93 [.nil,.nil,.d (.list tS1)],.row 3 (.int .i64) false]⟩ (.seq (.seq (.ops false r30_18) (.cond (.t 86) .skip (.exit 4))) (.seq (.block 5 (.ops false r30_19)) (.ops false r30_20)))))) (.seq (.ops false r30_21) (.seq (.seq (.ops false r30_22) (.block 6 (.loop [] ⟨109,[(12,(.int .i64))],[(10,.row 0)],[.row 3 (.int .i64) false]⟩ (.seq (.seq (.ops false r30_23) (.cond (.t 100) .skip (.exit 6))) (.seq (.block 7 (.seq (.ops false r30_24) (.cond (.t 108) (.seq (.ops false r30_25) .ret) .skip))) (.ops false r30_26)))))) (.seq (.ops false r30_27) .ret)))))))))
theorem F30:Fn Tryd.prog 30 109 x30.er [.t 4]:=⟨Tryd.f30,hcl,Tryd.func30,by kernel_rfl,by kernel_rfl,by kernel_rfl,by kernel_rfl⟩
noncomputable def m30 (a0:DS5) (a1:DS2):Option (Bool × Unit) :=
 (m41 (a0.1,())).bind fun y319 =>
 cond (cond (iNe y319.1 0) true (iLt 1000 (lenI a1.1)))
 (some (false,()))
 ((m56 (a1.1,a1.2.1,()) a1.2.1).bind fun y320 =>
 cond (not y320.1)
 (some (false,()))
 (loopO (S:=Int × (List DS0) × (List DS1) × Int × Unit) (R:=Bool × Unit) (fun s321 =>
 cond (iLt s321.1 (lenI s321.2.2.1))
 (cond (bnd s321.1 (lenI s321.2.2.1))
 ((m57 (s321.2.1,()) (s321.2.2.1,s321.2.2.2.1,()) ((atI s321.2.2.1 s321.1 (0,[],[],())).1,(atI s321.2.2.1 s321.1 (0,[],[],())).2.1,(atI s321.2.2.1 s321.1 (0,[],[],())).2.2.1,())).bind fun y322 =>
 cond (not y322.1)
 (some (.inr (false,())))
 (loopO (S:=Int × Int × (List DS0) × (List DS1) × Int × Int × (List Int) × (List Int) × Unit) (R:=(Int × (List DS0) × (List DS1) × Int × Unit) ⊕ (Bool × Unit)) (fun s323 =>
 cond (iLt s323.2.1 s323.1)
 (cond (bnd s323.2.1 (lenI s323.2.2.2.1))
 (cond (iEq ((atI s323.2.2.2.1 s323.2.1 (0,[],[],())).1) s323.2.2.2.2.2.1)
 ((m23 ((atI s323.2.2.2.1 s323.2.1 (0,[],[],())).2.1) s323.2.2.2.2.2.2.1).bind fun y324 =>
 cond y324.1
 ((m23 ((atI s323.2.2.2.1 s323.2.1 (0,[],[],())).2.2.1) s323.2.2.2.2.2.2.2.1).bind fun y325 =>
 cond y325.1
 (some (.inr (.inr (false,()))))
 (some (.inl (s323.1,iAdd .i64 s323.2.1 1,s323.2.2.1,s323.2.2.2.1,s323.2.2.2.2.1,s323.2.2.2.2.2.1,s323.2.2.2.2.2.2.1,s323.2.2.2.2.2.2.2.1,()))))
 (some (.inl (s323.1,iAdd .i64 s323.2.1 1,s323.2.2.1,s323.2.2.2.1,s323.2.2.2.2.1,s323.2.2.2.2.2.1,s323.2.2.2.2.2.2.1,s323.2.2.2.2.2.2.2.1,()))))
 (some (.inl (s323.1,iAdd .i64 s323.2.1 1,s323.2.2.1,s323.2.2.2.1,s323.2.2.2.2.1,s323.2.2.2.2.2.1,s323.2.2.2.2.2.2.1,s323.2.2.2.2.2.2.2.1,())))) none)
 (some (.inr (.inl (iAdd .i64 s323.1 1,s323.2.2.1,s323.2.2.2.1,s323.2.2.2.2.1,())))))
 (s321.1,0,s321.2.1,s321.2.2.1,s321.2.2.2.1,(atI s321.2.2.1 s321.1 (0,[],[],())).1,(atI s321.2.2.1 s321.1 (0,[],[],())).2.1,(atI s321.2.2.1 s321.1 (0,[],[],())).2.2.1,()))) none)
 (Option.map Sum.inr (cond (fitsI (lenI s321.2.2.1) 8)
 (loopO (S:=Int × (List DS1) × Int × (List DS1) × (List Int) × Unit) (R:=Bool × Unit) (fun s326 =>
 cond (iLt s326.1 (lenI s326.2.2.2.2.1))
 (cond (bnd s326.1 (lenI s326.2.2.2.2.1))
 (cond (inB (Int.toNat s326.1) s326.2.2.2.2.1)
 (some (.inl (iAdd .i64 s326.1 1,s326.2.1,s326.2.2.1,s326.2.2.2.1,List.set s326.2.2.2.2.1 (Int.toNat s326.1) (-1),()))) none) none)
 (Option.map Sum.inr ((m58_3 s326.2.2.1 s326.2.2.2.1 s326.2.2.2.2.1).bind fun y327 =>
 cond (and (Nat.beq (List.length s326.2.2.2.2.1) (List.length y327.2.1)) true)
 (loopO (S:=Int × (List Int) × Unit) (R:=Bool × Unit) (fun s328 =>
 cond (iLt s328.1 (lenI s328.2.1))
 (cond (bnd s328.1 (lenI s328.2.1))
 (cond (inB (Int.toNat s328.1) s328.2.1)
 (cond (iNe (List.getD s328.2.1 (Int.toNat s328.1) 0) s328.1)
 (some (.inr (false,())))
 (some (.inl (iAdd .i64 s328.1 1,s328.2.1,())))) none) none)
 (some (.inr (true,()))))
 (0,y327.2.1,())) none)))
 (0,s321.2.2.1,s321.2.2.2.1,s321.2.2.1,(List.replicate (Int.toNat (lenI s321.2.2.1)) 0:List Int),())) none)))
 (0,a0.1,a1.1,a1.2.1,())))
noncomputable def cfg30:Cfg:=⟨ttab,gtab,[i23,i41,i56,i57],[h58_3]⟩
theorem eqn30 (x:DS5 × DS2 × Unit):xfun cfg30 x30 109 [.t 4] [tS5,tS2] [.bool] x=m30 x.1 x.2.1:=by kernel_rfl
noncomputable def i30:PI:=⟨30,[tS5,tS2],[.bool],fun (x:DS5 × DS2 × Unit)=>m30 x.1 x.2.1⟩
theorem oki30:POk Tryd.prog (gx gtab) i30:=pok mixed (cfg_p oki23 (cfg_p oki41 (cfg_p oki56 (cfg_p oki57 (cfg_h okh58_3 (cfg_nil _ _))))):CfgOk _ (cfg30)) F30 (eqn30)
def r65_0:List Ins:=[qI 4 (.mov (.k (.bool false)))]
def r65_1:List Ins:=[qI 6 (.mov 0), qI 7 (.len 6), qI 8 (.mov 1), qI 9 (.len 8), qI 10 (.bin .neq 7 9)]
def r65_2:List Ins:=[qI 4 (.mov (.k (.bool false)))]
def r65_3:List Ins:=[qI 11 (.mov 0), qI 12 (.len 11), qI 13 (.mov (kI 0))]
def r65_4:List Ins:=[qI 14 (.bin .lss 13 12)]
def r65_5:List Ins:=[qI 15 (.mov 13), qI 5 (.mov 15)]
def r65_6:List Ins:=[qI 16 (.mov 0), qI 17 (.mov 5), qI 18 (.iaddr 1 16 17), qI 19 (.load 1 false 18), qI 20 (.mov 1), qI 21 (.mov 5), qI 22 (.iaddr 1 20 21), qI 23 (.load 1 false 22), qI 24 (.bin .neq 19 23)]
def r65_7:List Ins:=[qI 4 (.mov (.k (.bool false)))]
def r65_8:List Ins:=[qI 25 (.bin .add 13 (kI 1)), qI 13 (.mov 25)]
def r65_9:List Ins:=[qI 4 (.mov (.k (.bool true)))]
def x65:XC:=(.seq (.ops false r65_0) (.seq (.seq (.ops false r65_1) (.cond (.t 10) (.seq (.ops false r65_2) .ret) .skip)) (.seq (.seq (.ops false r65_3) (.block 0 (.loop [] ⟨26,[(0,(.list (.int .i64))),(1,(.list (.int .i64))),(12,(.int .i64)),(13,(.int .i64))],[],[]⟩ (.seq (.ops false r65_4) (.seq (.cond (.t 14) .skip (.exit 0)) (.seq (.block 1 (.seq (.ops false r65_5) (.seq (.ops true r65_6) (.cond (.t 24) (.seq (.ops false r65_7) .ret) .skip)))) (.ops false r65_8))))))) (.seq (.ops false r65_9) .ret))))
theorem F65:Fn Tryd.prog 65 26 x65.er [.t 4]:=⟨Tryd.f65,hcl,Tryd.func65,by kernel_rfl,by kernel_rfl,by kernel_rfl,by kernel_rfl⟩
noncomputable def m65 (a0:List Int) (a1:List Int):Option (Bool × Unit) :=
 cond (iNe (lenI a0) (lenI a1))
 (some (false,()))
 (loopO (S:=(List Int) × (List Int) × Int × Int × Unit) (R:=Bool × Unit) (fun s336 =>
 cond (iLt s336.2.2.2.1 s336.2.2.1)
 (cond (bnd s336.2.2.2.1 (lenI s336.1))
 (cond (bnd s336.2.2.2.1 (lenI s336.2.1))
 (cond (iNe (atI s336.1 s336.2.2.2.1 0) (atI s336.2.1 s336.2.2.2.1 0))
 (some (.inr (false,())))
 (some (.inl (s336.1,s336.2.1,s336.2.2.1,iAdd .i64 s336.2.2.2.1 1,())))) none) none)
 (some (.inr (true,()))))
 (a0,a1,lenI a0,0,()))
noncomputable def cfg65:Cfg:=⟨ttab,gtab,[],[]⟩
theorem eqn65 (x:(List Int) × (List Int) × Unit):xfun cfg65 x65 26 [.t 4] [(.list (.int .i64)),(.list (.int .i64))] [.bool] x=m65 x.1 x.2.1:=by kernel_rfl
noncomputable def i65:PI:=⟨65,[(.list (.int .i64)),(.list (.int .i64))],[.bool],fun (x:(List Int) × (List Int) × Unit)=>m65 x.1 x.2.1⟩
theorem oki65:POk Tryd.prog (gx gtab) i65:=pok mixed (cfg_nil _ _:CfgOk _ (cfg65)) F65 (eqn65)
def r64_0:List Ins:=[qI 2 (.box 70 3 0), qI 3 (.box 70 3 1), qI 4 (.mov (.k (.bool false)))]
def r64_1:List Ins:=[qI 5 (.faddr 0 2), qI 6 (.load 1 false 5), qI 7 (.faddr 0 3), qI 8 (.load 1 false 7), qI 9 (.bin .eql 6 8), qI 10 (.mov 9), qT 11 10 (.faddr 1 2), qT 12 10 (.load 1 false 11), qT 13 10 (.faddr 1 3), qT 14 10 (.load 1 false 13), qT 15 10 (.call (.fn 65) [12,14]), qI 16 (.pick 10 15 (.k (.bool false))), qI 17 (.mov 16), qT 18 17 (.faddr 2 2), qT 19 17 (.load 1 false 18), qT 20 17 (.faddr 2 3), qT 21 17 (.load 1 false 20), qT 22 17 (.call (.fn 65) [19,21]), qI 23 (.pick 17 22 (.k (.bool false))), qI 4 (.mov 23)]
def x64:XC:=(.seq (.ops false r64_0) (.seq (.ops false r64_1) .ret))
theorem F64:Fn Tryd.prog 64 24 x64.er [.t 4]:=⟨Tryd.f64,hcl,Tryd.func64,by kernel_rfl,by kernel_rfl,by kernel_rfl,by kernel_rfl⟩
noncomputable def m64 (a0:DS1) (a1:DS1):Option (Bool × Unit) :=
 cond (iEq a0.1 a1.1)
 ((m65 a0.2.1 a1.2.1).bind fun y337 =>
 cond y337.1
 ((m65 a0.2.2.1 a1.2.2.1).bind fun y338 =>
 some (y338.1,()))
 (some (false,())))
 (some (false,()))
noncomputable def cfg64:Cfg:=⟨ttab,gtab,[i65],[]⟩
theorem eqn64 (x:DS1 × DS1 × Unit):xfun cfg64 x64 24 [.t 4] [tS1,tS1] [.bool] x=m64 x.1 x.2.1:=by kernel_rfl
noncomputable def i64:PI:=⟨64,[tS1,tS1],[.bool],fun (x:DS1 × DS1 × Unit)=>m64 x.1 x.2.1⟩
theorem oki64:POk Tryd.prog (gx gtab) i64:=pok mixed (cfg_p oki65 (cfg_nil _ _):CfgOk _ (cfg64)) F64 (eqn64)
def r63_0:List Ins:=[qI 6 (.mov (.k (.bool false)))]
def r63_1:List Ins:=[qI 10 (.mov 0), qI 11 (.len 10), qI 12 (.mov 1), qI 13 (.len 12), qI 14 (.bin .neq 11 13)]
def r63_2:List Ins:=[qI 6 (.mov (.k (.bool false)))]
def r63_3:List Ins:=[qI 15 (.mov 0), qI 16 (.len 15), qI 17 (.mov (kI 0))]
def r63_4:List Ins:=[qI 18 (.bin .lss 17 16)]
def r63_5:List Ins:=[qI 19 (.mov 17), qI 20 (.iaddr 3 15 17), qI 21 (.load 3 true 20), qI 8 (.alloc 70 (.agg #[.int .i64 0,.slice none 0 0,.slice none 0 0])), qI 7 (.mov 19), qN (.store 3 8 21)]
def r63_6:List Ins:=[qI 22 (.mov 1), qI 23 (.mov 7), qI 24 (.iaddr 3 22 23), qI 25 (.load 3 true 24), qI 9 (.alloc 70 (.agg #[.int .i64 0,.slice none 0 0,.slice none 0 0])), qN (.store 3 9 25)]
def r63_7:List Ins:=[qI 26 (.mov 2), qI 27 (.load 3 true 8), qI 28 (.load 3 true 9), qI 29 (.call 26 [27,28]), qI 30 (.un .not 29)]
def r63_8:List Ins:=[qI 6 (.mov (.k (.bool false)))]
def r63_9:List Ins:=[qI 31 (.bin .add 17 (kI 1)), qI 17 (.mov 31)]
def r63_10:List Ins:=[qI 6 (.mov (.k (.bool true)))]
def x63:XC:=(.seq (.ops false r63_0) (.seq (.seq (.ops false r63_1) (.cond (.t 14) (.seq (.ops false r63_2) .ret) .skip)) (.seq (.seq (.ops false r63_3) (.block 0 (.loop [] ⟨32,[(1,(.list tS1)),(2,(.fnc 64)),(15,(.list tS1)),(16,(.int .i64)),(17,(.int .i64))],[],[]⟩ (.seq (.ops false r63_4) (.seq (.cond (.t 18) .skip (.exit 0)) (.seq (.block 1 (.seq (.ops false r63_5) (.seq (.ops false r63_6) (.seq (.ops false r63_7) (.cond (.t 30) (.seq (.ops false r63_8) .ret) .skip))))) (.ops false r63_9))))))) (.seq (.ops false r63_10) .ret))))
theorem F63:Fn Tryd.prog 63 32 x63.er [.t 6]:=⟨Tryd.f63,hcl,Tryd.func63,by kernel_rfl,by kernel_rfl,by kernel_rfl,by kernel_rfl⟩
noncomputable def m63 (a0:List DS1) (a1:List DS1) (a2:Unit):Option (Bool × Unit) :=
 cond (iNe (lenI a0) (lenI a1))
 (some (false,()))
 (loopO (S:=(List DS1) × Unit × (List DS1) × Int × Int × Unit) (R:=Bool × Unit) (fun s340 =>
 cond (iLt s340.2.2.2.2.1 s340.2.2.2.1)
 (cond (bnd s340.2.2.2.2.1 (lenI s340.2.2.1))
 (cond (bnd s340.2.2.2.2.1 (lenI s340.1))
 ((m64 ((atI s340.2.2.1 s340.2.2.2.2.1 (0,[],[],())).1,(atI s340.2.2.1 s340.2.2.2.2.1 (0,[],[],())).2.1,(atI s340.2.2.1 s340.2.2.2.2.1 (0,[],[],())).2.2.1,()) ((atI s340.1 s340.2.2.2.2.1 (0,[],[],())).1,(atI s340.1 s340.2.2.2.2.1 (0,[],[],())).2.1,(atI s340.1 s340.2.2.2.2.1 (0,[],[],())).2.2.1,())).bind fun y341 =>
 cond (not y341.1)
 (some (.inr (false,())))
 (some (.inl (s340.1,s340.2.1,s340.2.2.1,s340.2.2.2.1,iAdd .i64 s340.2.2.2.2.1 1,())))) none) none)
 (some (.inr (true,()))))
 (a1,(),a0,lenI a0,0,()))
noncomputable def cfg63:Cfg:=⟨ttab,gtab,[i64],[]⟩
theorem eqn63 (x:(List DS1) × (List DS1) × Unit × Unit):xfun cfg63 x63 32 [.t 6] [(.list tS1),(.list tS1),(.fnc 64)] [.bool] x=m63 x.1 x.2.1 x.2.2.1:=by kernel_rfl
noncomputable def i63:PI:=⟨63,[(.list tS1),(.list tS1),(.fnc 64)],[.bool],fun (x:(List DS1) × (List DS1) × Unit × Unit)=>m63 x.1 x.2.1 x.2.2.1⟩
theorem oki63:POk Tryd.prog (gx gtab) i63:=pok mixed (cfg_p oki64 (cfg_nil _ _):CfgOk _ (cfg63)) F63 (eqn63)
def r32_0:List Ins:=[qI 2 (.box 28 2 0), qI 3 (.box 28 2 1), qI 4 (.mov (.k (.bool false)))]
def r32_1:List Ins:=[qI 5 (.faddr 1 2), qI 6 (.load 1 false 5), qI 7 (.faddr 1 3), qI 8 (.load 1 false 7), qI 9 (.bin .eql 6 8), qI 10 (.mov 9), qT 11 10 (.faddr 0 2), qT 12 10 (.load 1 false 11), qT 13 10 (.faddr 0 3), qT 14 10 (.load 1 false 13), qT 15 10 (.call (.fn 63) [12,14,(.fn 64)]), qI 16 (.pick 10 15 (.k (.bool false))), qI 4 (.mov 16)]
def x32:XC:=(.seq (.ops false r32_0) (.seq (.ops false r32_1) .ret))
theorem F32:Fn Tryd.prog 32 17 x32.er [.t 4]:=⟨Tryd.f32,hcl,Tryd.func32,by kernel_rfl,by kernel_rfl,by kernel_rfl,by kernel_rfl⟩
noncomputable def m32 (a0:DS2) (a1:DS2):Option (Bool × Unit) :=
 cond (iEq a0.2.1 a1.2.1)
 ((m63 a0.1 a1.1 ()).bind fun y342 =>
 some (y342.1,()))
 (some (false,()))
noncomputable def cfg32:Cfg:=⟨ttab,gtab,[i63],[]⟩
theorem eqn32 (x:DS2 × DS2 × Unit):xfun cfg32 x32 17 [.t 4] [tS2,tS2] [.bool] x=m32 x.1 x.2.1:=by kernel_rfl
noncomputable def i32:PI:=⟨32,[tS2,tS2],[.bool],fun (x:DS2 × DS2 × Unit)=>m32 x.1 x.2.1⟩
theorem oki32:POk Tryd.prog (gx gtab) i32:=pok mixed (cfg_p oki63 (cfg_nil _ _):CfgOk _ (cfg32)) F32 (eqn32)
def r14_0:List Ins:=[qI 2 (.box 28 2 0), qI 3 (.box 28 2 1), qI 4 (.mov (.k (.bool false)))]
def r14_1:List Ins:=[qI 6 (.faddr 1 2), qI 7 (.load 1 false 6), qI 8 (.faddr 1 3), qI 9 (.load 1 false 8), qI 10 (.bin .neq 7 9), qI 11 (.mov 10), qF 12 11 (.faddr 0 2), qF 13 11 (.load 1 false 12), qF 14 11 (.len 13), qF 15 11 (.faddr 0 3), qF 16 11 (.load 1 false 15), qF 17 11 (.len 16), qF 18 11 (.bin .neq 14 17), qI 19 (.pick 11 (.k (.bool true)) 18)]
def r14_2:List Ins:=[qI 4 (.mov (.k (.bool false)))]
def r14_3:List Ins:=[qI 5 (.mov (kI 0))]
def r14_4:List Ins:=[qI 20 (.mov 5), qI 21 (.faddr 0 2), qI 22 (.load 1 false 21), qI 23 (.len 22), qI 24 (.bin .lss 20 23)]
def r14_5:List Ins:=[qI 27 (.faddr 0 2), qI 28 (.load 1 false 27), qI 29 (.mov 5), qI 30 (.iaddr 3 28 29), qI 31 (.faddr 0 30), qI 32 (.load 1 false 31), qI 33 (.faddr 0 3), qI 34 (.load 1 false 33), qI 35 (.mov 5), qI 36 (.iaddr 3 34 35), qI 37 (.faddr 0 36), qI 38 (.load 1 false 37), qI 39 (.bin .neq 32 38), qI 40 (.mov 39), qF 41 40 (.faddr 0 2), qF 42 40 (.load 1 false 41), qF 43 40 (.mov 5), qF 44 40 (.iaddr 3 42 43), qF 45 40 (.faddr 1 44), qF 46 40 (.load 1 false 45), qF 47 40 (.faddr 0 3), qF 48 40 (.load 1 false 47), qF 49 40 (.mov 5), qF 50 40 (.iaddr 3 48 49), qF 51 40 (.faddr 1 50), qF 52 40 (.load 1 false 51), qF 53 40 (.call (.fn 23) [46,52]), qF 54 40 (.un .not 53), qI 55 (.pick 40 (.k (.bool true)) 54), qI 56 (.mov 55), qF 57 56 (.faddr 0 2), qF 58 56 (.load 1 false 57), qF 59 56 (.mov 5), qF 60 56 (.iaddr 3 58 59), qF 61 56 (.faddr 2 60), qF 62 56 (.load 1 false 61), qF 63 56 (.faddr 0 3), qF 64 56 (.load 1 false 63), qF 65 56 (.mov 5), qF 66 56 (.iaddr 3 64 65), qF 67 56 (.faddr 2 66), qF 68 56 (.load 1 false 67), qF 69 56 (.call (.fn 23) [62,68]), qF 70 56 (.un .not 69), qI 71 (.pick 56 (.k (.bool true)) 70)]
def r14_6:List Ins:=[qI 4 (.mov (.k (.bool false)))]
def r14_7:List Ins:=[qI 25 (.mov 5), qI 26 (.bin .add 25 (kI 1)), qI 5 (.mov 26)]
def r14_8:List Ins:=[qI 4 (.mov (.k (.bool true)))]
def x14:XC:=(.seq (.ops false r14_0) (.seq (.seq (.ops false r14_1) (.cond (.t 19) (.seq (.ops false r14_2) .ret) .skip)) (.seq (.seq (.ops false r14_3) (.block 0 (.loop [] ⟨72,[(5,(.int .i64))],[(2,.ptr 0 0 0),(3,.ptr 1 0 0)],[.box 28 [.d (.list tS1),.d (.int .i64)],.box 28 [.d (.list tS1),.d (.int .i64)]]⟩ (.seq (.seq (.ops false r14_4) (.cond (.t 24) .skip (.exit 0))) (.seq (.block 1 (.seq (.ops true r14_5) (.cond (.t 71) (.seq (.ops false r14_6) .ret) .skip))) (.ops false r14_7)))))) (.seq (.ops false r14_8) .ret))))
theorem F14:Fn Tryd.prog 14 72 x14.er [.t 4]:=⟨Tryd.f14,hcl,Tryd.func14,by kernel_rfl,by kernel_rfl,by kernel_rfl,by kernel_rfl⟩
noncomputable def m14 (a0:DS2) (a1:DS2):Option (Bool × Unit) :=
 cond (cond (iNe a0.2.1 a1.2.1) true (iNe (lenI a0.1) (lenI a1.1)))
 (some (false,()))
 (loopO (S:=Int × (List DS1) × Int × (List DS1) × Int × Unit) (R:=Bool × Unit) (fun s347 =>
 cond (iLt s347.1 (lenI s347.2.1))
 (cond (bnd s347.1 (lenI s347.2.1))
 (cond (bnd s347.1 (lenI s347.2.2.2.1))
 (cond (or (bnd s347.1 (lenI s347.2.1)) (not (bEq (iNe ((atI s347.2.1 s347.1 (0,[],[],())).1) ((atI s347.2.2.2.1 s347.1 (0,[],[],())).1)) false)))
 (cond (or (bnd s347.1 (lenI s347.2.2.2.1)) (not (bEq (iNe ((atI s347.2.1 s347.1 (0,[],[],())).1) ((atI s347.2.2.2.1 s347.1 (0,[],[],())).1)) false)))
 (cond (iNe ((atI s347.2.1 s347.1 (0,[],[],())).1) ((atI s347.2.2.2.1 s347.1 (0,[],[],())).1))
 (cond (or (bnd s347.1 (lenI s347.2.1)) (not (bEq true false)))
 (cond (or (bnd s347.1 (lenI s347.2.2.2.1)) (not (bEq true false)))
 (some (.inr (false,()))) none) none)
 ((m23 ((atI s347.2.1 s347.1 (0,[],[],())).2.1) ((atI s347.2.2.2.1 s347.1 (0,[],[],())).2.1)).bind fun y348 =>
 cond (or (bnd s347.1 (lenI s347.2.1)) (not (bEq (not y348.1) false)))
 (cond (or (bnd s347.1 (lenI s347.2.2.2.1)) (not (bEq (not y348.1) false)))
 (cond (not y348.1)
 (some (.inr (false,())))
 ((m23 ((atI s347.2.1 s347.1 (0,[],[],())).2.2.1) ((atI s347.2.2.2.1 s347.1 (0,[],[],())).2.2.1)).bind fun y349 =>
 cond (not y349.1)
 (some (.inr (false,())))
 (some (.inl (iAdd .i64 s347.1 1,s347.2.1,s347.2.2.1,s347.2.2.2.1,s347.2.2.2.2.1,()))))) none) none)) none) none) none) none)
 (some (.inr (true,()))))
 (0,a0.1,a0.2.1,a1.1,a1.2.1,()))
noncomputable def cfg14:Cfg:=⟨ttab,gtab,[i23],[]⟩
theorem eqn14 (x:DS2 × DS2 × Unit):xfun cfg14 x14 72 [.t 4] [tS2,tS2] [.bool] x=m14 x.1 x.2.1:=by kernel_rfl
noncomputable def i14:PI:=⟨14,[tS2,tS2],[.bool],fun (x:DS2 × DS2 × Unit)=>m14 x.1 x.2.1⟩
theorem oki14:POk Tryd.prog (gx gtab) i14:=pok mixed (cfg_p oki23 (cfg_nil _ _):CfgOk _ (cfg14)) F14 (eqn14)
def r7_0:List Ins:=[qI 5 (.box 24 1 0), qI 6 (.box 28 2 1), qI 10 (.mov (.k (.bool false)))]
def r7_1:List Ins:=[qI 14 (.faddr 0 5), qI 15 (.load 1 false 14), qI 16 (.len 15), qI 17 (.bin .gtr 16 (kI 20)), qI 18 (.mov 17), qF 19 18 (.faddr 0 6), qF 20 18 (.load 1 false 19), qF 21 18 (.len 20), qF 22 18 (.bin .gtr 21 (kI 60)), qI 23 (.pick 18 (.k (.bool true)) 22)]
def r7_2:List Ins:=[qI 24 (.call (.fn 11) []), qI 10 (.mov 24)]
def r7_3:List Ins:=[qI 25 (.mov 2), qI 26 (.call (.fn 15) [25]), qI 11 (.alloc 24 (.agg #[.slice none 0 0])), qN (.store 1 11 26)]
def r7_4:List (Nat × Ins):=[(1,qI 27 (.load 1 true 11)),
(0,qI 28 (.mov 3)),
(2,qI 29 (.call (.fn 19) [28])),
(2,qI 30 (.call (.fn 18) [27,29,(kI 3)])),
(2,qI 12 (.alloc 28 (.agg #[.slice none 0 0,.int .i64 0]))),
(0,qN (.store 2 12 30))]
def r7_5:List (Nat × Ins):=[(1,qI 31 (.load 2 true 12)),
(0,qI 32 (.mov 4)),
(2,qI 33 (.call (.fn 19) [32])),
(2,qI 34 (.call (.fn 29) [31,33])),
(2,qI 13 (.alloc 28 (.agg #[.slice none 0 0,.int .i64 0]))),
(0,qN (.store 2 13 34))]
def r7_6:List Ins:=[qI 35 (.load 1 true 11), qI 36 (.load 2 true 12), qI 37 (.call (.fn 31) [35,36]), qI 38 (.mov 37), qT 39 38 (.load 1 true 5), qT 40 38 (.load 2 true 6), qT 41 38 (.call (.fn 31) [39,40]), qT 42 38 (.load 1 true 5), qT 43 38 (.load 2 true 6), qT 44 38 (.call (.fn 30) [42,43]), qT 45 38 (.beq false 41 44), qI 46 (.pick 38 45 (.k (.bool false))), qI 47 (.mov 46), qT 48 47 (.load 1 true 11), qT 49 47 (.load 2 true 6), qT 50 47 (.call (.fn 31) [48,49]), qT 51 47 (.load 1 true 11), qT 52 47 (.load 2 true 6), qT 53 47 (.call (.fn 30) [51,52]), qT 54 47 (.beq false 50 53), qI 55 (.pick 47 54 (.k (.bool false))), qI 56 (.mov 55), qT 57 56 (.load 1 true 11), qT 58 56 (.load 2 true 13), qT 59 56 (.call (.fn 31) [57,58]), qT 60 56 (.load 1 true 11), qT 61 56 (.load 2 true 13), qT 62 56 (.call (.fn 30) [60,61]), qT 63 56 (.beq false 59 62), qI 64 (.pick 56 63 (.k (.bool false))), qI 65 (.mov 64), qT 66 65 (.load 2 true 12), qT 67 65 (.load 2 true 13), qT 68 65 (.call (.fn 32) [66,67]), qT 69 65 (.load 2 true 12), qT 70 65 (.load 2 true 13), qT 71 65 (.call (.fn 14) [69,70]), qT 72 65 (.beq false 68 71), qI 73 (.pick 65 72 (.k (.bool false))), qI 74 (.mov 73), qT 75 74 (.load 2 true 12), qT 76 74 (.load 2 true 12), qT 77 74 (.call (.fn 32) [75,76]), qI 78 (.pick 74 77 (.k (.bool false))), qI 79 (.mov 78), qT 80 79 (.call (.fn 11) []), qI 81 (.pick 79 80 (.k (.bool false))), qI 10 (.mov 81)]
def x7:XC:=(.seq (.ops false r7_0) (.seq (.seq (.ops false r7_1) (.cond (.t 23) (.seq (.ops false r7_2) .ret) .skip)) (.seq (.ops false r7_3) (.seq (.rops [] r7_4) (.seq (.rops [] r7_5) (.seq (.ops true r7_6) .ret))))))
theorem F7:Fn Tryd.prog 7 82 x7.er [.t 10]:=⟨Tryd.f7,hcl,Tryd.func7,by kernel_rfl,by kernel_rfl,by kernel_rfl,by kernel_rfl⟩
noncomputable def m7 (a0:DS5) (a1:DS2) (a2:Int) (a3:List Int) (a4:List Int):Option (Bool × Unit) :=
 cond (cond (iLt 20 (lenI a0.1)) true (iLt 60 (lenI a1.1)))
 ((m11).bind fun y127 =>
 some (y127.1,()))
 ((m15 a2).bind fun y131 =>
 (m19 a3).bind fun y132 =>
 (m18 (y131.1.1,()) 3 y132.1 y132.2.1).bind fun y264 =>
 (m19 a4).bind fun y265 =>
 (m29 (y264.1,y264.2.1,()) y265.1 y265.2.1).bind fun y290 =>
 (m31 (y131.1.1,()) (y264.1,y264.2.1,())).bind fun y291 =>
 cond y291.1
 ((m31 (a0.1,()) (a1.1,a1.2.1,())).bind fun y292 =>
 (m30 (a0.1,()) (a1.1,a1.2.1,())).bind fun y329 =>
 cond (bEq y292.1 y329.1)
 ((m31 (y131.1.1,()) (a1.1,a1.2.1,())).bind fun y330 =>
 (m30 (y131.1.1,()) (a1.1,a1.2.1,())).bind fun y331 =>
 cond (bEq y330.1 y331.1)
 ((m31 (y131.1.1,()) (y290.1.1,y290.1.2.1,())).bind fun y332 =>
 (m30 (y131.1.1,()) (y290.1.1,y290.1.2.1,())).bind fun y333 =>
 cond (bEq y332.1 y333.1)
 ((m32 (y264.1,y264.2.1,()) (y290.1.1,y290.1.2.1,())).bind fun y343 =>
 (m14 (y264.1,y264.2.1,()) (y290.1.1,y290.1.2.1,())).bind fun y350 =>
 cond (bEq y343.1 y350.1)
 ((m32 (y264.1,y264.2.1,()) (y264.1,y264.2.1,())).bind fun y351 =>
 cond y351.1
 ((m11).bind fun y352 =>
 some (y352.1,()))
 (some (false,())))
 (some (false,())))
 (some (false,())))
 (some (false,())))
 (some (false,())))
 (some (false,())))
noncomputable def cfg7:Cfg:=⟨ttab,gtab,[i11,i14,i15,i30,i31,i32],[h18,h19,h29]⟩
theorem eqn7 (x:DS5 × DS2 × Int × (List Int) × (List Int) × Unit):xfun cfg7 x7 82 [.t 10] [tS5,tS2,(.int .i64),(.list (.int .i64)),(.list (.int .i64))] [.bool] x=m7 x.1 x.2.1 x.2.2.1 x.2.2.2.1 x.2.2.2.2.1:=by kernel_rfl
noncomputable def i7:PI:=⟨7,[tS5,tS2,(.int .i64),(.list (.int .i64)),(.list (.int .i64))],[.bool],fun (x:DS5 × DS2 × Int × (List Int) × (List Int) × Unit)=>m7 x.1 x.2.1 x.2.2.1 x.2.2.2.1 x.2.2.2.2.1⟩
theorem oki7:POk Tryd.prog (gx gtab) i7:=pok mixed (cfg_p oki11 (cfg_p oki14 (cfg_p oki15 (cfg_p oki30 (cfg_p oki31 (cfg_p oki32 (cfg_h okh18 (cfg_h okh19 (cfg_h okh29 (cfg_nil _ _))))))))):CfgOk _ (cfg7)) F7 (eqn7)
end Abs
end Go.Proofs.YtgfnhpadmifiiaaDoor
