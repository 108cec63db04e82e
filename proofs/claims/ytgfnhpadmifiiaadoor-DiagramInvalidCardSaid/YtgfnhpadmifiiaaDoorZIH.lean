/- Merged and trimmed by a program: Models. -/
import Derived.Test.YtgfnhpadmifiiaaDoorZIG
set_option linter.unusedVariables false
set_option linter.unusedSimpArgs false
namespace Go.Proofs.YtgfnhpadmifiiaaDoor
namespace Abs
set_option maxRecDepth 100000
def r30_0:List Ins:=[qI 2 (.box 24 1 0), qI 3 (.box 28 2 1), qI 4 (.mov (.k (.bool false)))]
def r30_1:List Ins:=[qI 13 (.load 1 true 2), qI 14 (.call (.fn 41) [13]), qI 15 (.bin .neq 14 (kI 0)), qI 16 (.mov 15), qF 17 16 (.faddr 0 3), qF 18 16 (.load 1 false 17), qF 19 16 (.len 18), qF 20 16 (.bin .gtr 19 (kI 1000)), qI 21 (.pick 16 (.k (.bool true)) 20), qI 22 (.mov 21), qF 23 22 (.load 2 true 3), qF 24 22 (.faddr 1 3), qF 25 22 (.load 1 false 24), qF 26 22 (.call (.fn 56) [23,25]), qF 27 22 (.un .not 26), qI 28 (.pick 22 (.k (.bool true)) 27)]
def r30_2:List Ins:=[qI 4 (.mov (.k (.bool false)))]
def r30_3:List Ins:=[qI 5 (.mov (kI 0))]
def r30_4:List Ins:=[qI 29 (.mov 5), qI 30 (.faddr 0 3), qI 31 (.load 1 false 30), qI 32 (.len 31), qI 33 (.bin .lss 29 32)]
def r30_5:List Ins:=[qI 36 (.faddr 0 3), qI 37 (.load 1 false 36), qI 38 (.mov 5), qI 39 (.iaddr 3 37 38), qI 40 (.load 3 true 39), qI 6 (.alloc 70 (.agg #[.int .i64 0,.slice none 0 0,.slice none 0 0])), qN (.store 3 6 40)]
def r30_6:List Ins:=[qI 41 (.load 1 true 2), qI 42 (.load 2 true 3), qI 43 (.load 3 true 6), qI 44 (.call (.fn 57) [41,42,43]), qI 45 (.un .not 44)]
def r30_7:List Ins:=[qI 4 (.mov (.k (.bool false)))]
def r30_8:List Ins:=[qI 7 (.mov (kI 0))]
def r30_9:List Ins:=[qI 46 (.mov 7), qI 47 (.mov 5), qI 48 (.bin .lss 46 47)]
def r30_10:List Ins:=[qI 51 (.faddr 0 3), qI 52 (.load 1 false 51), qI 53 (.mov 7), qI 54 (.iaddr 3 52 53), qI 55 (.load 3 true 54), qI 8 (.alloc 70 (.agg #[.int .i64 0,.slice none 0 0,.slice none 0 0])), qN (.store 3 8 55)]
def r30_11:List Ins:=[qI 56 (.faddr 0 8), qI 57 (.load 1 false 56), qI 58 (.faddr 0 6), qI 59 (.load 1 false 58), qI 60 (.bin .eql 57 59), qI 61 (.mov 60), qT 62 61 (.faddr 1 8), qT 63 61 (.load 1 false 62), qT 64 61 (.faddr 1 6), qT 65 61 (.load 1 false 64), qT 66 61 (.call (.fn 23) [63,65]), qI 67 (.pick 61 66 (.k (.bool false))), qI 68 (.mov 67), qT 69 68 (.faddr 2 8), qT 70 68 (.load 1 false 69), qT 71 68 (.faddr 2 6), qT 72 68 (.load 1 false 71), qT 73 68 (.call (.fn 23) [70,72]), qI 74 (.pick 68 73 (.k (.bool false)))]
def r30_12:List Ins:=[qI 4 (.mov (.k (.bool false)))]
def r30_13:List Ins:=[qI 49 (.mov 7), qI 50 (.bin .add 49 (kI 1)), qI 7 (.mov 50)]
def r30_14:List Ins:=[qI 34 (.mov 5), qI 35 (.bin .add 34 (kI 1)), qI 5 (.mov 35)]
def r30_15:List Ins:=[qI 75 (.faddr 0 3), qI 76 (.load 1 false 75), qI 77 (.build [.slice none 0 0,.slice none 0 0,.slice none 0 0] [(2,1,76)]), qI 78 (.box 93 3 77), qI 9 (.mov 78)]
def r30_16:List Ins:=[qI 79 (.faddr 0 3), qI 80 (.load 1 false 79), qI 81 (.len 80), qI 82 (.mk 3 1 8 (.int .i64 0) 81), qI 10 (.mov 82)]
def r30_17:List Ins:=[qI 11 (.mov (kI 0))]
def r30_18:List Ins:=[qI 83 (.mov 11), qI 84 (.mov 10), qI 85 (.len 84), qI 86 (.bin .lss 83 85)]
def r30_19:List Ins:=[qI 89 (.mov 10), qI 90 (.mov 11), qI 91 (.iaddr 1 89 90), qN (.store 1 91 (.k (.int .i64 (-1))))]
def r30_20:List Ins:=[qI 87 (.mov 11), qI 88 (.bin .add 87 (kI 1)), qI 11 (.mov 88)]
def r30_21:List Ins:=[qI 92 (.mov 9), qI 93 (.mov 10), qI 94 (.faddr 1 3), qI 95 (.load 1 false 94), qI 96 (.call (.fn 58) [92,kN,93,95])]
def r30_22:List Ins:=[qI 12 (.mov (kI 0))]
def r30_23:List Ins:=[qI 97 (.mov 12), qI 98 (.mov 10), qI 99 (.len 98), qI 100 (.bin .lss 97 99)]
def r30_24:List Ins:=[qI 103 (.mov 10), qI 104 (.mov 12), qI 105 (.iaddr 1 103 104), qI 106 (.load 1 false 105), qI 107 (.mov 12), qI 108 (.bin .neq 106 107)]
def r30_25:List Ins:=[qI 4 (.mov (.k (.bool false)))]
def r30_26:List Ins:=[qI 101 (.mov 12), qI 102 (.bin .add 101 (kI 1)), qI 12 (.mov 102)]
def r30_27:List Ins:=[qI 4 (.mov (.k (.bool true)))]
def x30:XC:=(.seq (.ops false r30_0) (.seq (.seq (.ops false r30_1) (.cond (.t 28) (.seq (.ops false r30_2) .ret) .skip)) (.seq (.seq (.ops false r30_3) (.block 0 (.loop [] ⟨109,[(5,(.int .i64))],[(2,.ptr 0 0 0),(3,.ptr 1 0 0)],[.box 24 [.d (.list tS0)],.box 28 [.d (.list tS1),.d (.int .i64)]]⟩ (.seq (.seq (.ops false r30_4) (.cond (.t 33) .skip (.exit 0))) (.seq (.block 1 (.seq (.ops false r30_5) (.seq (.seq (.ops false r30_6) (.cond (.t 45) (.seq (.ops false r30_7) .ret) .skip)) (.seq (.ops false r30_8) (.block 2 (.loop [] ⟨109,[(5,(.int .i64)),(7,(.int .i64))],[(2,.ptr 0 0 0),(3,.ptr 1 0 0),(6,.ptr 2 0 0)],[.box 24 [.d (.list tS0)],.box 28 [.d (.list tS1),.d (.int .i64)],.box 70 [.d (.int .i64),.d (.list (.int .i64)),.d (.list (.int .i64))]]⟩ (.seq (.seq (.ops false r30_9) (.cond (.t 48) .skip (.exit 2))) (.seq (.block 3 (.seq (.ops false r30_10) (.seq (.ops false r30_11) (.cond (.t 74) (.seq (.ops false r30_12) .ret) .skip)))) (.ops false r30_13))))))))) (.ops false r30_14)))))) (.seq (.ops false r30_15) (.seq (.ops false r30_16) (.seq (.seq (.ops false r30_17) (.block 4 (.loop [] ⟨109,[(11,(.int .i64))],[(3,.ptr 0 0 0),(9,.ptr 1 0 0),(10,.row 2)],[.box 28 [.d (.list tS1),.d (.int .i64)],.box 93 [.nil,.nil,.d (.list tS1)],.row 3 (.int .i64) false]⟩ (.seq (.seq (.ops false r30_18) (.cond (.t 86) .skip (.exit 4))) (.seq (.block 5 (.ops false r30_19)) (.ops false r30_20)))))) (.seq (.ops false r30_21) (.seq (.seq (.ops false r30_22) (.block 6 (.loop [] ⟨109,[(12,(.int .i64))],[(10,.row 0)],[.row 3 (.int .i64) false]⟩ (.seq (.seq (.ops false r30_23) (.cond (.t 100) .skip (.exit 6))) (.seq (.block 7 (.seq (.ops false r30_24) (.cond (.t 108) (.seq (.ops false r30_25) .ret) .skip))) (.ops false r30_26)))))) (.seq (.ops false r30_27) .ret)))))))))
theorem F30:Fn Tryd.prog 30 109 x30.er [.t 4]:=⟨Tryd.f30,hcl,Tryd.func30,by kernel_rfl,by kernel_rfl,by kernel_rfl,by kernel_rfl⟩
noncomputable def m30 (a0:DS5) (a1:DS2):Option (Bool × Unit) :=
 (m41 (a0.1,())).bind fun y317 =>
 cond (cond (iNe y317.1 0) true (iLt 1000 (lenI a1.1)))
 (some (false,()))
 ((m56 (a1.1,a1.2.1,()) a1.2.1).bind fun y318 =>
 cond (not y318.1)
 (some (false,()))
 (loopO (S:=Int × (List DS0) × (List DS1) × Int × Unit) (R:=Bool × Unit) (fun s319 =>
 cond (iLt s319.1 (lenI s319.2.2.1))
 (cond (bnd s319.1 (lenI s319.2.2.1))
 ((m57 (s319.2.1,()) (s319.2.2.1,s319.2.2.2.1,()) ((atI s319.2.2.1 s319.1 (0,[],[],())).1,(atI s319.2.2.1 s319.1 (0,[],[],())).2.1,(atI s319.2.2.1 s319.1 (0,[],[],())).2.2.1,())).bind fun y320 =>
 cond (not y320.1)
 (some (.inr (false,())))
 (loopO (S:=Int × Int × (List DS0) × (List DS1) × Int × Int × (List Int) × (List Int) × Unit) (R:=(Int × (List DS0) × (List DS1) × Int × Unit) ⊕ (Bool × Unit)) (fun s321 =>
 cond (iLt s321.2.1 s321.1)
 (cond (bnd s321.2.1 (lenI s321.2.2.2.1))
 (cond (iEq ((atI s321.2.2.2.1 s321.2.1 (0,[],[],())).1) s321.2.2.2.2.2.1)
 ((m23 ((atI s321.2.2.2.1 s321.2.1 (0,[],[],())).2.1) s321.2.2.2.2.2.2.1).bind fun y322 =>
 cond y322.1
 ((m23 ((atI s321.2.2.2.1 s321.2.1 (0,[],[],())).2.2.1) s321.2.2.2.2.2.2.2.1).bind fun y323 =>
 cond y323.1
 (some (.inr (.inr (false,()))))
 (some (.inl (s321.1,iAdd .i64 s321.2.1 1,s321.2.2.1,s321.2.2.2.1,s321.2.2.2.2.1,s321.2.2.2.2.2.1,s321.2.2.2.2.2.2.1,s321.2.2.2.2.2.2.2.1,()))))
 (some (.inl (s321.1,iAdd .i64 s321.2.1 1,s321.2.2.1,s321.2.2.2.1,s321.2.2.2.2.1,s321.2.2.2.2.2.1,s321.2.2.2.2.2.2.1,s321.2.2.2.2.2.2.2.1,()))))
 (some (.inl (s321.1,iAdd .i64 s321.2.1 1,s321.2.2.1,s321.2.2.2.1,s321.2.2.2.2.1,s321.2.2.2.2.2.1,s321.2.2.2.2.2.2.1,s321.2.2.2.2.2.2.2.1,())))) none)
 (some (.inr (.inl (iAdd .i64 s321.1 1,s321.2.2.1,s321.2.2.2.1,s321.2.2.2.2.1,())))))
 (s319.1,0,s319.2.1,s319.2.2.1,s319.2.2.2.1,(atI s319.2.2.1 s319.1 (0,[],[],())).1,(atI s319.2.2.1 s319.1 (0,[],[],())).2.1,(atI s319.2.2.1 s319.1 (0,[],[],())).2.2.1,()))) none)
 (Option.map Sum.inr (cond (fitsI (lenI s319.2.2.1) 8)
 (loopO (S:=Int × (List DS1) × Int × (List DS1) × (List Int) × Unit) (R:=Bool × Unit) (fun s324 =>
 cond (iLt s324.1 (lenI s324.2.2.2.2.1))
 (cond (bnd s324.1 (lenI s324.2.2.2.2.1))
 (cond (inB (Int.toNat s324.1) s324.2.2.2.2.1)
 (some (.inl (iAdd .i64 s324.1 1,s324.2.1,s324.2.2.1,s324.2.2.2.1,List.set s324.2.2.2.2.1 (Int.toNat s324.1) (-1),()))) none) none)
 (Option.map Sum.inr ((m58_3 s324.2.2.1 s324.2.2.2.1 s324.2.2.2.2.1).bind fun y325 =>
 cond (and (Nat.beq (List.length s324.2.2.2.2.1) (List.length y325.2.1)) true)
 (loopO (S:=Int × (List Int) × Unit) (R:=Bool × Unit) (fun s326 =>
 cond (iLt s326.1 (lenI s326.2.1))
 (cond (bnd s326.1 (lenI s326.2.1))
 (cond (inB (Int.toNat s326.1) s326.2.1)
 (cond (iNe (List.getD s326.2.1 (Int.toNat s326.1) 0) s326.1)
 (some (.inr (false,())))
 (some (.inl (iAdd .i64 s326.1 1,s326.2.1,())))) none) none)
 (some (.inr (true,()))))
 (0,y325.2.1,())) none)))
 (0,s319.2.2.1,s319.2.2.2.1,s319.2.2.1,(List.replicate (Int.toNat (lenI s319.2.2.1)) 0:List Int),())) none)))
 (0,a0.1,a1.1,a1.2.1,())))
noncomputable def cfg30:Cfg:=⟨ttab,gtab,[i23,i41,i56,i57],[h58_3]⟩
theorem eqn30 (x:DS5 × DS2 × Unit):xfun cfg30 x30 109 [.t 4] [tS5,tS2] [.bool] x=m30 x.1 x.2.1:=by kernel_rfl
noncomputable def i30:PI:=⟨30,[tS5,tS2],[.bool],fun (x:DS5 × DS2 × Unit)=>m30 x.1 x.2.1⟩
theorem oki30:POk Tryd.prog (gx gtab) i30:=pok mixed (cfg_p oki23 (cfg_p oki41 (cfg_p oki56 (cfg_p oki57 (cfg_h okh58_3 (cfg_nil _ _))))):CfgOk _ (cfg30)) F30 (eqn30)
def r6_0:List Ins:=[qI 9 (.box 28 2 4), qI 10 (.mov (.k (.bool false)))]
def r6_1:List Ins:=[qI 17 (.faddr 0 9), qI 18 (.load 1 false 17), qI 19 (.len 18), qI 20 (.bin .gtr 19 (kI 60))]
def r6_2:List Ins:=[qI 21 (.call (.fn 11) []), qI 10 (.mov 21)]
def r6_3:List Ins:=[qI 22 (.mov 0), qI 23 (.call (.fn 15) [22]), qI 11 (.alloc 24 (.agg #[.slice none 0 0])), qN (.store 1 11 23)]
def r6_4:List (Nat × Ins):=[(1,qI 24 (.load 1 true 11)),
(0,qI 25 (.mov 1)),
(2,qI 26 (.call (.fn 19) [25])),
(2,qI 27 (.call (.fn 18) [24,26,(kI 3)])),
(0,qI 28 (.mov 2)),
(2,qI 29 (.call (.fn 19) [28])),
(2,qI 30 (.call (.fn 29) [27,29])),
(2,qI 12 (.alloc 28 (.agg #[.slice none 0 0,.int .i64 0]))),
(0,qN (.store 2 12 30))]
def r6_5:List Ins:=[qI 31 (.load 1 true 11), qI 32 (.load 2 true 12), qI 33 (.call (.fn 30) [31,32]), qI 34 (.un .not 33)]
def r6_6:List Ins:=[qI 36 (.load 1 true 11), qI 37 (.load 2 true 12), qI 38 (.mov 3), qI 39 (.call (.fn 21) [36,37,38]), qI 35 (.mov 39), qI 40 (.ext 0 35), qI 41 (.ext 1 35), qI 13 (.mov 40), qI 14 (.mov 41)]
def r6_7:List Ins:=[qI 42 (.mov 14), qI 43 (.mov 42), qF 44 43 (.mov 13), qF 45 43 (.len 44), qF 46 43 (.bin .gtr 45 (kI 0)), qI 47 (.pick 43 (.k (.bool true)) 46), qI 48 (.mov 47), qF 49 48 (.load 1 true 11), qF 50 48 (.load 2 true 12), qF 51 48 (.mov 3), qF 52 48 (.call (.fn 26) [49,50,51]), qF 53 48 (.bin .neq 52 (kI 0)), qI 54 (.pick 48 (.k (.bool true)) 53)]
def r6_8:List Ins:=[qI 10 (.mov (.k (.bool false)))]
def r6_9:List Ins:=[qI 56 (.load 1 true 11), qI 57 (.load 2 true 9), qI 58 (.mov 3), qI 59 (.call (.fn 21) [56,57,58]), qI 55 (.mov 59), qI 60 (.ext 0 55), qI 61 (.ext 1 55), qI 15 (.mov 60), qI 16 (.mov 61)]
def r6_10:List Ins:=[qI 62 (.load 1 true 11), qI 63 (.load 2 true 9), qI 64 (.call (.fn 30) [62,63]), qI 65 (.mov 64), qF 66 65 (.mov 16), qF 67 65 (.un .not 66), qF 68 65 (.mov 67), qT 69 68 (.mov 15), qT 70 68 (.len 69), qT 71 68 (.bin .eql 70 (kI 0)), qF 72 65 (.pick 68 71 (.k (.bool false))), qF 73 65 (.mov 72), qT 74 73 (.load 1 true 11), qT 75 73 (.load 2 true 9), qT 76 73 (.mov 3), qT 77 73 (.call (.fn 26) [74,75,76]), qT 78 73 (.bin .eql 77 (kI 0)), qF 79 65 (.pick 73 78 (.k (.bool false))), qI 80 (.pick 65 (.k (.bool true)) 79), qI 81 (.mov 80), qT 82 81 (.call (.fn 11) []), qI 83 (.pick 81 82 (.k (.bool false))), qI 10 (.mov 83)]
def x6:XC:=(.seq (.ops false r6_0) (.seq (.seq (.ops false r6_1) (.cond (.t 20) (.seq (.ops false r6_2) .ret) .skip)) (.seq (.ops false r6_3) (.seq (.rops [] r6_4) (.seqj [] ⟨84,[(3,(.int .i64))],[(9,.ptr 0 0 0),(11,.ptr 1 0 0)],[.box 28 [.d (.list tS1),.d (.int .i64)],.box 24 [.d (.list tS0)]]⟩ (.seq (.ops false r6_5) (.cond (.t 34) (.seq (.ops false r6_6) (.seq (.ops false r6_7) (.cond (.t 54) (.seq (.ops false r6_8) .ret) .skip))) .skip)) (.seq (.ops false r6_9) (.seq (.ops false r6_10) .ret)))))))
theorem F6:Fn Tryd.prog 6 84 x6.er [.t 10]:=⟨Tryd.f6,hcl,Tryd.func6,by kernel_rfl,by kernel_rfl,by kernel_rfl,by kernel_rfl⟩
noncomputable def m6 (a0:Int) (a1:List Int) (a2:List Int) (a3:Int) (a4:DS2):Option (Bool × Unit) :=
 cond (iLt 60 (lenI a4.1))
 ((m11).bind fun y336 =>
 some (y336.1,()))
 ((m15 a0).bind fun y337 =>
 (m19 a1).bind fun y338 =>
 (m18 (y337.1.1,()) 3 y338.1 y338.2.1).bind fun y339 =>
 (m19 a2).bind fun y340 =>
 (m29 (y339.1,y339.2.1,()) y340.1 y340.2.1).bind fun y341 =>
 joinO (S:=Int × (List DS1) × Int × (List DS0) × Unit) (R:=Bool × Unit)
 ((m30 (y337.1.1,()) (y341.1.1,y341.1.2.1,())).bind fun y342 =>
 cond (not y342.1)
 ((m21 (y337.1.1,()) (y341.1.1,y341.1.2.1,()) a3).bind fun y343 =>
 cond (cond y343.2.1 true (iLt 0 (lenI y343.1)))
 (some (.inr (false,())))
 ((m26 (y337.1.1,()) (y341.1.1,y341.1.2.1,()) a3).bind fun y344 =>
 cond (iNe y344.1 0)
 (some (.inr (false,())))
 (some (.inl (a3,a4.1,a4.2.1,y337.1.1,())))))
 (some (.inl (a3,a4.1,a4.2.1,y337.1.1,()))))
 (fun j345 =>
 (m21 (j345.2.2.2.1,()) (j345.2.1,j345.2.2.1,()) j345.1).bind fun y346 =>
 (m30 (j345.2.2.2.1,()) (j345.2.1,j345.2.2.1,())).bind fun y347 =>
 cond y347.1
 ((m11).bind fun y348 =>
 some (y348.1,()))
 (cond (cond (not y346.2.1) (iEq (lenI y346.1) 0) false)
 ((m26 (j345.2.2.2.1,()) (j345.2.1,j345.2.2.1,()) j345.1).bind fun y349 =>
 cond (iEq y349.1 0)
 ((m11).bind fun y350 =>
 some (y350.1,()))
 (some (false,())))
 (some (false,())))))
noncomputable def cfg6:Cfg:=⟨ttab,gtab,[i11,i15,i21,i26,i30],[h18,h19,h29]⟩
theorem eqn6 (x:Int × (List Int) × (List Int) × Int × DS2 × Unit):xfun cfg6 x6 84 [.t 10] [(.int .i64),(.list (.int .i64)),(.list (.int .i64)),(.int .i64),tS2] [.bool] x=m6 x.1 x.2.1 x.2.2.1 x.2.2.2.1 x.2.2.2.2.1:=by kernel_rfl
noncomputable def i6:PI:=⟨6,[(.int .i64),(.list (.int .i64)),(.list (.int .i64)),(.int .i64),tS2],[.bool],fun (x:Int × (List Int) × (List Int) × Int × DS2 × Unit)=>m6 x.1 x.2.1 x.2.2.1 x.2.2.2.1 x.2.2.2.2.1⟩
theorem oki6:POk Tryd.prog (gx gtab) i6:=pok mixed (cfg_p oki11 (cfg_p oki15 (cfg_p oki21 (cfg_p oki26 (cfg_p oki30 (cfg_h okh18 (cfg_h okh19 (cfg_h okh29 (cfg_nil _ _)))))))):CfgOk _ (cfg6)) F6 (eqn6)
end Abs
end Go.Proofs.YtgfnhpadmifiiaaDoor
