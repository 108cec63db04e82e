/- Merged and trimmed by a program: Models. -/
import Derived.Test.YtnhgeocdffhkjaaGreatDoorZGH
set_option linter.unusedVariables false
set_option linter.unusedSimpArgs false
set_option linter.defProp false
namespace Go.Proofs.YtnhgeocdffhkjaaGreatDoor
namespace Abs
noncomputable section
set_option maxRecDepth 100000
def m22(a0:DS6)(a1:Int)(a2:Bool)(a3:List Int)(a4:Int):Option ((List Int)×Int×(List DS1)×(List DS3)×Unit) :=
 (m48 (a0.1,()) a1 (bs [99,45]) a3 a4).bind λSS =>
 (m24 3 SS.1 SS.2.1).bind λSQ =>
 bH (S:=Bool×Int×(List Int)×Int×(List DS5)×(List DS1)×(List DS3)×Unit) (R:=(List Int)×Int×(List DS1)×(List DS3)×Unit) (λmI =>
 cond (iLt 0 mI.2.1)
 ((m49 mI.2.2.1 mI.2.2.2.1).bind λAi =>
 cond (iLe (jC Ai.2.1 876599) Ai.1)
 (some (.inl (mI.1,dz .i64 mI.2.1 1,Ai.2.2.1,Ai.2.2.2.1,mI.2.2.2.2.1,mI.2.2.2.2.2.1,mI.2.2.2.2.2.2.1,())))
 (cond (iK (bs [101]) (bsI ([IntKind.wrap .u8 (aN .i64 48 mI.2.1)]:List Int)))
 (cond (iK (dx (bs [101]) (bsI ([IntKind.wrap .u8 (aN .i64 48 mI.2.1)]:List Int))) (bs [45]))
 ((m48 (mI.2.2.2.2.1,()) 2 (dx (dx (bs [101]) (bsI ([IntKind.wrap .u8 (aN .i64 48 mI.2.1)]:List Int))) (bs [45])) Ai.2.2.1 Ai.2.2.2.1).bind λSN =>
 bH (S:=Bool×Int×Int×(List Int)×Int×(List DS5)×Int×Int×(List DS1)×(List DS3)×(List ByteArray)×(List DS1)×Unit) (R:=(Bool×Int×(List Int)×Int×(List DS5)×(List DS1)×(List DS3)×Unit)⊕((List Int)×Int×(List DS1)×(List DS3)×Unit)) (λdX =>
 cond (iLt dX.2.2.1 (aD dX.2.2.2.2.2.2.2.2.1))
 ((m24 4 dX.2.2.2.1 dX.2.2.2.2.1).bind λHg =>
 cond (iEq Hg.1 1)
 (cond (bnd dX.2.2.1 (aD dX.2.2.2.2.2.2.2.2.1))
 (cond (inB (Int.toNat dX.2.2.1) dX.2.2.2.2.2.2.2.2.1)
 (cond (fits (List.length dX.2.2.2.2.2.2.2.2.2.2.1+List.length ([(List.getD dX.2.2.2.2.2.2.2.2.1 (Int.toNat dX.2.2.1) zS1).2.1]:List ByteArray)) 16)
 (some (.inl (dX.1,dX.2.1,aN .i64 dX.2.2.1 1,Hg.2.1,Hg.2.2.1,dX.2.2.2.2.2.1,dX.2.2.2.2.2.2.1,dX.2.2.2.2.2.2.2.1,dX.2.2.2.2.2.2.2.2.1,dX.2.2.2.2.2.2.2.2.2.1,dX.2.2.2.2.2.2.2.2.2.2.1++([(List.getD dX.2.2.2.2.2.2.2.2.1 (Int.toNat dX.2.2.1) zS1).2.1]:List ByteArray),dX.2.2.2.2.2.2.2.2.2.2.2.1,()))) none) none) none)
 (some (.inl (dX.1,dX.2.1,aN .i64 dX.2.2.1 1,Hg.2.1,Hg.2.2.1,dX.2.2.2.2.2.1,dX.2.2.2.2.2.2.1,dX.2.2.2.2.2.2.2.1,dX.2.2.2.2.2.2.2.2.1,dX.2.2.2.2.2.2.2.2.2.1,dX.2.2.2.2.2.2.2.2.2.2.1,dX.2.2.2.2.2.2.2.2.2.2.2.1,()))))
 (Option.map Sum.inr ((m24 6 dX.2.2.2.1 dX.2.2.2.2.1).bind λHf =>
 cond (iEq Hf.1 5)
 (cond (bnd 0 (aD dX.2.2.2.2.2.2.2.2.1))
 (cond (inB (Int.toNat 0) dX.2.2.2.2.2.2.2.2.1)
 (cond (fits (List.length ([]:List DS1)+List.length ([List.getD dX.2.2.2.2.2.2.2.2.1 (Int.toNat 0) zS1]:List DS1)) 144)
 (jZ (S:=Bool×Int×(List Int)×Int×(List DS5)×Int×Int×(List ByteArray)×(List DS1)×(List DS1)×(List DS3)×Unit) (R:=(Bool×Int×(List Int)×Int×(List DS5)×(List DS1)×(List DS3)×Unit)⊕((List Int)×Int×(List DS1)×(List DS3)×Unit))
 (some (.inl (dX.1,dX.2.1,Hf.2.1,Hf.2.2.1,dX.2.2.2.2.2.1,dX.2.2.2.2.2.2.1,dX.2.2.2.2.2.2.2.1,dX.2.2.2.2.2.2.2.2.2.2.1,([]:List DS1)++([List.getD dX.2.2.2.2.2.2.2.2.1 (Int.toNat 0) zS1]:List DS1),dX.2.2.2.2.2.2.2.2.1,dX.2.2.2.2.2.2.2.2.2.1,())))
 (λjd =>
 cond (fits (List.length ([]:List DS3)+List.length jd.2.2.2.2.2.2.2.2.2.2.1) 64)
 (cond (fits (List.length (([]:List DS3)++jd.2.2.2.2.2.2.2.2.2.2.1)+List.length ([((jd.2.2.2.2.2.1,jd.2.2.2.2.2.2.1,()),jd.2.2.2.2.2.2.2.1,jd.2.2.2.2.2.2.2.2.1,())]:List DS3)) 64)
 ((m50 (jd.2.2.2.2.1,()) (jd.2.2.2.2.2.2.2.2.2.1,(([]:List DS3)++jd.2.2.2.2.2.2.2.2.2.2.1)++([((jd.2.2.2.2.2.1,jd.2.2.2.2.2.2.1,()),jd.2.2.2.2.2.2.2.1,jd.2.2.2.2.2.2.2.2.1,())]:List DS3),())).bind λb2j =>
 cond (cond (iEq b2j.2.2.1 0) true (not jd.1))
 (some (.inl (jd.1,dz .i64 jd.2.1 1,jd.2.2.1,jd.2.2.2.1,jd.2.2.2.2.1,jd.2.2.2.2.2.2.2.2.2.1,(([]:List DS3)++jd.2.2.2.2.2.2.2.2.2.2.1)++([((jd.2.2.2.2.2.1,jd.2.2.2.2.2.2.1,()),jd.2.2.2.2.2.2.2.1,jd.2.2.2.2.2.2.2.2.1,())]:List DS3),())))
 (some (.inl (jd.1,dz .i64 jd.2.1 1,jd.2.2.1,jd.2.2.2.1,jd.2.2.2.2.1,jd.2.2.2.2.2.2.2.2.2.1,jd.2.2.2.2.2.2.2.2.2.2.1,())))) none) none)) none) none) none)
 (jZ (S:=Bool×Int×(List Int)×Int×(List DS5)×Int×Int×(List ByteArray)×(List DS1)×(List DS1)×(List DS3)×Unit) (R:=(Bool×Int×(List Int)×Int×(List DS5)×(List DS1)×(List DS3)×Unit)⊕((List Int)×Int×(List DS1)×(List DS3)×Unit))
 (some (.inl (dX.1,dX.2.1,Hf.2.1,Hf.2.2.1,dX.2.2.2.2.2.1,dX.2.2.2.2.2.2.1,dX.2.2.2.2.2.2.2.1,dX.2.2.2.2.2.2.2.2.2.2.1,dX.2.2.2.2.2.2.2.2.2.2.2.1,dX.2.2.2.2.2.2.2.2.1,dX.2.2.2.2.2.2.2.2.2.1,())))
 (λjc =>
 cond (fits (List.length ([]:List DS3)+List.length jc.2.2.2.2.2.2.2.2.2.2.1) 64)
 (cond (fits (List.length (([]:List DS3)++jc.2.2.2.2.2.2.2.2.2.2.1)+List.length ([((jc.2.2.2.2.2.1,jc.2.2.2.2.2.2.1,()),jc.2.2.2.2.2.2.2.1,jc.2.2.2.2.2.2.2.2.1,())]:List DS3)) 64)
 ((m50 (jc.2.2.2.2.1,()) (jc.2.2.2.2.2.2.2.2.2.1,(([]:List DS3)++jc.2.2.2.2.2.2.2.2.2.2.1)++([((jc.2.2.2.2.2.1,jc.2.2.2.2.2.2.1,()),jc.2.2.2.2.2.2.2.1,jc.2.2.2.2.2.2.2.2.1,())]:List DS3),())).bind λb2i =>
 cond (cond (iEq b2i.2.2.1 0) true (not jc.1))
 (some (.inl (jc.1,dz .i64 jc.2.1 1,jc.2.2.1,jc.2.2.2.1,jc.2.2.2.2.1,jc.2.2.2.2.2.2.2.2.2.1,(([]:List DS3)++jc.2.2.2.2.2.2.2.2.2.2.1)++([((jc.2.2.2.2.2.1,jc.2.2.2.2.2.2.1,()),jc.2.2.2.2.2.2.2.1,jc.2.2.2.2.2.2.2.2.1,())]:List DS3),())))
 (some (.inl (jc.1,dz .i64 jc.2.1 1,jc.2.2.1,jc.2.2.2.1,jc.2.2.2.2.1,jc.2.2.2.2.2.2.2.2.2.1,jc.2.2.2.2.2.2.2.2.2.2.1,())))) none) none)))))
 (mI.1,mI.2.1,0,SN.1,SN.2.1,mI.2.2.2.2.1,Ai.1,jC Ai.2.1 876599,mI.2.2.2.2.2.1,mI.2.2.2.2.2.2.1,([]:List ByteArray),SN.2.2.1,())) none) none))
 (some (.inr (mI.2.2.1,mI.2.2.2.1,mI.2.2.2.2.2.1,mI.2.2.2.2.2.2.1,()))))
 (a2,SQ.1,SQ.2.1,SQ.2.2.1,a0.1,SS.2.2.1,([]:List DS3),())
def b4m:Sh:=⟨4,[(1,tS6),(2,(.int .i64)),(3,.bool)],[(0,.ptr 0 0 0)],[.box 65 [.d (.list (.int .i64)),.d (.int .i64)]]⟩
def b25:Sh:=⟨1,[],[(0,.agg [.row 1,.row 2])],[.box 65 [.d (.list (.int .i64)),.d (.int .i64)],.row 37 tS1 false,.row 55 tS3 false]⟩
def h22:HI:=⟨22,b4m,b25,fun(x:DS6×Int×Bool×(List Int)×Int×Unit)=>m22 x.1 x.2.1 x.2.2.1 x.2.2.2.1 x.2.2.2.2.1,[]⟩
theorem b3N:HK h22:=hk (.d 2 (.s (.d 1 (.b (.l [.ghc 9 1 55 tS3] ⟨108,[(3,.bool),(10,(.int .i64))],[(0,.ptr 0 0 0),(5,.ptr 1 0 0),(8,.ptr 2 0 0),(9,.ptr 3 0 0)],[.box 65 [.d (.list (.int .i64)),.d (.int .i64)],.box 59 [.d (.list tS5)],.box 29 [.nil,.nil],.box 29 [.row 4,.row 5],.row 37 tS1 false,.row 55 tS3 false]⟩ (.d 1 (.s (.b (.d 3 (.s (.u [0]) (.s (.d 1 (.b (.l [.ghc 12 2 9 .str,.ghc 9 1 55 tS3] ⟨108,[(3,.bool),(10,(.int .i64)),(13,(.int .i64))],[(0,.ptr 0 0 0),(5,.ptr 1 0 0),(8,.ptr 2 0 0),(9,.ptr 3 0 0),(12,.ptr 4 0 0)],[.box 65 [.d (.list (.int .i64)),.d (.int .i64)],.box 59 [.d (.list tS5)],.box 29 [.nil,.nil],.box 29 [.row 5,.row 6],.box 55 [.d (.int .i64),.d (.int .i64),.row 7,.row 8],.row 37 tS1 false,.row 55 tS3 false,.row 9 .str false,.row 37 tS1 false]⟩ .o))) (.d 1 (.j [.fzc 12 2 (.list .str),.fzc 12 3 (.list tS1),.ghc 12 2 9 .str,.ghc 14 1 55 tS3,.ghc 9 1 55 tS3] ⟨108,[(3,.bool),(10,(.int .i64))],[(0,.ptr 0 0 0),(5,.ptr 1 0 0),(8,.ptr 2 0 0),(9,.ptr 3 0 0),(12,.ptr 4 0 0),(14,.ptr 5 0 0)],[.box 65 [.d (.list (.int .i64)),.d (.int .i64)],.box 59 [.d (.list tS5)],.box 29 [.nil,.nil],.box 29 [.row 6,.row 7],.box 55 [.d (.int .i64),.d (.int .i64),.d (.list .str),.d (.list tS1)],.box 29 [.row 6,.row 7],.row 37 tS1 false,.row 55 tS3 false]⟩ .o .o)))))) .o))))) .o)) [.ghc 8 1 55 tS3] Tryz.func22 (cP b3o (cH tJ (cH b3K (cH b3J c0)))) (by kernel_rfl) λx=>by kernel_rfl
def m10(a0:List Int):Option (DS4×Unit) :=
 (m14 a0).bind λa7e =>
 (m24 6 a7e.1 a7e.2.1).bind λZH =>
 (m23 ZH.1).bind λb5A =>
 (m22 b5A.1 6 false ZH.2.1 ZH.2.2.1).bind λa2Z =>
 some ((a2Z.2.2.1,a2Z.2.2.2.1,()),())
def i10:PI:=⟨10,[(.list (.int .i64))],[tS4],fun(x:(List Int)×Unit)=>m10 x.1⟩
theorem b3A:PK i10:=pk .o Tryz.func10 (cP b3u (cH a3E (cH b3N (cH tJ c0)))) (by kernel_rfl) λx=>by kernel_rfl
def m13(a0:DS4)(a1:DS1)(a2:List Int)(a3:Int):Option (DS4×(List Int)×Int×Unit) :=
 cond (fits (List.length ([]:List DS1)+List.length a0.1) 144)
 ((m24 (aD (([]:List DS1)++a0.1)) a2 a3).bind λbR =>
 cond (bnd bR.1 (aD (([]:List DS1)++a0.1)))
 (cond (inB (Int.toNat bR.1) (([]:List DS1)++a0.1))
 ((m24 8 bR.2.1 bR.2.2.1).bind λl6 =>
 cond (iEq l6.1 0)
 (cond (bnd bR.1 (aD (([]:List DS1)++a0.1)))
 (cond (inB (Int.toNat bR.1) (([]:List DS1)++a0.1))
 (some ((List.set (([]:List DS1)++a0.1) (Int.toNat bR.1) (a1.1,a1.2.1,(a1.2.2.1.1,a1.2.2.1.2.1,a1.2.2.1.2.2.1,a1.2.2.1.2.2.2.1,a1.2.2.1.2.2.2.2.1,a1.2.2.1.2.2.2.2.2.1,()),a1.2.2.2.1,a1.2.2.2.2.1,()),a0.2.1,()),l6.2.1,l6.2.2.1,())) none) none)
 (cond (iEq l6.1 1)
 ((m24 12 l6.2.1 l6.2.2.1).bind λSL =>
 cond (bnd bR.1 (aD (([]:List DS1)++a0.1)))
 (cond (inB (Int.toNat bR.1) (([]:List DS1)++a0.1))
 (some ((List.set (([]:List DS1)++a0.1) (Int.toNat bR.1) (SL.1,(List.getD (([]:List DS1)++a0.1) (Int.toNat bR.1) zS1).2.1,(((List.getD (([]:List DS1)++a0.1) (Int.toNat bR.1) zS1).2.2.1).1,((List.getD (([]:List DS1)++a0.1) (Int.toNat bR.1) zS1).2.2.1).2.1,((List.getD (([]:List DS1)++a0.1) (Int.toNat bR.1) zS1).2.2.1).2.2.1,((List.getD (([]:List DS1)++a0.1) (Int.toNat bR.1) zS1).2.2.1).2.2.2.1,((List.getD (([]:List DS1)++a0.1) (Int.toNat bR.1) zS1).2.2.1).2.2.2.2.1,((List.getD (([]:List DS1)++a0.1) (Int.toNat bR.1) zS1).2.2.1).2.2.2.2.2.1,()),(List.getD (([]:List DS1)++a0.1) (Int.toNat bR.1) zS1).2.2.2.1,(List.getD (([]:List DS1)++a0.1) (Int.toNat bR.1) zS1).2.2.2.2.1,()),a0.2.1,()),SL.2.1,SL.2.2.1,())) none) none)
 (cond (iEq l6.1 2)
 ((m24 4 l6.2.1 l6.2.2.1).bind λHe =>
 cond (bnd He.1 (aD ([(bs []),(bs [101,110,100]),(bs [81]),(bs [102,105,110,101])]:List ByteArray)))
 (cond (inB (Int.toNat He.1) ([(bs []),(bs [101,110,100]),(bs [81]),(bs [102,105,110,101])]:List ByteArray))
 (cond (bnd bR.1 (aD (([]:List DS1)++a0.1)))
 (cond (inB (Int.toNat bR.1) (([]:List DS1)++a0.1))
 (some ((List.set (([]:List DS1)++a0.1) (Int.toNat bR.1) ((List.getD (([]:List DS1)++a0.1) (Int.toNat bR.1) zS1).1,List.getD ([(bs []),(bs [101,110,100]),(bs [81]),(bs [102,105,110,101])]:List ByteArray) (Int.toNat He.1) ByteArray.empty,(((List.getD (([]:List DS1)++a0.1) (Int.toNat bR.1) zS1).2.2.1).1,((List.getD (([]:List DS1)++a0.1) (Int.toNat bR.1) zS1).2.2.1).2.1,((List.getD (([]:List DS1)++a0.1) (Int.toNat bR.1) zS1).2.2.1).2.2.1,((List.getD (([]:List DS1)++a0.1) (Int.toNat bR.1) zS1).2.2.1).2.2.2.1,((List.getD (([]:List DS1)++a0.1) (Int.toNat bR.1) zS1).2.2.1).2.2.2.2.1,((List.getD (([]:List DS1)++a0.1) (Int.toNat bR.1) zS1).2.2.1).2.2.2.2.2.1,()),(List.getD (([]:List DS1)++a0.1) (Int.toNat bR.1) zS1).2.2.2.1,(List.getD (([]:List DS1)++a0.1) (Int.toNat bR.1) zS1).2.2.2.2.1,()),a0.2.1,()),He.2.1,He.2.2.1,())) none) none) none) none)
 (cond (iEq l6.1 3)
 ((m24 7 l6.2.1 l6.2.2.1).bind λH9 =>
 cond (bnd H9.1 (aD ([0,1,(-1),1000000,1000001,1073741824,1073741825]:List Int)))
 (cond (inB (Int.toNat H9.1) ([0,1,(-1),1000000,1000001,1073741824,1073741825]:List Int))
 (cond (bnd bR.1 (aD (([]:List DS1)++a0.1)))
 (cond (inB (Int.toNat bR.1) (([]:List DS1)++a0.1))
 (some ((List.set (([]:List DS1)++a0.1) (Int.toNat bR.1) ((List.getD (([]:List DS1)++a0.1) (Int.toNat bR.1) zS1).1,(List.getD (([]:List DS1)++a0.1) (Int.toNat bR.1) zS1).2.1,(((List.getD (([]:List DS1)++a0.1) (Int.toNat bR.1) zS1).2.2.1).1,((List.getD (([]:List DS1)++a0.1) (Int.toNat bR.1) zS1).2.2.1).2.1,((List.getD (([]:List DS1)++a0.1) (Int.toNat bR.1) zS1).2.2.1).2.2.1,((List.getD (([]:List DS1)++a0.1) (Int.toNat bR.1) zS1).2.2.1).2.2.2.1,((List.getD (([]:List DS1)++a0.1) (Int.toNat bR.1) zS1).2.2.1).2.2.2.2.1,((List.getD (([]:List DS1)++a0.1) (Int.toNat bR.1) zS1).2.2.1).2.2.2.2.2.1,()),(List.getD (([]:List DS1)++a0.1) (Int.toNat bR.1) zS1).2.2.2.1,List.getD ([0,1,(-1),1000000,1000001,1073741824,1073741825]:List Int) (Int.toNat H9.1) 0,()),a0.2.1,()),H9.2.1,H9.2.2.1,())) none) none) none) none)
 (cond (iEq l6.1 4)
 (cond (and (a3F ((List.getD (([]:List DS1)++a0.1) (Int.toNat bR.1) zS1).2.2.2.1)) (fits (List.length ([]:List DS7)+List.length (yw ((List.getD (([]:List DS1)++a0.1) (Int.toNat bR.1) zS1).2.2.2.1))) 128))
 ((m24 3 l6.2.1 l6.2.2.1).bind λM7 =>
 cond (fits (List.length (([]:List DS7)++(yw ((List.getD (([]:List DS1)++a0.1) (Int.toNat bR.1) zS1).2.2.2.1)))+List.length ([((bs [119]),(M7.1,(bs []),([]:List ByteArray),0,0,([]:List AV),()),([]:List AV),())]:List DS7)) 128)
 (cond (bnd bR.1 (aD (([]:List DS1)++a0.1)))
 (cond (inB (Int.toNat bR.1) (([]:List DS1)++a0.1))
 (some ((List.set (([]:List DS1)++a0.1) (Int.toNat bR.1) ((List.getD (([]:List DS1)++a0.1) (Int.toNat bR.1) zS1).1,(List.getD (([]:List DS1)++a0.1) (Int.toNat bR.1) zS1).2.1,(((List.getD (([]:List DS1)++a0.1) (Int.toNat bR.1) zS1).2.2.1).1,((List.getD (([]:List DS1)++a0.1) (Int.toNat bR.1) zS1).2.2.1).2.1,((List.getD (([]:List DS1)++a0.1) (Int.toNat bR.1) zS1).2.2.1).2.2.1,((List.getD (([]:List DS1)++a0.1) (Int.toNat bR.1) zS1).2.2.1).2.2.2.1,((List.getD (([]:List DS1)++a0.1) (Int.toNat bR.1) zS1).2.2.1).2.2.2.2.1,((List.getD (([]:List DS1)++a0.1) (Int.toNat bR.1) zS1).2.2.1).2.2.2.2.2.1,()),Fj ((([]:List DS7)++(yw ((List.getD (([]:List DS1)++a0.1) (Int.toNat bR.1) zS1).2.2.2.1)))++([((bs [119]),(M7.1,(bs []),([]:List ByteArray),0,0,([]:List AV),()),([]:List AV),())]:List DS7)),(List.getD (([]:List DS1)++a0.1) (Int.toNat bR.1) zS1).2.2.2.2.1,()),a0.2.1,()),M7.2.1,M7.2.2.1,())) none) none) none) none)
 (cond (iEq l6.1 5)
 (cond (bnd bR.1 (aD (([]:List DS1)++a0.1)))
 (cond (inB (Int.toNat bR.1) (([]:List DS1)++a0.1))
 (some ((List.set (([]:List DS1)++a0.1) (Int.toNat bR.1) ((List.getD (([]:List DS1)++a0.1) (Int.toNat bR.1) zS1).1,(List.getD (([]:List DS1)++a0.1) (Int.toNat bR.1) zS1).2.1,(6,(bs []),([]:List ByteArray),0,0,wD ([(((List.getD (([]:List DS1)++a0.1) (Int.toNat bR.1) zS1).2.2.1).1,((List.getD (([]:List DS1)++a0.1) (Int.toNat bR.1) zS1).2.2.1).2.1,((List.getD (([]:List DS1)++a0.1) (Int.toNat bR.1) zS1).2.2.1).2.2.1,((List.getD (([]:List DS1)++a0.1) (Int.toNat bR.1) zS1).2.2.1).2.2.2.1,((List.getD (([]:List DS1)++a0.1) (Int.toNat bR.1) zS1).2.2.1).2.2.2.2.1,((List.getD (([]:List DS1)++a0.1) (Int.toNat bR.1) zS1).2.2.1).2.2.2.2.2.1,())]:List DS0),()),(List.getD (([]:List DS1)++a0.1) (Int.toNat bR.1) zS1).2.2.2.1,(List.getD (([]:List DS1)++a0.1) (Int.toNat bR.1) zS1).2.2.2.2.1,()),a0.2.1,()),l6.2.1,l6.2.2.1,())) none) none)
 (jZ (S:=Int×Bool×(List Int)×Int×(List DS1)×(List DS3)×(List DS1)×Int×ByteArray×Int×ByteArray×(List ByteArray)×Int×Int×(List AV)×(List AV)×Int×Unit) (R:=DS4×(List Int)×Int×Unit)
 (cond (iEq l6.1 6)
 (some (.inl (bR.1,true,l6.2.1,l6.2.2.1,a0.1,a0.2.1,([]:List DS1)++a0.1,(List.getD (([]:List DS1)++a0.1) (Int.toNat bR.1) zS1).1,(List.getD (([]:List DS1)++a0.1) (Int.toNat bR.1) zS1).2.1,((List.getD (([]:List DS1)++a0.1) (Int.toNat bR.1) zS1).2.2.1).1,((List.getD (([]:List DS1)++a0.1) (Int.toNat bR.1) zS1).2.2.1).2.1,((List.getD (([]:List DS1)++a0.1) (Int.toNat bR.1) zS1).2.2.1).2.2.1,((List.getD (([]:List DS1)++a0.1) (Int.toNat bR.1) zS1).2.2.1).2.2.2.1,((List.getD (([]:List DS1)++a0.1) (Int.toNat bR.1) zS1).2.2.1).2.2.2.2.1,((List.getD (([]:List DS1)++a0.1) (Int.toNat bR.1) zS1).2.2.1).2.2.2.2.2.1,(List.getD (([]:List DS1)++a0.1) (Int.toNat bR.1) zS1).2.2.2.1,(List.getD (([]:List DS1)++a0.1) (Int.toNat bR.1) zS1).2.2.2.2.1,())))
 (some (.inl (bR.1,iEq l6.1 7,l6.2.1,l6.2.2.1,a0.1,a0.2.1,([]:List DS1)++a0.1,(List.getD (([]:List DS1)++a0.1) (Int.toNat bR.1) zS1).1,(List.getD (([]:List DS1)++a0.1) (Int.toNat bR.1) zS1).2.1,((List.getD (([]:List DS1)++a0.1) (Int.toNat bR.1) zS1).2.2.1).1,((List.getD (([]:List DS1)++a0.1) (Int.toNat bR.1) zS1).2.2.1).2.1,((List.getD (([]:List DS1)++a0.1) (Int.toNat bR.1) zS1).2.2.1).2.2.1,((List.getD (([]:List DS1)++a0.1) (Int.toNat bR.1) zS1).2.2.1).2.2.2.1,((List.getD (([]:List DS1)++a0.1) (Int.toNat bR.1) zS1).2.2.1).2.2.2.2.1,((List.getD (([]:List DS1)++a0.1) (Int.toNat bR.1) zS1).2.2.1).2.2.2.2.2.1,(List.getD (([]:List DS1)++a0.1) (Int.toNat bR.1) zS1).2.2.2.1,(List.getD (([]:List DS1)++a0.1) (Int.toNat bR.1) zS1).2.2.2.2.1,()))))
 (λgL =>
 cond gL.2.1
 (cond (fits (List.length ([]:List DS3)+List.length gL.2.2.2.2.2.1) 64)
 ((m24 4 gL.2.2.1 gL.2.2.2.1).bind λM6 =>
 (m24 4 M6.2.1 M6.2.2.1).bind λM5 =>
 (m24 3 M5.2.1 M5.2.2.1).bind λEz =>
 cond (bnd Ez.1 (aD ([(bs [98]),(bs [97]),(bs [116,111])]:List ByteArray)))
 (cond (inB (Int.toNat Ez.1) ([(bs [98]),(bs [97]),(bs [116,111])]:List ByteArray))
 (cond (fits (List.length (([]:List DS3)++gL.2.2.2.2.2.1)+List.length ([((M6.1,M5.1,()),([(bs [97]),List.getD ([(bs [98]),(bs [97]),(bs [116,111])]:List ByteArray) (Int.toNat Ez.1) ByteArray.empty]:List ByteArray),([]:List DS1),())]:List DS3)) 64)
 (cond (bnd gL.1 (aD gL.2.2.2.2.2.2.1))
 (cond (inB (Int.toNat gL.1) gL.2.2.2.2.2.2.1)
 (some ((List.set gL.2.2.2.2.2.2.1 (Int.toNat gL.1) (gL.2.2.2.2.2.2.2.1,gL.2.2.2.2.2.2.2.2.1,(gL.2.2.2.2.2.2.2.2.2.1,gL.2.2.2.2.2.2.2.2.2.2.1,gL.2.2.2.2.2.2.2.2.2.2.2.1,gL.2.2.2.2.2.2.2.2.2.2.2.2.1,gL.2.2.2.2.2.2.2.2.2.2.2.2.2.1,gL.2.2.2.2.2.2.2.2.2.2.2.2.2.2.1,()),gL.2.2.2.2.2.2.2.2.2.2.2.2.2.2.2.1,gL.2.2.2.2.2.2.2.2.2.2.2.2.2.2.2.2.1,()),(([]:List DS3)++gL.2.2.2.2.2.1)++([((M6.1,M5.1,()),([(bs [97]),List.getD ([(bs [98]),(bs [97]),(bs [116,111])]:List ByteArray) (Int.toNat Ez.1) ByteArray.empty]:List ByteArray),([]:List DS1),())]:List DS3),()),Ez.2.1,Ez.2.2.1,())) none) none) none) none) none) none)
 (cond (bnd gL.1 (aD gL.2.2.2.2.2.2.1))
 (cond (inB (Int.toNat gL.1) gL.2.2.2.2.2.2.1)
 (some ((List.set gL.2.2.2.2.2.2.1 (Int.toNat gL.1) (gL.2.2.2.2.2.2.2.1,gL.2.2.2.2.2.2.2.2.1,(gL.2.2.2.2.2.2.2.2.2.1,gL.2.2.2.2.2.2.2.2.2.2.1,gL.2.2.2.2.2.2.2.2.2.2.2.1,gL.2.2.2.2.2.2.2.2.2.2.2.2.1,gL.2.2.2.2.2.2.2.2.2.2.2.2.2.1,gL.2.2.2.2.2.2.2.2.2.2.2.2.2.2.1,()),gL.2.2.2.2.2.2.2.2.2.2.2.2.2.2.2.1,gL.2.2.2.2.2.2.2.2.2.2.2.2.2.2.2.2.1,()),gL.2.2.2.2.2.1,()),gL.2.2.1,gL.2.2.2.1,())) none) none))))))))) none) none) none
def b4o:Sh:=⟨3,[(0,tS4),(2,tS1)],[(1,.ptr 0 0 0)],[.box 65 [.d (.list (.int .i64)),.d (.int .i64)]]⟩
def b27:Sh:=⟨1,[(0,tS4)],[],[.box 65 [.d (.list (.int .i64)),.d (.int .i64)]]⟩
def h13:HI:=⟨13,b4o,b27,fun(x:DS4×DS1×(List Int)×Int×Unit)=>m13 x.1 x.2.1 x.2.2.1 x.2.2.2.1,[]⟩
theorem b3O:HK h13:=hkz (.d 4 (.s (.d 1 (.b (.d 1 (.c .o (.d 1 (.c .o (.d 1 (.c .o (.d 1 (.c .o (.d 1 (.c .o (.d 1 (.c .o (.j [] ⟨100,[(8,(.int .i64)),(69,.bool)],[(1,.ptr 0 0 0),(3,.ptr 1 0 0),(6,.ptr 2 0 0),(7,.row 3),(9,.ptr 4 0 0)],[.box 65 [.d (.list (.int .i64)),.d (.int .i64)],.box 29 [.d (.list tS1),.d (.list tS3)],.box 29 [.nil,.nil],.row 37 tS1 false,.box 37 [.d (.int .i64),.d .str,.d (.int .i64),.d .str,.d (.list .str),.d (.int .i64),.d (.int .i64),.d (.rl 34 6),.d (.rl 63 8),.d (.int .i64)]]⟩ .o .o))))))))))))))) .o)) [] tS4 Tryz.func13 (cH tJ c0) (by kernel_rfl) λx=>by kernel_rfl
def m5(a0:DS4)(a1:DS1)(a2:List Int)(a3:List Int):Option (Bool×Unit) :=
 (m12 (a0.1,a0.2.1,())).bind λb2h =>
 cond (not b2h.1)
 ((m7).bind λb2g =>
 some (b2g.1,()))
 (bH (S:=(List Int)×(List Int)×Int×(List DS1)×(List DS3)×Int×ByteArray×Int×ByteArray×(List ByteArray)×Int×Int×(List AV)×(List AV)×Int×Unit) (R:=Bool×Unit) (λfO =>
 cond (iLt fO.2.2.1 3)
 ((m19 (fO.2.2.2.1,fO.2.2.2.2.1,())).bind λa2Y =>
 (m20 (fO.2.2.2.1,fO.2.2.2.2.1,())).bind λa2X =>
 cond (cond (not (sEq a2Y.1 a2X.1)) true (iNe a2Y.2.1 a2X.2.1))
 (some (.inr (false,())))
 ((m10 fO.1).bind λM4 =>
 cond (iEq fO.2.2.1 1)
 ((m14 fO.2.1).bind λa2W =>
 (m13 (M4.1.1,M4.1.2.1,()) (fO.2.2.2.2.2.1,fO.2.2.2.2.2.2.1,(fO.2.2.2.2.2.2.2.1,fO.2.2.2.2.2.2.2.2.1,fO.2.2.2.2.2.2.2.2.2.1,fO.2.2.2.2.2.2.2.2.2.2.1,fO.2.2.2.2.2.2.2.2.2.2.2.1,fO.2.2.2.2.2.2.2.2.2.2.2.2.1,()),fO.2.2.2.2.2.2.2.2.2.2.2.2.2.1,fO.2.2.2.2.2.2.2.2.2.2.2.2.2.2.1,()) a2W.1 a2W.2.1).bind λa2V =>
 some (.inl (fO.1,fO.2.1,aN .i64 fO.2.2.1 1,a2V.1.1,a2V.1.2.1,fO.2.2.2.2.2.1,fO.2.2.2.2.2.2.1,fO.2.2.2.2.2.2.2.1,fO.2.2.2.2.2.2.2.2.1,fO.2.2.2.2.2.2.2.2.2.1,fO.2.2.2.2.2.2.2.2.2.2.1,fO.2.2.2.2.2.2.2.2.2.2.2.1,fO.2.2.2.2.2.2.2.2.2.2.2.2.1,fO.2.2.2.2.2.2.2.2.2.2.2.2.2.1,fO.2.2.2.2.2.2.2.2.2.2.2.2.2.2.1,())))
 (some (.inl (fO.1,fO.2.1,aN .i64 fO.2.2.1 1,M4.1.1,M4.1.2.1,fO.2.2.2.2.2.1,fO.2.2.2.2.2.2.1,fO.2.2.2.2.2.2.2.1,fO.2.2.2.2.2.2.2.2.1,fO.2.2.2.2.2.2.2.2.2.1,fO.2.2.2.2.2.2.2.2.2.2.1,fO.2.2.2.2.2.2.2.2.2.2.2.1,fO.2.2.2.2.2.2.2.2.2.2.2.2.1,fO.2.2.2.2.2.2.2.2.2.2.2.2.2.1,fO.2.2.2.2.2.2.2.2.2.2.2.2.2.2.1,())))))
 (Option.map Sum.inr ((m7).bind λb2f =>
 some (b2f.1,()))))
 (a2,a3,0,a0.1,a0.2.1,a1.1,a1.2.1,a1.2.2.1.1,a1.2.2.1.2.1,a1.2.2.1.2.2.1,a1.2.2.1.2.2.2.1,a1.2.2.1.2.2.2.2.1,a1.2.2.1.2.2.2.2.2.1,a1.2.2.2.1,a1.2.2.2.2.1,()))
def i5:PI:=⟨5,[tS4,tS1,(.list (.int .i64)),(.list (.int .i64))],[.bool],fun(x:DS4×DS1×(List Int)×(List Int)×Unit)=>m5 x.1 x.2.1 x.2.2.1 x.2.2.2.1⟩
theorem b7k:PK i5:=pk (.d 2 (.s (.d 1 (.b (.l [] ⟨50,[(2,(.list (.int .i64))),(3,(.list (.int .i64))),(9,(.int .i64))],[(4,.ptr 0 0 0),(5,.ptr 1 0 0)],[.box 29 [.d (.list tS1),.d (.list tS3)],.box 37 [.d (.int .i64),.d .str,.d (.int .i64),.d .str,.d (.list .str),.d (.int .i64),.d (.int .i64),.d (.rl 34 6),.d (.rl 63 8),.d (.int .i64)]]⟩ .o))) .o)) Tryz.func5 (cP b3A (cP b3y (cP b3w (cP b3v (cP b7j (cH b3O (cH a3E c0))))))) (by kernel_rfl) λx=>by kernel_rfl
end
end Abs
end Go.Proofs.YtnhgeocdffhkjaaGreatDoor
