/- Merged and trimmed by a program: Models. -/
import Derived.Test.YtnhgeocdffhkjaaGreatDoorZHJ
set_option linter.unusedVariables false
set_option linter.unusedSimpArgs false
set_option linter.defProp false
namespace Go.Proofs.YtnhgeocdffhkjaaGreatDoor
namespace Abs
noncomputable section
set_option maxRecDepth 100000
def m36(a0:List ByteArray)(a1:List ByteArray):Option (Bool×Unit) :=
 cond (iNe (aA a0) (aA a1))
 (some (false,()))
 (bK (S:=(List ByteArray)×(List ByteArray)×Int×Unit) (R:=Bool×Unit) (λtY =>
 cond (iLt tY.2.2.1 (aA tY.1))
 (cond (bnd tY.2.2.1 (aA tY.1))
 (cond (bnd tY.2.2.1 (aA tY.2.1))
 (cond (not (sEq (atI tY.1 tY.2.2.1 ByteArray.empty) (atI tY.2.1 tY.2.2.1 ByteArray.empty)))
 (some (.inr (false,())))
 (some (.inl (tY.1,tY.2.1,aR .i64 tY.2.2.1 1,())))) none) none)
 (some (.inr (true,()))))
 (a0,a1,0,()))
def i36:PI:=⟨36,[(.list .str),(.list .str)],[.bool],fun(x:(List ByteArray)×(List ByteArray)×Unit)=>m36 x.1 x.2.1⟩
theorem a4h:PK i36:=pk (.d 2 (.s (.d 1 (.b (.l [] ⟨26,[(0,(.list .str)),(1,(.list .str)),(5,(.int .i64))],[],[]⟩ .o))) .o)) Tryz.func36 c0 (by kernel_rfl) λx=>by kernel_rfl
def Ul(self:(DS0×DS0×Unit)->Option (Bool×Unit))(a0:DS0)(a1:DS0):Option (Bool×Unit) :=
 cond (cond (cond (cond (iNe a0.1 a1.1) true (not (sEq a0.2.1 a1.2.1))) true (iNe a0.2.2.2.1 a1.2.2.2.1)) true (iNe a0.2.2.2.2.1 a1.2.2.2.2.1))
 (some (false,()))
 ((m36 a0.2.2.1 a1.2.2.1).bind λb3X =>
 cond (cond (not b3X.1) true (iNe (aA a0.2.2.2.2.2.1) (aA a1.2.2.2.2.2.1)))
 (some (false,()))
 (bK (S:=Int×Int×ByteArray×(List ByteArray)×Int×Int×(List AV)×Int×ByteArray×(List ByteArray)×Int×Int×(List AV)×Unit) (R:=Bool×Unit) (λjW =>
 cond (iLt jW.1 (aA jW.2.2.2.2.2.2.1))
 (cond (and (bnd jW.1 (aA jW.2.2.2.2.2.2.1)) (qy (atI jW.2.2.2.2.2.2.1 jW.1 AV.any)))
 (cond (and (bnd jW.1 (aA jW.2.2.2.2.2.2.2.2.2.2.2.2.1)) (qy (atI jW.2.2.2.2.2.2.2.2.2.2.2.2.1 jW.1 AV.any)))
 ((self (aQ (atI jW.2.2.2.2.2.2.1 jW.1 AV.any),aQ (atI jW.2.2.2.2.2.2.2.2.2.2.2.2.1 jW.1 AV.any),())).bind λb3W =>
 cond (not b3W.1)
 (some (.inr (false,())))
 (some (.inl (aR .i64 jW.1 1,jW.2.1,jW.2.2.1,jW.2.2.2.1,jW.2.2.2.2.1,jW.2.2.2.2.2.1,jW.2.2.2.2.2.2.1,jW.2.2.2.2.2.2.2.1,jW.2.2.2.2.2.2.2.2.1,jW.2.2.2.2.2.2.2.2.2.1,jW.2.2.2.2.2.2.2.2.2.2.1,jW.2.2.2.2.2.2.2.2.2.2.2.1,jW.2.2.2.2.2.2.2.2.2.2.2.2.1,())))) none) none)
 (some (.inr (true,()))))
 (0,a0.1,a0.2.1,a0.2.2.1,a0.2.2.2.1,a0.2.2.2.2.1,a0.2.2.2.2.2.1,a1.1,a1.2.1,a1.2.2.1,a1.2.2.2.1,a1.2.2.2.2.1,a1.2.2.2.2.2.1,())))
def m62(a0:DS0)(a1:DS0):Option (Bool×Unit):=eH (λself (x:DS0×DS0×Unit)=>Ul self x.1 x.2.1) 10000 (a0,a1,())
def i62:PI:=⟨62,[tS0,tS0],[.bool],fun(x:DS0×DS0×Unit)=>m62 x.1 x.2.1⟩
theorem a4e:PK i62:=nZ 10000 (ps:=[tS0,tS0]) (rs:=[.bool]) (G:=λself (x:DS0×DS0×Unit)=>Ul self x.1 x.2.1) (mK (f:=Tryz.f62) (by kernel_rfl)) λself hr=>pk (.d 2 (.s (.d 1 (.b (.l [] ⟨68,[(5,(.int .i64))],[(2,.ptr 0 0 0),(3,.ptr 1 0 0)],[.box 34 [.d (.int .i64),.d .str,.d (.list .str),.d (.int .i64),.d (.int .i64),.d (.rl 34 6)],.box 34 [.d (.int .i64),.d .str,.d (.list .str),.d (.int .i64),.d (.int .i64),.d (.rl 34 6)]]⟩ .o))) .o)) Tryz.func62 (cP hr (cP a4h c0)) (by kernel_rfl) λx=>by kernel_rfl
def Uk(self:((List AV)×(List AV)×Unit)->Option (Bool×Unit))(a0:List AV)(a1:List AV):Option (Bool×Unit) :=
 cond (iNe (aA a0) (aA a1))
 (some (false,()))
 (bK (S:=(List AV)×(List AV)×Int×Unit) (R:=Bool×Unit) (λdY =>
 cond (iLt dY.2.2.1 (aA dY.1))
 (cond (and (bnd dY.2.2.1 (aA dY.1)) (lN (atI dY.1 dY.2.2.1 AV.any)))
 (cond (and (bnd dY.2.2.1 (aA dY.2.1)) (lN (atI dY.2.1 dY.2.2.1 AV.any)))
 (cond (or (and (bnd dY.2.2.1 (aA dY.1)) (lN (atI dY.1 dY.2.2.1 AV.any))) (not (bEq (not (sEq ((aM (atI dY.1 dY.2.2.1 AV.any)).1) ((aM (atI dY.2.1 dY.2.2.1 AV.any)).1))) false)))
 (cond (or (and (bnd dY.2.2.1 (aA dY.2.1)) (lN (atI dY.2.1 dY.2.2.1 AV.any))) (not (bEq (not (sEq ((aM (atI dY.1 dY.2.2.1 AV.any)).1) ((aM (atI dY.2.1 dY.2.2.1 AV.any)).1))) false)))
 (cond (not (sEq ((aM (atI dY.1 dY.2.2.1 AV.any)).1) ((aM (atI dY.2.1 dY.2.2.1 AV.any)).1)))
 (cond (or (and (bnd dY.2.2.1 (aA dY.1)) (lN (atI dY.1 dY.2.2.1 AV.any))) (not (bEq true false)))
 (cond (or (and (bnd dY.2.2.1 (aA dY.2.1)) (lN (atI dY.2.1 dY.2.2.1 AV.any))) (not (bEq true false)))
 (some (.inr (false,()))) none) none)
 ((m62 ((aM (atI dY.1 dY.2.2.1 AV.any)).2.1) ((aM (atI dY.2.1 dY.2.2.1 AV.any)).2.1)).bind λTg =>
 cond (or (and (bnd dY.2.2.1 (aA dY.1)) (lN (atI dY.1 dY.2.2.1 AV.any))) (not (bEq (not Tg.1) false)))
 (cond (or (and (bnd dY.2.2.1 (aA dY.2.1)) (lN (atI dY.2.1 dY.2.2.1 AV.any))) (not (bEq (not Tg.1) false)))
 (cond (not Tg.1)
 (some (.inr (false,())))
 ((self ((aM (atI dY.1 dY.2.2.1 AV.any)).2.2.1,(aM (atI dY.2.1 dY.2.2.1 AV.any)).2.2.1,())).bind λb3V =>
 cond (not b3V.1)
 (some (.inr (false,())))
 (some (.inl (dY.1,dY.2.1,aR .i64 dY.2.2.1 1,()))))) none) none)) none) none) none) none)
 (some (.inr (true,()))))
 (a0,a1,0,()))
def m63(a0:List AV)(a1:List AV):Option (Bool×Unit):=eH (λself (x:(List AV)×(List AV)×Unit)=>Uk self x.1 x.2.1) 10000 (a0,a1,())
def i63:PI:=⟨63,[(.rl 63 8),(.rl 63 8)],[.bool],fun(x:(List AV)×(List AV)×Unit)=>m63 x.1 x.2.1⟩
theorem b5c:PK i63:=nZ 10000 (ps:=[(.rl 63 8),(.rl 63 8)]) (rs:=[.bool]) (G:=λself (x:(List AV)×(List AV)×Unit)=>Uk self x.1 x.2.1) (mK (f:=Tryz.f63) (by kernel_rfl)) λself hr=>pk (.d 2 (.s (.d 1 (.b (.l [] ⟨56,[(0,(.rl 63 8)),(1,(.rl 63 8)),(5,(.int .i64))],[],[]⟩ .o))) .o)) Tryz.func63 (cP hr (cP a4e c0)) (by kernel_rfl) λx=>by kernel_rfl
def m35(a0:List DS1)(a1:List DS1):Option (Bool×Unit) :=
 cond (iNe (aA a0) (aA a1))
 (some (false,()))
 (bK (S:=(List DS1)×(List DS1)×Int×Unit) (R:=Bool×Unit) (λbQ =>
 cond (iLt bQ.2.2.1 (aA bQ.1))
 (cond (bnd bQ.2.2.1 (aA bQ.1))
 (cond (bnd bQ.2.2.1 (aA bQ.2.1))
 (cond (or (bnd bQ.2.2.1 (aA bQ.1)) (not (bEq (iNe ((atI bQ.1 bQ.2.2.1 zS1).1) ((atI bQ.2.1 bQ.2.2.1 zS1).1)) false)))
 (cond (or (bnd bQ.2.2.1 (aA bQ.2.1)) (not (bEq (iNe ((atI bQ.1 bQ.2.2.1 zS1).1) ((atI bQ.2.1 bQ.2.2.1 zS1).1)) false)))
 (cond (or (bnd bQ.2.2.1 (aA bQ.1)) (not (bEq (cond (iNe ((atI bQ.1 bQ.2.2.1 zS1).1) ((atI bQ.2.1 bQ.2.2.1 zS1).1)) true (not (sEq ((atI bQ.1 bQ.2.2.1 zS1).2.1) ((atI bQ.2.1 bQ.2.2.1 zS1).2.1)))) false)))
 (cond (or (bnd bQ.2.2.1 (aA bQ.2.1)) (not (bEq (cond (iNe ((atI bQ.1 bQ.2.2.1 zS1).1) ((atI bQ.2.1 bQ.2.2.1 zS1).1)) true (not (sEq ((atI bQ.1 bQ.2.2.1 zS1).2.1) ((atI bQ.2.1 bQ.2.2.1 zS1).2.1)))) false)))
 (cond (or (bnd bQ.2.2.1 (aA bQ.1)) (not (bEq (cond (cond (iNe ((atI bQ.1 bQ.2.2.1 zS1).1) ((atI bQ.2.1 bQ.2.2.1 zS1).1)) true (not (sEq ((atI bQ.1 bQ.2.2.1 zS1).2.1) ((atI bQ.2.1 bQ.2.2.1 zS1).2.1)))) true (iNe ((atI bQ.1 bQ.2.2.1 zS1).2.2.2.2.1) ((atI bQ.2.1 bQ.2.2.1 zS1).2.2.2.2.1))) false)))
 (cond (or (bnd bQ.2.2.1 (aA bQ.2.1)) (not (bEq (cond (cond (iNe ((atI bQ.1 bQ.2.2.1 zS1).1) ((atI bQ.2.1 bQ.2.2.1 zS1).1)) true (not (sEq ((atI bQ.1 bQ.2.2.1 zS1).2.1) ((atI bQ.2.1 bQ.2.2.1 zS1).2.1)))) true (iNe ((atI bQ.1 bQ.2.2.1 zS1).2.2.2.2.1) ((atI bQ.2.1 bQ.2.2.1 zS1).2.2.2.2.1))) false)))
 (cond (cond (cond (iNe ((atI bQ.1 bQ.2.2.1 zS1).1) ((atI bQ.2.1 bQ.2.2.1 zS1).1)) true (not (sEq ((atI bQ.1 bQ.2.2.1 zS1).2.1) ((atI bQ.2.1 bQ.2.2.1 zS1).2.1)))) true (iNe ((atI bQ.1 bQ.2.2.1 zS1).2.2.2.2.1) ((atI bQ.2.1 bQ.2.2.1 zS1).2.2.2.2.1)))
 (cond (or (bnd bQ.2.2.1 (aA bQ.1)) (not (bEq true false)))
 (cond (or (bnd bQ.2.2.1 (aA bQ.2.1)) (not (bEq true false)))
 (some (.inr (false,()))) none) none)
 ((m62 ((atI bQ.1 bQ.2.2.1 zS1).2.2.1) ((atI bQ.2.1 bQ.2.2.1 zS1).2.2.1)).bind λTf =>
 cond (or (bnd bQ.2.2.1 (aA bQ.1)) (not (bEq (not Tf.1) false)))
 (cond (or (bnd bQ.2.2.1 (aA bQ.2.1)) (not (bEq (not Tf.1) false)))
 (cond (not Tf.1)
 (some (.inr (false,())))
 ((m63 ((atI bQ.1 bQ.2.2.1 zS1).2.2.2.1) ((atI bQ.2.1 bQ.2.2.1 zS1).2.2.2.1)).bind λb3U =>
 cond (not b3U.1)
 (some (.inr (false,())))
 (some (.inl (bQ.1,bQ.2.1,aR .i64 bQ.2.2.1 1,()))))) none) none)) none) none) none) none) none) none) none) none)
 (some (.inr (true,()))))
 (a0,a1,0,()))
def i35:PI:=⟨35,[(.list tS1),(.list tS1)],[.bool],fun(x:(List DS1)×(List DS1)×Unit)=>m35 x.1 x.2.1⟩
theorem b5h:PK i35:=pk (.d 2 (.s (.d 1 (.b (.l [] ⟨82,[(0,(.list tS1)),(1,(.list tS1)),(5,(.int .i64))],[],[]⟩ .o))) .o)) Tryz.func35 (cP a4e (cP b5c c0)) (by kernel_rfl) λx=>by kernel_rfl
def m18(a0:DS4)(a1:DS4):Option (Bool×Unit) :=
 (m35 a0.1 a1.1).bind λb3T =>
 cond (cond (not b3T.1) true (iNe (aA a0.2.1) (aA a1.2.1)))
 (some (false,()))
 (bK (S:=Int×(List DS1)×(List DS3)×(List DS1)×(List DS3)×Unit) (R:=Bool×Unit) (λjV =>
 cond (iLt jV.1 (aA jV.2.2.1))
 (cond (bnd jV.1 (aA jV.2.2.1))
 (cond (bnd jV.1 (aA jV.2.2.2.2.1))
 (cond (not (and (iEq (((atI jV.2.2.1 jV.1 zS3).1).1) (((atI jV.2.2.2.2.1 jV.1 zS3).1).1)) (and (iEq (((atI jV.2.2.1 jV.1 zS3).1).2.1) (((atI jV.2.2.2.2.1 jV.1 zS3).1).2.1)) true)))
 (some (.inr (false,())))
 ((m36 ((atI jV.2.2.1 jV.1 zS3).2.1) ((atI jV.2.2.2.2.1 jV.1 zS3).2.1)).bind λb3S =>
 cond (not b3S.1)
 (some (.inr (false,())))
 ((m35 ((atI jV.2.2.1 jV.1 zS3).2.2.1) ((atI jV.2.2.2.2.1 jV.1 zS3).2.2.1)).bind λb3R =>
 cond (not b3R.1)
 (some (.inr (false,())))
 (some (.inl (aR .i64 jV.1 1,jV.2.1,jV.2.2.1,jV.2.2.2.1,jV.2.2.2.2.1,())))))) none) none)
 (some (.inr (true,()))))
 (0,a0.1,a0.2.1,a1.1,a1.2.1,()))
def i18:PI:=⟨18,[tS4,tS4],[.bool],fun(x:DS4×DS4×Unit)=>m18 x.1 x.2.1⟩
theorem b5m:PK i18:=pk (.d 2 (.s (.d 1 (.b (.l [] ⟨61,[(5,(.int .i64))],[(2,.ptr 0 0 0),(3,.ptr 1 0 0)],[.box 29 [.d (.list tS1),.d (.list tS3)],.box 29 [.d (.list tS1),.d (.list tS3)]]⟩ .o))) .o)) Tryz.func18 (cP b5h (cP a4h c0)) (by kernel_rfl) λx=>by kernel_rfl
def m7:Option (Bool×Unit) :=
 (m21 (bs [99,111,118,101,114,32,97,108,108,58,32,116,114,117,101,59,32,101,120,99,108,117,100,101,32,119,97,114,58,32,112,101,114,105,108,32,105,110,32,40,119,97,114,41,32,117,110,108,101,115,115,32,40,109,101,100,105,99,58,32,114,111,108,101,32,105,110,32,40,109,101,100,105,99,41,41,59,32,101,110,100,111,114,115,101,32,64,50,48,51,49,45,48,49,45,48,49,32,116,111,32,64,50,48,51,50,45,48,49,45,48,49,58,32,114,101,109,111,118,101,32,119,97,114,59,32,101,110,100,59])).bind λqb =>
 (m21 (bs [99,111,118,101,114,32,97,108,108,58,32,116,114,117,101])).bind λa3z =>
 cond (or (bnd 1 (aA qb.1.1)) (not (bEq (cond (cond (iEq qb.2.2.1 0) (iEq qb.2.1 0) false) (iEq (aA qb.1.1) 2) false) true)))
 (cond (or (bnd 0 (aA qb.1.2.1)) (not (bEq (cond (cond (cond (cond (iEq qb.2.2.1 0) (iEq qb.2.1 0) false) (iEq (aA qb.1.1) 2) false) (iEq (aA ((atI qb.1.1 1 zS1).2.2.2.1)) 1) false) (iEq (aA qb.1.2.1) 1) false) true)))
 (some (cond (cond (cond (cond (cond (cond (cond (iEq qb.2.2.1 0) (iEq qb.2.1 0) false) (iEq (aA qb.1.1) 2) false) (iEq (aA ((atI qb.1.1 1 zS1).2.2.2.1)) 1) false) (iEq (aA qb.1.2.1) 1) false) (iEq (aA ((atI qb.1.2.1 0 zS3).2.1)) 1) false) (iEq a3z.2.1 15) false) (iEq a3z.2.2.1 5) false,())) none) none
def i7:PI:=⟨7,[],[.bool],fun(x:Unit)=>m7⟩
theorem b9t:PK i7:=pk .o Tryz.func7 (cP a4k c0) (by kernel_rfl) λx=>by kernel_rfl
def m6(a0:List Int):Option (Bool×Unit) :=
 (m10 a0).bind λSS =>
 (m19 (SS.1.1,SS.1.2.1,())).bind λa3A =>
 (m21 a3A.1).bind λLK =>
 cond (cond (cond (iEq a3A.2.1 0) (iEq LK.2.2.1 0) false) (iEq LK.2.1 0) false)
 ((m18 (SS.1.1,SS.1.2.1,()) (LK.1.1,LK.1.2.1,())).bind λb3Q =>
 cond b3Q.1
 ((m7).bind λb3P =>
 some (b3P.1,()))
 (some (false,())))
 (some (false,()))
def i6:PI:=⟨6,[(.list (.int .i64))],[.bool],fun(x:(List Int)×Unit)=>m6 x.1⟩
theorem b9u:PK i6:=pk .o Tryz.func6 (cP b5p (cP b5m (cP b5l (cP a4k (cP b9t c0))))) (by kernel_rfl) λx=>by kernel_rfl
end
end Abs
end Go.Proofs.YtnhgeocdffhkjaaGreatDoor
