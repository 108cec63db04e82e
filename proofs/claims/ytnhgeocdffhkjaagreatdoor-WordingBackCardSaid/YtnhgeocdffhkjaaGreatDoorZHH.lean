/- Merged and trimmed by a program: ModelsB. -/
import Derived.Test.YtnhgeocdffhkjaaGreatDoorZHG
set_option linter.unusedVariables false
set_option linter.unusedSimpArgs false
set_option linter.defProp false
namespace Go.Proofs.YtnhgeocdffhkjaaGreatDoor
namespace Abs
noncomputable section
set_option maxRecDepth 100000
def Bf(a0:List ay)(a1:Int):Option (Int×ByteArray×(List ByteArray)×Int×Int×(List AV)×(List ay)×Int×Unit) :=
 (JO a0 a1).bind λy101 =>
 cond (iNe y101.2.2.2.1 0)
 ((m83 y101.2.2.2.1 a0 y101.2.2.1).bind λy102 =>
 some (y101.1.1,y101.1.2.1,y101.1.2.2.1,y101.1.2.2.2.1,y101.1.2.2.2.2.1,y101.1.2.2.2.2.2.1,y102.1,y101.2.1,()))
 (some (y101.1.1,y101.1.2.1,y101.1.2.2.1,y101.1.2.2.2.1,y101.1.2.2.2.2.1,y101.1.2.2.2.2.2.1,a0,y101.2.1,()))
def b2i:Sh:=⟨1,[],[(0,.ptr 0 0 0)],[.box 99 [.d (.list bR),.d (.int .i64)]]⟩
def a97:Sh:=⟨1,[],[(0,.agg [.d (.int .i64),.d .str,.d (.list .str),.d (.int .i64),.d (.int .i64),.d (.rl 34 6)])],[.box 99 [.d (.list bR),.d (.int .i64)]]⟩
def c0M:HI:=⟨162,b2i,a97,fun(x:(List ay)×Int×Unit)=>Bf x.1 x.2.1,[]⟩
theorem OT:HK c0M:=hk .o [] Tryz.func162 (cP b0u (cH xY c0)) (by kernel_rfl) λx=>by kernel_rfl
def II(self:(Int×(List ay)×Int×Int×Unit)->Option ((List ay)×Int×Int×(List DS7)×Unit))(a0:Int)(a1:List ay)(a2:Int)(a3:Int):Option ((List ay)×Int×Int×(List DS7)×Unit) :=
 (qz (bs [40]) a1 a2).bind λa8L =>
 bK (S:=Int×(List ay)×Int×Int×(List DS7)×Unit) (R:=(List ay)×Int×Int×(List DS7)×Unit) (λCq =>
 (zP Cq.2.1 Cq.2.2.1).bind λJq =>
 lV (S:=Int×(List ay)×Int×Int×(List DS7)×ByteArray×Int×ByteArray×Int×Int×Unit) (R:=(Int×(List ay)×Int×Int×(List DS7)×Unit)⊕((List ay)×Int×Int×(List DS7)×Unit))
 (cond (iEq Cq.2.2.2.1 40)
 ((m83 4 Jq.2.1 Jq.2.2.1).bind λa8K =>
 some (.inl (Cq.1,a8K.1,a8K.2.1,Cq.2.2.2.1,Cq.2.2.2.2.1,Jq.1,0,(bs []),0,0,())))
 (some (.inl (Cq.1,Jq.2.1,Jq.2.2.1,Cq.2.2.2.1,Cq.2.2.2.2.1,Jq.1,0,(bs []),0,0,()))))
 (λlQ =>
 (qz (bs [58]) lQ.2.1 (aR .i64 lQ.2.2.1 1)).bind λa8J =>
 (Bf a8J.1 a8J.2.1).bind λgq =>
 (m82 1 (bs [117,110,108,101,115,115]) gq.2.2.2.2.2.2.1 gq.2.2.2.2.2.2.2.1).bind λG6 =>
 cond G6.1
 (cond (iEq lQ.1 16)
 ((m83 4 G6.2.1 G6.2.2.1).bind λa8I =>
 (self (aR .i64 lQ.1 1,a8I.1,aR .i64 a8I.2.1 1,aR .i64 lQ.2.2.2.1 1,())).bind λG5 =>
 cond (fits (List.length lQ.2.2.2.2.1+List.length ([(lQ.2.2.2.2.2.1,(gq.1,gq.2.1,gq.2.2.1,gq.2.2.2.1,gq.2.2.2.2.1,gq.2.2.2.2.2.1,()),nA G5.2.2.2.1,())]:List DS7)) 128)
 ((pR 4 (bs [44]) G5.1 G5.2.1).bind λzB =>
 cond (not zB.1)
 ((qz (bs [41]) zB.2.1 zB.2.2.1).bind λND =>
 some (.inr (ND.1,ND.2.1,G5.2.2.1,lQ.2.2.2.2.1++([(lQ.2.2.2.2.2.1,(gq.1,gq.2.1,gq.2.2.1,gq.2.2.2.1,gq.2.2.2.2.1,gq.2.2.2.2.2.1,()),nA G5.2.2.2.1,())]:List DS7),())))
 (some (.inl (lQ.1,zB.2.1,zB.2.2.1,G5.2.2.1,lQ.2.2.2.2.1++([(lQ.2.2.2.2.2.1,(gq.1,gq.2.1,gq.2.2.1,gq.2.2.2.1,gq.2.2.2.2.1,gq.2.2.2.2.2.1,()),nA G5.2.2.2.1,())]:List DS7),())))) none)
 ((self (aR .i64 lQ.1 1,G6.2.1,aR .i64 G6.2.2.1 1,aR .i64 lQ.2.2.2.1 1,())).bind λFZ =>
 cond (fits (List.length lQ.2.2.2.2.1+List.length ([(lQ.2.2.2.2.2.1,(gq.1,gq.2.1,gq.2.2.1,gq.2.2.2.1,gq.2.2.2.2.1,gq.2.2.2.2.2.1,()),nA FZ.2.2.2.1,())]:List DS7)) 128)
 ((pR 4 (bs [44]) FZ.1 FZ.2.1).bind λNC =>
 cond (not NC.1)
 ((qz (bs [41]) NC.2.1 NC.2.2.1).bind λa8H =>
 some (.inr (a8H.1,a8H.2.1,FZ.2.2.1,lQ.2.2.2.2.1++([(lQ.2.2.2.2.2.1,(gq.1,gq.2.1,gq.2.2.1,gq.2.2.2.1,gq.2.2.2.2.1,gq.2.2.2.2.2.1,()),nA FZ.2.2.2.1,())]:List DS7),())))
 (some (.inl (lQ.1,NC.2.1,NC.2.2.1,FZ.2.2.1,lQ.2.2.2.2.1++([(lQ.2.2.2.2.2.1,(gq.1,gq.2.1,gq.2.2.1,gq.2.2.2.1,gq.2.2.2.2.1,gq.2.2.2.2.2.1,()),nA FZ.2.2.2.1,())]:List DS7),())))) none))
 (cond (fits (List.length lQ.2.2.2.2.1+List.length ([(lQ.2.2.2.2.2.1,(gq.1,gq.2.1,gq.2.2.1,gq.2.2.2.1,gq.2.2.2.2.1,gq.2.2.2.2.2.1,()),([]:List AV),())]:List DS7)) 128)
 ((pR 4 (bs [44]) G6.2.1 G6.2.2.1).bind λNA =>
 cond (not NA.1)
 ((qz (bs [41]) NA.2.1 NA.2.2.1).bind λa8G =>
 some (.inr (a8G.1,a8G.2.1,aR .i64 lQ.2.2.2.1 1,lQ.2.2.2.2.1++([(lQ.2.2.2.2.2.1,(gq.1,gq.2.1,gq.2.2.1,gq.2.2.2.1,gq.2.2.2.2.1,gq.2.2.2.2.2.1,()),([]:List AV),())]:List DS7),())))
 (some (.inl (lQ.1,NA.2.1,NA.2.2.1,aR .i64 lQ.2.2.2.1 1,lQ.2.2.2.2.1++([(lQ.2.2.2.2.2.1,(gq.1,gq.2.1,gq.2.2.1,gq.2.2.2.1,gq.2.2.2.2.1,gq.2.2.2.2.2.1,()),([]:List AV),())]:List DS7),())))) none)))
 (a0,a8L.1,a8L.2.1,a3,([]:List DS7),())
def a14(a0:Int)(a1:List ay)(a2:Int)(a3:Int):Option ((List ay)×Int×Int×(List DS7)×Unit):=eH (λself (x:Int×(List ay)×Int×Int×Unit)=>II self x.1 x.2.1 x.2.2.1 x.2.2.2.1) 10000 (a0,a1,a2,a3,())
def YM:Sh:=⟨3,[(1,(.int .i64))],[(0,.ptr 0 0 0),(2,.ptr 1 0 0)],[.box 99 [.d (.list bR),.d (.int .i64)],.box 3 [.d (.int .i64)]]⟩
def XU:Sh:=⟨1,[],[(0,.row 2)],[.box 99 [.d (.list bR),.d (.int .i64)],.box 3 [.d (.int .i64)],.row 63 tS7 false]⟩
def c0L:HI:=⟨163,YM,XU,fun(x:Int×(List ay)×Int×Int×Unit)=>a14 x.1 x.2.1 x.2.2.1 x.2.2.2.1,[]⟩
theorem b1f:HK c0L:=rC 10000 (ish:=YM) (osh:=XU) (G:=λself (x:Int×(List ay)×Int×Int×Unit)=>II self x.1 x.2.1 x.2.2.1 x.2.2.2.1) (mK (f:=Tryz.f163) (by kernel_rfl)) λself hr=>hk (.d 3 (.b (.l [.gh 7 63 tS7] ⟨66,[(1,(.int .i64))],[(0,.ptr 0 0 0),(2,.ptr 1 0 0),(7,.row 2)],[.box 99 [.d (.list bR),.d (.int .i64)],.box 3 [.d (.int .i64)],.row 63 tS7 false]⟩ (.b (.d 1 (.j [.gh 7 63 tS7] ⟨66,[(1,(.int .i64))],[(0,.ptr 0 0 0),(2,.ptr 1 0 0),(7,.row 2),(8,.ptr 3 0 0)],[.box 99 [.d (.list bR),.d (.int .i64)],.box 3 [.d (.int .i64)],.row 63 tS7 false,.box 63 [.d .str,.d (.int .i64),.d .str,.nil,.d (.int .i64),.d (.int .i64),.nil,.nil]]⟩ .o .o)))))) [] Tryz.func163 (cH hr (cH Iq (cH zM (cH Ip (cH OT (cH Mr (cH xY c0))))))) (by kernel_rfl) λx=>by kernel_rfl
def Po(a0:Int)(a1:List ay)(a2:Int):Option (Int×ByteArray×Int×ByteArray×(List ByteArray)×Int×Int×(List AV)×Int×(List ay)×Int×(List DS7)×Unit) :=
 (zP a1 a2).bind λTe =>
 (qz (bs [58]) Te.2.1 (aR .i64 Te.2.2.1 1)).bind λTd =>
 lV (S:=Int×(List ay)×Int×Int×ByteArray×Int×ByteArray×Int×Int×Int×Int×ByteArray×Int×ByteArray×Int×Int×Int×Unit) (R:=Int×ByteArray×Int×ByteArray×(List ByteArray)×Int×Int×(List AV)×Int×(List ay)×Int×(List DS7)×Unit)
 ((m65 a0).bind λa8F =>
 cond (iLt 0 a8F.1)
 ((UA a8F.1 Td.1 Td.2.1).bind λy157 =>
 (Pm (bs [119,104,101,110]) y157.2.1 y157.2.2.1).bind λy158 =>
 some (.inl (a0,y158.1,y158.2.1,0,(bs []),0,(bs []),0,0,0,a0,Te.1,0,(bs []),0,0,y157.1,())))
 (some (.inl (a0,Td.1,Td.2.1,0,(bs []),0,(bs []),0,0,0,a0,Te.1,0,(bs []),0,0,0,()))))
 (λyQ =>
 (Bf yQ.2.1 yQ.2.2.1).bind λy160 =>
 cond (iEq yQ.1 3)
 ((pR 1 (bs [117,110,108,101,115,115]) y160.2.2.2.2.2.2.1 y160.2.2.2.2.2.2.2.1).bind λNz =>
 cond Nz.1
 ((a14 1 Nz.2.1 Nz.2.2.1 0).bind λa0S =>
 (qz (bs [59]) a0S.1 a0S.2.1).bind λa8E =>
 some (yQ.2.2.2.2.2.2.2.2.2.2.1,yQ.2.2.2.2.2.2.2.2.2.2.2.1,y160.1,y160.2.1,y160.2.2.1,y160.2.2.2.1,y160.2.2.2.2.1,y160.2.2.2.2.2.1,yQ.2.2.2.2.2.2.2.2.2.2.2.2.2.2.2.2.1,a8E.1,a8E.2.1,a0S.2.2.2.1,()))
 ((qz (bs [59]) Nz.2.1 Nz.2.2.1).bind λa8D =>
 some (yQ.2.2.2.2.2.2.2.2.2.2.1,yQ.2.2.2.2.2.2.2.2.2.2.2.1,y160.1,y160.2.1,y160.2.2.1,y160.2.2.2.1,y160.2.2.2.2.1,y160.2.2.2.2.2.1,yQ.2.2.2.2.2.2.2.2.2.2.2.2.2.2.2.2.1,a8D.1,a8D.2.1,([]:List DS7),())))
 ((qz (bs [59]) y160.2.2.2.2.2.2.1 y160.2.2.2.2.2.2.2.1).bind λa8C =>
 some (yQ.2.2.2.2.2.2.2.2.2.2.1,yQ.2.2.2.2.2.2.2.2.2.2.2.1,y160.1,y160.2.1,y160.2.2.1,y160.2.2.2.1,y160.2.2.2.2.1,y160.2.2.2.2.2.1,yQ.2.2.2.2.2.2.2.2.2.2.2.2.2.2.2.2.1,a8C.1,a8C.2.1,([]:List DS7),())))
def b2t:Sh:=⟨2,[(1,(.int .i64))],[(0,.ptr 0 0 0)],[.box 99 [.d (.list bR),.d (.int .i64)]]⟩
def b0h:Sh:=⟨1,[],[(0,.agg [.d (.int .i64),.d .str,.d (.int .i64),.d .str,.d (.list .str),.d (.int .i64),.d (.int .i64),.d (.rl 34 6),.row 1,.d (.int .i64)])],[.box 99 [.d (.list bR),.d (.int .i64)],.row 63 tS7 false]⟩
def c0Y:HI:=⟨124,b2t,b0h,fun(x:Int×(List ay)×Int×Unit)=>Po x.1 x.2.1 x.2.2.1,[]⟩
theorem b1m:HK c0Y:=hk (.d 4 (.j [] ⟨46,[(1,(.int .i64))],[(0,.ptr 0 0 0),(4,.ptr 1 0 0),(5,.ptr 2 0 0)],[.box 99 [.d (.list bR),.d (.int .i64)],.box 37 [.d (.int .i64),.d .str,.d (.int .i64),.d .str,.nil,.d (.int .i64),.d (.int .i64),.nil,.nil,.d (.int .i64)],.box 37 [.d (.int .i64),.d .str,.d (.int .i64),.d .str,.nil,.d (.int .i64),.d (.int .i64),.nil,.nil,.d (.int .i64)]]⟩ .o .o)) [.ghc 4 8 63 tS7] Tryz.func124 (cP Ml (cH Yj (cH Iq (cH zM (cH Ip (cH b1g (cH OT (cH b1f c0)))))))) (by kernel_rfl) λx=>by kernel_rfl
def m81(a0:List ay)(a1:Int):Option ((List ay)×Int×(List DS1)×Unit) :=
 bK (S:=(List ay)×Int×(List DS1)×Unit) (R:=(List ay)×Int×(List DS1)×Unit) (λDN =>
 (Bg DN.1 DN.2.1).bind λCa =>
 cond (iEq Ca.1 0)
 (some (.inr (Ca.2.1,Ca.2.2.1,DN.2.2.1,())))
 (cond (iEq (aA DN.2.2.1) 40)
 ((m83 4 Ca.2.1 Ca.2.2.1).bind λa8B =>
 (Po Ca.1 a8B.1 (aR .i64 a8B.2.1 1)).bind λoF =>
 cond (fits (List.length DN.2.2.1+List.length ([(oF.1,oF.2.1,(oF.2.2.1,oF.2.2.2.1,oF.2.2.2.2.1,oF.2.2.2.2.2.1,oF.2.2.2.2.2.2.1,oF.2.2.2.2.2.2.2.1,()),nA oF.2.2.2.2.2.2.2.2.2.2.2.1,oF.2.2.2.2.2.2.2.2.1,())]:List DS1)) 144)
 (some (.inl (oF.2.2.2.2.2.2.2.2.2.1,oF.2.2.2.2.2.2.2.2.2.2.1,DN.2.2.1++([(oF.1,oF.2.1,(oF.2.2.1,oF.2.2.2.1,oF.2.2.2.2.1,oF.2.2.2.2.2.1,oF.2.2.2.2.2.2.1,oF.2.2.2.2.2.2.2.1,()),nA oF.2.2.2.2.2.2.2.2.2.2.2.1,oF.2.2.2.2.2.2.2.2.1,())]:List DS1),()))) none)
 ((Po Ca.1 Ca.2.1 (aR .i64 Ca.2.2.1 1)).bind λoD =>
 cond (fits (List.length DN.2.2.1+List.length ([(oD.1,oD.2.1,(oD.2.2.1,oD.2.2.2.1,oD.2.2.2.2.1,oD.2.2.2.2.2.1,oD.2.2.2.2.2.2.1,oD.2.2.2.2.2.2.2.1,()),nA oD.2.2.2.2.2.2.2.2.2.2.2.1,oD.2.2.2.2.2.2.2.2.1,())]:List DS1)) 144)
 (some (.inl (oD.2.2.2.2.2.2.2.2.2.1,oD.2.2.2.2.2.2.2.2.2.2.1,DN.2.2.1++([(oD.1,oD.2.1,(oD.2.2.1,oD.2.2.2.1,oD.2.2.2.2.1,oD.2.2.2.2.2.1,oD.2.2.2.2.2.2.1,oD.2.2.2.2.2.2.2.1,()),nA oD.2.2.2.2.2.2.2.2.2.2.2.1,oD.2.2.2.2.2.2.2.2.1,())]:List DS1),()))) none)))
 (a0,a1,([]:List DS1),())
def b5Y:Sh:=⟨1,[],[(0,.ptr 0 0 0)],[.box 99 [.d (.list bR),.d (.int .i64)]]⟩
def b4H:Sh:=⟨1,[],[(0,.row 1)],[.box 99 [.d (.list bR),.d (.int .i64)],.row 37 tS1 false]⟩
def h81:HI:=⟨81,b5Y,b4H,fun(x:(List ay)×Int×Unit)=>m81 x.1 x.2.1,[]⟩
theorem a4l:HK h81:=hk (.d 2 (.b (.l [.gh 3 37 tS1] ⟨28,[],[(0,.ptr 0 0 0),(3,.row 1)],[.box 99 [.d (.list bR),.d (.int .i64)],.row 37 tS1 false]⟩ .o))) [.gh 2 37 tS1] Tryz.func81 (cH Yk (cH b1m (cH xY c0))) (by kernel_rfl) λx=>by kernel_rfl
def Pn(a0:Int)(a1:List ay)(a2:Int):Option (Int×(List ay)×Int×Unit) :=
 (El a1 a2).bind λwR =>
 cond (iNe wR.1 3)
 ((m83 5 wR.2.2.2.2.1 wR.2.2.2.2.2.1).bind λTc =>
 cond (iLe wR.2.2.1 a0)
 ((m83 1 Tc.1 Tc.2.1).bind λa8A =>
 some (wR.2.2.1,a8A.1,aR .i64 a8A.2.1 1,()))
 (some (wR.2.2.1,Tc.1,aR .i64 Tc.2.1 1,())))
 (cond (iLe wR.2.2.1 a0)
 ((m83 1 wR.2.2.2.2.1 wR.2.2.2.2.2.1).bind λa8z =>
 some (wR.2.2.1,a8z.1,aR .i64 a8z.2.1 1,()))
 (some (wR.2.2.1,wR.2.2.2.2.1,aR .i64 wR.2.2.2.2.2.1 1,())))
def b2q:Sh:=⟨2,[(1,(.int .i64))],[(0,.ptr 0 0 0)],[.box 99 [.d (.list bR),.d (.int .i64)]]⟩
def b0f:Sh:=⟨1,[(0,(.int .i64))],[],[.box 99 [.d (.list bR),.d (.int .i64)]]⟩
def c0W:HI:=⟨126,b2q,b0f,fun(x:Int×(List ay)×Int×Unit)=>Pn x.1 x.2.1 x.2.2.1,[]⟩
theorem b1l:HK c0W:=hk .o [] Tryz.func126 (cH Ir (cH xY c0)) (by kernel_rfl) λx=>by kernel_rfl
def UH(a0:List ay)(a1:Int):Option ((List ay)×Int×(List ByteArray)×Unit) :=
 bK (S:=(List ay)×Int×(List ByteArray)×Unit) (R:=(List ay)×Int×(List ByteArray)×Unit) (λOd =>
 (zP Od.1 Od.2.1).bind λFY =>
 lV (S:=ByteArray×(List ay)×Int×(List ByteArray)×Unit) (R:=((List ay)×Int×(List ByteArray)×Unit)⊕((List ay)×Int×(List ByteArray)×Unit))
 ((m55 Od.2.2.1 FY.1).bind λb9d =>
 cond b9d.1
 ((m83 8 FY.2.1 FY.2.2.1).bind λa8y =>
 some (.inl (FY.1,a8y.1,a8y.2.1,Od.2.2.1,())))
 (some (.inl (FY.1,FY.2.1,FY.2.2.1,Od.2.2.1,()))))
 (λtq =>
 cond (iEq (aA tq.2.2.2.1) 40)
 ((m83 4 tq.2.1 tq.2.2.1).bind λa8x =>
 cond (fits (List.length tq.2.2.2.1+List.length ([tq.1]:List ByteArray)) 16)
 ((pR 4 (bs [44]) a8x.1 (aR .i64 a8x.2.1 1)).bind λNy =>
 cond (not Ny.1)
 (some (.inr (Ny.2.1,Ny.2.2.1,tq.2.2.2.1++([tq.1]:List ByteArray),())))
 (some (.inl (Ny.2.1,Ny.2.2.1,tq.2.2.2.1++([tq.1]:List ByteArray),())))) none)
 (cond (fits (List.length tq.2.2.2.1+List.length ([tq.1]:List ByteArray)) 16)
 ((pR 4 (bs [44]) tq.2.1 (aR .i64 tq.2.2.1 1)).bind λNw =>
 cond (not Nw.1)
 (some (.inr (Nw.2.1,Nw.2.2.1,tq.2.2.2.1++([tq.1]:List ByteArray),())))
 (some (.inl (Nw.2.1,Nw.2.2.1,tq.2.2.2.1++([tq.1]:List ByteArray),())))) none)))
 (a0,a1,([]:List ByteArray),())
def b2m:Sh:=⟨1,[],[(0,.ptr 0 0 0)],[.box 99 [.d (.list bR),.d (.int .i64)]]⟩
def b0b:Sh:=⟨1,[],[(0,.row 1)],[.box 99 [.d (.list bR),.d (.int .i64)],.row 9 .str false]⟩
def c0U:HI:=⟨130,b2m,b0b,fun(x:(List ay)×Int×Unit)=>UH x.1 x.2.1,[]⟩
theorem b1k:HK c0U:=hk (.d 2 (.b (.l [.gh 3 9 .str] ⟨32,[],[(0,.ptr 0 0 0),(3,.row 1)],[.box 99 [.d (.list bR),.d (.int .i64)],.row 9 .str false]⟩ (.b (.d 1 (.j [.gh 3 9 .str] ⟨32,[(4,.str)],[(0,.ptr 0 0 0),(3,.row 1)],[.box 99 [.d (.list bR),.d (.int .i64)],.row 9 .str false]⟩ .o .o)))))) [] Tryz.func130 (cP Mq (cH zM (cH Ip (cH xY c0)))) (by kernel_rfl) λx=>by kernel_rfl
def m84(a0:List ay)(a1:Int):Option (Int×Int×(List ay)×Int×(List ByteArray)×(List DS1)×Unit) :=
 (Pn (-1) a0 a1).bind λNv =>
 (Pm (bs [116,111]) Nv.2.1 Nv.2.2.1).bind λa8w =>
 (Pn Nv.1 a8w.1 a8w.2.1).bind λTa =>
 (qz (bs [58]) Ta.2.1 Ta.2.2.1).bind λa8v =>
 lV (S:=(List ay)×Int×Int×Int×Int×Int×(List ByteArray)×Unit) (R:=Int×Int×(List ay)×Int×(List ByteArray)×(List DS1)×Unit)
 ((pR 1 (bs [114,101,109,111,118,101]) a8v.1 a8v.2.1).bind λNu =>
 cond Nu.1
 ((UH Nu.2.1 Nu.2.2.1).bind λa0R =>
 (qz (bs [59]) a0R.1 a0R.2.1).bind λa8u =>
 some (.inl (a8u.1,a8u.2.1,0,0,Nv.1,Ta.1,a0R.2.2.1,())))
 (some (.inl (Nu.2.1,Nu.2.2.1,0,0,Nv.1,Ta.1,([]:List ByteArray),()))))
 (λPO =>
 (m81 PO.1 PO.2.1).bind λa0Q =>
 (Pm (bs [101,110,100]) a0Q.1 a0Q.2.1).bind λa8t =>
 (qz (bs [59]) a8t.1 a8t.2.1).bind λa8s =>
 some (PO.2.2.2.2.1,PO.2.2.2.2.2.1,a8s.1,a8s.2.1,PO.2.2.2.2.2.2.1,a0Q.2.2.1,()))
def b5V:Sh:=⟨1,[],[(0,.ptr 0 0 0)],[.box 99 [.d (.list bR),.d (.int .i64)]]⟩
def b4E:Sh:=⟨1,[],[(0,.agg [.d (.int .i64),.d (.int .i64),.row 1,.row 2])],[.box 99 [.d (.list bR),.d (.int .i64)],.row 9 .str false,.row 37 tS1 false]⟩
def h84:HI:=⟨84,b5V,b4E,fun(x:(List ay)×Int×Unit)=>m84 x.1 x.2.1,[]⟩
theorem b5u:HK h84:=hk (.d 6 (.j [.ghc 3 2 9 .str] ⟨34,[],[(0,.ptr 0 0 0),(2,.ptr 1 0 0),(3,.ptr 2 0 0)],[.box 99 [.d (.list bR),.d (.int .i64)],.box 55 [.d (.int .i64),.d (.int .i64),.nil,.nil],.box 55 [.d (.int .i64),.d (.int .i64),.row 3,.nil],.row 9 .str false]⟩ .o .o)) [] Tryz.func84 (cH b1l (cH Yj (cH Iq (cH zM (cH b1k (cH a4l c0)))))) (by kernel_rfl) λx=>by kernel_rfl
def m47(a0:List ay)(a1:Int):Option ((List ay)×Int×(List DS1)×(List DS3)×Unit) :=
 (m81 a0 a1).bind λa0P =>
 bK (S:=(List ay)×Int×(List DS1)×(List DS3)×Unit) (R:=(List ay)×Int×(List DS1)×(List DS3)×Unit) (λxu =>
 (m82 1 (bs [101,110,100,111,114,115,101]) xu.1 xu.2.1).bind λzA =>
 cond zA.1
 (cond (iEq (aA xu.2.2.2.1) 12)
 ((m83 4 zA.2.1 zA.2.2.1).bind λa8r =>
 (m84 a8r.1 (aR .i64 a8r.2.1 1)).bind λAL =>
 cond (fits (List.length xu.2.2.2.1+List.length ([((AL.1,AL.2.1,()),AL.2.2.2.2.1,AL.2.2.2.2.2.1,())]:List DS3)) 64)
 (some (.inl (AL.2.2.1,AL.2.2.2.1,xu.2.2.1,xu.2.2.2.1++([((AL.1,AL.2.1,()),AL.2.2.2.2.1,AL.2.2.2.2.2.1,())]:List DS3),()))) none)
 ((m84 zA.2.1 (aR .i64 zA.2.2.1 1)).bind λAJ =>
 cond (fits (List.length xu.2.2.2.1+List.length ([((AJ.1,AJ.2.1,()),AJ.2.2.2.2.1,AJ.2.2.2.2.2.1,())]:List DS3)) 64)
 (some (.inl (AJ.2.2.1,AJ.2.2.2.1,xu.2.2.1,xu.2.2.2.1++([((AJ.1,AJ.2.1,()),AJ.2.2.2.2.1,AJ.2.2.2.2.2.1,())]:List DS3),()))) none))
 (Option.map Sum.inr (cond (iLt zA.2.2.1 (aA zA.2.1))
 ((m83 5 zA.2.1 zA.2.2.1).bind λa8q =>
 some (a8q.1,a8q.2.1,xu.2.2.1,xu.2.2.2.1,()))
 (some (zA.2.1,zA.2.2.1,xu.2.2.1,xu.2.2.2.1,())))))
 (a0P.1,a0P.2.1,a0P.2.2.1,([]:List DS3),())
def b55:Sh:=⟨1,[],[(0,.ptr 0 0 0)],[.box 99 [.d (.list bR),.d (.int .i64)]]⟩
def b4O:Sh:=⟨1,[],[(0,.agg [.row 1,.row 2])],[.box 99 [.d (.list bR),.d (.int .i64)],.row 37 tS1 false,.row 55 tS3 false]⟩
def h47:HI:=⟨47,b55,b4O,fun(x:(List ay)×Int×Unit)=>m47 x.1 x.2.1,[]⟩
theorem b5B:HK h47:=hk (.d 2 (.s (.b (.l [.ghc 3 1 55 tS3] ⟨42,[],[(0,.ptr 0 0 0),(2,.ptr 1 0 0),(3,.ptr 2 0 0)],[.box 99 [.d (.list bR),.d (.int .i64)],.box 29 [.nil,.nil],.box 29 [.row 3,.row 4],.row 37 tS1 false,.row 55 tS3 false]⟩ (.d 1 (.b (.d 2 (.u [0])))))) .o)) [.ghc 2 1 55 tS3] Tryz.func47 (cH a4l (cH Mr (cH xY (cH b5u c0)))) (by kernel_rfl) λx=>by kernel_rfl
def m14(a0:List Int):Option ((List Int)×Int×Unit) :=
 some (a0,0,())
def b6d:Sh:=⟨1,[(0,(.list (.int .i64)))],[],[]⟩
def b4W:Sh:=⟨1,[],[(0,.ptr 0 0 0)],[.box 65 [.d (.list (.int .i64)),.d (.int .i64)]]⟩
def h14:HI:=⟨14,b6d,b4W,fun(x:(List Int)×Unit)=>m14 x.1,[]⟩
theorem b5F:HK h14:=hk .o [] Tryz.func14 c0 (by kernel_rfl) λx=>by kernel_rfl
def m24(a0:Int)(a1:List Int)(a2:Int):Option (Int×(List Int)×Int×Unit) :=
 cond (iLe (aA a1) a2)
 (some (0,a1,a2,()))
 (cond (bnd (dQ .i64 (aR .i64 a2 1) 1) (aA a1))
 (cond (iNe a0 0)
 (cond (iNe a0 0)
 (some (jC (aR .i64 (jC (atI a1 (dQ .i64 (aR .i64 a2 1) 1) 0) a0) a0) a0,a1,aR .i64 a2 1,())) none) none) none)
def b6b:Sh:=⟨2,[(1,(.int .i64))],[(0,.ptr 0 0 0)],[.box 65 [.d (.list (.int .i64)),.d (.int .i64)]]⟩
def b4U:Sh:=⟨1,[(0,(.int .i64))],[],[.box 65 [.d (.list (.int .i64)),.d (.int .i64)]]⟩
def h24:HI:=⟨24,b6b,b4U,fun(x:Int×(List Int)×Int×Unit)=>m24 x.1 x.2.1 x.2.2.1,[]⟩
theorem uU:HK h24:=hk .o [] Tryz.func24 c0 (by kernel_rfl) λx=>by kernel_rfl
def m11(a0:Int)(a1:Int):Option (Int×Unit) :=
 cond (iNe a1 0)
 (cond (iNe a1 0)
 (some (jC (aR .i64 (jC a0 a1) a1) a1,())) none) none
def i11:PI:=⟨11,[(.int .i64),(.int .i64)],[(.int .i64)],fun(x:Int×Int×Unit)=>m11 x.1 x.2.1⟩
theorem b5o:PK i11:=pk .o Tryz.func11 c0 (by kernel_rfl) λx=>by kernel_rfl
def m51:Option (DS5×Unit) :=
 some (((bs [112,101,114,105,108]),1,([(bs [102,105,114,101]),(bs [102,108,111,111,100]),(bs [119,105,110,100]),(bs [116,104,101,102,116])]:List ByteArray),0,0,()),())
def i51:PI:=⟨51,[],[tS5],fun(x:Unit)=>m51⟩
theorem b5f:PK i51:=pk .o Tryz.func51 c0 (by kernel_rfl) λx=>by kernel_rfl
def m23(a0:Int):Option (DS6×Unit) :=
 (m11 a0 6).bind λNt =>
 cond (iEq Nt.1 0)
 ((m51).bind λb9c =>
 some ((([b9c.1,((bs [115,116,111,114,101,121,115]),2,([]:List ByteArray),1,9,()),((bs [97,108,97,114,109]),3,([]:List ByteArray),0,0,())]:List DS5),()),()))
 (cond (iEq Nt.1 1)
 (some ((([((bs [110]),2,([]:List ByteArray),(-5),20,())]:List DS5),()),()))
 (cond (iEq Nt.1 2)
 (some ((([((bs [97]),3,([]:List ByteArray),0,0,()),((bs [114,111,108,101]),1,([(bs [99,114,101,119]),(bs [103,117,101,115,116])]:List ByteArray),0,0,()),((bs [98]),3,([]:List ByteArray),0,0,())]:List DS5),()),()))
 (cond (iEq Nt.1 3)
 (some ((([((bs [110]),2,([]:List ByteArray),(-1000000000),1000000000,()),((bs [116]),3,([]:List ByteArray),0,0,())]:List DS5),()),()))
 (cond (iEq Nt.1 4)
 ((m51).bind λb9b =>
 some ((([((bs [111,110,101]),1,([(bs [111,110,108,121])]:List ByteArray),0,0,()),b9b.1,((bs [110]),2,([]:List ByteArray),0,6,()),((bs [116]),3,([]:List ByteArray),0,0,())]:List DS5),()),()))
 (some ((([((bs [116]),3,([]:List ByteArray),0,0,())]:List DS5),()),()))))))
def i23:PI:=⟨23,[(.int .i64)],[tS6],fun(x:Int×Unit)=>m23 x.1⟩
theorem b5k:PK i23:=pk .o Tryz.func23 (cP b5o (cP b5f c0)) (by kernel_rfl) λx=>by kernel_rfl
def m86(a0:ByteArray)(a1:Int):Option (ByteArray×Unit) :=
 cond (iNe 26 0)
 (cond (iNe 26 0)
 (cond (iNe 26 0)
 (cond (nu a0 (bsI ([IntKind.wrap .u8 (aR .i64 97 (jC (K7 .i64 a1 26) 26)),IntKind.wrap .u8 (aR .i64 97 (jC a1 26))]:List Int)))
 (some (iJ a0 (bsI ([IntKind.wrap .u8 (aR .i64 97 (jC (K7 .i64 a1 26) 26)),IntKind.wrap .u8 (aR .i64 97 (jC a1 26))]:List Int)),())) none) none) none) none
def i86:PI:=⟨86,[.str,(.int .i64)],[.str],fun(x:ByteArray×Int×Unit)=>m86 x.1 x.2.1⟩
theorem b49:PK i86:=pk .o Tryz.func86 c0 (by kernel_rfl) λx=>by kernel_rfl
def m88(a0:Int)(a1:Int)(a2:List Int)(a3:Int):Option (Int×(List Int)×Int×Unit) :=
 (m24 (aR .i64 (dQ .i64 a1 a0) 1) a2 a3).bind λa0N =>
 some (aR .i64 a0 a0N.1,a0N.2.1,a0N.2.2.1,())
def b5S:Sh:=⟨3,[(1,(.int .i64)),(2,(.int .i64))],[(0,.ptr 0 0 0)],[.box 65 [.d (.list (.int .i64)),.d (.int .i64)]]⟩
def b4B:Sh:=⟨1,[(0,(.int .i64))],[],[.box 65 [.d (.list (.int .i64)),.d (.int .i64)]]⟩
def h88:HI:=⟨88,b5S,b4B,fun(x:Int×Int×(List Int)×Int×Unit)=>m88 x.1 x.2.1 x.2.2.1 x.2.2.2.1,[]⟩
theorem Im:HK h88:=hk .o [] Tryz.func88 (cH uU c0) (by kernel_rfl) λx=>by kernel_rfl
def Uz(a0:DS6)(a1:List Int)(a2:Int):Option (DS0×(List Int)×Int×Unit) :=
 (m24 (aA a0.1) a1 a2).bind λkG =>
 cond (bnd kG.1 (aA a0.1))
 (cond (iEq ((atI a0.1 kG.1 zS5).2.1) 3)
 (some ((3,(atI a0.1 kG.1 zS5).1,([]:List ByteArray),0,0,([]:List AV),()),kG.2.1,kG.2.2.1,()))
 (cond (iEq ((atI a0.1 kG.1 zS5).2.1) 1)
 ((m24 (aA ((atI a0.1 kG.1 zS5).2.2.1)) kG.2.1 kG.2.2.1).bind λa0M =>
 (m88 1 (aA ((atI a0.1 kG.1 zS5).2.2.1)) a0M.2.1 a0M.2.2.1).bind λa0L =>
 bK (S:=Int×Int×(List Int)×Int×Int×ByteArray×Int×Int×ByteArray×Int×(List ByteArray)×Int×Int×Int×ByteArray×Int×Int×(List ByteArray)×Unit) (R:=DS0×(List Int)×Int×Unit) (λjF =>
 cond (iLt 0 jF.2.1)
 (cond (iNe (aA jF.2.2.2.2.2.2.2.2.2.2.1) 0)
 (cond (bnd (jC jF.1 (aA jF.2.2.2.2.2.2.2.2.2.2.1)) (aA jF.2.2.2.2.2.2.2.2.2.2.1))
 (cond (fits (List.length jF.2.2.2.2.2.2.2.2.2.2.2.2.2.2.2.2.2.1+List.length ([atI jF.2.2.2.2.2.2.2.2.2.2.1 (jC jF.1 (aA jF.2.2.2.2.2.2.2.2.2.2.1)) ByteArray.empty]:List ByteArray)) 16)
 (some (.inl (aR .i64 jF.1 1,dQ .i64 jF.2.1 1,jF.2.2.1,jF.2.2.2.1,jF.2.2.2.2.1,jF.2.2.2.2.2.1,jF.2.2.2.2.2.2.1,jF.2.2.2.2.2.2.2.1,jF.2.2.2.2.2.2.2.2.1,jF.2.2.2.2.2.2.2.2.2.1,jF.2.2.2.2.2.2.2.2.2.2.1,jF.2.2.2.2.2.2.2.2.2.2.2.1,jF.2.2.2.2.2.2.2.2.2.2.2.2.1,jF.2.2.2.2.2.2.2.2.2.2.2.2.2.1,jF.2.2.2.2.2.2.2.2.2.2.2.2.2.2.1,jF.2.2.2.2.2.2.2.2.2.2.2.2.2.2.2.1,jF.2.2.2.2.2.2.2.2.2.2.2.2.2.2.2.2.1,jF.2.2.2.2.2.2.2.2.2.2.2.2.2.2.2.2.2.1++([atI jF.2.2.2.2.2.2.2.2.2.2.1 (jC jF.1 (aA jF.2.2.2.2.2.2.2.2.2.2.1)) ByteArray.empty]:List ByteArray),()))) none) none) none)
 (some (.inr ((jF.2.2.2.2.2.2.2.2.2.2.2.2.2.1,jF.2.2.2.2.2.2.2.2.2.2.2.2.2.2.1,jF.2.2.2.2.2.2.2.2.2.2.2.2.2.2.2.2.2.1,jF.2.2.2.2.2.2.2.2.2.2.2.2.2.2.2.1,jF.2.2.2.2.2.2.2.2.2.2.2.2.2.2.2.2.1,([]:List AV),()),jF.2.2.1,jF.2.2.2.1,()))))
 (a0M.1,a0L.1,a0L.2.1,a0L.2.2.1,0,(bs []),0,0,(atI a0.1 kG.1 zS5).1,(atI a0.1 kG.1 zS5).2.1,(atI a0.1 kG.1 zS5).2.2.1,(atI a0.1 kG.1 zS5).2.2.2.1,(atI a0.1 kG.1 zS5).2.2.2.2.1,4,(atI a0.1 kG.1 zS5).1,0,0,([]:List ByteArray),()))
 ((m24 (aR .i64 (dQ .i64 ((atI a0.1 kG.1 zS5).2.2.2.2.1) ((atI a0.1 kG.1 zS5).2.2.2.1)) 1) kG.2.1 kG.2.2.1).bind λa0K =>
 lV (S:=Int×(List Int)×Int×Int×ByteArray×Int×Int×ByteArray×Int×(List ByteArray)×Int×Int×Unit) (R:=DS0×(List Int)×Int×Unit)
 ((m24 2 a0K.2.1 a0K.2.2.1).bind λNs =>
 cond (iEq Ns.1 0)
 ((m24 12 Ns.2.1 Ns.2.2.1).bind λa0J =>
 some (.inl (jv (tu (dQ .i64 a0J.1 4) ((atI a0.1 kG.1 zS5).2.2.2.1)) ((atI a0.1 kG.1 zS5).2.2.2.2.1),a0J.2.1,a0J.2.2.1,0,(bs []),0,0,(atI a0.1 kG.1 zS5).1,(atI a0.1 kG.1 zS5).2.1,(atI a0.1 kG.1 zS5).2.2.1,(atI a0.1 kG.1 zS5).2.2.2.1,(atI a0.1 kG.1 zS5).2.2.2.2.1,())))
 (some (.inl (aR .i64 ((atI a0.1 kG.1 zS5).2.2.2.1) a0K.1,Ns.2.1,Ns.2.2.1,0,(bs []),0,0,(atI a0.1 kG.1 zS5).1,(atI a0.1 kG.1 zS5).2.1,(atI a0.1 kG.1 zS5).2.2.1,(atI a0.1 kG.1 zS5).2.2.2.1,(atI a0.1 kG.1 zS5).2.2.2.2.1,()))))
 (λzT =>
 (m24 (aR .i64 (dQ .i64 zT.2.2.2.2.2.2.2.2.2.2.2.1 zT.1) 1) zT.2.1 zT.2.2.1).bind λa0I =>
 (m24 2 a0I.2.1 a0I.2.2.1).bind λNr =>
 cond (iEq Nr.1 0)
 ((m24 4 Nr.2.1 Nr.2.2.1).bind λa0H =>
 some ((5,zT.2.2.2.2.2.2.2.1,([]:List ByteArray),zT.1,jv (aR .i64 zT.1 a0H.1) zT.2.2.2.2.2.2.2.2.2.2.2.1,([]:List AV),()),a0H.2.1,a0H.2.2.1,()))
 (some ((5,zT.2.2.2.2.2.2.2.1,([]:List ByteArray),zT.1,aR .i64 zT.1 a0I.1,([]:List AV),()),Nr.2.1,Nr.2.2.1,())))))) none
def b2h:Sh:=⟨3,[(1,tS6)],[(0,.ptr 0 0 0),(2,.nil)],[.box 65 [.d (.list (.int .i64)),.d (.int .i64)]]⟩
def a96:Sh:=⟨1,[(0,tS0)],[],[.box 65 [.d (.list (.int .i64)),.d (.int .i64)]]⟩
def c0K:HI:=⟨164,b2h,a96,fun(x:DS6×(List Int)×Int×Unit)=>Uz x.1 x.2.1 x.2.2.1,[]⟩
theorem b1e:HK c0K:=hkz (.d 2 (.s (.u [0]) (.s (.d 1 (.b (.d 1 (.c .o (.d 1 (.c (.d 2 (.s (.d 1 (.b (.l [.ghc 8 2 9 .str] ⟨128,[(9,(.int .i64)),(10,(.int .i64))],[(6,.ptr 1 0 0),(7,.ptr 2 0 0),(8,.ptr 3 0 0)],[.box 65 [.d (.list (.int .i64)),.d (.int .i64)],.box 34 [.d (.int .i64),.d .str,.nil,.d (.int .i64),.d (.int .i64),.nil],.box 106 [.d .str,.d (.int .i64),.d (.list .str),.d (.int .i64),.d (.int .i64)],.box 34 [.d (.int .i64),.d .str,.row 4,.d (.int .i64),.d (.int .i64),.nil],.row 9 .str false]⟩ .o))) .o)) .o)))))) (.s (.u [0]) (.j [] ⟨128,[(11,(.int .i64))],[(0,.ptr 0 0 0),(6,.ptr 1 0 0),(7,.ptr 2 0 0)],[.box 65 [.d (.list (.int .i64)),.d (.int .i64)],.box 34 [.d (.int .i64),.d .str,.nil,.d (.int .i64),.d (.int .i64),.nil],.box 106 [.d .str,.d (.int .i64),.d (.list .str),.d (.int .i64),.d (.int .i64)]]⟩ (.d 1 (.c (.u [0]) .o)) (.d 1 (.s (.d 1 (.c (.u [0]) .o)) .o))))))) [] tS0 Tryz.func164 (cH uU (cH Im c0)) (by kernel_rfl) λx=>by kernel_rfl
def MI(self:(DS6×Int×(List Int)×Int×Unit)->Option (DS0×(List Int)×Int×Unit))(a0:DS6)(a1:Int)(a2:List Int)(a3:Int):Option (DS0×(List Int)×Int×Unit) :=
 (m24 8 a2 a3).bind λC9 =>
 cond (cond (iLt a1 2) true (iLt C9.1 4))
 ((m24 12 C9.2.1 C9.2.2.1).bind λDn =>
 cond (iEq Dn.1 10)
 (some ((1,(bs []),([]:List ByteArray),0,0,([]:List AV),()),Dn.2.1,Dn.2.2.1,()))
 (cond (iEq Dn.1 11)
 (some ((2,(bs []),([]:List ByteArray),0,0,([]:List AV),()),Dn.2.1,Dn.2.2.1,()))
 ((Uz (a0.1,()) Dn.2.1 Dn.2.2.1).bind λDm =>
 some ((Dm.1.1,Dm.1.2.1,Dm.1.2.2.1,Dm.1.2.2.2.1,Dm.1.2.2.2.2.1,Dm.1.2.2.2.2.2.1,()),Dm.2.1,Dm.2.2.1,()))))
 (cond (iLt C9.1 6)
 ((self ((a0.1,()),dQ .i64 a1 1,C9.2.1,C9.2.2.1,())).bind λa0G =>
 some ((6,(bs []),([]:List ByteArray),0,0,ou ([a0G.1]:List DS0),()),a0G.2.1,a0G.2.2.1,()))
 ((m88 2 3 C9.2.1 C9.2.2.1).bind λa0F =>
 bK (S:=Int×Int×(List Int)×Int×(List DS5)×Int×ByteArray×Int×Int×Int×ByteArray×Int×Int×(List DS0)×Unit) (R:=DS0×(List Int)×Int×Unit) (λnG =>
 cond (iLt 0 nG.2.1)
 ((self ((nG.2.2.2.2.1,()),dQ .i64 nG.1 1,nG.2.2.1,nG.2.2.2.1,())).bind λT9 =>
 cond (fits (List.length nG.2.2.2.2.2.2.2.2.2.2.2.2.2.1+List.length ([T9.1]:List DS0)) 88)
 (some (.inl (nG.1,dQ .i64 nG.2.1 1,T9.2.1,T9.2.2.1,nG.2.2.2.2.1,nG.2.2.2.2.2.1,nG.2.2.2.2.2.2.1,nG.2.2.2.2.2.2.2.1,nG.2.2.2.2.2.2.2.2.1,nG.2.2.2.2.2.2.2.2.2.1,nG.2.2.2.2.2.2.2.2.2.2.1,nG.2.2.2.2.2.2.2.2.2.2.2.1,nG.2.2.2.2.2.2.2.2.2.2.2.2.1,nG.2.2.2.2.2.2.2.2.2.2.2.2.2.1++([T9.1]:List DS0),()))) none)
 (some (.inr ((nG.2.2.2.2.2.2.2.2.2.1,nG.2.2.2.2.2.2.2.2.2.2.1,([]:List ByteArray),nG.2.2.2.2.2.2.2.2.2.2.2.1,nG.2.2.2.2.2.2.2.2.2.2.2.2.1,ou nG.2.2.2.2.2.2.2.2.2.2.2.2.2.1,()),nG.2.2.1,nG.2.2.2.1,()))))
 (a1,a0F.1,a0F.2.1,a0F.2.2.1,a0.1,0,(bs []),0,0,aR .i64 C9.1 1,(bs []),0,0,([]:List DS0),())))
def Pk(a0:DS6)(a1:Int)(a2:List Int)(a3:Int):Option (DS0×(List Int)×Int×Unit):=eH (λself (x:DS6×Int×(List Int)×Int×Unit)=>MI self x.1 x.2.1 x.2.2.1 x.2.2.2.1) 10000 (a0,a1,a2,a3,())
def YQ:Sh:=⟨4,[(1,tS6),(3,(.int .i64))],[(0,.ptr 0 0 0),(2,.nil)],[.box 65 [.d (.list (.int .i64)),.d (.int .i64)]]⟩
def Y0:Sh:=⟨1,[(0,tS0)],[],[.box 65 [.d (.list (.int .i64)),.d (.int .i64)]]⟩
def c0T:HI:=⟨131,YQ,Y0,fun(x:DS6×Int×(List Int)×Int×Unit)=>Pk x.1 x.2.1 x.2.2.1 x.2.2.2.1,[]⟩
theorem Yi:HK c0T:=rC 10000 (ish:=YQ) (osh:=Y0) (G:=λself (x:DS6×Int×(List Int)×Int×Unit)=>MI self x.1 x.2.1 x.2.2.1 x.2.2.2.1) (mK (f:=Tryz.f131) (by kernel_rfl)) λself hr=>hkz (.d 4 (.s (.d 1 (.b (.l [.ghc 10 5 34 tS0] ⟨65,[(3,(.int .i64)),(11,(.int .i64))],[(0,.ptr 0 0 0),(2,.nil),(5,.ptr 1 0 0),(8,.ptr 2 0 0),(10,.ptr 3 0 0)],[.box 65 [.d (.list (.int .i64)),.d (.int .i64)],.box 59 [.d (.list tS5)],.box 34 [.d (.int .i64),.d .str,.nil,.d (.int .i64),.d (.int .i64),.nil],.box 34 [.d (.int .i64),.d .str,.nil,.d (.int .i64),.d (.int .i64),.row 4],.row 34 tS0 false]⟩ (.d 1 (.s (.b (.u [0])) .o))))) .o)) [] tS0 Tryz.func131 (cH hr (cH b1e (cH uU (cH Im c0)))) (by kernel_rfl) λx=>by kernel_rfl
def MH(self:(DS6×Int×(List Int)×Int×Unit)->Option ((List AV)×(List Int)×Int×Unit))(a0:DS6)(a1:Int)(a2:List Int)(a3:Int):Option ((List AV)×(List Int)×Int×Unit) :=
 (m24 3 a2 a3).bind λa0E =>
 bK (S:=Int×Int×(List Int)×Int×(List DS5)×(List DS7)×Unit) (R:=(List AV)×(List Int)×Int×Unit) (λvB =>
 cond (cond (iLt 0 vB.2.1) (iLt 0 vB.1) false)
 ((m24 3 vB.2.2.1 vB.2.2.2.1).bind λNq =>
 cond (bnd Nq.1 (aA ([(bs [119]),(bs [120]),(bs [121])]:List ByteArray)))
 ((Pk (vB.2.2.2.2.1,()) 2 Nq.2.1 Nq.2.2.1).bind λvT =>
 (self ((vB.2.2.2.2.1,()),dQ .i64 vB.1 1,vT.2.1,vT.2.2.1,())).bind λSY =>
 cond (fits (List.length vB.2.2.2.2.2.1+List.length ([(atI ([(bs [119]),(bs [120]),(bs [121])]:List ByteArray) Nq.1 ByteArray.empty,(vT.1.1,vT.1.2.1,vT.1.2.2.1,vT.1.2.2.2.1,vT.1.2.2.2.2.1,vT.1.2.2.2.2.2.1,()),SY.1,())]:List DS7)) 128)
 (some (.inl (vB.1,dQ .i64 vB.2.1 1,SY.2.1,SY.2.2.1,vB.2.2.2.2.1,vB.2.2.2.2.2.1++([(atI ([(bs [119]),(bs [120]),(bs [121])]:List ByteArray) Nq.1 ByteArray.empty,(vT.1.1,vT.1.2.1,vT.1.2.2.1,vT.1.2.2.2.1,vT.1.2.2.2.2.1,vT.1.2.2.2.2.2.1,()),SY.1,())]:List DS7),()))) none) none)
 (some (.inr (nA vB.2.2.2.2.2.1,vB.2.2.1,vB.2.2.2.1,()))))
 (a1,a0E.1,a0E.2.1,a0E.2.2.1,a0.1,([]:List DS7),())
def UG(a0:DS6)(a1:Int)(a2:List Int)(a3:Int):Option ((List AV)×(List Int)×Int×Unit):=eH (λself (x:DS6×Int×(List Int)×Int×Unit)=>MH self x.1 x.2.1 x.2.2.1 x.2.2.2.1) 10000 (a0,a1,a2,a3,())
def YP:Sh:=⟨4,[(1,tS6),(3,(.int .i64))],[(0,.ptr 0 0 0),(2,.nil)],[.box 65 [.d (.list (.int .i64)),.d (.int .i64)]]⟩
def XZ:Sh:=⟨1,[(0,(.rl 63 8))],[],[.box 65 [.d (.list (.int .i64)),.d (.int .i64)]]⟩
def c0S:HI:=⟨132,YP,XZ,fun(x:DS6×Int×(List Int)×Int×Unit)=>UG x.1 x.2.1 x.2.2.1 x.2.2.2.1,[]⟩
theorem b1j:HK c0S:=rC 10000 (ish:=YP) (osh:=XZ) (G:=λself (x:DS6×Int×(List Int)×Int×Unit)=>MH self x.1 x.2.1 x.2.2.1 x.2.2.2.1) (mK (f:=Tryz.f132) (by kernel_rfl)) λself hr=>hkz (.d 2 (.s (.d 1 (.b (.l [.gh 9 63 tS7] ⟨41,[(3,(.int .i64)),(10,(.int .i64))],[(0,.ptr 0 0 0),(2,.nil),(5,.ptr 1 0 0),(9,.row 2)],[.box 65 [.d (.list (.int .i64)),.d (.int .i64)],.box 59 [.d (.list tS5)],.row 63 tS7 false]⟩ (.d 1 (.s (.b (.u [0])) .o))))) .o)) [] (.rl 63 8) Tryz.func132 (cH hr (cH Yi (cH uU c0))) (by kernel_rfl) λx=>by kernel_rfl
def yP(a0:Int):Option (Int×Unit) :=
 cond (iEq a0 5)
 (some (1073741824,()))
 (cond (iEq a0 6)
 (some (1073741824,()))
 (cond (iEq a0 7)
 (some (1073741824,()))
 (cond (iEq a0 10)
 (some (1073741824,()))
 (cond (iEq a0 8)
 (some (1000000,()))
 (some (0,()))))))
def c0h:PI:=⟨101,[(.int .i64)],[(.int .i64)],fun(x:Int×Unit)=>yP x.1⟩
theorem OQ:PK c0h:=pk .o Tryz.func101 c0 (by kernel_rfl) λx=>by kernel_rfl
def Ei(a0:Int)(a1:List Int)(a2:Int):Option (Int×(List Int)×Int×Unit) :=
 (m24 6 a1 a2).bind λvS =>
 cond (iEq vS.1 0)
 ((m24 4 vS.2.1 vS.2.2.1).bind λa0D =>
 some (jv a0D.1 a0,a0D.2.1,a0D.2.2.1,()))
 (cond (iEq vS.1 1)
 ((m24 100 vS.2.1 vS.2.2.1).bind λa0C =>
 some (jv a0C.1 a0,a0C.2.1,a0C.2.2.1,()))
 (cond (iEq vS.1 2)
 ((m24 1048576 vS.2.1 vS.2.2.1).bind λa0B =>
 some (jv a0B.1 a0,a0B.2.1,a0B.2.2.1,()))
 (cond (iEq vS.1 3)
 ((m24 (jv 3 (aR .i64 a0 1)) vS.2.1 vS.2.2.1).bind λa0A =>
 some (dQ .i64 a0 a0A.1,a0A.2.1,a0A.2.2.1,()))
 ((m24 (aR .i64 a0 1) vS.2.1 vS.2.2.1).bind λa0z =>
 some (a0z.1,a0z.2.1,a0z.2.2.1,())))))
def b2l:Sh:=⟨2,[(1,(.int .i64))],[(0,.ptr 0 0 0)],[.box 65 [.d (.list (.int .i64)),.d (.int .i64)]]⟩
def b0a:Sh:=⟨1,[(0,(.int .i64))],[],[.box 65 [.d (.list (.int .i64)),.d (.int .i64)]]⟩
def c0R:HI:=⟨133,b2l,b0a,fun(x:Int×(List Int)×Int×Unit)=>Ei x.1 x.2.1 x.2.2.1,[]⟩
theorem Yh:HK c0R:=hk .o [] Tryz.func133 (cH uU c0) (by kernel_rfl) λx=>by kernel_rfl
def m85(a0:DS6)(a1:Int)(a2:ByteArray)(a3:List Int)(a4:Int):Option (DS1×(List Int)×Int×Unit) :=
 (Pk (a0.1,()) 3 a3 a4).bind λlK =>
 cond (iEq a1 3)
 ((UG (a0.1,()) 2 lK.2.1 lK.2.2.1).bind λJp =>
 (yP a1).bind λa8o =>
 cond (iLt 0 a8o.1)
 ((Ei (dQ .i64 a8o.1 1) Jp.2.1 Jp.2.2.1).bind λa0y =>
 some ((a1,a2,(lK.1.1,lK.1.2.1,lK.1.2.2.1,lK.1.2.2.2.1,lK.1.2.2.2.2.1,lK.1.2.2.2.2.2.1,()),Jp.1,aR .i64 1 a0y.1,()),a0y.2.1,a0y.2.2.1,()))
 (some ((a1,a2,(lK.1.1,lK.1.2.1,lK.1.2.2.1,lK.1.2.2.2.1,lK.1.2.2.2.2.1,lK.1.2.2.2.2.2.1,()),Jp.1,0,()),Jp.2.1,Jp.2.2.1,())))
 ((yP a1).bind λa8n =>
 cond (iLt 0 a8n.1)
 ((Ei (dQ .i64 a8n.1 1) lK.2.1 lK.2.2.1).bind λa0x =>
 some ((a1,a2,(lK.1.1,lK.1.2.1,lK.1.2.2.1,lK.1.2.2.2.1,lK.1.2.2.2.2.1,lK.1.2.2.2.2.2.1,()),([]:List AV),aR .i64 1 a0x.1,()),a0x.2.1,a0x.2.2.1,()))
 (some ((a1,a2,(lK.1.1,lK.1.2.1,lK.1.2.2.1,lK.1.2.2.2.1,lK.1.2.2.2.2.1,lK.1.2.2.2.2.2.1,()),([]:List AV),0,()),lK.2.1,lK.2.2.1,())))
def b5U:Sh:=⟨5,[(1,tS6),(2,(.int .i64)),(3,.str)],[(0,.ptr 0 0 0),(4,.nil)],[.box 65 [.d (.list (.int .i64)),.d (.int .i64)]]⟩
def b4D:Sh:=⟨1,[(0,tS1)],[],[.box 65 [.d (.list (.int .i64)),.d (.int .i64)]]⟩
def h85:HI:=⟨85,b5U,b4D,fun(x:DS6×Int×ByteArray×(List Int)×Int×Unit)=>m85 x.1 x.2.1 x.2.2.1 x.2.2.2.1 x.2.2.2.2.1,[]⟩
theorem b5t:HK h85:=hkz .o [] tS1 Tryz.func85 (cP OQ (cH Yi (cH b1j (cH Yh c0)))) (by kernel_rfl) λx=>by kernel_rfl
def m87(a0:List Int)(a1:Int):Option (Bool×(List Int)×Int×Unit) :=
 some (iLt a1 (aA a0),a0,a1,())
def b5T:Sh:=⟨1,[],[(0,.ptr 0 0 0)],[.box 65 [.d (.list (.int .i64)),.d (.int .i64)]]⟩
def b4C:Sh:=⟨1,[(0,.bool)],[],[.box 65 [.d (.list (.int .i64)),.d (.int .i64)]]⟩
def h87:HI:=⟨87,b5T,b4C,fun(x:(List Int)×Int×Unit)=>m87 x.1 x.2.1,[]⟩
theorem b5s:HK h87:=hk .o [] Tryz.func87 c0 (by kernel_rfl) λx=>by kernel_rfl
def UD(a0:Int):Option (Bool×Unit) :=
 some (cond (iLe 97 a0) (iLe a0 122) false,())
def b9Y:PI:=⟨149,[(.int .u8)],[.bool],fun(x:Int×Unit)=>UD x.1⟩
theorem b0K:PK b9Y:=pk .o Tryz.func149 c0 (by kernel_rfl) λx=>by kernel_rfl
def UC(a0:Int):Option (Bool×Unit) :=
 some (cond (iLe 48 a0) (iLe a0 57) false,())
def b9X:PI:=⟨150,[(.int .u8)],[.bool],fun(x:Int×Unit)=>UC x.1⟩
theorem b0J:PK b9X:=pk .o Tryz.func150 c0 (by kernel_rfl) λx=>by kernel_rfl
def UM(a0:ByteArray):Option (Bool×Unit) :=
 cond (or (bnd 0 (sLen a0)) (not (bEq (cond (iLt (sLen a0) 1) true (iLt 16 (sLen a0))) false)))
 (cond (cond (iLt (sLen a0) 1) true (iLt 16 (sLen a0)))
 (cond (or (bnd (dQ .i64 (sLen a0) 1) (sLen a0)) (not (bEq true false)))
 (some (false,())) none)
 ((UD (sAt a0 0)).bind λa8m =>
 cond (or (bnd (dQ .i64 (sLen a0) 1) (sLen a0)) (not (bEq (not a8m.1) false)))
 (cond (cond (not a8m.1) true (iEq (sAt a0 (dQ .i64 (sLen a0) 1)) 45))
 (some (false,()))
 (bK (S:=ByteArray×Int×Unit) (R:=Bool×Unit) (λqw =>
 cond (iLt qw.2.1 (sLen qw.1))
 (cond (bnd qw.2.1 (sLen qw.1))
 ((UD (sAt qw.1 qw.2.1)).bind λa8l =>
 cond (or (bnd qw.2.1 (sLen qw.1)) (not (bEq (not a8l.1) true)))
 (cond (not a8l.1)
 ((UC (sAt qw.1 qw.2.1)).bind λa8k =>
 cond (or (bnd qw.2.1 (sLen qw.1)) (not (bEq (not a8k.1) true)))
 (cond (cond (not a8k.1) (iNe (sAt qw.1 qw.2.1) 45) false)
 (some (.inr (false,())))
 (some (.inl (qw.1,aR .i64 qw.2.1 1,())))) none)
 (cond (or (bnd qw.2.1 (sLen qw.1)) (not (bEq false true)))
 (some (.inl (qw.1,aR .i64 qw.2.1 1,()))) none)) none) none)
 (some (.inr (true,()))))
 (a0,0,()))) none)) none
def c0g:PI:=⟨102,[.str],[.bool],fun(x:ByteArray×Unit)=>UM x.1⟩
theorem b06:PK c0g:=pk (.d 2 (.s (.d 1 (.b (.l [] ⟨50,[(0,.str),(3,(.int .i64))],[],[]⟩ .o))) .o)) Tryz.func102 (cP b0K (cP b0J c0)) (by kernel_rfl) λx=>by kernel_rfl
def Gs(a0:ByteArray):Option (Bool×Unit) :=
 cond (sEq a0 (bs [97,110,100]))
 (some (true,()))
 (cond (sEq a0 (bs [97,118,101,114,97,103,101]))
 (some (true,()))
 (cond (sEq a0 (bs [99,111,105,110,115,117,114,97,110,99,101]))
 (some (true,()))
 (cond (sEq a0 (bs [99,111,110,100,105,116,105,111,110]))
 (some (true,()))
 (cond (sEq a0 (bs [99,111,118,101,114]))
 (some (true,()))
 (cond (sEq a0 (bs [100,101,100,117,99,116,105,98,108,101]))
 (some (true,()))
 (cond (sEq a0 (bs [100,101,102,105,110,101]))
 (some (true,()))
 (cond (sEq a0 (bs [101,110,100]))
 (some (true,()))
 (cond (sEq a0 (bs [101,110,100,111,114,115,101]))
 (some (true,()))
 (cond (sEq a0 (bs [101,120,99,108,117,100,101]))
 (some (true,()))
 (cond (sEq a0 (bs [102,97,108,115,101]))
 (some (true,()))
 (cond (sEq a0 (bs [102,114,97,110,99,104,105,115,101]))
 (some (true,()))
 (cond (sEq a0 (bs [102,114,111,109]))
 (some (true,()))
 (cond (sEq a0 (bs [105,110]))
 (some (true,()))
 (cond (sEq a0 (bs [108,105,109,105,116]))
 (some (true,()))
 (cond (sEq a0 (bs [110,111,116]))
 (some (true,()))
 (cond (sEq a0 (bs [111,114]))
 (some (true,()))
 (cond (sEq a0 (bs [114,101,109,111,118,101]))
 (some (true,()))
 (cond (sEq a0 (bs [115,117,98,108,105,109,105,116]))
 (some (true,()))
 (cond (sEq a0 (bs [116,111]))
 (some (true,()))
 (cond (sEq a0 (bs [116,114,117,101]))
 (some (true,()))
 (cond (sEq a0 (bs [117,110,108,101,115,115]))
 (some (true,()))
 (cond (sEq a0 (bs [119,104,101,110]))
 (some (true,()))
 (some (false,()))))))))))))))))))))))))
def c0f:PI:=⟨103,[.str],[.bool],fun(x:ByteArray×Unit)=>Gs x.1⟩
theorem b05:PK c0f:=pk .o Tryz.func103 c0 (by kernel_rfl) λx=>by kernel_rfl
def m57(a0:ByteArray):Option (Bool×Unit) :=
 (UM a0).bind λb89 =>
 cond b89.1
 ((Gs a0).bind λb88 =>
 some (not b88.1,()))
 (some (false,()))
def i57:PI:=⟨57,[.str],[.bool],fun(x:ByteArray×Unit)=>m57 x.1⟩
theorem Ik:PK i57:=pk .o Tryz.func57 (cP b06 (cP b05 c0)) (by kernel_rfl) λx=>by kernel_rfl
def m29(a0:List ByteArray):Option (Bool×Unit) :=
 bK (S:=(List ByteArray)×Int×Unit) (R:=Bool×Unit) (λDL =>
 cond (iLt DL.2.1 (aA DL.1))
 (cond (bnd DL.2.1 (aA DL.1))
 ((m57 (atI DL.1 DL.2.1 ByteArray.empty)).bind λb87 =>
 cond (not b87.1)
 (some (.inr (false,())))
 (some (.inl (DL.1,aR .i64 DL.2.1 1,())))) none)
 (some (.inr (true,()))))
 (a0,0,())
def i29:PI:=⟨29,[(.list .str)],[.bool],fun(x:(List ByteArray)×Unit)=>m29 x.1⟩
theorem Uc:PK i29:=pk (.d 1 (.s (.d 1 (.b (.l [] ⟨16,[(0,(.list .str)),(3,(.int .i64))],[],[]⟩ .o))) .o)) Tryz.func29 (cP Ik c0) (by kernel_rfl) λx=>by kernel_rfl
def m30(a0:List ByteArray):Option (Bool×Unit) :=
 bK (S:=(List ByteArray)×Int×Unit) (R:=Bool×Unit) (λU1 =>
 cond (iLt U1.2.1 (aA U1.1))
 (bK (S:=(List ByteArray)×Int×Int×Unit) (R:=((List ByteArray)×Int×Unit)⊕(Bool×Unit)) (λvw =>
 cond (iLt vw.2.2.1 vw.2.1)
 (cond (bnd vw.2.1 (aA vw.1))
 (cond (bnd vw.2.2.1 (aA vw.1))
 (cond (sEq (atI vw.1 vw.2.1 ByteArray.empty) (atI vw.1 vw.2.2.1 ByteArray.empty))
 (some (.inr (.inr (false,()))))
 (some (.inl (vw.1,vw.2.1,aR .i64 vw.2.2.1 1,())))) none) none)
 (some (.inr (.inl (vw.1,aR .i64 vw.2.1 1,())))))
 (U1.1,U1.2.1,0,()))
 (some (.inr (true,()))))
 (a0,0,())
def i30:PI:=⟨30,[(.list .str)],[.bool],fun(x:(List ByteArray)×Unit)=>m30 x.1⟩
theorem Ub:PK i30:=pk (.d 1 (.s (.d 1 (.b (.l [] ⟨25,[(0,(.list .str)),(3,(.int .i64))],[],[]⟩ (.d 1 (.s (.b (.d 1 (.b (.l [] ⟨25,[(0,(.list .str)),(3,(.int .i64)),(4,(.int .i64))],[],[]⟩ .o)))) .o))))) .o)) Tryz.func30 c0 (by kernel_rfl) λx=>by kernel_rfl
def yO(a0:Int):Option (Bool×Unit) :=
 some (cond (iLt 1000000000 a0) true (iLt a0 (-1000000000)),())
def i183:PI:=⟨183,[(.int .i64)],[.bool],fun(x:Int×Unit)=>yO x.1⟩
theorem Y6:PK i183:=pk .o Tryz.func183 c0 (by kernel_rfl) λx=>by kernel_rfl
def Uy(a0:DS5):Option (Int×Unit) :=
 cond (iEq a0.2.1 1)
 (cond (cond (iNe a0.2.2.2.1 0) true (iNe a0.2.2.2.2.1 0))
 (some (20,()))
 (cond (iEq (aA a0.2.2.1) 0)
 (some (19,()))
 (cond (iLt 12 (aA a0.2.2.1))
 (some (4,()))
 ((m29 a0.2.2.1).bind λb86 =>
 cond (not b86.1)
 (some (6,()))
 ((m30 a0.2.2.1).bind λb85 =>
 cond (not b85.1)
 (some (8,()))
 (some (0,())))))))
 (cond (iEq a0.2.1 2)
 (cond (iLt 0 (aA a0.2.2.1))
 (some (20,()))
 (cond (iLt a0.2.2.2.2.1 a0.2.2.2.1)
 (some (1,()))
 ((yO a0.2.2.2.1).bind λb82 =>
 cond b82.1
 (some (1,()))
 ((yO a0.2.2.2.2.1).bind λb81 =>
 cond b81.1
 (some (1,()))
 (some (0,()))))))
 (cond (iEq a0.2.1 3)
 (cond (cond (cond (iLt 0 (aA a0.2.2.1)) true (iNe a0.2.2.2.1 0)) true (iNe a0.2.2.2.2.1 0))
 (some (20,()))
 (some (0,())))
 (some (11,()))))
def b9U:PI:=⟨165,[tS5],[(.int .i64)],fun(x:DS5×Unit)=>Uy x.1⟩
theorem b0E:PK b9U:=pk .o Tryz.func165 (cP Y6 (cP Uc (cP Ub c0))) (by kernel_rfl) λx=>by kernel_rfl
def UF(a0:DS6):Option (Int×Unit) :=
 cond (iEq (aA a0.1) 0)
 (some (19,()))
 (cond (iLt 6 (aA a0.1))
 (some (4,()))
 (bK (S:=Int×(List DS5)×Unit) (R:=Int×Unit) (λrY =>
 cond (iLt rY.1 (aA rY.2.1))
 (cond (bnd rY.1 (aA rY.2.1))
 ((m57 ((atI rY.2.1 rY.1 zS5).1)).bind λb80 =>
 cond (not b80.1)
 (some (.inr (6,())))
 (bK (S:=Int×Int×(List DS5)×ByteArray×Int×(List ByteArray)×Int×Int×Unit) (R:=(Int×(List DS5)×Unit)⊕(Int×Unit)) (λoN =>
 cond (iLt oN.2.1 oN.1)
 (cond (bnd oN.2.1 (aA oN.2.2.1))
 (cond (sEq ((atI oN.2.2.1 oN.2.1 zS5).1) oN.2.2.2.1)
 (some (.inr (.inr (8,()))))
 (some (.inl (oN.1,aR .i64 oN.2.1 1,oN.2.2.1,oN.2.2.2.1,oN.2.2.2.2.1,oN.2.2.2.2.2.1,oN.2.2.2.2.2.2.1,oN.2.2.2.2.2.2.2.1,())))) none)
 (Option.map Sum.inr ((Uy (oN.2.2.2.1,oN.2.2.2.2.1,oN.2.2.2.2.2.1,oN.2.2.2.2.2.2.1,oN.2.2.2.2.2.2.2.1,())).bind λa8j =>
 cond (iNe a8j.1 0)
 (some (.inr (a8j.1,())))
 (some (.inl (aR .i64 oN.1 1,oN.2.2.1,()))))))
 (rY.1,0,rY.2.1,(atI rY.2.1 rY.1 zS5).1,(atI rY.2.1 rY.1 zS5).2.1,(atI rY.2.1 rY.1 zS5).2.2.1,(atI rY.2.1 rY.1 zS5).2.2.2.1,(atI rY.2.1 rY.1 zS5).2.2.2.2.1,()))) none)
 (some (.inr (0,()))))
 (0,a0.1,())))
def b96:PI:=⟨134,[tS6],[(.int .i64)],fun(x:DS6×Unit)=>UF x.1⟩
theorem b0U:PK b96:=pk (.d 3 (.s (.d 1 (.b (.l [] ⟨50,[(3,(.int .i64))],[(1,.ptr 0 0 0)],[.box 59 [.d (.list tS5)]]⟩ (.d 1 (.s (.b (.d 2 (.s (.d 1 (.b (.l [] ⟨50,[(3,(.int .i64)),(5,(.int .i64))],[(1,.ptr 0 0 0),(4,.ptr 1 0 0)],[.box 59 [.d (.list tS5)],.box 106 [.d .str,.d (.int .i64),.d (.list .str),.d (.int .i64),.d (.int .i64)]]⟩ .o))) .o))) .o))))) .o)) Tryz.func134 (cP b0E (cP Ik c0)) (by kernel_rfl) λx=>by kernel_rfl
def MB(self:(DS0×Int×Unit)->Option (Bool×Unit))(a0:DS0)(a1:Int):Option (Bool×Unit) :=
 cond (iEq a1 0)
 (some (true,()))
 (bK (S:=Int×Int×Int×ByteArray×(List ByteArray)×Int×Int×(List AV)×Unit) (R:=Bool×Unit) (λsU =>
 cond (iLt sU.2.1 (aA sU.2.2.2.2.2.2.2.1))
 (cond (and (bnd sU.2.1 (aA sU.2.2.2.2.2.2.2.1)) (qy (atI sU.2.2.2.2.2.2.2.1 sU.2.1 AV.any)))
 ((self (aQ (atI sU.2.2.2.2.2.2.2.1 sU.2.1 AV.any),dQ .i64 sU.1 1,())).bind λb8Y =>
 cond b8Y.1
 (some (.inr (true,())))
 (some (.inl (sU.1,aR .i64 sU.2.1 1,sU.2.2.1,sU.2.2.2.1,sU.2.2.2.2.1,sU.2.2.2.2.2.1,sU.2.2.2.2.2.2.1,sU.2.2.2.2.2.2.2.1,())))) none)
 (some (.inr (false,()))))
 (a1,0,a0.1,a0.2.1,a0.2.2.1,a0.2.2.2.1,a0.2.2.2.2.1,a0.2.2.2.2.2.1,()))
def b1P(a0:DS0)(a1:Int):Option (Bool×Unit):=eH (λself (x:DS0×Int×Unit)=>MB self x.1 x.2.1) 10000 (a0,a1,())
def i146:PI:=⟨146,[tS0,(.int .i64)],[.bool],fun(x:DS0×Int×Unit)=>b1P x.1 x.2.1⟩
theorem b0N:PK i146:=nZ 10000 (ps:=[tS0,(.int .i64)]) (rs:=[.bool]) (G:=λself (x:DS0×Int×Unit)=>MB self x.1 x.2.1) (mK (f:=Tryz.f146) (by kernel_rfl)) λself hr=>pk (.d 2 (.s (.d 1 (.b (.l [] ⟨23,[(1,(.int .i64)),(5,(.int .i64))],[(2,.ptr 0 0 0)],[.box 34 [.d (.int .i64),.d .str,.d (.list .str),.d (.int .i64),.d (.int .i64),.d (.rl 34 6)]]⟩ .o))) .o)) Tryz.func146 (cP hr c0) (by kernel_rfl) λx=>by kernel_rfl
def Mx(self:(DS0×Unit)->Option (Int×Unit))(a0:DS0):Option (Int×Unit) :=
 bK (S:=Int×Int×Int×ByteArray×(List ByteArray)×Int×Int×(List AV)×Unit) (R:=Int×Unit) (λrX =>
 cond (cond (iLt rX.2.1 (aA rX.2.2.2.2.2.2.2.1)) (iLe rX.1 300) false)
 (cond (and (bnd rX.2.1 (aA rX.2.2.2.2.2.2.2.1)) (qy (atI rX.2.2.2.2.2.2.2.1 rX.2.1 AV.any)))
 ((self (aQ (atI rX.2.2.2.2.2.2.2.1 rX.2.1 AV.any),())).bind λb8W =>
 some (.inl (aR .i64 rX.1 b8W.1,aR .i64 rX.2.1 1,rX.2.2.1,rX.2.2.2.1,rX.2.2.2.2.1,rX.2.2.2.2.2.1,rX.2.2.2.2.2.2.1,rX.2.2.2.2.2.2.2.1,()))) none)
 (some (.inr (jv rX.1 301,()))))
 (1,0,a0.1,a0.2.1,a0.2.2.1,a0.2.2.2.1,a0.2.2.2.2.1,a0.2.2.2.2.2.1,())
def b1O(a0:DS0):Option (Int×Unit):=eH (λself (x:DS0×Unit)=>Mx self x.1) 10000 (a0,())
def b9Z:PI:=⟨147,[tS0],[(.int .i64)],fun(x:DS0×Unit)=>b1O x.1⟩
theorem b0M:PK b9Z:=nZ 10000 (ps:=[tS0]) (rs:=[(.int .i64)]) (G:=λself (x:DS0×Unit)=>Mx self x.1) (mK (f:=Tryz.f147) (by kernel_rfl)) λself hr=>pk (.d 2 (.s (.d 1 (.b (.l [] ⟨26,[(3,(.int .i64)),(4,(.int .i64))],[(1,.ptr 0 0 0)],[.box 34 [.d (.int .i64),.d .str,.d (.list .str),.d (.int .i64),.d (.int .i64),.d (.rl 34 6)]]⟩ .o))) .o)) Tryz.func147 (cP hr c0) (by kernel_rfl) λx=>by kernel_rfl
def Uv(a0:DS0):Option (Bool×Unit) :=
 cond (cond (iLt a0.1 1) true (iLt 8 a0.1))
 (some (false,()))
 (cond (cond (cond (iEq a0.1 3) true (iEq a0.1 4)) true (iEq a0.1 5))
 ((m57 a0.2.1).bind λb8U =>
 cond (not b8U.1)
 (some (false,()))
 (cond (cond (not (cond (cond (iEq a0.1 3) true (iEq a0.1 4)) true (iEq a0.1 5))) (not (sEq a0.2.1 (bs []))) false)
 (some (false,()))
 (lV (S:=Int×ByteArray×(List ByteArray)×Int×Int×(List AV)×Unit) (R:=Bool×Unit)
 (cond (iEq a0.1 4)
 (cond (cond (iLt (aA a0.2.2.1) 1) true (iLt 12 (aA a0.2.2.1)))
 (some (.inr (false,())))
 ((m29 a0.2.2.1).bind λb8T =>
 cond (not b8T.1)
 (some (.inr (false,())))
 ((m30 a0.2.2.1).bind λb8S =>
 cond (not b8S.1)
 (some (.inr (false,())))
 (some (.inl (a0.1,a0.2.1,a0.2.2.1,a0.2.2.2.1,a0.2.2.2.2.1,a0.2.2.2.2.2.1,()))))))
 (cond (iLt 0 (aA a0.2.2.1))
 (some (.inr (false,())))
 (some (.inl (a0.1,a0.2.1,a0.2.2.1,a0.2.2.2.1,a0.2.2.2.2.1,a0.2.2.2.2.2.1,())))))
 (λpX =>
 cond (iEq pX.1 5)
 ((yO pX.2.2.2.1).bind λb8R =>
 cond b8R.1
 (some (false,()))
 ((yO pX.2.2.2.2.1).bind λb8Q =>
 cond (cond b8Q.1 true (iLt pX.2.2.2.2.1 pX.2.2.2.1))
 (some (false,()))
 (cond (iEq pX.1 6)
 (some (iEq (aA pX.2.2.2.2.2.1) 1,()))
 (cond (iEq pX.1 7)
 (some (iLe 2 (aA pX.2.2.2.2.2.1),()))
 (cond (iEq pX.1 8)
 (some (iLe 2 (aA pX.2.2.2.2.2.1),()))
 (some (iEq (aA pX.2.2.2.2.2.1) 0,())))))))
 (cond (cond (iNe pX.2.2.2.1 0) true (iNe pX.2.2.2.2.1 0))
 (some (false,()))
 (cond (iEq pX.1 6)
 (some (iEq (aA pX.2.2.2.2.2.1) 1,()))
 (cond (iEq pX.1 7)
 (some (iLe 2 (aA pX.2.2.2.2.2.1),()))
 (cond (iEq pX.1 8)
 (some (iLe 2 (aA pX.2.2.2.2.2.1),()))
 (some (iEq (aA pX.2.2.2.2.2.1) 0,()))))))))))
 (cond (cond (not (cond (cond (iEq a0.1 3) true (iEq a0.1 4)) true (iEq a0.1 5))) (not (sEq a0.2.1 (bs []))) false)
 (some (false,()))
 (lV (S:=Int×ByteArray×(List ByteArray)×Int×Int×(List AV)×Unit) (R:=Bool×Unit)
 (cond (iEq a0.1 4)
 (cond (cond (iLt (aA a0.2.2.1) 1) true (iLt 12 (aA a0.2.2.1)))
 (some (.inr (false,())))
 ((m29 a0.2.2.1).bind λb8P =>
 cond (not b8P.1)
 (some (.inr (false,())))
 ((m30 a0.2.2.1).bind λb8O =>
 cond (not b8O.1)
 (some (.inr (false,())))
 (some (.inl (a0.1,a0.2.1,a0.2.2.1,a0.2.2.2.1,a0.2.2.2.2.1,a0.2.2.2.2.2.1,()))))))
 (cond (iLt 0 (aA a0.2.2.1))
 (some (.inr (false,())))
 (some (.inl (a0.1,a0.2.1,a0.2.2.1,a0.2.2.2.1,a0.2.2.2.2.1,a0.2.2.2.2.2.1,())))))
 (λpW =>
 cond (iEq pW.1 5)
 ((yO pW.2.2.2.1).bind λb8N =>
 cond b8N.1
 (some (false,()))
 ((yO pW.2.2.2.2.1).bind λb8M =>
 cond (cond b8M.1 true (iLt pW.2.2.2.2.1 pW.2.2.2.1))
 (some (false,()))
 (cond (iEq pW.1 6)
 (some (iEq (aA pW.2.2.2.2.2.1) 1,()))
 (cond (iEq pW.1 7)
 (some (iLe 2 (aA pW.2.2.2.2.2.1),()))
 (cond (iEq pW.1 8)
 (some (iLe 2 (aA pW.2.2.2.2.2.1),()))
 (some (iEq (aA pW.2.2.2.2.2.1) 0,())))))))
 (cond (cond (iNe pW.2.2.2.1 0) true (iNe pW.2.2.2.2.1 0))
 (some (false,()))
 (cond (iEq pW.1 6)
 (some (iEq (aA pW.2.2.2.2.2.1) 1,()))
 (cond (iEq pW.1 7)
 (some (iLe 2 (aA pW.2.2.2.2.2.1),()))
 (cond (iEq pW.1 8)
 (some (iLe 2 (aA pW.2.2.2.2.2.1),()))
 (some (iEq (aA pW.2.2.2.2.2.1) 0,()))))))))))
def i171:PI:=⟨171,[tS0],[.bool],fun(x:DS0×Unit)=>Uv x.1⟩
theorem b0z:PK i171:=pk (.d 3 (.j [] ⟨117,[],[(1,.ptr 0 0 0)],[.box 34 [.d (.int .i64),.d .str,.d (.list .str),.d (.int .i64),.d (.int .i64),.d (.rl 34 6)]]⟩ .o .o)) Tryz.func171 (cP Y6 (cP Uc (cP Ub (cP Ik c0)))) (by kernel_rfl) λx=>by kernel_rfl
def Mw(self:(DS0×Unit)->Option (Bool×Unit))(a0:DS0):Option (Bool×Unit) :=
 (Uv (a0.1,a0.2.1,a0.2.2.1,a0.2.2.2.1,a0.2.2.2.2.1,a0.2.2.2.2.2.1,())).bind λb8L =>
 cond (not b8L.1)
 (some (false,()))
 (bK (S:=Int×Int×ByteArray×(List ByteArray)×Int×Int×(List AV)×Unit) (R:=Bool×Unit) (λvv =>
 cond (iLt vv.1 (aA vv.2.2.2.2.2.2.1))
 (cond (and (bnd vv.1 (aA vv.2.2.2.2.2.2.1)) (qy (atI vv.2.2.2.2.2.2.1 vv.1 AV.any)))
 ((self (aQ (atI vv.2.2.2.2.2.2.1 vv.1 AV.any),())).bind λb8K =>
 cond (not b8K.1)
 (some (.inr (false,())))
 (some (.inl (aR .i64 vv.1 1,vv.2.1,vv.2.2.1,vv.2.2.2.1,vv.2.2.2.2.1,vv.2.2.2.2.2.1,vv.2.2.2.2.2.2.1,())))) none)
 (some (.inr (true,()))))
 (0,a0.1,a0.2.1,a0.2.2.1,a0.2.2.2.1,a0.2.2.2.2.1,a0.2.2.2.2.2.1,()))
def b1N(a0:DS0):Option (Bool×Unit):=eH (λself (x:DS0×Unit)=>Mw self x.1) 10000 (a0,())
def i148:PI:=⟨148,[tS0],[.bool],fun(x:DS0×Unit)=>b1N x.1⟩
theorem b0L:PK i148:=nZ 10000 (ps:=[tS0]) (rs:=[.bool]) (G:=λself (x:DS0×Unit)=>Mw self x.1) (mK (f:=Tryz.f148) (by kernel_rfl)) λself hr=>pk (.d 2 (.s (.d 1 (.b (.l [] ⟨21,[(3,(.int .i64))],[(1,.ptr 0 0 0)],[.box 34 [.d (.int .i64),.d .str,.d (.list .str),.d (.int .i64),.d (.int .i64),.d (.rl 34 6)]]⟩ .o))) .o)) Tryz.func148 (cP hr (cP b0z c0)) (by kernel_rfl) λx=>by kernel_rfl
def m98(a0:DS0):Option (Bool×Unit) :=
 (b1P (a0.1,a0.2.1,a0.2.2.1,a0.2.2.2.1,a0.2.2.2.2.1,a0.2.2.2.2.2.1,()) 16).bind λb8X =>
 cond (not b8X.1)
 ((b1O (a0.1,a0.2.1,a0.2.2.1,a0.2.2.2.1,a0.2.2.2.2.1,a0.2.2.2.2.2.1,())).bind λb8V =>
 cond (iLe b8V.1 300)
 ((b1N (a0.1,a0.2.1,a0.2.2.1,a0.2.2.2.1,a0.2.2.2.2.1,a0.2.2.2.2.2.1,())).bind λb8J =>
 some (b8J.1,()))
 (some (false,())))
 (some (false,()))
def i98:PI:=⟨98,[tS0],[.bool],fun(x:DS0×Unit)=>m98 x.1⟩
theorem a4a:PK i98:=pk .o Tryz.func98 (cP b0N (cP b0M (cP b0L c0))) (by kernel_rfl) λx=>by kernel_rfl
def Gp(self:((List AV)×Unit)->Option (Int×Unit))(a0:List AV):Option (Int×Unit) :=
 bK (S:=(List AV)×Int×Int×Unit) (R:=Int×Unit) (λxq =>
 cond (cond (iLt xq.2.2.1 (aA xq.1)) (iLe xq.2.1 40) false)
 (cond (and (bnd xq.2.2.1 (aA xq.1)) (lN (atI xq.1 xq.2.2.1 AV.any)))
 ((self ((aM (atI xq.1 xq.2.2.1 AV.any)).2.2.1,())).bind λb8H =>
 some (.inl (xq.1,aR .i64 xq.2.1 b8H.1,aR .i64 xq.2.2.1 1,()))) none)
 (some (.inr (jv xq.2.1 41,()))))
 (a0,aA a0,0,())
def m99(a0:List AV):Option (Int×Unit):=Kg (λself (x:(List AV)×Unit)=>Gp self x.1) (a0,())
def i99:PI:=⟨99,[(.rl 63 8)],[(.int .i64)],fun(x:(List AV)×Unit)=>m99 x.1⟩
theorem b43:PK i99:=a5x (ps:=[(.rl 63 8)]) (rs:=[(.int .i64)]) (G:=λself (x:(List AV)×Unit)=>Gp self x.1) (mK (f:=Tryz.f99) (by kernel_rfl)) λself hr=>pk (.d 2 (.s (.d 1 (.b (.l [] ⟨27,[(0,(.rl 63 8)),(3,(.int .i64)),(4,(.int .i64))],[],[]⟩ .o))) .o)) Tryz.func99 (cP hr c0) (by kernel_rfl) λx=>by kernel_rfl
def MJ(self:((List AV)×Int×Unit)->Option (Bool×Unit))(a0:List AV)(a1:Int):Option (Bool×Unit) :=
 cond (cond (iLt 0 (aA a0)) (iEq a1 0) false)
 (some (false,()))
 (bK (S:=(List AV)×Int×Int×Unit) (R:=Bool×Unit) (λmq =>
 cond (iLt mq.2.2.1 (aA mq.1))
 (cond (and (bnd mq.2.2.1 (aA mq.1)) (lN (atI mq.1 mq.2.2.1 AV.any)))
 ((m57 ((aM (atI mq.1 mq.2.2.1 AV.any)).1)).bind λa8i =>
 cond (or (and (bnd mq.2.2.1 (aA mq.1)) (lN (atI mq.1 mq.2.2.1 AV.any))) (not (bEq (not a8i.1) false)))
 (cond (not a8i.1)
 (cond (or (and (bnd mq.2.2.1 (aA mq.1)) (lN (atI mq.1 mq.2.2.1 AV.any))) (not (bEq true false)))
 (some (.inr (false,()))) none)
 ((m98 ((aM (atI mq.1 mq.2.2.1 AV.any)).2.1)).bind λa8h =>
 cond (or (and (bnd mq.2.2.1 (aA mq.1)) (lN (atI mq.1 mq.2.2.1 AV.any))) (not (bEq (not a8h.1) false)))
 (cond (not a8h.1)
 (some (.inr (false,())))
 ((self ((aM (atI mq.1 mq.2.2.1 AV.any)).2.2.1,dQ .i64 mq.2.1 1,())).bind λb8F =>
 cond (not b8F.1)
 (some (.inr (false,())))
 (some (.inl (mq.1,mq.2.1,aR .i64 mq.2.2.1 1,()))))) none)) none) none)
 (some (.inr (true,()))))
 (a0,a1,0,()))
def a2b(a0:List AV)(a1:Int):Option (Bool×Unit):=eH (λself (x:(List AV)×Int×Unit)=>MJ self x.1 x.2.1) 10000 (a0,a1,())
def c0i:PI:=⟨100,[(.rl 63 8),(.int .i64)],[.bool],fun(x:(List AV)×Int×Unit)=>a2b x.1 x.2.1⟩
theorem b07:PK c0i:=nZ 10000 (ps:=[(.rl 63 8),(.int .i64)]) (rs:=[.bool]) (G:=λself (x:(List AV)×Int×Unit)=>MJ self x.1 x.2.1) (mK (f:=Tryz.f100) (by kernel_rfl)) λself hr=>pk (.d 2 (.s (.d 1 (.b (.l [] ⟨46,[(0,(.rl 63 8)),(1,(.int .i64)),(5,(.int .i64))],[],[]⟩ .o))) .o)) Tryz.func100 (cP hr (cP Ik (cP a4a c0))) (by kernel_rfl) λx=>by kernel_rfl
def m56(a0:DS1):Option (Bool×Unit) :=
 cond (cond (iLt a0.1 1) true (iLt 10 a0.1))
 (some (false,()))
 ((m57 a0.2.1).bind λb8Z =>
 cond (not b8Z.1)
 (some (false,()))
 ((m98 (a0.2.2.1.1,a0.2.2.1.2.1,a0.2.2.1.2.2.1,a0.2.2.1.2.2.2.1,a0.2.2.1.2.2.2.2.1,a0.2.2.1.2.2.2.2.2.1,())).bind λb8I =>
 cond (not b8I.1)
 (some (false,()))
 (cond (iLt 0 (aA a0.2.2.2.1))
 (cond (iNe a0.1 3)
 (some (false,()))
 ((m99 a0.2.2.2.1).bind λb8G =>
 cond (iLt 40 b8G.1)
 (some (false,()))
 ((a2b a0.2.2.2.1 16).bind λb8E =>
 cond (not b8E.1)
 (some (false,()))
 ((yP a0.1).bind λa0w =>
 cond (cond (iEq a0w.1 0) (iEq a0.2.2.2.2.1 0) false)
 (some (true,()))
 (some (cond (cond (iLt 0 a0w.1) (iLe 1 a0.2.2.2.2.1) false) (iLe a0.2.2.2.2.1 a0w.1) false,()))))))
 ((yP a0.1).bind λa0v =>
 cond (cond (iEq a0v.1 0) (iEq a0.2.2.2.2.1 0) false)
 (some (true,()))
 (some (cond (cond (iLt 0 a0v.1) (iLe 1 a0.2.2.2.2.1) false) (iLe a0.2.2.2.2.1 a0v.1) false,()))))))
def i56:PI:=⟨56,[tS1],[.bool],fun(x:DS1×Unit)=>m56 x.1⟩
theorem a4f:PK i56:=pk .o Tryz.func56 (cP b07 (cP OQ (cP Ik (cP a4a (cP b43 c0))))) (by kernel_rfl) λx=>by kernel_rfl
def m9(a0:List DS1)(a1:ByteArray):Option (Int×Bool×Unit) :=
 bK (S:=(List DS1)×ByteArray×Int×Unit) (R:=Int×Bool×Unit) (λzI =>
 cond (iLt zI.2.2.1 (aA zI.1))
 (cond (bnd zI.2.2.1 (aA zI.1))
 (cond (sEq ((atI zI.1 zI.2.2.1 zS1).2.1) zI.2.1)
 (some (.inr (zI.2.2.1,true,())))
 (some (.inl (zI.1,zI.2.1,aR .i64 zI.2.2.1 1,())))) none)
 (some (.inr (0,false,()))))
 (a0,a1,0,())
def i9:PI:=⟨9,[(.list tS1),.str],[(.int .i64),.bool],fun(x:(List DS1)×ByteArray×Unit)=>m9 x.1 x.2.1⟩
theorem b0o:PK i9:=pk (.d 1 (.s (.d 1 (.b (.l [] ⟨21,[(0,(.list tS1)),(1,.str),(6,(.int .i64))],[],[]⟩ .o))) .o)) Tryz.func9 c0 (by kernel_rfl) λx=>by kernel_rfl
def Pj(a0:DS6)(a1:ByteArray):Option (Int×Bool×Unit) :=
 bK (S:=ByteArray×Int×(List DS5)×Unit) (R:=Int×Bool×Unit) (λzH =>
 cond (iLt zH.2.1 (aA zH.2.2.1))
 (cond (bnd zH.2.1 (aA zH.2.2.1))
 (cond (sEq ((atI zH.2.2.1 zH.2.1 zS5).1) zH.1)
 (some (.inr (zH.2.1,true,())))
 (some (.inl (zH.1,aR .i64 zH.2.1 1,zH.2.2.1,())))) none)
 (some (.inr (0,false,()))))
 (a1,0,a0.1,())
def b95:PI:=⟨135,[tS6,.str],[(.int .i64),.bool],fun(x:DS6×ByteArray×Unit)=>Pj x.1 x.2.1⟩
theorem Yd:PK b95:=pk (.d 1 (.s (.d 1 (.b (.l [] ⟨23,[(1,.str),(6,(.int .i64))],[(2,.ptr 0 0 0)],[.box 59 [.d (.list tS5)]]⟩ .o))) .o)) Tryz.func135 c0 (by kernel_rfl) λx=>by kernel_rfl
def JV(a0:List DS1)(a1:ByteArray):Option (Int×Bool×Unit) :=
 bK (S:=(List DS1)×ByteArray×Int×Unit) (R:=Int×Bool×Unit) (λsS =>
 cond (iLt sS.2.2.1 (aA sS.1))
 (cond (bnd sS.2.2.1 (aA sS.1))
 (cond (or (bnd sS.2.2.1 (aA sS.1)) (not (bEq (iEq ((atI sS.1 sS.2.2.1 zS1).1) 1) true)))
 (cond (cond (iEq ((atI sS.1 sS.2.2.1 zS1).1) 1) (sEq ((atI sS.1 sS.2.2.1 zS1).2.1) sS.2.1) false)
 (some (.inr (sS.2.2.1,true,())))
 (some (.inl (sS.1,sS.2.1,aR .i64 sS.2.2.1 1,())))) none) none)
 (some (.inr (0,false,()))))
 (a0,a1,0,())
def i168:PI:=⟨168,[(.list tS1),.str],[(.int .i64),.bool],fun(x:(List DS1)×ByteArray×Unit)=>JV x.1 x.2.1⟩
theorem OP:PK i168:=pk (.d 1 (.s (.d 1 (.b (.l [] ⟨29,[(0,(.list tS1)),(1,.str),(6,(.int .i64))],[],[]⟩ .o))) .o)) Tryz.func168 c0 (by kernel_rfl) λx=>by kernel_rfl
def Pf(a0:List ByteArray)(a1:ByteArray):Option (Bool×Unit) :=
 bK (S:=(List ByteArray)×ByteArray×Int×Unit) (R:=Bool×Unit) (λAU =>
 cond (iLt AU.2.2.1 (aA AU.1))
 (cond (bnd AU.2.2.1 (aA AU.1))
 (cond (sEq (atI AU.1 AU.2.2.1 ByteArray.empty) AU.2.1)
 (some (.inr (true,())))
 (some (.inl (AU.1,AU.2.1,aR .i64 AU.2.2.1 1,())))) none)
 (some (.inr (false,()))))
 (a0,a1,0,())
def b90:PI:=⟨144,[(.list .str),.str],[.bool],fun(x:(List ByteArray)×ByteArray×Unit)=>Pf x.1 x.2.1⟩
theorem Ya:PK b90:=pk (.d 1 (.s (.d 1 (.b (.l [] ⟨18,[(0,(.list .str)),(1,.str),(5,(.int .i64))],[],[]⟩ .o))) .o)) Tryz.func144 c0 (by kernel_rfl) λx=>by kernel_rfl
def Ux(a0:DS6)(a1:List DS1)(a2:DS0):Option (Int×Unit) :=
 (Pj (a0.1,()) a2.2.1).bind λrV =>
 cond (iEq a2.1 3)
 ((JV a1 a2.2.1).bind λb8D =>
 cond (cond (not rV.2.1) (not b8D.2.1) false)
 (some (7,()))
 (cond (or (bnd rV.1 (aA a0.1)) (not (bEq rV.2.1 true)))
 (cond (cond rV.2.1 (iNe ((atI a0.1 rV.1 zS5).2.1) 3) false)
 (some (9,()))
 (some (0,()))) none))
 (cond (iEq a2.1 4)
 (cond (not rV.2.1)
 (some (7,()))
 (cond (bnd rV.1 (aA a0.1))
 (cond (iNe ((atI a0.1 rV.1 zS5).2.1) 1)
 (some (9,()))
 (bK (S:=Int×Int×ByteArray×(List ByteArray)×Int×Int×(List AV)×ByteArray×Int×(List ByteArray)×Int×Int×Unit) (R:=Int×Unit) (λqX =>
 cond (iLt qX.1 (aA qX.2.2.2.1))
 (cond (bnd qX.1 (aA qX.2.2.2.1))
 ((Pf qX.2.2.2.2.2.2.2.2.2.1 (atI qX.2.2.2.1 qX.1 ByteArray.empty)).bind λb8C =>
 cond (not b8C.1)
 (some (.inr (7,())))
 (some (.inl (aR .i64 qX.1 1,qX.2.1,qX.2.2.1,qX.2.2.2.1,qX.2.2.2.2.1,qX.2.2.2.2.2.1,qX.2.2.2.2.2.2.1,qX.2.2.2.2.2.2.2.1,qX.2.2.2.2.2.2.2.2.1,qX.2.2.2.2.2.2.2.2.2.1,qX.2.2.2.2.2.2.2.2.2.2.1,qX.2.2.2.2.2.2.2.2.2.2.2.1,())))) none)
 (some (.inr (0,()))))
 (0,a2.1,a2.2.1,a2.2.2.1,a2.2.2.2.1,a2.2.2.2.2.1,a2.2.2.2.2.2.1,(atI a0.1 rV.1 zS5).1,(atI a0.1 rV.1 zS5).2.1,(atI a0.1 rV.1 zS5).2.2.1,(atI a0.1 rV.1 zS5).2.2.2.1,(atI a0.1 rV.1 zS5).2.2.2.2.1,()))) none))
 (cond (iEq a2.1 5)
 (cond (not rV.2.1)
 (some (7,()))
 (cond (bnd rV.1 (aA a0.1))
 (cond (iNe ((atI a0.1 rV.1 zS5).2.1) 2)
 (some (9,()))
 (cond (cond (iLt a2.2.2.2.1 ((atI a0.1 rV.1 zS5).2.2.2.1)) true (iLt ((atI a0.1 rV.1 zS5).2.2.2.2.1) a2.2.2.2.2.1))
 (some (1,()))
 (some (0,())))) none))
 (some (0,()))))
def b9T:PI:=⟨166,[tS6,(.list tS1),tS0],[(.int .i64)],fun(x:DS6×(List DS1)×DS0×Unit)=>Ux x.1 x.2.1 x.2.2.1⟩
theorem b0D:PK b9T:=pk (.d 2 (.s (.d 1 (.b (.d 1 (.c .o (.d 1 (.c (.d 4 (.b (.l [] ⟨100,[(12,(.int .i64))],[(5,.ptr 0 0 0),(11,.ptr 1 0 0)],[.box 34 [.d (.int .i64),.d .str,.d (.list .str),.d (.int .i64),.d (.int .i64),.d (.rl 34 6)],.box 106 [.d .str,.d (.int .i64),.d (.list .str),.d (.int .i64),.d (.int .i64)]]⟩ .o))) .o)))))) .o)) Tryz.func166 (cP Yd (cP Ya (cP OP c0))) (by kernel_rfl) λx=>by kernel_rfl
def MG(self:(DS6×(List DS1)×DS0×Unit)->Option (Int×Unit))(a0:DS6)(a1:List DS1)(a2:DS0):Option (Int×Unit) :=
 (Ux (a0.1,()) a1 (a2.1,a2.2.1,a2.2.2.1,a2.2.2.2.1,a2.2.2.2.2.1,a2.2.2.2.2.2.1,())).bind λa8g =>
 cond (iNe a8g.1 0)
 (some (a8g.1,()))
 (bK (S:=(List DS1)×Int×(List DS5)×Int×ByteArray×(List ByteArray)×Int×Int×(List AV)×Unit) (R:=Int×Unit) (λqW =>
 cond (iLt qW.2.1 (aA qW.2.2.2.2.2.2.2.2.1))
 (cond (and (bnd qW.2.1 (aA qW.2.2.2.2.2.2.2.2.1)) (qy (atI qW.2.2.2.2.2.2.2.2.1 qW.2.1 AV.any)))
 ((self ((qW.2.2.1,()),qW.1,aQ (atI qW.2.2.2.2.2.2.2.2.1 qW.2.1 AV.any),())).bind λa8f =>
 cond (iNe a8f.1 0)
 (some (.inr (a8f.1,())))
 (some (.inl (qW.1,aR .i64 qW.2.1 1,qW.2.2.1,qW.2.2.2.1,qW.2.2.2.2.1,qW.2.2.2.2.2.1,qW.2.2.2.2.2.2.1,qW.2.2.2.2.2.2.2.1,qW.2.2.2.2.2.2.2.2.1,())))) none)
 (some (.inr (0,()))))
 (a1,0,a0.1,a2.1,a2.2.1,a2.2.2.1,a2.2.2.2.1,a2.2.2.2.2.1,a2.2.2.2.2.2.1,()))
def a2a(a0:DS6)(a1:List DS1)(a2:DS0):Option (Int×Unit):=eH (λself (x:DS6×(List DS1)×DS0×Unit)=>MG self x.1 x.2.1 x.2.2.1) 10000 (a0,a1,a2,())
def b94:PI:=⟨136,[tS6,(.list tS1),tS0],[(.int .i64)],fun(x:DS6×(List DS1)×DS0×Unit)=>a2a x.1 x.2.1 x.2.2.1⟩
theorem Yc:PK b94:=nZ 10000 (ps:=[tS6,(.list tS1),tS0]) (rs:=[(.int .i64)]) (G:=λself (x:DS6×(List DS1)×DS0×Unit)=>MG self x.1 x.2.1 x.2.2.1) (mK (f:=Tryz.f136) (by kernel_rfl)) λself hr=>pk (.d 2 (.s (.d 1 (.b (.l [] ⟨35,[(1,(.list tS1)),(8,(.int .i64))],[(3,.ptr 0 0 0),(5,.ptr 1 0 0)],[.box 59 [.d (.list tS5)],.box 34 [.d (.int .i64),.d .str,.d (.list .str),.d (.int .i64),.d (.int .i64),.d (.rl 34 6)]]⟩ .o))) .o)) Tryz.func136 (cP hr (cP b0D c0)) (by kernel_rfl) λx=>by kernel_rfl
def MF(self:(DS6×(List DS1)×(List AV)×Unit)->Option (Int×Unit))(a0:DS6)(a1:List DS1)(a2:List AV):Option (Int×Unit) :=
 bK (S:=(List DS1)×(List AV)×Int×(List DS5)×Unit) (R:=Int×Unit) (λoM =>
 cond (iLt oM.2.2.1 (aA oM.2.1))
 (cond (and (bnd oM.2.2.1 (aA oM.2.1)) (lN (atI oM.2.1 oM.2.2.1 AV.any)))
 ((a2a (oM.2.2.2.1,()) oM.1 ((aM (atI oM.2.1 oM.2.2.1 AV.any)).2.1)).bind λa8e =>
 cond (iNe a8e.1 0)
 (some (.inr (a8e.1,())))
 (cond (and (bnd oM.2.2.1 (aA oM.2.1)) (lN (atI oM.2.1 oM.2.2.1 AV.any)))
 ((self ((oM.2.2.2.1,()),oM.1,(aM (atI oM.2.1 oM.2.2.1 AV.any)).2.2.1,())).bind λa8d =>
 cond (iNe a8d.1 0)
 (some (.inr (a8d.1,())))
 (some (.inl (oM.1,oM.2.1,aR .i64 oM.2.2.1 1,oM.2.2.2.1,())))) none)) none)
 (some (.inr (0,()))))
 (a1,a2,0,a0.1,())
def b1S(a0:DS6)(a1:List DS1)(a2:List AV):Option (Int×Unit):=eH (λself (x:DS6×(List DS1)×(List AV)×Unit)=>MF self x.1 x.2.1 x.2.2.1) 10000 (a0,a1,a2,())
def b93:PI:=⟨137,[tS6,(.list tS1),(.rl 63 8)],[(.int .i64)],fun(x:DS6×(List DS1)×(List AV)×Unit)=>b1S x.1 x.2.1 x.2.2.1⟩
theorem b0T:PK b93:=nZ 10000 (ps:=[tS6,(.list tS1),(.rl 63 8)]) (rs:=[(.int .i64)]) (G:=λself (x:DS6×(List DS1)×(List AV)×Unit)=>MF self x.1 x.2.1 x.2.2.1) (mK (f:=Tryz.f137) (by kernel_rfl)) λself hr=>pk (.d 1 (.s (.d 1 (.b (.l [] ⟨38,[(1,(.list tS1)),(2,(.rl 63 8)),(7,(.int .i64))],[(3,.ptr 0 0 0)],[.box 59 [.d (.list tS5)]]⟩ .o))) .o)) Tryz.func137 (cP hr (cP Yc c0)) (by kernel_rfl) λx=>by kernel_rfl
def Ut(a0:List ByteArray)(a1:ByteArray):Option ((List ByteArray)×Unit) :=
 bK (S:=(List ByteArray)×ByteArray×Bool×Int×(List ByteArray)×Unit) (R:=(List ByteArray)×Unit) (λfK =>
 cond (iLt fK.2.2.2.1 (aA fK.1))
 (cond (or (bnd fK.2.2.2.1 (aA fK.1)) (not (bEq (not fK.2.2.1) true)))
 (cond (cond (not fK.2.2.1) (or (sLt fK.2.1 (atI fK.1 fK.2.2.2.1 ByteArray.empty)) (sEq fK.2.1 (atI fK.1 fK.2.2.2.1 ByteArray.empty))) false)
 (cond (bnd fK.2.2.2.1 (aA fK.1))
 (cond (sLt fK.2.1 (atI fK.1 fK.2.2.2.1 ByteArray.empty))
 (cond (fits (List.length fK.2.2.2.2.1+List.length ([fK.2.1]:List ByteArray)) 16)
 (cond (bnd fK.2.2.2.1 (aA fK.1))
 (cond (fits (List.length (fK.2.2.2.2.1++([fK.2.1]:List ByteArray))+List.length ([atI fK.1 fK.2.2.2.1 ByteArray.empty]:List ByteArray)) 16)
 (some (.inl (fK.1,fK.2.1,true,aR .i64 fK.2.2.2.1 1,(fK.2.2.2.2.1++([fK.2.1]:List ByteArray))++([atI fK.1 fK.2.2.2.1 ByteArray.empty]:List ByteArray),()))) none) none) none)
 (cond (bnd fK.2.2.2.1 (aA fK.1))
 (cond (fits (List.length fK.2.2.2.2.1+List.length ([atI fK.1 fK.2.2.2.1 ByteArray.empty]:List ByteArray)) 16)
 (some (.inl (fK.1,fK.2.1,true,aR .i64 fK.2.2.2.1 1,fK.2.2.2.2.1++([atI fK.1 fK.2.2.2.1 ByteArray.empty]:List ByteArray),()))) none) none)) none)
 (cond (bnd fK.2.2.2.1 (aA fK.1))
 (cond (fits (List.length fK.2.2.2.2.1+List.length ([atI fK.1 fK.2.2.2.1 ByteArray.empty]:List ByteArray)) 16)
 (some (.inl (fK.1,fK.2.1,fK.2.2.1,aR .i64 fK.2.2.2.1 1,fK.2.2.2.2.1++([atI fK.1 fK.2.2.2.1 ByteArray.empty]:List ByteArray),()))) none) none)) none)
 (Option.map Sum.inr (cond (not fK.2.2.1)
 (cond (fits (List.length fK.2.2.2.2.1+List.length ([fK.2.1]:List ByteArray)) 16)
 (some (fK.2.2.2.2.1++([fK.2.1]:List ByteArray),())) none)
 (some (fK.2.2.2.2.1,())))))
 (a0,a1,false,0,([]:List ByteArray),())
def i193:PI:=⟨193,[(.list .str),.str],[(.list .str)],fun(x:(List ByteArray)×ByteArray×Unit)=>Ut x.1 x.2.1⟩
theorem b0q:PK i193:=pk (.d 3 (.s (.d 1 (.b (.l [.gh 5 9 .str] ⟨48,[(0,(.list .str)),(1,.str),(6,.bool),(7,(.int .i64))],[(5,.row 0)],[.row 9 .str false]⟩ .o))) .o)) Tryz.func193 c0 (by kernel_rfl) λx=>by kernel_rfl
def Fe(self:((List ByteArray)×DS0×Unit)->Option ((List ByteArray)×Unit))(a0:List ByteArray)(a1:DS0):Option ((List ByteArray)×Unit) :=
 cond (iEq a1.1 3)
 ((Ut a0 a1.2.1).bind λb8B =>
 bK (S:=(List ByteArray)×Int×Int×ByteArray×(List ByteArray)×Int×Int×(List AV)×Unit) (R:=(List ByteArray)×Unit) (λsQ =>
 cond (iLt sQ.2.1 (aA sQ.2.2.2.2.2.2.2.1))
 (cond (and (bnd sQ.2.1 (aA sQ.2.2.2.2.2.2.2.1)) (qy (atI sQ.2.2.2.2.2.2.2.1 sQ.2.1 AV.any)))
 ((self (sQ.1,aQ (atI sQ.2.2.2.2.2.2.2.1 sQ.2.1 AV.any),())).bind λb8A =>
 some (.inl (b8A.1,aR .i64 sQ.2.1 1,sQ.2.2.1,sQ.2.2.2.1,sQ.2.2.2.2.1,sQ.2.2.2.2.2.1,sQ.2.2.2.2.2.2.1,sQ.2.2.2.2.2.2.2.1,()))) none)
 (some (.inr (sQ.1,()))))
 (b8B.1,0,a1.1,a1.2.1,a1.2.2.1,a1.2.2.2.1,a1.2.2.2.2.1,a1.2.2.2.2.2.1,()))
 (bK (S:=(List ByteArray)×Int×Int×ByteArray×(List ByteArray)×Int×Int×(List AV)×Unit) (R:=(List ByteArray)×Unit) (λsP =>
 cond (iLt sP.2.1 (aA sP.2.2.2.2.2.2.2.1))
 (cond (and (bnd sP.2.1 (aA sP.2.2.2.2.2.2.2.1)) (qy (atI sP.2.2.2.2.2.2.2.1 sP.2.1 AV.any)))
 ((self (sP.1,aQ (atI sP.2.2.2.2.2.2.2.1 sP.2.1 AV.any),())).bind λb8z =>
 some (.inl (b8z.1,aR .i64 sP.2.1 1,sP.2.2.1,sP.2.2.2.1,sP.2.2.2.2.1,sP.2.2.2.2.2.1,sP.2.2.2.2.2.2.1,sP.2.2.2.2.2.2.2.1,()))) none)
 (some (.inr (sP.1,()))))
 (a0,0,a1.1,a1.2.1,a1.2.2.1,a1.2.2.2.1,a1.2.2.2.2.1,a1.2.2.2.2.2.1,()))
def a11(a0:List ByteArray)(a1:DS0):Option ((List ByteArray)×Unit):=eH (λself (x:(List ByteArray)×DS0×Unit)=>Fe self x.1 x.2.1) 10000 (a0,a1,())
def b9K:PI:=⟨184,[(.list .str),tS0],[(.list .str)],fun(x:(List ByteArray)×DS0×Unit)=>a11 x.1 x.2.1⟩
theorem b0t:PK b9K:=nZ 10000 (ps:=[(.list .str),tS0]) (rs:=[(.list .str)]) (G:=λself (x:(List ByteArray)×DS0×Unit)=>Fe self x.1 x.2.1) (mK (f:=Tryz.f184) (by kernel_rfl)) λself hr=>pk (.d 2 (.s (.d 1 (.b (.l [] ⟨28,[(0,(.list .str)),(5,(.int .i64))],[(3,.ptr 0 0 0)],[.box 34 [.d (.int .i64),.d .str,.d (.list .str),.d (.int .i64),.d (.int .i64),.d (.rl 34 6)]]⟩ .o))) .o)) Tryz.func184 (cP hr (cP b0q c0)) (by kernel_rfl) λx=>by kernel_rfl
def Uw(a0:DS0):Option ((List ByteArray)×Unit) :=
 (a11 ([]:List ByteArray) (a0.1,a0.2.1,a0.2.2.1,a0.2.2.2.1,a0.2.2.2.2.1,a0.2.2.2.2.2.1,())).bind λb8y =>
 some (b8y.1,())
def i167:PI:=⟨167,[tS0],[(.list .str)],fun(x:DS0×Unit)=>Uw x.1⟩
theorem b0C:PK i167:=pk .o Tryz.func167 (cP b0t c0) (by kernel_rfl) λx=>by kernel_rfl
def UE(a0:List DS1):Option ((List Int)×Int×Unit) :=
 cond (ze (aA a0) 1)
 (bK (S:=(List DS1)×(List Int)×(List Bool)×Unit) (R:=(List Int)×Int×Unit) (λa1p =>
 bK (S:=(List DS1)×Int×Bool×Int×(List Int)×(List Bool)×Unit) (R:=((List DS1)×(List Int)×(List Bool)×Unit)⊕((List Int)×Int×Unit)) (λiA =>
 cond (cond (iLt iA.2.2.2.1 (aA iA.1)) (iLt iA.2.1 0) false)
 (cond (bnd iA.2.2.2.1 (aA iA.1))
 (cond (or (bnd iA.2.2.2.1 (aA iA.2.2.2.2.2.1)) (not (bEq (iNe ((atI iA.1 iA.2.2.2.1 zS1).1) 1) false)))
 (cond (or (inB (Int.toNat iA.2.2.2.1) iA.2.2.2.2.2.1) (not (bEq (iNe ((atI iA.1 iA.2.2.2.1 zS1).1) 1) false)))
 (cond (cond (iNe ((atI iA.1 iA.2.2.2.1 zS1).1) 1) true (List.getD iA.2.2.2.2.2.1 (Int.toNat iA.2.2.2.1) false))
 (some (.inl (iA.1,iA.2.1,iA.2.2.1,aR .i64 iA.2.2.2.1 1,iA.2.2.2.2.1,iA.2.2.2.2.2.1,())))
 (cond (bnd iA.2.2.2.1 (aA iA.1))
 ((Uw ((atI iA.1 iA.2.2.2.1 zS1).2.2.1)).bind λb8x =>
 bK (S:=(List DS1)×Int×Bool×Int×Bool×(List ByteArray)×Int×(List Int)×(List Bool)×Unit) (R:=((List DS1)×Int×Bool×Int×(List Int)×(List Bool)×Unit)⊕(((List DS1)×(List Int)×(List Bool)×Unit)⊕((List Int)×Int×Unit))) (λjf =>
 cond (iLt jf.2.2.2.2.2.2.1 (aA jf.2.2.2.2.2.1))
 (cond (bnd jf.2.2.2.2.2.2.1 (aA jf.2.2.2.2.2.1))
 ((JV jf.1 (atI jf.2.2.2.2.2.1 jf.2.2.2.2.2.2.1 ByteArray.empty)).bind λJo =>
 cond jf.2.2.2.2.1
 (cond (or (bnd Jo.1 (aA jf.2.2.2.2.2.2.2.2.1)) (not (bEq (not Jo.2.1) false)))
 (cond (or (inB (Int.toNat Jo.1) jf.2.2.2.2.2.2.2.2.1) (not (bEq (not Jo.2.1) false)))
 (some (.inl (jf.1,jf.2.1,jf.2.2.1,jf.2.2.2.1,cond (not Jo.2.1) true (List.getD jf.2.2.2.2.2.2.2.2.1 (Int.toNat Jo.1) false),jf.2.2.2.2.2.1,aR .i64 jf.2.2.2.2.2.2.1 1,jf.2.2.2.2.2.2.2.1,jf.2.2.2.2.2.2.2.2.1,()))) none) none)
 (some (.inl (jf.1,jf.2.1,jf.2.2.1,jf.2.2.2.1,false,jf.2.2.2.2.2.1,aR .i64 jf.2.2.2.2.2.2.1 1,jf.2.2.2.2.2.2.2.1,jf.2.2.2.2.2.2.2.2.1,())))) none)
 (Option.map Sum.inr (cond jf.2.2.2.2.1
 (some (.inl (jf.1,jf.2.2.2.1,jf.2.2.1,aR .i64 jf.2.2.2.1 1,jf.2.2.2.2.2.2.2.1,jf.2.2.2.2.2.2.2.2.1,())))
 (some (.inl (jf.1,jf.2.1,jf.2.2.1,aR .i64 jf.2.2.2.1 1,jf.2.2.2.2.2.2.2.1,jf.2.2.2.2.2.2.2.2.1,()))))))
 (iA.1,iA.2.1,true,iA.2.2.2.1,true,b8x.1,0,iA.2.2.2.2.1,iA.2.2.2.2.2.1,())) none)) none) none) none)
 (Option.map Sum.inr (cond (iLt iA.2.1 0)
 (cond iA.2.2.1
 (some (.inr (([]:List Int),10,())))
 (some (.inr (iA.2.2.2.2.1,0,()))))
 (cond (fits (List.length iA.2.2.2.2.1+List.length ([iA.2.1]:List Int)) 8)
 (cond (bnd iA.2.1 (aA iA.2.2.2.2.2.1))
 (cond (inB (Int.toNat iA.2.1) iA.2.2.2.2.2.1)
 (some (.inl (iA.1,iA.2.2.2.2.1++([iA.2.1]:List Int),List.set iA.2.2.2.2.2.1 (Int.toNat iA.2.1) true,()))) none) none) none))))
 (a1p.1,(-1),false,0,a1p.2.1,a1p.2.2.1,()))
 (a0,([]:List Int),(List.replicate (Int.toNat (aA a0)) false:List Bool),())) none
def i138:PI:=⟨138,[(.list tS1)],[(.list (.int .i64)),(.int .i64)],fun(x:(List DS1)×Unit)=>UE x.1⟩
theorem b0S:PK i138:=pk (.d 3 (.b (.l [.gh 4 3 (.int .i64)] ⟨84,[(0,(.list tS1))],[(4,.row 0),(5,.row 1)],[.row 3 (.int .i64) false,.row 4 .bool false]⟩ (.b (.d 1 (.s (.d 1 (.b (.l [.gh 4 3 (.int .i64)] ⟨84,[(0,(.list tS1)),(6,(.int .i64)),(7,.bool),(8,(.int .i64))],[(4,.row 0),(5,.row 1)],[.row 3 (.int .i64) false,.row 4 .bool false]⟩ (.d 1 (.s (.b (.d 4 (.s (.d 1 (.b (.l [.gh 4 3 (.int .i64)] ⟨84,[(0,(.list tS1)),(6,(.int .i64)),(7,.bool),(8,(.int .i64)),(9,.bool),(10,(.list .str)),(11,(.int .i64))],[(4,.row 0),(5,.row 1)],[.row 3 (.int .i64) false,.row 4 .bool false]⟩ .o))) .o))) .o))))) .o)))))) Tryz.func138 (cP b0C (cP OP c0)) (by kernel_rfl) λx=>by kernel_rfl
def Mt(self:((List DS1)×DS0×Int×Unit)->Option (Int×Unit))(a0:List DS1)(a1:DS0)(a2:Int):Option (Int×Unit) :=
 cond (iLt (aA a0) a2)
 (some (2001,()))
 (cond (iEq a1.1 3)
 ((JV a0 a1.2.1).bind λa0u =>
 cond a0u.2.1
 (cond (bnd a0u.1 (aA a0))
 ((self (a0,(atI a0 a0u.1 zS1).2.2.1,aR .i64 a2 1,())).bind λb8w =>
 bK (S:=(List DS1)×Int×Int×Int×Int×ByteArray×(List ByteArray)×Int×Int×(List AV)×Unit) (R:=Int×Unit) (λoL =>
 cond (cond (iLt oL.2.2.2.1 (aA oL.2.2.2.2.2.2.2.2.2.1)) (iLe oL.2.2.1 2000) false)
 (cond (and (bnd oL.2.2.2.1 (aA oL.2.2.2.2.2.2.2.2.2.1)) (qy (atI oL.2.2.2.2.2.2.2.2.2.1 oL.2.2.2.1 AV.any)))
 ((self (oL.1,aQ (atI oL.2.2.2.2.2.2.2.2.2.1 oL.2.2.2.1 AV.any),oL.2.1,())).bind λb8v =>
 some (.inl (oL.1,oL.2.1,aR .i64 oL.2.2.1 b8v.1,aR .i64 oL.2.2.2.1 1,oL.2.2.2.2.1,oL.2.2.2.2.2.1,oL.2.2.2.2.2.2.1,oL.2.2.2.2.2.2.2.1,oL.2.2.2.2.2.2.2.2.1,oL.2.2.2.2.2.2.2.2.2.1,()))) none)
 (some (.inr (jv oL.2.2.1 2001,()))))
 (a0,a2,b8w.1,0,a1.1,a1.2.1,a1.2.2.1,a1.2.2.2.1,a1.2.2.2.2.1,a1.2.2.2.2.2.1,())) none)
 (bK (S:=(List DS1)×Int×Int×Int×Int×ByteArray×(List ByteArray)×Int×Int×(List AV)×Unit) (R:=Int×Unit) (λoK =>
 cond (cond (iLt oK.2.2.2.1 (aA oK.2.2.2.2.2.2.2.2.2.1)) (iLe oK.2.2.1 2000) false)
 (cond (and (bnd oK.2.2.2.1 (aA oK.2.2.2.2.2.2.2.2.2.1)) (qy (atI oK.2.2.2.2.2.2.2.2.2.1 oK.2.2.2.1 AV.any)))
 ((self (oK.1,aQ (atI oK.2.2.2.2.2.2.2.2.2.1 oK.2.2.2.1 AV.any),oK.2.1,())).bind λb8u =>
 some (.inl (oK.1,oK.2.1,aR .i64 oK.2.2.1 b8u.1,aR .i64 oK.2.2.2.1 1,oK.2.2.2.2.1,oK.2.2.2.2.2.1,oK.2.2.2.2.2.2.1,oK.2.2.2.2.2.2.2.1,oK.2.2.2.2.2.2.2.2.1,oK.2.2.2.2.2.2.2.2.2.1,()))) none)
 (some (.inr (jv oK.2.2.1 2001,()))))
 (a0,a2,1,0,a1.1,a1.2.1,a1.2.2.1,a1.2.2.2.1,a1.2.2.2.2.1,a1.2.2.2.2.2.1,())))
 (bK (S:=(List DS1)×Int×Int×Int×Int×ByteArray×(List ByteArray)×Int×Int×(List AV)×Unit) (R:=Int×Unit) (λoJ =>
 cond (cond (iLt oJ.2.2.2.1 (aA oJ.2.2.2.2.2.2.2.2.2.1)) (iLe oJ.2.2.1 2000) false)
 (cond (and (bnd oJ.2.2.2.1 (aA oJ.2.2.2.2.2.2.2.2.2.1)) (qy (atI oJ.2.2.2.2.2.2.2.2.2.1 oJ.2.2.2.1 AV.any)))
 ((self (oJ.1,aQ (atI oJ.2.2.2.2.2.2.2.2.2.1 oJ.2.2.2.1 AV.any),oJ.2.1,())).bind λb8t =>
 some (.inl (oJ.1,oJ.2.1,aR .i64 oJ.2.2.1 b8t.1,aR .i64 oJ.2.2.2.1 1,oJ.2.2.2.2.1,oJ.2.2.2.2.2.1,oJ.2.2.2.2.2.2.1,oJ.2.2.2.2.2.2.2.1,oJ.2.2.2.2.2.2.2.2.1,oJ.2.2.2.2.2.2.2.2.2.1,()))) none)
 (some (.inr (jv oJ.2.2.1 2001,()))))
 (a0,a2,1,0,a1.1,a1.2.1,a1.2.2.1,a1.2.2.2.1,a1.2.2.2.2.1,a1.2.2.2.2.2.1,())))
def b1M(a0:List DS1)(a1:DS0)(a2:Int):Option (Int×Unit):=eH (λself (x:(List DS1)×DS0×Int×Unit)=>Mt self x.1 x.2.1 x.2.2.1) 10000 (a0,a1,a2,())
def b9S:PI:=⟨169,[(.list tS1),tS0,(.int .i64)],[(.int .i64)],fun(x:(List DS1)×DS0×Int×Unit)=>b1M x.1 x.2.1 x.2.2.1⟩
theorem b0B:PK b9S:=nZ 10000 (ps:=[(.list tS1),tS0,(.int .i64)]) (rs:=[(.int .i64)]) (G:=λself (x:(List DS1)×DS0×Int×Unit)=>Mt self x.1 x.2.1 x.2.2.1) (mK (f:=Tryz.f169) (by kernel_rfl)) λself hr=>pk (.d 2 (.s (.d 1 (.c (.d 2 (.c (.d 1 (.s (.d 1 (.b (.l [] ⟨83,[(0,(.list tS1)),(2,(.int .i64)),(9,(.int .i64)),(10,(.int .i64))],[(4,.ptr 0 0 0)],[.box 34 [.d (.int .i64),.d .str,.d (.list .str),.d (.int .i64),.d (.int .i64),.d (.rl 34 6)]]⟩ .o))) .o)) .o)) .o)) (.d 1 (.s (.d 1 (.b (.l [] ⟨83,[(0,(.list tS1)),(2,(.int .i64)),(11,(.int .i64)),(12,(.int .i64))],[(4,.ptr 0 0 0)],[.box 34 [.d (.int .i64),.d .str,.d (.list .str),.d (.int .i64),.d (.int .i64),.d (.rl 34 6)]]⟩ .o))) .o)))) Tryz.func169 (cP hr (cP OP c0)) (by kernel_rfl) λx=>by kernel_rfl
def Ph(a0:List DS1)(a1:DS0):Option (Int×Unit) :=
 (b1M a0 (a1.1,a1.2.1,a1.2.2.1,a1.2.2.2.1,a1.2.2.2.2.1,a1.2.2.2.2.2.1,()) 0).bind λb8s =>
 some (b8s.1,())
def i139:PI:=⟨139,[(.list tS1),tS0],[(.int .i64)],fun(x:(List DS1)×DS0×Unit)=>Ph x.1 x.2.1⟩
theorem Yb:PK i139:=pk .o Tryz.func139 (cP b0B c0) (by kernel_rfl) λx=>by kernel_rfl
def ME(self:((List DS1)×(List AV)×Unit)->Option (Bool×Unit))(a0:List DS1)(a1:List AV):Option (Bool×Unit) :=
 bK (S:=(List DS1)×(List AV)×Int×Unit) (R:=Bool×Unit) (λqV =>
 cond (iLt qV.2.2.1 (aA qV.2.1))
 (cond (and (bnd qV.2.2.1 (aA qV.2.1)) (lN (atI qV.2.1 qV.2.2.1 AV.any)))
 ((Ph qV.1 ((aM (atI qV.2.1 qV.2.2.1 AV.any)).2.1)).bind λa8c =>
 cond (or (and (bnd qV.2.2.1 (aA qV.2.1)) (lN (atI qV.2.1 qV.2.2.1 AV.any))) (not (bEq (iLt 2000 a8c.1) false)))
 (cond (iLt 2000 a8c.1)
 (some (.inr (true,())))
 ((self (qV.1,(aM (atI qV.2.1 qV.2.2.1 AV.any)).2.2.1,())).bind λb8r =>
 cond b8r.1
 (some (.inr (true,())))
 (some (.inl (qV.1,qV.2.1,aR .i64 qV.2.2.1 1,()))))) none) none)
 (some (.inr (false,()))))
 (a0,a1,0,())
def b1R(a0:List DS1)(a1:List AV):Option (Bool×Unit):=eH (λself (x:(List DS1)×(List AV)×Unit)=>ME self x.1 x.2.1) 10000 (a0,a1,())
def b92:PI:=⟨140,[(.list tS1),(.rl 63 8)],[.bool],fun(x:(List DS1)×(List AV)×Unit)=>b1R x.1 x.2.1⟩
theorem b0R:PK b92:=nZ 10000 (ps:=[(.list tS1),(.rl 63 8)]) (rs:=[.bool]) (G:=λself (x:(List DS1)×(List AV)×Unit)=>ME self x.1 x.2.1) (mK (f:=Tryz.f140) (by kernel_rfl)) λself hr=>pk (.d 1 (.s (.d 1 (.b (.l [] ⟨29,[(0,(.list tS1)),(1,(.rl 63 8)),(5,(.int .i64))],[],[]⟩ .o))) .o)) Tryz.func140 (cP hr (cP Yb c0)) (by kernel_rfl) λx=>by kernel_rfl
def m89(a0:DS6)(a1:List DS1):Option (Int×Int×Unit) :=
 (UF (a0.1,())).bind λa8b =>
 cond (iNe a8b.1 0)
 (some (0,a8b.1,()))
 (cond (iLt 100 (aA a1))
 (some (0,4,()))
 (bK (S:=(List DS1)×Int×(List DS5)×Unit) (R:=Int×Int×Unit) (λjr =>
 cond (iLt jr.2.1 (aA jr.1))
 (cond (bnd jr.2.1 (aA jr.1))
 ((m56 (atI jr.1 jr.2.1 zS1)).bind λb8q =>
 cond (not b8q.1)
 (some (.inr (jr.2.1,5,())))
 (cond (bnd jr.2.1 (aA jr.1))
 ((m9 jr.1 ((atI jr.1 jr.2.1 zS1).2.1)).bind λb8p =>
 cond (iLt b8p.1 jr.2.1)
 (some (.inr (jr.2.1,8,())))
 (cond (bnd jr.2.1 (aA jr.1))
 ((Pj (jr.2.2.1,()) ((atI jr.1 jr.2.1 zS1).2.1)).bind λb8o =>
 cond b8o.2.1
 (some (.inr (jr.2.1,8,())))
 (cond (bnd jr.2.1 (aA jr.1))
 ((a2a (jr.2.2.1,()) jr.1 ((atI jr.1 jr.2.1 zS1).2.2.1)).bind λa8a =>
 cond (iNe a8a.1 0)
 (some (.inr (jr.2.1,a8a.1,())))
 (cond (bnd jr.2.1 (aA jr.1))
 ((b1S (jr.2.2.1,()) jr.1 ((atI jr.1 jr.2.1 zS1).2.2.2.1)).bind λa7Z =>
 cond (iNe a7Z.1 0)
 (some (.inr (jr.2.1,a7Z.1,())))
 (some (.inl (jr.1,aR .i64 jr.2.1 1,jr.2.2.1,())))) none)) none)) none)) none)) none)
 (Option.map Sum.inr ((UE jr.1).bind λa7Y =>
 cond (iNe a7Y.2.1 0)
 (some (0,a7Y.2.1,()))
 (bK (S:=(List DS1)×Int×Unit) (R:=Int×Int×Unit) (λuH =>
 cond (iLt uH.2.1 (aA uH.1))
 (cond (bnd uH.2.1 (aA uH.1))
 ((Ph uH.1 ((atI uH.1 uH.2.1 zS1).2.2.1)).bind λa7X =>
 cond (or (bnd uH.2.1 (aA uH.1)) (not (bEq (iLt 2000 a7X.1) false)))
 (cond (iLt 2000 a7X.1)
 (some (.inr (uH.2.1,4,())))
 ((b1R uH.1 ((atI uH.1 uH.2.1 zS1).2.2.2.1)).bind λb8n =>
 cond b8n.1
 (some (.inr (uH.2.1,4,())))
 (some (.inl (uH.1,aR .i64 uH.2.1 1,()))))) none) none)
 (some (.inr (0,0,()))))
 (jr.1,0,())))))
 (a1,0,a0.1,())))
def i89:PI:=⟨89,[tS6,(.list tS1)],[(.int .i64),(.int .i64)],fun(x:DS6×(List DS1)×Unit)=>m89 x.1 x.2.1⟩
theorem a4b:PK i89:=pk (.d 3 (.s (.d 1 (.b (.l [] ⟨120,[(1,(.list tS1)),(7,(.int .i64))],[(2,.ptr 0 0 0)],[.box 59 [.d (.list tS5)]]⟩ .o))) (.d 1 (.s (.d 1 (.b (.l [] ⟨120,[(1,(.list tS1)),(16,(.int .i64))],[],[]⟩ .o))) .o)))) Tryz.func89 (cP b0U (cP Yd (cP Yc (cP b0T (cP b0S (cP Yb (cP b0R (cP a4f (cP b0o c0))))))))) (by kernel_rfl) λx=>by kernel_rfl
def IK(a0:DS6)(a1:List Int)(a2:Int)(a3:List ByteArray):Option (DS0×(List Int)×Int×(List ByteArray)×Unit) :=
 cond (iLt 0 (aA a3))
 ((m24 3 a1 a2).bind λNp =>
 cond (iEq Np.1 0)
 ((m24 (aA a3) Np.2.1 Np.2.2.1).bind λNn =>
 cond (bnd Nn.1 (aA a3))
 (cond (inB (Int.toNat Nn.1) a3)
 (some ((3,List.getD a3 (Int.toNat Nn.1) ByteArray.empty,([]:List ByteArray),0,0,([]:List AV),()),Nn.2.1,Nn.2.2.1,a3,())) none) none)
 ((m24 (aA a0.1) Np.2.1 Np.2.2.1).bind λkF =>
 cond (bnd kF.1 (aA a0.1))
 (cond (iEq ((atI a0.1 kF.1 zS5).2.1) 3)
 (some ((3,(atI a0.1 kF.1 zS5).1,([]:List ByteArray),0,0,([]:List AV),()),kF.2.1,kF.2.2.1,a3,()))
 (cond (iEq ((atI a0.1 kF.1 zS5).2.1) 1)
 ((m24 (aA ((atI a0.1 kF.1 zS5).2.2.1)) kF.2.1 kF.2.2.1).bind λa0t =>
 (m88 1 (aA ((atI a0.1 kF.1 zS5).2.2.1)) a0t.2.1 a0t.2.2.1).bind λa0s =>
 bK (S:=Int×Int×(List Int)×Int×(List ByteArray)×Int×ByteArray×Int×Int×ByteArray×Int×(List ByteArray)×Int×Int×Int×ByteArray×Int×Int×(List ByteArray)×Unit) (R:=DS0×(List Int)×Int×(List ByteArray)×Unit) (λjq =>
 cond (iLt 0 jq.2.1)
 (cond (iNe (aA jq.2.2.2.2.2.2.2.2.2.2.2.1) 0)
 (cond (bnd (jC jq.1 (aA jq.2.2.2.2.2.2.2.2.2.2.2.1)) (aA jq.2.2.2.2.2.2.2.2.2.2.2.1))
 (cond (fits (List.length jq.2.2.2.2.2.2.2.2.2.2.2.2.2.2.2.2.2.2.1+List.length ([atI jq.2.2.2.2.2.2.2.2.2.2.2.1 (jC jq.1 (aA jq.2.2.2.2.2.2.2.2.2.2.2.1)) ByteArray.empty]:List ByteArray)) 16)
 (some (.inl (aR .i64 jq.1 1,dQ .i64 jq.2.1 1,jq.2.2.1,jq.2.2.2.1,jq.2.2.2.2.1,jq.2.2.2.2.2.1,jq.2.2.2.2.2.2.1,jq.2.2.2.2.2.2.2.1,jq.2.2.2.2.2.2.2.2.1,jq.2.2.2.2.2.2.2.2.2.1,jq.2.2.2.2.2.2.2.2.2.2.1,jq.2.2.2.2.2.2.2.2.2.2.2.1,jq.2.2.2.2.2.2.2.2.2.2.2.2.1,jq.2.2.2.2.2.2.2.2.2.2.2.2.2.1,jq.2.2.2.2.2.2.2.2.2.2.2.2.2.2.1,jq.2.2.2.2.2.2.2.2.2.2.2.2.2.2.2.1,jq.2.2.2.2.2.2.2.2.2.2.2.2.2.2.2.2.1,jq.2.2.2.2.2.2.2.2.2.2.2.2.2.2.2.2.2.1,jq.2.2.2.2.2.2.2.2.2.2.2.2.2.2.2.2.2.2.1++([atI jq.2.2.2.2.2.2.2.2.2.2.2.1 (jC jq.1 (aA jq.2.2.2.2.2.2.2.2.2.2.2.1)) ByteArray.empty]:List ByteArray),()))) none) none) none)
 (some (.inr ((jq.2.2.2.2.2.2.2.2.2.2.2.2.2.2.1,jq.2.2.2.2.2.2.2.2.2.2.2.2.2.2.2.1,jq.2.2.2.2.2.2.2.2.2.2.2.2.2.2.2.2.2.2.1,jq.2.2.2.2.2.2.2.2.2.2.2.2.2.2.2.2.1,jq.2.2.2.2.2.2.2.2.2.2.2.2.2.2.2.2.2.1,([]:List AV),()),jq.2.2.1,jq.2.2.2.1,jq.2.2.2.2.1,()))))
 (a0t.1,a0s.1,a0s.2.1,a0s.2.2.1,a3,0,(bs []),0,0,(atI a0.1 kF.1 zS5).1,(atI a0.1 kF.1 zS5).2.1,(atI a0.1 kF.1 zS5).2.2.1,(atI a0.1 kF.1 zS5).2.2.2.1,(atI a0.1 kF.1 zS5).2.2.2.2.1,4,(atI a0.1 kF.1 zS5).1,0,0,([]:List ByteArray),()))
 ((m24 (aR .i64 (dQ .i64 ((atI a0.1 kF.1 zS5).2.2.2.2.1) ((atI a0.1 kF.1 zS5).2.2.2.1)) 1) kF.2.1 kF.2.2.1).bind λa0r =>
 lV (S:=Int×(List Int)×Int×(List ByteArray)×Int×ByteArray×Int×Int×ByteArray×Int×(List ByteArray)×Int×Int×Unit) (R:=DS0×(List Int)×Int×(List ByteArray)×Unit)
 ((m24 2 a0r.2.1 a0r.2.2.1).bind λNl =>
 cond (iEq Nl.1 0)
 ((m24 12 Nl.2.1 Nl.2.2.1).bind λa0q =>
 some (.inl (jv (tu (dQ .i64 a0q.1 4) ((atI a0.1 kF.1 zS5).2.2.2.1)) ((atI a0.1 kF.1 zS5).2.2.2.2.1),a0q.2.1,a0q.2.2.1,a3,0,(bs []),0,0,(atI a0.1 kF.1 zS5).1,(atI a0.1 kF.1 zS5).2.1,(atI a0.1 kF.1 zS5).2.2.1,(atI a0.1 kF.1 zS5).2.2.2.1,(atI a0.1 kF.1 zS5).2.2.2.2.1,())))
 (some (.inl (aR .i64 ((atI a0.1 kF.1 zS5).2.2.2.1) a0r.1,Nl.2.1,Nl.2.2.1,a3,0,(bs []),0,0,(atI a0.1 kF.1 zS5).1,(atI a0.1 kF.1 zS5).2.1,(atI a0.1 kF.1 zS5).2.2.1,(atI a0.1 kF.1 zS5).2.2.2.1,(atI a0.1 kF.1 zS5).2.2.2.2.1,()))))
 (λxL =>
 (m24 (aR .i64 (dQ .i64 xL.2.2.2.2.2.2.2.2.2.2.2.2.1 xL.1) 1) xL.2.1 xL.2.2.1).bind λa0p =>
 (m24 2 a0p.2.1 a0p.2.2.1).bind λNj =>
 cond (iEq Nj.1 0)
 ((m24 4 Nj.2.1 Nj.2.2.1).bind λa0o =>
 some ((5,xL.2.2.2.2.2.2.2.2.1,([]:List ByteArray),xL.1,jv (aR .i64 xL.1 a0o.1) xL.2.2.2.2.2.2.2.2.2.2.2.2.1,([]:List AV),()),a0o.2.1,a0o.2.2.1,xL.2.2.2.1,()))
 (some ((5,xL.2.2.2.2.2.2.2.2.1,([]:List ByteArray),xL.1,aR .i64 xL.1 a0p.1,([]:List AV),()),Nj.2.1,Nj.2.2.1,xL.2.2.2.1,())))))) none))
 ((m24 (aA a0.1) a1 a2).bind λkE =>
 cond (bnd kE.1 (aA a0.1))
 (cond (iEq ((atI a0.1 kE.1 zS5).2.1) 3)
 (some ((3,(atI a0.1 kE.1 zS5).1,([]:List ByteArray),0,0,([]:List AV),()),kE.2.1,kE.2.2.1,a3,()))
 (cond (iEq ((atI a0.1 kE.1 zS5).2.1) 1)
 ((m24 (aA ((atI a0.1 kE.1 zS5).2.2.1)) kE.2.1 kE.2.2.1).bind λa0n =>
 (m88 1 (aA ((atI a0.1 kE.1 zS5).2.2.1)) a0n.2.1 a0n.2.2.1).bind λa0m =>
 bK (S:=Int×Int×(List Int)×Int×(List ByteArray)×Int×ByteArray×Int×Int×ByteArray×Int×(List ByteArray)×Int×Int×Int×ByteArray×Int×Int×(List ByteArray)×Unit) (R:=DS0×(List Int)×Int×(List ByteArray)×Unit) (λjo =>
 cond (iLt 0 jo.2.1)
 (cond (iNe (aA jo.2.2.2.2.2.2.2.2.2.2.2.1) 0)
 (cond (bnd (jC jo.1 (aA jo.2.2.2.2.2.2.2.2.2.2.2.1)) (aA jo.2.2.2.2.2.2.2.2.2.2.2.1))
 (cond (fits (List.length jo.2.2.2.2.2.2.2.2.2.2.2.2.2.2.2.2.2.2.1+List.length ([atI jo.2.2.2.2.2.2.2.2.2.2.2.1 (jC jo.1 (aA jo.2.2.2.2.2.2.2.2.2.2.2.1)) ByteArray.empty]:List ByteArray)) 16)
 (some (.inl (aR .i64 jo.1 1,dQ .i64 jo.2.1 1,jo.2.2.1,jo.2.2.2.1,jo.2.2.2.2.1,jo.2.2.2.2.2.1,jo.2.2.2.2.2.2.1,jo.2.2.2.2.2.2.2.1,jo.2.2.2.2.2.2.2.2.1,jo.2.2.2.2.2.2.2.2.2.1,jo.2.2.2.2.2.2.2.2.2.2.1,jo.2.2.2.2.2.2.2.2.2.2.2.1,jo.2.2.2.2.2.2.2.2.2.2.2.2.1,jo.2.2.2.2.2.2.2.2.2.2.2.2.2.1,jo.2.2.2.2.2.2.2.2.2.2.2.2.2.2.1,jo.2.2.2.2.2.2.2.2.2.2.2.2.2.2.2.1,jo.2.2.2.2.2.2.2.2.2.2.2.2.2.2.2.2.1,jo.2.2.2.2.2.2.2.2.2.2.2.2.2.2.2.2.2.1,jo.2.2.2.2.2.2.2.2.2.2.2.2.2.2.2.2.2.2.1++([atI jo.2.2.2.2.2.2.2.2.2.2.2.1 (jC jo.1 (aA jo.2.2.2.2.2.2.2.2.2.2.2.1)) ByteArray.empty]:List ByteArray),()))) none) none) none)
 (some (.inr ((jo.2.2.2.2.2.2.2.2.2.2.2.2.2.2.1,jo.2.2.2.2.2.2.2.2.2.2.2.2.2.2.2.1,jo.2.2.2.2.2.2.2.2.2.2.2.2.2.2.2.2.2.2.1,jo.2.2.2.2.2.2.2.2.2.2.2.2.2.2.2.2.1,jo.2.2.2.2.2.2.2.2.2.2.2.2.2.2.2.2.2.1,([]:List AV),()),jo.2.2.1,jo.2.2.2.1,jo.2.2.2.2.1,()))))
 (a0n.1,a0m.1,a0m.2.1,a0m.2.2.1,a3,0,(bs []),0,0,(atI a0.1 kE.1 zS5).1,(atI a0.1 kE.1 zS5).2.1,(atI a0.1 kE.1 zS5).2.2.1,(atI a0.1 kE.1 zS5).2.2.2.1,(atI a0.1 kE.1 zS5).2.2.2.2.1,4,(atI a0.1 kE.1 zS5).1,0,0,([]:List ByteArray),()))
 ((m24 (aR .i64 (dQ .i64 ((atI a0.1 kE.1 zS5).2.2.2.2.1) ((atI a0.1 kE.1 zS5).2.2.2.1)) 1) kE.2.1 kE.2.2.1).bind λa0l =>
 lV (S:=Int×(List Int)×Int×(List ByteArray)×Int×ByteArray×Int×Int×ByteArray×Int×(List ByteArray)×Int×Int×Unit) (R:=DS0×(List Int)×Int×(List ByteArray)×Unit)
 ((m24 2 a0l.2.1 a0l.2.2.1).bind λNi =>
 cond (iEq Ni.1 0)
 ((m24 12 Ni.2.1 Ni.2.2.1).bind λa0k =>
 some (.inl (jv (tu (dQ .i64 a0k.1 4) ((atI a0.1 kE.1 zS5).2.2.2.1)) ((atI a0.1 kE.1 zS5).2.2.2.2.1),a0k.2.1,a0k.2.2.1,a3,0,(bs []),0,0,(atI a0.1 kE.1 zS5).1,(atI a0.1 kE.1 zS5).2.1,(atI a0.1 kE.1 zS5).2.2.1,(atI a0.1 kE.1 zS5).2.2.2.1,(atI a0.1 kE.1 zS5).2.2.2.2.1,())))
 (some (.inl (aR .i64 ((atI a0.1 kE.1 zS5).2.2.2.1) a0l.1,Ni.2.1,Ni.2.2.1,a3,0,(bs []),0,0,(atI a0.1 kE.1 zS5).1,(atI a0.1 kE.1 zS5).2.1,(atI a0.1 kE.1 zS5).2.2.1,(atI a0.1 kE.1 zS5).2.2.2.1,(atI a0.1 kE.1 zS5).2.2.2.2.1,()))))
 (λxK =>
 (m24 (aR .i64 (dQ .i64 xK.2.2.2.2.2.2.2.2.2.2.2.2.1 xK.1) 1) xK.2.1 xK.2.2.1).bind λa0j =>
 (m24 2 a0j.2.1 a0j.2.2.1).bind λNh =>
 cond (iEq Nh.1 0)
 ((m24 4 Nh.2.1 Nh.2.2.1).bind λa0i =>
 some ((5,xK.2.2.2.2.2.2.2.2.1,([]:List ByteArray),xK.1,jv (aR .i64 xK.1 a0i.1) xK.2.2.2.2.2.2.2.2.2.2.2.2.1,([]:List AV),()),a0i.2.1,a0i.2.2.1,xK.2.2.2.1,()))
 (some ((5,xK.2.2.2.2.2.2.2.2.1,([]:List ByteArray),xK.1,aR .i64 xK.1 a0j.1,([]:List AV),()),Nh.2.1,Nh.2.2.1,xK.2.2.2.1,())))))) none)
def a2i:Sh:=⟨3,[(1,tS6)],[(0,.ptr 0 0 0),(2,.row 1)],[.box 65 [.d (.list (.int .i64)),.d (.int .i64)],.row 9 .str false]⟩
def a1D:Sh:=⟨1,[(0,tS0)],[],[.box 65 [.d (.list (.int .i64)),.d (.int .i64)],.row 9 .str false]⟩
def b2W:HI:=⟨164,a2i,a1D,fun(x:DS6×(List Int)×Int×(List ByteArray)×Unit)=>IK x.1 x.2.1 x.2.2.1 x.2.2.2.1,[1]⟩
theorem a1J:HK b2W:=hkz (.d 2 (.s (.u [0]) (.s (.d 1 (.b (.d 1 (.c .o (.d 1 (.c (.d 2 (.s (.d 1 (.b (.l [.ghc 8 2 9 .str] ⟨128,[(9,(.int .i64)),(10,(.int .i64))],[(6,.ptr 2 0 0),(7,.ptr 3 0 0),(8,.ptr 4 0 0)],[.box 65 [.d (.list (.int .i64)),.d (.int .i64)],.row 9 .str false,.box 34 [.d (.int .i64),.d .str,.nil,.d (.int .i64),.d (.int .i64),.nil],.box 106 [.d .str,.d (.int .i64),.d (.list .str),.d (.int .i64),.d (.int .i64)],.box 34 [.d (.int .i64),.d .str,.row 5,.d (.int .i64),.d (.int .i64),.nil],.row 9 .str false]⟩ .o))) .o)) .o)))))) (.s (.u [0]) (.j [] ⟨128,[(11,(.int .i64))],[(0,.ptr 0 0 0),(6,.ptr 2 0 0),(7,.ptr 3 0 0)],[.box 65 [.d (.list (.int .i64)),.d (.int .i64)],.row 9 .str false,.box 34 [.d (.int .i64),.d .str,.nil,.d (.int .i64),.d (.int .i64),.nil],.box 106 [.d .str,.d (.int .i64),.d (.list .str),.d (.int .i64),.d (.int .i64)]]⟩ (.d 1 (.c (.u [0]) .o)) (.d 1 (.s (.d 1 (.c (.u [0]) .o)) .o))))))) [] tS0 Tryz.func164 (cH uU (cH Im c0)) (by kernel_rfl) λx=>by kernel_rfl
def Fh(self:(DS6×Int×(List Int)×Int×(List ByteArray)×Unit)->Option (DS0×(List Int)×Int×(List ByteArray)×Unit))(a0:DS6)(a1:Int)(a2:List Int)(a3:Int)(a4:List ByteArray):Option (DS0×(List Int)×Int×(List ByteArray)×Unit) :=
 (m24 8 a2 a3).bind λC8 =>
 cond (cond (iLt a1 2) true (iLt C8.1 4))
 ((m24 12 C8.2.1 C8.2.2.1).bind λDl =>
 cond (iEq Dl.1 10)
 (some ((1,(bs []),([]:List ByteArray),0,0,([]:List AV),()),Dl.2.1,Dl.2.2.1,a4,()))
 (cond (iEq Dl.1 11)
 (some ((2,(bs []),([]:List ByteArray),0,0,([]:List AV),()),Dl.2.1,Dl.2.2.1,a4,()))
 ((IK (a0.1,()) Dl.2.1 Dl.2.2.1 a4).bind λAB =>
 cond (and (Nat.beq (List.length a4) (List.length AB.2.2.2.1)) true)
 (some ((AB.1.1,AB.1.2.1,AB.1.2.2.1,AB.1.2.2.2.1,AB.1.2.2.2.2.1,AB.1.2.2.2.2.2.1,()),AB.2.1,AB.2.2.1,AB.2.2.2.1,())) none)))
 (cond (iLt C8.1 6)
 ((self ((a0.1,()),dQ .i64 a1 1,C8.2.1,C8.2.2.1,a4,())).bind λNg =>
 cond (and (Nat.beq (List.length a4) (List.length Ng.2.2.2.1)) true)
 (some ((6,(bs []),([]:List ByteArray),0,0,ou ([Ng.1]:List DS0),()),Ng.2.1,Ng.2.2.1,Ng.2.2.2.1,())) none)
 ((m88 2 3 C8.2.1 C8.2.2.1).bind λa0h =>
 bK (S:=Int×Int×(List Int)×Int×(List ByteArray)×(List DS5)×Int×ByteArray×Int×Int×Int×ByteArray×Int×Int×(List DS0)×Unit) (R:=DS0×(List Int)×Int×(List ByteArray)×Unit) (λmo =>
 cond (iLt 0 mo.2.1)
 ((self ((mo.2.2.2.2.2.1,()),dQ .i64 mo.1 1,mo.2.2.1,mo.2.2.2.1,mo.2.2.2.2.1,())).bind λJm =>
 cond (and (Nat.beq (List.length mo.2.2.2.2.1) (List.length Jm.2.2.2.1)) true)
 (cond (fits (List.length mo.2.2.2.2.2.2.2.2.2.2.2.2.2.2.1+List.length ([Jm.1]:List DS0)) 88)
 (some (.inl (mo.1,dQ .i64 mo.2.1 1,Jm.2.1,Jm.2.2.1,Jm.2.2.2.1,mo.2.2.2.2.2.1,mo.2.2.2.2.2.2.1,mo.2.2.2.2.2.2.2.1,mo.2.2.2.2.2.2.2.2.1,mo.2.2.2.2.2.2.2.2.2.1,mo.2.2.2.2.2.2.2.2.2.2.1,mo.2.2.2.2.2.2.2.2.2.2.2.1,mo.2.2.2.2.2.2.2.2.2.2.2.2.1,mo.2.2.2.2.2.2.2.2.2.2.2.2.2.1,mo.2.2.2.2.2.2.2.2.2.2.2.2.2.2.1++([Jm.1]:List DS0),()))) none) none)
 (some (.inr ((mo.2.2.2.2.2.2.2.2.2.2.1,mo.2.2.2.2.2.2.2.2.2.2.2.1,([]:List ByteArray),mo.2.2.2.2.2.2.2.2.2.2.2.2.1,mo.2.2.2.2.2.2.2.2.2.2.2.2.2.1,ou mo.2.2.2.2.2.2.2.2.2.2.2.2.2.2.1,()),mo.2.2.1,mo.2.2.2.1,mo.2.2.2.2.1,()))))
 (a1,a0h.1,a0h.2.1,a0h.2.2.1,a4,a0.1,0,(bs []),0,0,aR .i64 C8.1 1,(bs []),0,0,([]:List DS0),())))
def Ej(a0:DS6)(a1:Int)(a2:List Int)(a3:Int)(a4:List ByteArray):Option (DS0×(List Int)×Int×(List ByteArray)×Unit):=eH (λself (x:DS6×Int×(List Int)×Int×(List ByteArray)×Unit)=>Fh self x.1 x.2.1 x.2.2.1 x.2.2.2.1 x.2.2.2.2.1) 10000 (a0,a1,a2,a3,a4,())
def PY:Sh:=⟨4,[(1,tS6),(3,(.int .i64))],[(0,.ptr 0 0 0),(2,.row 1)],[.box 65 [.d (.list (.int .i64)),.d (.int .i64)],.row 9 .str false]⟩
def OM:Sh:=⟨1,[(0,tS0)],[],[.box 65 [.d (.list (.int .i64)),.d (.int .i64)],.row 9 .str false]⟩
def b2Y:HI:=⟨131,PY,OM,fun(x:DS6×Int×(List Int)×Int×(List ByteArray)×Unit)=>Ej x.1 x.2.1 x.2.2.1 x.2.2.2.1 x.2.2.2.2.1,[1]⟩
theorem OU:HK b2Y:=rC 10000 (ish:=PY) (osh:=OM) (G:=λself (x:DS6×Int×(List Int)×Int×(List ByteArray)×Unit)=>Fh self x.1 x.2.1 x.2.2.1 x.2.2.2.1 x.2.2.2.2.1) (mK (f:=Tryz.f131) (by kernel_rfl)) λself hr=>hkz (.d 4 (.s (.d 1 (.b (.l [.ghc 10 5 34 tS0] ⟨65,[(3,(.int .i64)),(11,(.int .i64))],[(0,.ptr 0 0 0),(2,.row 1),(5,.ptr 2 0 0),(8,.ptr 3 0 0),(10,.ptr 4 0 0)],[.box 65 [.d (.list (.int .i64)),.d (.int .i64)],.row 9 .str false,.box 59 [.d (.list tS5)],.box 34 [.d (.int .i64),.d .str,.nil,.d (.int .i64),.d (.int .i64),.nil],.box 34 [.d (.int .i64),.d .str,.nil,.d (.int .i64),.d (.int .i64),.row 5],.row 34 tS0 false]⟩ (.d 1 (.s (.b (.u [0,1])) .o))))) .o)) [] tS0 Tryz.func131 (cH hr (cH a1J (cH uU (cH Im c0)))) (by kernel_rfl) λx=>by kernel_rfl
def Fg(self:(DS6×Int×(List Int)×Int×(List ByteArray)×Unit)->Option ((List AV)×(List Int)×Int×(List ByteArray)×Unit))(a0:DS6)(a1:Int)(a2:List Int)(a3:Int)(a4:List ByteArray):Option ((List AV)×(List Int)×Int×(List ByteArray)×Unit) :=
 (m24 3 a2 a3).bind λa0g =>
 bK (S:=Int×Int×(List Int)×Int×(List ByteArray)×(List DS5)×(List DS7)×Unit) (R:=(List AV)×(List Int)×Int×(List ByteArray)×Unit) (λrW =>
 cond (cond (iLt 0 rW.2.1) (iLt 0 rW.1) false)
 ((m24 3 rW.2.2.1 rW.2.2.2.1).bind λNf =>
 cond (bnd Nf.1 (aA ([(bs [119]),(bs [120]),(bs [121])]:List ByteArray)))
 ((Ej (rW.2.2.2.2.2.1,()) 2 Nf.2.1 Nf.2.2.1 rW.2.2.2.2.1).bind λsI =>
 cond (and (Nat.beq (List.length rW.2.2.2.2.1) (List.length sI.2.2.2.1)) true)
 ((self ((rW.2.2.2.2.2.1,()),dQ .i64 rW.1 1,sI.2.1,sI.2.2.1,sI.2.2.2.1,())).bind λJl =>
 cond (and (Nat.beq (List.length sI.2.2.2.1) (List.length Jl.2.2.2.1)) true)
 (cond (fits (List.length rW.2.2.2.2.2.2.1+List.length ([(atI ([(bs [119]),(bs [120]),(bs [121])]:List ByteArray) Nf.1 ByteArray.empty,(sI.1.1,sI.1.2.1,sI.1.2.2.1,sI.1.2.2.2.1,sI.1.2.2.2.2.1,sI.1.2.2.2.2.2.1,()),Jl.1,())]:List DS7)) 128)
 (some (.inl (rW.1,dQ .i64 rW.2.1 1,Jl.2.1,Jl.2.2.1,Jl.2.2.2.1,rW.2.2.2.2.2.1,rW.2.2.2.2.2.2.1++([(atI ([(bs [119]),(bs [120]),(bs [121])]:List ByteArray) Nf.1 ByteArray.empty,(sI.1.1,sI.1.2.1,sI.1.2.2.1,sI.1.2.2.2.1,sI.1.2.2.2.2.1,sI.1.2.2.2.2.2.1,()),Jl.1,())]:List DS7),()))) none) none) none) none)
 (some (.inr (nA rW.2.2.2.2.2.2.1,rW.2.2.1,rW.2.2.2.1,rW.2.2.2.2.1,()))))
 (a1,a0g.1,a0g.2.1,a0g.2.2.1,a4,a0.1,([]:List DS7),())
def IL(a0:DS6)(a1:Int)(a2:List Int)(a3:Int)(a4:List ByteArray):Option ((List AV)×(List Int)×Int×(List ByteArray)×Unit):=eH (λself (x:DS6×Int×(List Int)×Int×(List ByteArray)×Unit)=>Fg self x.1 x.2.1 x.2.2.1 x.2.2.2.1 x.2.2.2.2.1) 10000 (a0,a1,a2,a3,a4,())
def PW:Sh:=⟨4,[(1,tS6),(3,(.int .i64))],[(0,.ptr 0 0 0),(2,.row 1)],[.box 65 [.d (.list (.int .i64)),.d (.int .i64)],.row 9 .str false]⟩
def OL:Sh:=⟨1,[(0,(.rl 63 8))],[],[.box 65 [.d (.list (.int .i64)),.d (.int .i64)],.row 9 .str false]⟩
def b2X:HI:=⟨132,PW,OL,fun(x:DS6×Int×(List Int)×Int×(List ByteArray)×Unit)=>IL x.1 x.2.1 x.2.2.1 x.2.2.2.1 x.2.2.2.2.1,[1]⟩
theorem a1K:HK b2X:=rC 10000 (ish:=PW) (osh:=OL) (G:=λself (x:DS6×Int×(List Int)×Int×(List ByteArray)×Unit)=>Fg self x.1 x.2.1 x.2.2.1 x.2.2.2.1 x.2.2.2.2.1) (mK (f:=Tryz.f132) (by kernel_rfl)) λself hr=>hkz (.d 2 (.s (.d 1 (.b (.l [.gh 9 63 tS7] ⟨41,[(3,(.int .i64)),(10,(.int .i64))],[(0,.ptr 0 0 0),(2,.row 1),(5,.ptr 2 0 0),(9,.row 3)],[.box 65 [.d (.list (.int .i64)),.d (.int .i64)],.row 9 .str false,.box 59 [.d (.list tS5)],.row 63 tS7 false]⟩ (.d 1 (.s (.b (.u [0,1])) .o))))) .o)) [] (.rl 63 8) Tryz.func132 (cH hr (cH OU (cH uU c0))) (by kernel_rfl) λx=>by kernel_rfl
def IJ(a0:DS6)(a1:Int)(a2:ByteArray)(a3:List Int)(a4:Int)(a5:List ByteArray):Option (DS1×(List Int)×Int×(List ByteArray)×Unit) :=
 (Ej (a0.1,()) 3 a3 a4 a5).bind λjL =>
 cond (and (Nat.beq (List.length a5) (List.length jL.2.2.2.1)) true)
 (cond (iEq a1 3)
 ((IL (a0.1,()) 2 jL.2.1 jL.2.2.1 jL.2.2.2.1).bind λBZ =>
 cond (and (Nat.beq (List.length jL.2.2.2.1) (List.length BZ.2.2.2.1)) true)
 ((yP a1).bind λa7W =>
 cond (iLt 0 a7W.1)
 ((Ei (dQ .i64 a7W.1 1) BZ.2.1 BZ.2.2.1).bind λa0f =>
 some ((a1,a2,(jL.1.1,jL.1.2.1,jL.1.2.2.1,jL.1.2.2.2.1,jL.1.2.2.2.2.1,jL.1.2.2.2.2.2.1,()),BZ.1,aR .i64 1 a0f.1,()),a0f.2.1,a0f.2.2.1,BZ.2.2.2.1,()))
 (some ((a1,a2,(jL.1.1,jL.1.2.1,jL.1.2.2.1,jL.1.2.2.2.1,jL.1.2.2.2.2.1,jL.1.2.2.2.2.2.1,()),BZ.1,0,()),BZ.2.1,BZ.2.2.1,BZ.2.2.2.1,()))) none)
 ((yP a1).bind λa7V =>
 cond (iLt 0 a7V.1)
 ((Ei (dQ .i64 a7V.1 1) jL.2.1 jL.2.2.1).bind λa0e =>
 some ((a1,a2,(jL.1.1,jL.1.2.1,jL.1.2.2.1,jL.1.2.2.2.1,jL.1.2.2.2.2.1,jL.1.2.2.2.2.2.1,()),([]:List AV),aR .i64 1 a0e.1,()),a0e.2.1,a0e.2.2.1,jL.2.2.2.1,()))
 (some ((a1,a2,(jL.1.1,jL.1.2.1,jL.1.2.2.1,jL.1.2.2.2.1,jL.1.2.2.2.2.1,jL.1.2.2.2.2.2.1,()),([]:List AV),0,()),jL.2.1,jL.2.2.1,jL.2.2.2.1,())))) none
def a6v:Sh:=⟨5,[(1,tS6),(2,(.int .i64)),(3,.str)],[(0,.ptr 0 0 0),(4,.row 1)],[.box 65 [.d (.list (.int .i64)),.d (.int .i64)],.row 9 .str false]⟩
def a5G:Sh:=⟨1,[(0,tS1)],[],[.box 65 [.d (.list (.int .i64)),.d (.int .i64)],.row 9 .str false]⟩
def b6o:HI:=⟨85,a6v,a5G,fun(x:DS6×Int×ByteArray×(List Int)×Int×(List ByteArray)×Unit)=>IJ x.1 x.2.1 x.2.2.1 x.2.2.2.1 x.2.2.2.2.1 x.2.2.2.2.2.1,[1]⟩
theorem a5T:HK b6o:=hkz .o [] tS1 Tryz.func85 (cP OQ (cH OU (cH a1K (cH Yh c0)))) (by kernel_rfl) λx=>by kernel_rfl
def m48(a0:DS6)(a1:Int)(a2:ByteArray)(a3:List Int)(a4:Int):Option ((List Int)×Int×(List DS1)×Unit) :=
 (m86 a2 0).bind λb8m =>
 (m85 (a0.1,()) 2 b8m.1 a3 a4).bind λAA =>
 lV (S:=Int×ByteArray×(List Int)×Int×(List DS5)×(List DS1)×Unit) (R:=(List Int)×Int×(List DS1)×Unit)
 ((m24 3 AA.2.1 AA.2.2.1).bind λNc =>
 cond (iLt 0 Nc.1)
 (cond (bnd 0 (aA ([AA.1]:List DS1)))
 (cond (inB (Int.toNat 0) ([AA.1]:List DS1))
 (some (.inl (a1,a2,Nc.2.1,Nc.2.2.1,a0.1,List.set ([AA.1]:List DS1) (Int.toNat 0) ((List.getD ([AA.1]:List DS1) (Int.toNat 0) zS1).1,(List.getD ([AA.1]:List DS1) (Int.toNat 0) zS1).2.1,(1,(bs []),([]:List ByteArray),0,0,([]:List AV),()),(List.getD ([AA.1]:List DS1) (Int.toNat 0) zS1).2.2.2.1,(List.getD ([AA.1]:List DS1) (Int.toNat 0) zS1).2.2.2.2.1,()),()))) none) none)
 (some (.inl (a1,a2,Nc.2.1,Nc.2.2.1,a0.1,([AA.1]:List DS1),()))))
 (λK5 =>
 bK (S:=Int×ByteArray×Int×(List Int)×Int×(List DS5)×(List ByteArray)×(List DS1)×Unit) (R:=(List Int)×Int×(List DS1)×Unit) (λkT =>
 cond (iLe kT.2.2.1 kT.1)
 ((m87 kT.2.2.2.1 kT.2.2.2.2.1).bind λNb =>
 cond Nb.1
 ((m88 1 10 Nb.2.1 Nb.2.2.1).bind λa0d =>
 (m86 kT.2.1 kT.2.2.1).bind λb8l =>
 (IJ (kT.2.2.2.2.2.1,()) a0d.1 b8l.1 a0d.2.1 a0d.2.2.1 kT.2.2.2.2.2.2.1).bind λgH =>
 cond (and (Nat.beq (List.length kT.2.2.2.2.2.2.1) (List.length gH.2.2.2.1)) true)
 (cond (fits (List.length ([]:List DS1)+List.length kT.2.2.2.2.2.2.2.1) 144)
 (cond (fits (List.length (([]:List DS1)++kT.2.2.2.2.2.2.2.1)+List.length ([(gH.1.1,gH.1.2.1,(gH.1.2.2.1.1,gH.1.2.2.1.2.1,gH.1.2.2.1.2.2.1,gH.1.2.2.1.2.2.2.1,gH.1.2.2.1.2.2.2.2.1,gH.1.2.2.1.2.2.2.2.2.1,()),gH.1.2.2.2.1,gH.1.2.2.2.2.1,())]:List DS1)) 144)
 ((m89 (kT.2.2.2.2.2.1,()) ((([]:List DS1)++kT.2.2.2.2.2.2.2.1)++([(gH.1.1,gH.1.2.1,(gH.1.2.2.1.1,gH.1.2.2.1.2.1,gH.1.2.2.1.2.2.1,gH.1.2.2.1.2.2.2.1,gH.1.2.2.1.2.2.2.2.1,gH.1.2.2.1.2.2.2.2.2.1,()),gH.1.2.2.2.1,gH.1.2.2.2.2.1,())]:List DS1))).bind λb8k =>
 cond (iNe b8k.2.1 0)
 (some (.inl (kT.1,kT.2.1,aR .i64 kT.2.2.1 1,gH.2.1,gH.2.2.1,kT.2.2.2.2.2.1,gH.2.2.2.1,kT.2.2.2.2.2.2.2.1,())))
 (cond (iEq gH.1.1 1)
 (cond (fits (List.length gH.2.2.2.1+List.length ([gH.1.2.1]:List ByteArray)) 16)
 (some (.inl (kT.1,kT.2.1,aR .i64 kT.2.2.1 1,gH.2.1,gH.2.2.1,kT.2.2.2.2.2.1,gH.2.2.2.1++([gH.1.2.1]:List ByteArray),(([]:List DS1)++kT.2.2.2.2.2.2.2.1)++([(gH.1.1,gH.1.2.1,(gH.1.2.2.1.1,gH.1.2.2.1.2.1,gH.1.2.2.1.2.2.1,gH.1.2.2.1.2.2.2.1,gH.1.2.2.1.2.2.2.2.1,gH.1.2.2.1.2.2.2.2.2.1,()),gH.1.2.2.2.1,gH.1.2.2.2.2.1,())]:List DS1),()))) none)
 (some (.inl (kT.1,kT.2.1,aR .i64 kT.2.2.1 1,gH.2.1,gH.2.2.1,kT.2.2.2.2.2.1,gH.2.2.2.1,(([]:List DS1)++kT.2.2.2.2.2.2.2.1)++([(gH.1.1,gH.1.2.1,(gH.1.2.2.1.1,gH.1.2.2.1.2.1,gH.1.2.2.1.2.2.1,gH.1.2.2.1.2.2.2.1,gH.1.2.2.1.2.2.2.2.1,gH.1.2.2.1.2.2.2.2.2.1,()),gH.1.2.2.2.1,gH.1.2.2.2.2.1,())]:List DS1),()))))) none) none) none)
 (some (.inr (Nb.2.1,Nb.2.2.1,kT.2.2.2.2.2.2.2.1,()))))
 (some (.inr (kT.2.2.2.1,kT.2.2.2.2.1,kT.2.2.2.2.2.2.2.1,()))))
 (K5.1,K5.2.1,1,K5.2.2.1,K5.2.2.2.1,K5.2.2.2.2.1,([]:List ByteArray),K5.2.2.2.2.2.1,()))
def b54:Sh:=⟨4,[(1,tS6),(2,(.int .i64)),(3,.str)],[(0,.ptr 0 0 0)],[.box 65 [.d (.list (.int .i64)),.d (.int .i64)]]⟩
def b4N:Sh:=⟨1,[],[(0,.row 1)],[.box 65 [.d (.list (.int .i64)),.d (.int .i64)],.row 37 tS1 false]⟩
def h48:HI:=⟨48,b54,b4N,fun(x:DS6×Int×ByteArray×(List Int)×Int×Unit)=>m48 x.1 x.2.1 x.2.2.1 x.2.2.2.1 x.2.2.2.2.1,[]⟩
theorem b5A:HK h48:=hk (.d 2 (.s (.u [0]) (.j [] ⟨71,[(2,(.int .i64)),(3,.str)],[(0,.ptr 0 0 0),(5,.ptr 1 0 0),(9,.nil),(10,.row 2)],[.box 65 [.d (.list (.int .i64)),.d (.int .i64)],.box 59 [.d (.list tS5)],.row 37 tS1 false]⟩ .o (.s (.d 1 (.b (.l [.gh 9 9 .str] ⟨71,[(2,(.int .i64)),(3,.str),(11,(.int .i64))],[(0,.ptr 0 0 0),(5,.ptr 1 0 0),(9,.row 2),(10,.row 3)],[.box 65 [.d (.list (.int .i64)),.d (.int .i64)],.box 59 [.d (.list tS5)],.row 9 .str false,.row 37 tS1 false]⟩ (.d 1 (.s (.b (.s (.u [0,2]) .o)) .o))))) .o)))) [] Tryz.func48 (cP b49 (cP a4b (cH uU (cH b5t (cH a5T (cH b5s (cH Im c0))))))) (by kernel_rfl) λx=>by kernel_rfl
def m90(a0:List Int)(a1:Int):Option (Int×(List Int)×Int×Unit) :=
 (m24 4 a0 a1).bind λzy =>
 cond (iEq zy.1 0)
 ((m24 60 zy.2.1 zy.2.2.1).bind λa0c =>
 some (a0c.1,a0c.2.1,a0c.2.2.1,()))
 (cond (iEq zy.1 1)
 ((m24 20000 zy.2.1 zy.2.2.1).bind λa0b =>
 some (a0b.1,a0b.2.1,a0b.2.2.1,()))
 (cond (iEq zy.1 2)
 ((m24 50 zy.2.1 zy.2.2.1).bind λa0a =>
 some (dQ .i64 876599 a0a.1,a0a.2.1,a0a.2.2.1,()))
 ((m24 876600 zy.2.1 zy.2.2.1).bind λZY =>
 some (ZY.1,ZY.2.1,ZY.2.2.1,()))))
def b5R:Sh:=⟨1,[],[(0,.ptr 0 0 0)],[.box 65 [.d (.list (.int .i64)),.d (.int .i64)]]⟩
def b4A:Sh:=⟨1,[(0,(.int .i64))],[],[.box 65 [.d (.list (.int .i64)),.d (.int .i64)]]⟩
def h90:HI:=⟨90,b5R,b4A,fun(x:(List Int)×Int×Unit)=>m90 x.1 x.2.1,[]⟩
theorem b5r:HK h90:=hk .o [] Tryz.func90 (cH uU c0) (by kernel_rfl) λx=>by kernel_rfl
def m49(a0:List Int)(a1:Int):Option (Int×Int×(List Int)×Int×Unit) :=
 (m90 a0 a1).bind λSX =>
 (m90 SX.2.1 SX.2.2.1).bind λSV =>
 some (jv SX.1 SV.1,aR .i64 (tu SX.1 SV.1) 1,SV.2.1,SV.2.2.1,())
def b53:Sh:=⟨1,[],[(0,.ptr 0 0 0)],[.box 65 [.d (.list (.int .i64)),.d (.int .i64)]]⟩
def b4M:Sh:=⟨1,[],[(0,.agg [.d (.int .i64),.d (.int .i64)])],[.box 65 [.d (.list (.int .i64)),.d (.int .i64)]]⟩
def h49:HI:=⟨49,b53,b4M,fun(x:(List Int)×Int×Unit)=>m49 x.1 x.2.1,[]⟩
theorem b5z:HK h49:=hk .o [] Tryz.func49 (cH b5r c0) (by kernel_rfl) λx=>by kernel_rfl
def m27(a0:List DS1):Option (Bool×Unit) :=
 cond (iLt 40 (aA a0))
 (some (false,()))
 (bK (S:=(List DS1)×Int×Unit) (R:=Bool×Unit) (λDK =>
 cond (iLt DK.2.1 (aA DK.1))
 (cond (bnd DK.2.1 (aA DK.1))
 ((m56 (atI DK.1 DK.2.1 zS1)).bind λb8j =>
 cond (not b8j.1)
 (some (.inr (false,())))
 (some (.inl (DK.1,aR .i64 DK.2.1 1,())))) none)
 (some (.inr (true,()))))
 (a0,0,()))
def i27:PI:=⟨27,[(.list tS1)],[.bool],fun(x:(List DS1)×Unit)=>m27 x.1⟩
theorem b5i:PK i27:=pk (.d 2 (.s (.d 1 (.b (.l [] ⟨19,[(0,(.list tS1)),(3,(.int .i64))],[],[]⟩ .o))) .o)) Tryz.func27 (cP a4f c0) (by kernel_rfl) λx=>by kernel_rfl
def m28(a0:DS2):Option (Bool×Unit) :=
 some (cond (cond (iLe 0 a0.1) (iLt a0.1 a0.2.1) false) (iLe a0.2.1 876600) false,())
def i28:PI:=⟨28,[tS2],[.bool],fun(x:DS2×Unit)=>m28 x.1⟩
theorem a4i:PK i28:=pk .o Tryz.func28 c0 (by kernel_rfl) λx=>by kernel_rfl
def m16(a0:DS4):Option (Bool×Unit) :=
 cond (iLt 12 (aA a0.2.1))
 (some (false,()))
 ((m27 a0.1).bind λb8i =>
 cond (not b8i.1)
 (some (false,()))
 (bK (S:=Int×(List DS1)×(List DS3)×Unit) (R:=Bool×Unit) (λpK =>
 cond (iLt pK.1 (aA pK.2.2.1))
 (cond (bnd pK.1 (aA pK.2.2.1))
 ((m28 (((atI pK.2.2.1 pK.1 zS3).1).1,((atI pK.2.2.1 pK.1 zS3).1).2.1,())).bind λb8h =>
 cond (cond (cond (not b8h.1) true (iLt 876599 (((atI pK.2.2.1 pK.1 zS3).1).2.1))) true (iLt 40 (aA ((atI pK.2.2.1 pK.1 zS3).2.1))))
 (some (.inr (false,())))
 ((m29 ((atI pK.2.2.1 pK.1 zS3).2.1)).bind λb8g =>
 cond (not b8g.1)
 (some (.inr (false,())))
 ((m30 ((atI pK.2.2.1 pK.1 zS3).2.1)).bind λb8f =>
 cond (not b8f.1)
 (some (.inr (false,())))
 ((m27 ((atI pK.2.2.1 pK.1 zS3).2.2.1)).bind λb8e =>
 cond (not b8e.1)
 (some (.inr (false,())))
 (some (.inl (aR .i64 pK.1 1,pK.2.1,pK.2.2.1,()))))))) none)
 (some (.inr (true,()))))
 (0,a0.1,a0.2.1,())))
def i16:PI:=⟨16,[tS4],[.bool],fun(x:DS4×Unit)=>m16 x.1⟩
theorem Ud:PK i16:=pk (.d 2 (.s (.d 1 (.b (.l [] ⟨61,[(3,(.int .i64))],[(1,.ptr 0 0 0)],[.box 29 [.d (.list tS1),.d (.list tS3)]]⟩ .o))) .o)) Tryz.func16 (cP b5i (cP a4i (cP Uc (cP Ub c0)))) (by kernel_rfl) λx=>by kernel_rfl
def Pg(a0:List Int)(a1:Int):Option ((List Int)×Unit) :=
 bK (S:=(List Int)×Int×Bool×Int×(List Int)×Unit) (R:=(List Int)×Unit) (λfP =>
 cond (iLt fP.2.2.2.1 (aA fP.1))
 (cond (or (bnd fP.2.2.2.1 (aA fP.1)) (not (bEq (not fP.2.2.1) true)))
 (cond (cond (not fP.2.2.1) (iLe fP.2.1 (atI fP.1 fP.2.2.2.1 0)) false)
 (cond (bnd fP.2.2.2.1 (aA fP.1))
 (cond (iLt fP.2.1 (atI fP.1 fP.2.2.2.1 0))
 (cond (fits (List.length fP.2.2.2.2.1+List.length ([fP.2.1]:List Int)) 8)
 (cond (bnd fP.2.2.2.1 (aA fP.1))
 (cond (fits (List.length (fP.2.2.2.2.1++([fP.2.1]:List Int))+List.length ([atI fP.1 fP.2.2.2.1 0]:List Int)) 8)
 (some (.inl (fP.1,fP.2.1,true,aR .i64 fP.2.2.2.1 1,(fP.2.2.2.2.1++([fP.2.1]:List Int))++([atI fP.1 fP.2.2.2.1 0]:List Int),()))) none) none) none)
 (cond (bnd fP.2.2.2.1 (aA fP.1))
 (cond (fits (List.length fP.2.2.2.2.1+List.length ([atI fP.1 fP.2.2.2.1 0]:List Int)) 8)
 (some (.inl (fP.1,fP.2.1,true,aR .i64 fP.2.2.2.1 1,fP.2.2.2.2.1++([atI fP.1 fP.2.2.2.1 0]:List Int),()))) none) none)) none)
 (cond (bnd fP.2.2.2.1 (aA fP.1))
 (cond (fits (List.length fP.2.2.2.2.1+List.length ([atI fP.1 fP.2.2.2.1 0]:List Int)) 8)
 (some (.inl (fP.1,fP.2.1,fP.2.2.1,aR .i64 fP.2.2.2.1 1,fP.2.2.2.2.1++([atI fP.1 fP.2.2.2.1 0]:List Int),()))) none) none)) none)
 (Option.map Sum.inr (cond (not fP.2.2.1)
 (cond (fits (List.length fP.2.2.2.2.1+List.length ([fP.2.1]:List Int)) 8)
 (some (fP.2.2.2.2.1++([fP.2.1]:List Int),())) none)
 (some (fP.2.2.2.2.1,())))))
 (a0,a1,false,0,([]:List Int),())
def i141:PI:=⟨141,[(.list (.int .i64)),(.int .i64)],[(.list (.int .i64))],fun(x:(List Int)×Int×Unit)=>Pg x.1 x.2.1⟩
theorem b0Q:PK i141:=pk (.d 3 (.s (.d 1 (.b (.l [.gh 5 3 (.int .i64)] ⟨48,[(0,(.list (.int .i64))),(1,(.int .i64)),(6,.bool),(7,(.int .i64))],[(5,.row 0)],[.row 3 (.int .i64) false]⟩ .o))) .o)) Tryz.func141 c0 (by kernel_rfl) λx=>by kernel_rfl
def m91(a0:DS4):Option ((List Int)×Unit) :=
 (m16 (a0.1,a0.2.1,())).bind λb8d =>
 cond (not b8d.1)
 (some (([]:List Int),()))
 (bK (S:=(List Int)×Int×(List DS1)×(List DS3)×Unit) (R:=(List Int)×Unit) (λxk =>
 cond (iLt xk.2.1 (aA xk.2.2.2.1))
 (cond (bnd xk.2.1 (aA xk.2.2.2.1))
 ((Pg xk.1 (((atI xk.2.2.2.1 xk.2.1 zS3).1).1)).bind λb8c =>
 (Pg b8c.1 (((atI xk.2.2.2.1 xk.2.1 zS3).1).2.1)).bind λb8b =>
 some (.inl (b8b.1,aR .i64 xk.2.1 1,xk.2.2.1,xk.2.2.2.1,()))) none)
 (some (.inr (xk.1,()))))
 (([0]:List Int),0,a0.1,a0.2.1,()))
def i91:PI:=⟨91,[tS4],[(.list (.int .i64))],fun(x:DS4×Unit)=>m91 x.1⟩
theorem b48:PK i91:=pk (.d 3 (.s (.d 1 (.b (.l [.fz 3 (.list (.int .i64))] ⟨31,[(3,(.list (.int .i64))),(4,(.int .i64))],[(1,.ptr 0 0 0)],[.box 29 [.d (.list tS1),.d (.list tS3)]]⟩ .o))) .o)) Tryz.func91 (cP b0Q (cP Ud c0)) (by kernel_rfl) λx=>by kernel_rfl
def a19(a0:Int):Option (Bool×Unit) :=
 some (cond (iLe 0 a0) (iLe a0 876599) false,())
def b91:PI:=⟨142,[(.int .i64)],[.bool],fun(x:Int×Unit)=>a19 x.1⟩
theorem b0P:PK b91:=pk .o Tryz.func142 c0 (by kernel_rfl) λx=>by kernel_rfl
def a18(a0:DS2)(a1:Int):Option (Bool×Unit) :=
 (m28 (a0.1,a0.2.1,())).bind λb8a =>
 some (cond (cond b8a.1 (iLe a0.1 a1) false) (iLt a1 a0.2.1) false,())
def i143:PI:=⟨143,[tS2,(.int .i64)],[.bool],fun(x:DS2×Int×Unit)=>a18 x.1 x.2.1⟩
theorem b0O:PK i143:=pk .o Tryz.func143 (cP a4i c0) (by kernel_rfl) λx=>by kernel_rfl
def m92(a0:DS4)(a1:Int):Option ((List DS1)×Int×Unit) :=
 (m16 (a0.1,a0.2.1,())).bind λb79 =>
 cond (not b79.1)
 (some (([]:List DS1),5,()))
 ((a19 a1).bind λb78 =>
 cond (not b78.1)
 (some (([]:List DS1),1,()))
 (bK (S:=Int×Int×(List DS1)×(List DS3)×(List DS1)×Unit) (R:=(List DS1)×Int×Unit) (λnV =>
 cond (iLt nV.2.1 (aA nV.2.2.1))
 (cond (bnd nV.2.1 (aA nV.2.2.1))
 ((m9 nV.2.2.2.2.1 ((atI nV.2.2.1 nV.2.1 zS1).2.1)).bind λb77 =>
 cond b77.2.1
 (some (.inr (([]:List DS1),8,())))
 (cond (bnd nV.2.1 (aA nV.2.2.1))
 (cond (fits (List.length nV.2.2.2.2.1+List.length ([atI nV.2.2.1 nV.2.1 zS1]:List DS1)) 144)
 (some (.inl (nV.1,aR .i64 nV.2.1 1,nV.2.2.1,nV.2.2.2.1,nV.2.2.2.2.1++([atI nV.2.2.1 nV.2.1 zS1]:List DS1),()))) none) none)) none)
 (Option.map Sum.inr (bK (S:=Int×Int×(List DS1)×(List DS3)×(List DS1)×Unit) (R:=(List DS1)×Int×Unit) (λmh =>
 cond (iLt mh.2.1 (aA mh.2.2.2.1))
 (cond (bnd mh.2.1 (aA mh.2.2.2.1))
 ((a18 (((atI mh.2.2.2.1 mh.2.1 zS3).1).1,((atI mh.2.2.2.1 mh.2.1 zS3).1).2.1,()) mh.1).bind λb76 =>
 cond (not b76.1)
 (some (.inl (mh.1,aR .i64 mh.2.1 1,mh.2.2.1,mh.2.2.2.1,mh.2.2.2.2.1,())))
 (bK (S:=Int×Int×Int×(List DS1)×(List DS3)×(List DS1)×Int×Int×(List ByteArray)×(List DS1)×Unit) (R:=(Int×Int×(List DS1)×(List DS3)×(List DS1)×Unit)⊕((List DS1)×Int×Unit)) (λmX =>
 cond (iLt mX.2.2.1 (aA mX.2.2.2.2.2.2.2.2.1))
 (cond (bnd mX.2.2.1 (aA mX.2.2.2.2.2.2.2.2.1))
 ((m9 mX.2.2.2.2.2.1 (atI mX.2.2.2.2.2.2.2.2.1 mX.2.2.1 ByteArray.empty)).bind λb75 =>
 cond (not b75.2.1)
 (some (.inr (.inr (([]:List DS1),7,()))))
 (some (.inl (mX.1,mX.2.1,aR .i64 mX.2.2.1 1,mX.2.2.2.1,mX.2.2.2.2.1,mX.2.2.2.2.2.1,mX.2.2.2.2.2.2.1,mX.2.2.2.2.2.2.2.1,mX.2.2.2.2.2.2.2.2.1,mX.2.2.2.2.2.2.2.2.2.1,())))) none)
 (Option.map Sum.inr (bK (S:=Int×Int×Int×(List DS1)×(List DS3)×(List DS1)×Int×Int×(List ByteArray)×(List DS1)×(List DS1)×Unit) (R:=(Int×Int×(List DS1)×(List DS3)×(List DS1)×Unit)⊕((List DS1)×Int×Unit)) (λgY =>
 cond (iLt gY.2.2.1 (aA gY.2.2.2.2.2.1))
 (cond (bnd gY.2.2.1 (aA gY.2.2.2.2.2.1))
 (cond (inB (Int.toNat gY.2.2.1) gY.2.2.2.2.2.1)
 ((Pf gY.2.2.2.2.2.2.2.2.1 ((List.getD gY.2.2.2.2.2.1 (Int.toNat gY.2.2.1) zS1).2.1)).bind λb74 =>
 cond (not b74.1)
 (cond (bnd gY.2.2.1 (aA gY.2.2.2.2.2.1))
 (cond (inB (Int.toNat gY.2.2.1) gY.2.2.2.2.2.1)
 (cond (fits (List.length gY.2.2.2.2.2.2.2.2.2.2.1+List.length ([List.getD gY.2.2.2.2.2.1 (Int.toNat gY.2.2.1) zS1]:List DS1)) 144)
 (some (.inl (gY.1,gY.2.1,aR .i64 gY.2.2.1 1,gY.2.2.2.1,gY.2.2.2.2.1,gY.2.2.2.2.2.1,gY.2.2.2.2.2.2.1,gY.2.2.2.2.2.2.2.1,gY.2.2.2.2.2.2.2.2.1,gY.2.2.2.2.2.2.2.2.2.1,gY.2.2.2.2.2.2.2.2.2.2.1++([List.getD gY.2.2.2.2.2.1 (Int.toNat gY.2.2.1) zS1]:List DS1),()))) none) none) none)
 (some (.inl (gY.1,gY.2.1,aR .i64 gY.2.2.1 1,gY.2.2.2.1,gY.2.2.2.2.1,gY.2.2.2.2.2.1,gY.2.2.2.2.2.2.1,gY.2.2.2.2.2.2.2.1,gY.2.2.2.2.2.2.2.2.1,gY.2.2.2.2.2.2.2.2.2.1,gY.2.2.2.2.2.2.2.2.2.2.1,())))) none) none)
 (Option.map Sum.inr (bK (S:=Int×Int×Int×(List DS1)×(List DS3)×Int×Int×(List ByteArray)×(List DS1)×(List DS1)×Unit) (R:=(Int×Int×(List DS1)×(List DS3)×(List DS1)×Unit)⊕((List DS1)×Int×Unit)) (λlM =>
 cond (iLt lM.2.2.1 (aA lM.2.2.2.2.2.2.2.2.1))
 (cond (bnd lM.2.2.1 (aA lM.2.2.2.2.2.2.2.2.1))
 ((m9 lM.2.2.2.2.2.2.2.2.2.1 ((atI lM.2.2.2.2.2.2.2.2.1 lM.2.2.1 zS1).2.1)).bind λb73 =>
 cond b73.2.1
 (some (.inr (.inr (([]:List DS1),8,()))))
 (cond (bnd lM.2.2.1 (aA lM.2.2.2.2.2.2.2.2.1))
 (cond (fits (List.length lM.2.2.2.2.2.2.2.2.2.1+List.length ([atI lM.2.2.2.2.2.2.2.2.1 lM.2.2.1 zS1]:List DS1)) 144)
 (some (.inl (lM.1,lM.2.1,aR .i64 lM.2.2.1 1,lM.2.2.2.1,lM.2.2.2.2.1,lM.2.2.2.2.2.1,lM.2.2.2.2.2.2.1,lM.2.2.2.2.2.2.2.1,lM.2.2.2.2.2.2.2.2.1,lM.2.2.2.2.2.2.2.2.2.1++([atI lM.2.2.2.2.2.2.2.2.1 lM.2.2.1 zS1]:List DS1),()))) none) none)) none)
 (Option.map Sum.inr (cond (iLt 100 (aA lM.2.2.2.2.2.2.2.2.2.1))
 (some (.inr (([]:List DS1),4,())))
 (some (.inl (lM.1,aR .i64 lM.2.1 1,lM.2.2.2.1,lM.2.2.2.2.1,lM.2.2.2.2.2.2.2.2.2.1,()))))))
 (gY.1,gY.2.1,0,gY.2.2.2.1,gY.2.2.2.2.1,gY.2.2.2.2.2.2.1,gY.2.2.2.2.2.2.2.1,gY.2.2.2.2.2.2.2.2.1,gY.2.2.2.2.2.2.2.2.2.1,gY.2.2.2.2.2.2.2.2.2.2.1,()))))
 (mX.1,mX.2.1,0,mX.2.2.2.1,mX.2.2.2.2.1,mX.2.2.2.2.2.1,mX.2.2.2.2.2.2.1,mX.2.2.2.2.2.2.2.1,mX.2.2.2.2.2.2.2.2.1,mX.2.2.2.2.2.2.2.2.2.1,([]:List DS1),()))))
 (mh.1,mh.2.1,0,mh.2.2.1,mh.2.2.2.1,mh.2.2.2.2.1,((atI mh.2.2.2.1 mh.2.1 zS3).1).1,((atI mh.2.2.2.1 mh.2.1 zS3).1).2.1,(atI mh.2.2.2.1 mh.2.1 zS3).2.1,(atI mh.2.2.2.1 mh.2.1 zS3).2.2.1,()))) none)
 (some (.inr (mh.2.2.2.2.1,0,()))))
 (nV.1,0,nV.2.2.1,nV.2.2.2.1,nV.2.2.2.2.1,()))))
 (a1,0,a0.1,a0.2.1,([]:List DS1),())))
def i92:PI:=⟨92,[tS4,(.int .i64)],[(.list tS1),(.int .i64)],fun(x:DS4×Int×Unit)=>m92 x.1 x.2.1⟩
theorem b47:PK i92:=pk (.d 4 (.s (.d 1 (.b (.l [.gh 6 37 tS1] ⟨143,[(1,(.int .i64)),(7,(.int .i64))],[(2,.ptr 0 0 0),(6,.row 1)],[.box 29 [.d (.list tS1),.d (.list tS3)],.row 37 tS1 false]⟩ .o))) (.s (.d 1 (.b (.l [.gh 6 37 tS1] ⟨143,[(1,(.int .i64)),(10,(.int .i64))],[(2,.ptr 0 0 0),(6,.row 1)],[.box 29 [.d (.list tS1),.d (.list tS3)],.row 37 tS1 false]⟩ (.d 1 (.s (.b (.d 2 (.s (.d 1 (.b (.l [.gh 6 37 tS1] ⟨143,[(1,(.int .i64)),(10,(.int .i64)),(12,(.int .i64))],[(2,.ptr 0 0 0),(6,.row 1),(11,.ptr 2 0 0)],[.box 29 [.d (.list tS1),.d (.list tS3)],.row 37 tS1 false,.box 55 [.d (.int .i64),.d (.int .i64),.d (.list .str),.d (.list tS1)]]⟩ .o))) (.d 1 (.s (.d 1 (.b (.l [.gh 6 37 tS1,.gh 15 37 tS1] ⟨143,[(1,(.int .i64)),(10,(.int .i64)),(16,(.int .i64))],[(2,.ptr 0 0 0),(6,.row 1),(11,.ptr 2 0 0),(15,.row 3)],[.box 29 [.d (.list tS1),.d (.list tS3)],.row 37 tS1 false,.box 55 [.d (.int .i64),.d (.int .i64),.d (.list .str),.d (.list tS1)],.row 37 tS1 false]⟩ .o))) (.s (.d 1 (.b (.l [.gh 15 37 tS1] ⟨143,[(1,(.int .i64)),(10,(.int .i64)),(17,(.int .i64))],[(2,.ptr 0 0 0),(11,.ptr 1 0 0),(15,.row 2)],[.box 29 [.d (.list tS1),.d (.list tS3)],.box 55 [.d (.int .i64),.d (.int .i64),.d (.list .str),.d (.list tS1)],.row 37 tS1 false]⟩ .o))) .o)))))) .o))))) .o))) Tryz.func92 (cP b0P (cP b0O (cP Ya (cP Ud (cP b0o c0))))) (by kernel_rfl) λx=>by kernel_rfl
def m50(a0:DS6)(a1:DS4):Option (Int×Int×Int×Unit) :=
 (m16 (a1.1,a1.2.1,())).bind λb72 =>
 cond (not b72.1)
 (some (0,0,5,()))
 ((m91 (a1.1,a1.2.1,())).bind λb71 =>
 bK (S:=(List Int)×Int×(List DS5)×(List DS1)×(List DS3)×Unit) (R:=Int×Int×Int×Unit) (λoI =>
 cond (iLt oI.2.1 (aA oI.1))
 (cond (bnd oI.2.1 (aA oI.1))
 ((m92 (oI.2.2.2.1,oI.2.2.2.2.1,()) (atI oI.1 oI.2.1 0)).bind λZX =>
 cond (iNe ZX.2.1 0)
 (cond (bnd oI.2.1 (aA oI.1))
 (some (.inr (atI oI.1 oI.2.1 0,0,ZX.2.1,()))) none)
 ((m89 (oI.2.2.1,()) ZX.1).bind λZW =>
 cond (iNe ZW.2.1 0)
 (cond (bnd oI.2.1 (aA oI.1))
 (some (.inr (atI oI.1 oI.2.1 0,ZW.1,ZW.2.1,()))) none)
 (some (.inl (oI.1,aR .i64 oI.2.1 1,oI.2.2.1,oI.2.2.2.1,oI.2.2.2.2.1,()))))) none)
 (some (.inr (0,0,0,()))))
 (b71.1,0,a0.1,a1.1,a1.2.1,()))
def i50:PI:=⟨50,[tS6,tS4],[(.int .i64),(.int .i64),(.int .i64)],fun(x:DS6×DS4×Unit)=>m50 x.1 x.2.1⟩
theorem b5g:PK i50:=pk (.d 3 (.s (.d 1 (.b (.l [] ⟨54,[(7,(.list (.int .i64))),(8,(.int .i64))],[(2,.ptr 0 0 0),(3,.ptr 1 0 0)],[.box 59 [.d (.list tS5)],.box 29 [.d (.list tS1),.d (.list tS3)]]⟩ .o))) .o)) Tryz.func50 (cP Ud (cP a4b (cP b48 (cP b47 c0)))) (by kernel_rfl) λx=>by kernel_rfl
def m22(a0:DS6)(a1:Int)(a2:Bool)(a3:List Int)(a4:Int):Option ((List Int)×Int×(List DS1)×(List DS3)×Unit) :=
 (m48 (a0.1,()) a1 (bs [99,45]) a3 a4).bind λZV =>
 (m24 3 ZV.1 ZV.2.1).bind λZT =>
 bK (S:=Bool×Int×(List Int)×Int×(List DS5)×(List DS1)×(List DS3)×Unit) (R:=(List Int)×Int×(List DS1)×(List DS3)×Unit) (λpJ =>
 cond (iLt 0 pJ.2.1)
 ((m49 pJ.2.2.1 pJ.2.2.2.1).bind λDk =>
 cond (iLe (jv Dk.2.1 876599) Dk.1)
 (some (.inl (pJ.1,dQ .i64 pJ.2.1 1,Dk.2.2.1,Dk.2.2.2.1,pJ.2.2.2.2.1,pJ.2.2.2.2.2.1,pJ.2.2.2.2.2.2.1,())))
 (cond (nu (bs [101]) (bsI ([IntKind.wrap .u8 (aR .i64 48 pJ.2.1)]:List Int)))
 (cond (nu (iJ (bs [101]) (bsI ([IntKind.wrap .u8 (aR .i64 48 pJ.2.1)]:List Int))) (bs [45]))
 ((m48 (pJ.2.2.2.2.1,()) 2 (iJ (iJ (bs [101]) (bsI ([IntKind.wrap .u8 (aR .i64 48 pJ.2.1)]:List Int))) (bs [45])) Dk.2.2.1 Dk.2.2.2.1).bind λZR =>
 bK (S:=Bool×Int×Int×(List Int)×Int×(List DS5)×Int×Int×(List DS1)×(List DS3)×(List ByteArray)×(List DS1)×Unit) (R:=(Bool×Int×(List Int)×Int×(List DS5)×(List DS1)×(List DS3)×Unit)⊕((List Int)×Int×(List DS1)×(List DS3)×Unit)) (λgu =>
 cond (iLt gu.2.2.1 (aA gu.2.2.2.2.2.2.2.2.1))
 ((m24 4 gu.2.2.2.1 gu.2.2.2.2.1).bind λNa =>
 cond (iEq Na.1 1)
 (cond (bnd gu.2.2.1 (aA gu.2.2.2.2.2.2.2.2.1))
 (cond (inB (Int.toNat gu.2.2.1) gu.2.2.2.2.2.2.2.2.1)
 (cond (fits (List.length gu.2.2.2.2.2.2.2.2.2.2.1+List.length ([(List.getD gu.2.2.2.2.2.2.2.2.1 (Int.toNat gu.2.2.1) zS1).2.1]:List ByteArray)) 16)
 (some (.inl (gu.1,gu.2.1,aR .i64 gu.2.2.1 1,Na.2.1,Na.2.2.1,gu.2.2.2.2.2.1,gu.2.2.2.2.2.2.1,gu.2.2.2.2.2.2.2.1,gu.2.2.2.2.2.2.2.2.1,gu.2.2.2.2.2.2.2.2.2.1,gu.2.2.2.2.2.2.2.2.2.2.1++([(List.getD gu.2.2.2.2.2.2.2.2.1 (Int.toNat gu.2.2.1) zS1).2.1]:List ByteArray),gu.2.2.2.2.2.2.2.2.2.2.2.1,()))) none) none) none)
 (some (.inl (gu.1,gu.2.1,aR .i64 gu.2.2.1 1,Na.2.1,Na.2.2.1,gu.2.2.2.2.2.1,gu.2.2.2.2.2.2.1,gu.2.2.2.2.2.2.2.1,gu.2.2.2.2.2.2.2.2.1,gu.2.2.2.2.2.2.2.2.2.1,gu.2.2.2.2.2.2.2.2.2.2.1,gu.2.2.2.2.2.2.2.2.2.2.2.1,()))))
 (Option.map Sum.inr ((m24 6 gu.2.2.2.1 gu.2.2.2.2.1).bind λN9 =>
 cond (iEq N9.1 5)
 (cond (bnd 0 (aA gu.2.2.2.2.2.2.2.2.1))
 (cond (inB (Int.toNat 0) gu.2.2.2.2.2.2.2.2.1)
 (cond (fits (List.length ([]:List DS1)+List.length ([List.getD gu.2.2.2.2.2.2.2.2.1 (Int.toNat 0) zS1]:List DS1)) 144)
 (lV (S:=Bool×Int×(List Int)×Int×(List DS5)×Int×Int×(List ByteArray)×(List DS1)×(List DS1)×(List DS3)×Unit) (R:=(Bool×Int×(List Int)×Int×(List DS5)×(List DS1)×(List DS3)×Unit)⊕((List Int)×Int×(List DS1)×(List DS3)×Unit))
 (some (.inl (gu.1,gu.2.1,N9.2.1,N9.2.2.1,gu.2.2.2.2.2.1,gu.2.2.2.2.2.2.1,gu.2.2.2.2.2.2.2.1,gu.2.2.2.2.2.2.2.2.2.2.1,([]:List DS1)++([List.getD gu.2.2.2.2.2.2.2.2.1 (Int.toNat 0) zS1]:List DS1),gu.2.2.2.2.2.2.2.2.1,gu.2.2.2.2.2.2.2.2.2.1,())))
 (λkY =>
 cond (fits (List.length ([]:List DS3)+List.length kY.2.2.2.2.2.2.2.2.2.2.1) 64)
 (cond (fits (List.length (([]:List DS3)++kY.2.2.2.2.2.2.2.2.2.2.1)+List.length ([((kY.2.2.2.2.2.1,kY.2.2.2.2.2.2.1,()),kY.2.2.2.2.2.2.2.1,kY.2.2.2.2.2.2.2.2.1,())]:List DS3)) 64)
 ((m50 (kY.2.2.2.2.1,()) (kY.2.2.2.2.2.2.2.2.2.1,(([]:List DS3)++kY.2.2.2.2.2.2.2.2.2.2.1)++([((kY.2.2.2.2.2.1,kY.2.2.2.2.2.2.1,()),kY.2.2.2.2.2.2.2.1,kY.2.2.2.2.2.2.2.2.1,())]:List DS3),())).bind λb70 =>
 cond (cond (iEq b70.2.2.1 0) true (not kY.1))
 (some (.inl (kY.1,dQ .i64 kY.2.1 1,kY.2.2.1,kY.2.2.2.1,kY.2.2.2.2.1,kY.2.2.2.2.2.2.2.2.2.1,(([]:List DS3)++kY.2.2.2.2.2.2.2.2.2.2.1)++([((kY.2.2.2.2.2.1,kY.2.2.2.2.2.2.1,()),kY.2.2.2.2.2.2.2.1,kY.2.2.2.2.2.2.2.2.1,())]:List DS3),())))
 (some (.inl (kY.1,dQ .i64 kY.2.1 1,kY.2.2.1,kY.2.2.2.1,kY.2.2.2.2.1,kY.2.2.2.2.2.2.2.2.2.1,kY.2.2.2.2.2.2.2.2.2.2.1,())))) none) none)) none) none) none)
 (lV (S:=Bool×Int×(List Int)×Int×(List DS5)×Int×Int×(List ByteArray)×(List DS1)×(List DS1)×(List DS3)×Unit) (R:=(Bool×Int×(List Int)×Int×(List DS5)×(List DS1)×(List DS3)×Unit)⊕((List Int)×Int×(List DS1)×(List DS3)×Unit))
 (some (.inl (gu.1,gu.2.1,N9.2.1,N9.2.2.1,gu.2.2.2.2.2.1,gu.2.2.2.2.2.2.1,gu.2.2.2.2.2.2.2.1,gu.2.2.2.2.2.2.2.2.2.2.1,gu.2.2.2.2.2.2.2.2.2.2.2.1,gu.2.2.2.2.2.2.2.2.1,gu.2.2.2.2.2.2.2.2.2.1,())))
 (λkX =>
 cond (fits (List.length ([]:List DS3)+List.length kX.2.2.2.2.2.2.2.2.2.2.1) 64)
 (cond (fits (List.length (([]:List DS3)++kX.2.2.2.2.2.2.2.2.2.2.1)+List.length ([((kX.2.2.2.2.2.1,kX.2.2.2.2.2.2.1,()),kX.2.2.2.2.2.2.2.1,kX.2.2.2.2.2.2.2.2.1,())]:List DS3)) 64)
 ((m50 (kX.2.2.2.2.1,()) (kX.2.2.2.2.2.2.2.2.2.1,(([]:List DS3)++kX.2.2.2.2.2.2.2.2.2.2.1)++([((kX.2.2.2.2.2.1,kX.2.2.2.2.2.2.1,()),kX.2.2.2.2.2.2.2.1,kX.2.2.2.2.2.2.2.2.1,())]:List DS3),())).bind λb7Z =>
 cond (cond (iEq b7Z.2.2.1 0) true (not kX.1))
 (some (.inl (kX.1,dQ .i64 kX.2.1 1,kX.2.2.1,kX.2.2.2.1,kX.2.2.2.2.1,kX.2.2.2.2.2.2.2.2.2.1,(([]:List DS3)++kX.2.2.2.2.2.2.2.2.2.2.1)++([((kX.2.2.2.2.2.1,kX.2.2.2.2.2.2.1,()),kX.2.2.2.2.2.2.2.1,kX.2.2.2.2.2.2.2.2.1,())]:List DS3),())))
 (some (.inl (kX.1,dQ .i64 kX.2.1 1,kX.2.2.1,kX.2.2.2.1,kX.2.2.2.2.1,kX.2.2.2.2.2.2.2.2.2.1,kX.2.2.2.2.2.2.2.2.2.2.1,())))) none) none)))))
 (pJ.1,pJ.2.1,0,ZR.1,ZR.2.1,pJ.2.2.2.2.1,Dk.1,jv Dk.2.1 876599,pJ.2.2.2.2.2.1,pJ.2.2.2.2.2.2.1,([]:List ByteArray),ZR.2.2.1,())) none) none))
 (some (.inr (pJ.2.2.1,pJ.2.2.2.1,pJ.2.2.2.2.2.1,pJ.2.2.2.2.2.2.1,()))))
 (a2,ZT.1,ZT.2.1,ZT.2.2.1,a0.1,ZV.2.2.1,([]:List DS3),())
def b6c:Sh:=⟨4,[(1,tS6),(2,(.int .i64)),(3,.bool)],[(0,.ptr 0 0 0)],[.box 65 [.d (.list (.int .i64)),.d (.int .i64)]]⟩
def b4V:Sh:=⟨1,[],[(0,.agg [.row 1,.row 2])],[.box 65 [.d (.list (.int .i64)),.d (.int .i64)],.row 37 tS1 false,.row 55 tS3 false]⟩
def h22:HI:=⟨22,b6c,b4V,fun(x:DS6×Int×Bool×(List Int)×Int×Unit)=>m22 x.1 x.2.1 x.2.2.1 x.2.2.2.1 x.2.2.2.2.1,[]⟩
theorem b5E:HK h22:=hk (.d 2 (.s (.d 1 (.b (.l [.ghc 9 1 55 tS3] ⟨108,[(3,.bool),(10,(.int .i64))],[(0,.ptr 0 0 0),(5,.ptr 1 0 0),(8,.ptr 2 0 0),(9,.ptr 3 0 0)],[.box 65 [.d (.list (.int .i64)),.d (.int .i64)],.box 59 [.d (.list tS5)],.box 29 [.nil,.nil],.box 29 [.row 4,.row 5],.row 37 tS1 false,.row 55 tS3 false]⟩ (.d 1 (.s (.b (.d 3 (.s (.u [0]) (.s (.d 1 (.b (.l [.ghc 12 2 9 .str,.ghc 9 1 55 tS3] ⟨108,[(3,.bool),(10,(.int .i64)),(13,(.int .i64))],[(0,.ptr 0 0 0),(5,.ptr 1 0 0),(8,.ptr 2 0 0),(9,.ptr 3 0 0),(12,.ptr 4 0 0)],[.box 65 [.d (.list (.int .i64)),.d (.int .i64)],.box 59 [.d (.list tS5)],.box 29 [.nil,.nil],.box 29 [.row 5,.row 6],.box 55 [.d (.int .i64),.d (.int .i64),.row 7,.row 8],.row 37 tS1 false,.row 55 tS3 false,.row 9 .str false,.row 37 tS1 false]⟩ .o))) (.d 1 (.j [.fzc 12 2 (.list .str),.fzc 12 3 (.list tS1),.ghc 12 2 9 .str,.ghc 14 1 55 tS3,.ghc 9 1 55 tS3] ⟨108,[(3,.bool),(10,(.int .i64))],[(0,.ptr 0 0 0),(5,.ptr 1 0 0),(8,.ptr 2 0 0),(9,.ptr 3 0 0),(12,.ptr 4 0 0),(14,.ptr 5 0 0)],[.box 65 [.d (.list (.int .i64)),.d (.int .i64)],.box 59 [.d (.list tS5)],.box 29 [.nil,.nil],.box 29 [.row 6,.row 7],.box 55 [.d (.int .i64),.d (.int .i64),.d (.list .str),.d (.list tS1)],.box 29 [.row 6,.row 7],.row 37 tS1 false,.row 55 tS3 false]⟩ .o .o)))))) .o))))) .o)) [.ghc 8 1 55 tS3] Tryz.func22 (cP b5g (cH uU (cH b5A (cH b5z c0)))) (by kernel_rfl) λx=>by kernel_rfl
def m10(a0:List Int):Option (DS4×Unit) :=
 (m14 a0).bind λa8p =>
 (m24 6 a8p.1 a8p.2.1).bind λa0O =>
 (m23 a0O.1).bind λb9a =>
 (m22 b9a.1 6 false a0O.2.1 a0O.2.2.1).bind λa7U =>
 some ((a7U.2.2.1,a7U.2.2.2.1,()),())
def i10:PI:=⟨10,[(.list (.int .i64))],[tS4],fun(x:(List Int)×Unit)=>m10 x.1⟩
theorem b5p:PK i10:=pk .o Tryz.func10 (cP b5k (cH b5F (cH b5E (cH uU c0)))) (by kernel_rfl) λx=>by kernel_rfl
def JN(a0:List ByteArray):Option (Bool×Unit) :=
 cond (cond (iEq (aA a0) 0) true (iLt 12 (aA a0)))
 (some (false,()))
 (bK (S:=(List ByteArray)×(List ByteArray)×Int×Int×Unit) (R:=Bool×Unit) (λuG =>
 cond (iLt uG.2.2.2.1 uG.2.2.1)
 (cond (bnd uG.2.2.2.1 (aA uG.2.1))
 ((m54 (atI uG.2.1 uG.2.2.2.1 ByteArray.empty)).bind λa7T =>
 cond (or (nL 0 uG.2.2.2.1 (List.length uG.1)) (not (bEq (not a7T.1) false)))
 (cond (not a7T.1)
 (some (.inr (false,())))
 ((m55 (rD 0 uG.2.2.2.1 uG.1) (atI uG.2.1 uG.2.2.2.1 ByteArray.empty)).bind λb7W =>
 cond b7W.1
 (some (.inr (false,())))
 (some (.inl (uG.1,uG.2.1,uG.2.2.1,aR .i64 uG.2.2.2.1 1,()))))) none) none)
 (some (.inr (true,()))))
 (a0,a0,aA a0,0,()))
def b9J:PI:=⟨185,[(.list .str)],[.bool],fun(x:(List ByteArray)×Unit)=>JN x.1⟩
theorem b0s:PK b9J:=pk (.d 2 (.s (.d 1 (.b (.l [] ⟨31,[(0,(.list .str)),(13,(.list .str)),(14,(.int .i64)),(15,(.int .i64))],[],[]⟩ .o))) .o)) Tryz.func185 (cP Cu (cP Mq c0)) (by kernel_rfl) λx=>by kernel_rfl
def P8(a0:DS0):Option (Bool×Unit) :=
 cond (cond (iLt a0.1 1) true (iLt 8 a0.1))
 (some (false,()))
 (cond (bnd a0.1 ((9:Nat):Int))
 (cond (cond (iLt (aA a0.2.2.2.2.2.1) ((atI opsL a0.1 (ByteArray.empty,false,0,0,0,())).2.2.1)) true (iLt ((atI opsL a0.1 (ByteArray.empty,false,0,0,0,())).2.2.2.1) (aA a0.2.2.2.2.2.1)))
 (some (false,()))
 (cond ((atI opsL a0.1 (ByteArray.empty,false,0,0,0,())).2.1)
 ((m54 a0.2.1).bind λb7V =>
 cond (not b7V.1)
 (some (false,()))
 (cond (cond (not ((atI opsL a0.1 (ByteArray.empty,false,0,0,0,())).2.1)) (not (sEq a0.2.1 (bs []))) false)
 (some (false,()))
 (lV (S:=Int×ByteArray×(List ByteArray)×Int×Int×(List AV)×Unit) (R:=Bool×Unit)
 (cond (iEq a0.1 4)
 ((JN a0.2.2.1).bind λb7U =>
 cond (not b7U.1)
 (some (.inr (false,())))
 (some (.inl (a0.1,a0.2.1,a0.2.2.1,a0.2.2.2.1,a0.2.2.2.2.1,a0.2.2.2.2.2.1,()))))
 (cond (iLt 0 (aA a0.2.2.1))
 (some (.inr (false,())))
 (some (.inl (a0.1,a0.2.1,a0.2.2.1,a0.2.2.2.1,a0.2.2.2.2.1,a0.2.2.2.2.2.1,())))))
 (λGv =>
 cond (iEq Gv.1 5)
 ((Bb Gv.2.2.2.1).bind λb7T =>
 cond b7T.1
 ((Bb Gv.2.2.2.2.1).bind λb7S =>
 some (cond b7S.1 (iLe Gv.2.2.2.1 Gv.2.2.2.2.1) false,()))
 (some (false,())))
 (some (cond (iEq Gv.2.2.2.1 0) (iEq Gv.2.2.2.2.1 0) false,()))))))
 (cond (cond (not ((atI opsL a0.1 (ByteArray.empty,false,0,0,0,())).2.1)) (not (sEq a0.2.1 (bs []))) false)
 (some (false,()))
 (lV (S:=Int×ByteArray×(List ByteArray)×Int×Int×(List AV)×Unit) (R:=Bool×Unit)
 (cond (iEq a0.1 4)
 ((JN a0.2.2.1).bind λb7R =>
 cond (not b7R.1)
 (some (.inr (false,())))
 (some (.inl (a0.1,a0.2.1,a0.2.2.1,a0.2.2.2.1,a0.2.2.2.2.1,a0.2.2.2.2.2.1,()))))
 (cond (iLt 0 (aA a0.2.2.1))
 (some (.inr (false,())))
 (some (.inl (a0.1,a0.2.1,a0.2.2.1,a0.2.2.2.1,a0.2.2.2.2.1,a0.2.2.2.2.2.1,())))))
 (λGu =>
 cond (iEq Gu.1 5)
 ((Bb Gu.2.2.2.1).bind λb7Q =>
 cond b7Q.1
 ((Bb Gu.2.2.2.2.1).bind λb7P =>
 some (cond b7P.1 (iLe Gu.2.2.2.1 Gu.2.2.2.2.1) false,()))
 (some (false,())))
 (some (cond (iEq Gu.2.2.2.1 0) (iEq Gu.2.2.2.2.1 0) false,()))))))) none)
def b9R:PI:=⟨170,[tS0],[.bool],fun(x:DS0×Unit)=>P8 x.1⟩
theorem b0A:PK b9R:=pk (.d 5 (.j [] ⟨85,[],[(1,.ptr 0 0 0)],[.box 34 [.d (.int .i64),.d .str,.d (.list .str),.d (.int .i64),.d (.int .i64),.d (.rl 34 6)]]⟩ .o .o)) Tryz.func170 (cP b0s (cP Y5 (cP Cu c0))) (by kernel_rfl) λx=>by kernel_rfl
def MC(self:(DS0×Int×Int×Unit)->Option (Bool×Int×Unit))(a0:DS0)(a1:Int)(a2:Int):Option (Bool×Int×Unit) :=
 cond (cond (iLt 300 (aR .i64 a2 1)) true (iLt 16 a1))
 (some (false,aR .i64 a2 1,()))
 ((P8 (a0.1,a0.2.1,a0.2.2.1,a0.2.2.2.1,a0.2.2.2.2.1,a0.2.2.2.2.2.1,())).bind λb7O =>
 cond (not b7O.1)
 (some (false,aR .i64 a2 1,()))
 (bK (S:=Int×(List AV)×Int×Int×Int×Unit) (R:=Bool×Int×Unit) (λnE =>
 cond (iLt nE.2.2.2.1 nE.2.2.1)
 (cond (and (bnd nE.2.2.2.1 (aA nE.2.1)) (qy (atI nE.2.1 nE.2.2.2.1 AV.any)))
 ((self (((aQ (atI nE.2.1 nE.2.2.2.1 AV.any)).1,(aQ (atI nE.2.1 nE.2.2.2.1 AV.any)).2.1,(aQ (atI nE.2.1 nE.2.2.2.1 AV.any)).2.2.1,(aQ (atI nE.2.1 nE.2.2.2.1 AV.any)).2.2.2.1,(aQ (atI nE.2.1 nE.2.2.2.1 AV.any)).2.2.2.2.1,(aQ (atI nE.2.1 nE.2.2.2.1 AV.any)).2.2.2.2.2.1,()),aR .i64 nE.1 1,nE.2.2.2.2.1,())).bind λZQ =>
 cond (not ZQ.1)
 (some (.inr (false,ZQ.2.1,())))
 (some (.inl (nE.1,nE.2.1,nE.2.2.1,aR .i64 nE.2.2.2.1 1,ZQ.2.1,())))) none)
 (some (.inr (true,nE.2.2.2.2.1,()))))
 (a1,a0.2.2.2.2.2.1,aA a0.2.2.2.2.2.1,0,aR .i64 a2 1,())))
def b1Q(a0:DS0)(a1:Int)(a2:Int):Option (Bool×Int×Unit):=eH (λself (x:DS0×Int×Int×Unit)=>MC self x.1 x.2.1 x.2.2.1) 10000 (a0,a1,a2,())
def YO:Sh:=⟨3,[(0,tS0),(1,(.int .i64))],[(2,.ptr 0 0 0)],[.box 3 [.d (.int .i64)]]⟩
def XY:Sh:=⟨1,[(0,.bool)],[],[.box 3 [.d (.int .i64)]]⟩
def c0Q:HI:=⟨145,YO,XY,fun(x:DS0×Int×Int×Unit)=>b1Q x.1 x.2.1 x.2.2.1,[]⟩
theorem b1i:HK c0Q:=rC 10000 (ish:=YO) (osh:=XY) (G:=λself (x:DS0×Int×Int×Unit)=>MC self x.1 x.2.1 x.2.2.1) (mK (f:=Tryz.f145) (by kernel_rfl)) λself hr=>hk (.d 3 (.s (.d 1 (.b (.l [] ⟨41,[(1,(.int .i64)),(28,(.rl 34 6)),(29,(.int .i64)),(30,(.int .i64))],[(2,.ptr 0 0 0)],[.box 3 [.d (.int .i64)]]⟩ .o))) .o)) [] Tryz.func145 (cH hr (cP b0A c0)) (by kernel_rfl) λx=>by kernel_rfl
def m93(a0:DS0):Option (Bool×Unit) :=
 (b1Q (a0.1,a0.2.1,a0.2.2.1,a0.2.2.2.1,a0.2.2.2.2.1,a0.2.2.2.2.2.1,()) 1 0).bind λb7N =>
 some (b7N.1,())
def i93:PI:=⟨93,[tS0],[.bool],fun(x:DS0×Unit)=>m93 x.1⟩
theorem U9:PK i93:=pk .o Tryz.func93 (cH b1i c0) (by kernel_rfl) λx=>by kernel_rfl
def Ui(self:((List AV)×Int×Int×Unit)->Option (Bool×Int×Unit))(a0:List AV)(a1:Int)(a2:Int):Option (Bool×Int×Unit) :=
 bK (S:=Int×(List AV)×Int×Int×Int×Unit) (R:=Bool×Int×Unit) (λjU =>
 cond (iLt jU.2.2.2.1 jU.2.2.1)
 (cond (and (bnd jU.2.2.2.1 (aA jU.2.1)) (lN (atI jU.2.1 jU.2.2.2.1 AV.any)))
 (cond (cond (iLt 16 jU.1) true (iLt 40 (aR .i64 jU.2.2.2.2.1 1)))
 (some (.inr (false,aR .i64 jU.2.2.2.2.1 1,())))
 ((m54 ((aM (atI jU.2.1 jU.2.2.2.1 AV.any)).1)).bind λb7L =>
 cond (not b7L.1)
 (some (.inr (false,aR .i64 jU.2.2.2.2.1 1,())))
 ((m93 (((aM (atI jU.2.1 jU.2.2.2.1 AV.any)).2.1).1,((aM (atI jU.2.1 jU.2.2.2.1 AV.any)).2.1).2.1,((aM (atI jU.2.1 jU.2.2.2.1 AV.any)).2.1).2.2.1,((aM (atI jU.2.1 jU.2.2.2.1 AV.any)).2.1).2.2.2.1,((aM (atI jU.2.1 jU.2.2.2.1 AV.any)).2.1).2.2.2.2.1,((aM (atI jU.2.1 jU.2.2.2.1 AV.any)).2.1).2.2.2.2.2.1,())).bind λb7K =>
 cond (not b7K.1)
 (some (.inr (false,aR .i64 jU.2.2.2.2.1 1,())))
 ((self ((aM (atI jU.2.1 jU.2.2.2.1 AV.any)).2.2.1,aR .i64 jU.1 1,aR .i64 jU.2.2.2.2.1 1,())).bind λZP =>
 cond (not ZP.1)
 (some (.inr (false,ZP.2.1,())))
 (some (.inl (jU.1,jU.2.1,jU.2.2.1,aR .i64 jU.2.2.2.1 1,ZP.2.1,()))))))) none)
 (some (.inr (true,jU.2.2.2.2.1,()))))
 (a1,a0,aA a0,0,a2,())
def m94(a0:List AV)(a1:Int)(a2:Int):Option (Bool×Int×Unit):=eH (λself (x:(List AV)×Int×Int×Unit)=>Ui self x.1 x.2.1 x.2.2.1) 10000 (a0,a1,a2,())
def a4v:Sh:=⟨3,[(0,(.rl 63 8)),(1,(.int .i64))],[(2,.ptr 0 0 0)],[.box 3 [.d (.int .i64)]]⟩
def a3X:Sh:=⟨1,[(0,.bool)],[],[.box 3 [.d (.int .i64)]]⟩
def h94:HI:=⟨94,a4v,a3X,fun(x:(List AV)×Int×Int×Unit)=>m94 x.1 x.2.1 x.2.2.1,[]⟩
theorem b5q:HK h94:=rC 10000 (ish:=a4v) (osh:=a3X) (G:=λself (x:(List AV)×Int×Int×Unit)=>Ui self x.1 x.2.1 x.2.2.1) (mK (f:=Tryz.f94) (by kernel_rfl)) λself hr=>hk (.d 1 (.s (.d 1 (.b (.l [] ⟨48,[(1,(.int .i64)),(9,(.rl 63 8)),(10,(.int .i64)),(11,(.int .i64))],[(2,.ptr 0 0 0)],[.box 3 [.d (.int .i64)]]⟩ .o))) .o)) [] Tryz.func94 (cH hr (cP Cu (cP U9 c0))) (by kernel_rfl) λx=>by kernel_rfl
def m52(a0:DS1):Option (Bool×Unit) :=
 (m64 a0.1).bind λb7Y =>
 cond (sEq b7Y.1 (bs []))
 (some (false,()))
 ((m54 a0.2.1).bind λb7X =>
 cond (not b7X.1)
 (some (false,()))
 ((m93 (a0.2.2.1.1,a0.2.2.1.2.1,a0.2.2.1.2.2.1,a0.2.2.1.2.2.2.1,a0.2.2.1.2.2.2.2.1,a0.2.2.1.2.2.2.2.2.1,())).bind λb7M =>
 cond (not b7M.1)
 (some (false,()))
 (cond (cond (iNe a0.1 3) (iLt 0 (aA a0.2.2.2.1)) false)
 (some (false,()))
 ((m65 a0.1).bind λa7S =>
 cond (cond (iLt a0.2.2.2.2.1 (jv 1 a7S.1)) true (iLt a7S.1 a0.2.2.2.2.1))
 (some (false,()))
 ((m94 a0.2.2.2.1 1 0).bind λb7J =>
 some (b7J.1,()))))))
def i52:PI:=⟨52,[tS1],[.bool],fun(x:DS1×Unit)=>m52 x.1⟩
theorem b5e:PK i52:=pk .o Tryz.func52 (cP Cu (cP Ua (cP Ml (cP U9 (cH b5q c0))))) (by kernel_rfl) λx=>by kernel_rfl
def m25(a0:List DS1):Option (Bool×Unit) :=
 cond (iLt 40 (aA a0))
 (some (false,()))
 (bK (S:=(List DS1)×Int×Int×Unit) (R:=Bool×Unit) (λmH =>
 cond (iLt mH.2.2.1 mH.2.1)
 (cond (bnd mH.2.2.1 (aA mH.1))
 ((m52 ((atI mH.1 mH.2.2.1 zS1).1,(atI mH.1 mH.2.2.1 zS1).2.1,(((atI mH.1 mH.2.2.1 zS1).2.2.1).1,((atI mH.1 mH.2.2.1 zS1).2.2.1).2.1,((atI mH.1 mH.2.2.1 zS1).2.2.1).2.2.1,((atI mH.1 mH.2.2.1 zS1).2.2.1).2.2.2.1,((atI mH.1 mH.2.2.1 zS1).2.2.1).2.2.2.2.1,((atI mH.1 mH.2.2.1 zS1).2.2.1).2.2.2.2.2.1,()),(atI mH.1 mH.2.2.1 zS1).2.2.2.1,(atI mH.1 mH.2.2.1 zS1).2.2.2.2.1,())).bind λb7I =>
 cond (not b7I.1)
 (some (.inr (false,())))
 (some (.inl (mH.1,mH.2.1,aR .i64 mH.2.2.1 1,())))) none)
 (some (.inr (true,()))))
 (a0,aA a0,0,()))
def i25:PI:=⟨25,[(.list tS1)],[.bool],fun(x:(List DS1)×Unit)=>m25 x.1⟩
theorem a4j:PK i25:=pk (.d 2 (.s (.d 1 (.b (.l [] ⟨18,[(8,(.list tS1)),(9,(.int .i64)),(10,(.int .i64))],[],[]⟩ .o))) .o)) Tryz.func25 (cP b5e c0) (by kernel_rfl) λx=>by kernel_rfl
def m53(a0:DS2):Option (Bool×Unit) :=
 some (cond (cond (iLe 0 a0.1) (iLt a0.1 a0.2.1) false) (iLe a0.2.1 876600) false,())
def i53:PI:=⟨53,[tS2],[.bool],fun(x:DS2×Unit)=>m53 x.1⟩
theorem b5d:PK i53:=pk .o Tryz.func53 c0 (by kernel_rfl) λx=>by kernel_rfl
def m26(a0:DS3):Option (Bool×Unit) :=
 (m53 (a0.1.1,a0.1.2.1,())).bind λb7H =>
 cond (cond (cond (not b7H.1) true (iLt 876599 a0.1.2.1)) true (iLt 40 (aA a0.2.1)))
 (some (false,()))
 (bK (S:=(List ByteArray)×Int×Int×Int×Int×(List ByteArray)×(List DS1)×Unit) (R:=Bool×Unit) (λqp =>
 cond (iLt qp.2.2.1 qp.2.1)
 (cond (bnd qp.2.2.1 (aA qp.1))
 ((m54 (atI qp.1 qp.2.2.1 ByteArray.empty)).bind λa7R =>
 cond (or (nL 0 qp.2.2.1 (List.length qp.2.2.2.2.2.1)) (not (bEq (not a7R.1) false)))
 (cond (not a7R.1)
 (some (.inr (false,())))
 ((m55 (rD 0 qp.2.2.1 qp.2.2.2.2.2.1) (atI qp.1 qp.2.2.1 ByteArray.empty)).bind λb7G =>
 cond b7G.1
 (some (.inr (false,())))
 (some (.inl (qp.1,qp.2.1,aR .i64 qp.2.2.1 1,qp.2.2.2.1,qp.2.2.2.2.1,qp.2.2.2.2.2.1,qp.2.2.2.2.2.2.1,()))))) none) none)
 (Option.map Sum.inr ((m25 qp.2.2.2.2.2.2.1).bind λb7F =>
 some (b7F.1,()))))
 (a0.2.1,aA a0.2.1,0,a0.1.1,a0.1.2.1,a0.2.1,a0.2.2.1,()))
def i26:PI:=⟨26,[tS3],[.bool],fun(x:DS3×Unit)=>m26 x.1⟩
theorem b5j:PK i26:=pk (.d 2 (.s (.d 1 (.b (.l [] ⟨44,[(22,(.list .str)),(23,(.int .i64)),(24,(.int .i64))],[(1,.ptr 0 0 0)],[.box 55 [.d (.int .i64),.d (.int .i64),.d (.list .str),.d (.list tS1)]]⟩ .o))) .o)) Tryz.func26 (cP a4j (cP b5d (cP Cu (cP Mq c0)))) (by kernel_rfl) λx=>by kernel_rfl
def m15(a0:DS4):Option (Bool×Unit) :=
 cond (iLt 12 (aA a0.2.1))
 (some (false,()))
 ((m25 a0.1).bind λb7E =>
 cond (not b7E.1)
 (some (false,()))
 (bK (S:=(List DS3)×Int×Int×Unit) (R:=Bool×Unit) (λvo =>
 cond (iLt vo.2.2.1 vo.2.1)
 (cond (bnd vo.2.2.1 (aA vo.1))
 ((m26 ((((atI vo.1 vo.2.2.1 zS3).1).1,((atI vo.1 vo.2.2.1 zS3).1).2.1,()),(atI vo.1 vo.2.2.1 zS3).2.1,(atI vo.1 vo.2.2.1 zS3).2.2.1,())).bind λb7D =>
 cond (not b7D.1)
 (some (.inr (false,())))
 (some (.inl (vo.1,vo.2.1,aR .i64 vo.2.2.1 1,())))) none)
 (some (.inr (true,()))))
 (a0.2.1,aA a0.2.1,0,())))
def i15:PI:=⟨15,[tS4],[.bool],fun(x:DS4×Unit)=>m15 x.1⟩
theorem b5n:PK i15:=pk (.d 2 (.s (.d 1 (.b (.l [] ⟨26,[(16,(.list tS3)),(17,(.int .i64)),(18,(.int .i64))],[],[]⟩ .o))) .o)) Tryz.func15 (cP a4j (cP b5j c0)) (by kernel_rfl) λx=>by kernel_rfl
def m38(a0:Int)(a1:Int)(a2:List ByteArray)(a3:List Int):Option (Int×Int×(List ByteArray)×(List Int)×(List ay)×Unit) :=
 bK (S:=Int×Int×Int×Int×(List ByteArray)×(List Int)×(List ay)×Unit) (R:=Int×Int×(List ByteArray)×(List Int)×(List ay)×Unit) (λnU =>
 cond (iLt nU.2.1 nU.1)
 (cond (bnd nU.2.1 (aA nU.2.2.2.2.1))
 (cond (inB (Int.toNat nU.2.1) nU.2.2.2.2.1)
 (cond (fits (List.length nU.2.2.2.2.2.2.1+List.length ([(1,List.getD nU.2.2.2.2.1 (Int.toNat nU.2.1) ByteArray.empty,0,0,())]:List ay)) 40)
 (some (.inl (nU.1,aR .i64 nU.2.1 1,nU.2.2.1,nU.2.2.2.1,nU.2.2.2.2.1,nU.2.2.2.2.2.1,nU.2.2.2.2.2.2.1++([(1,List.getD nU.2.2.2.2.1 (Int.toNat nU.2.1) ByteArray.empty,0,0,())]:List ay),()))) none) none) none)
 (some (.inr (nU.2.2.1,nU.2.2.2.1,nU.2.2.2.2.1,nU.2.2.2.2.2.1,nU.2.2.2.2.2.2.1,()))))
 (aA a2,0,a0,a1,a2,a3,([]:List ay),())
def b59:Sh:=⟨2,[],[(0,.ptr 0 0 0),(1,.row 1)],[.box 82 [.me 0,.row 2,.d (.int .i64),.nil,.d (.int .i64)],.row 9 .str false,.row 5 (.int .u8) false]⟩
def b4S:Sh:=⟨0,[],[],[.box 82 [.me 0,.row 2,.d (.int .i64),.row 3,.d (.int .i64)],.row 9 .str false,.row 5 (.int .u8) false,.row 97 bR false]⟩
def h38:HI:=⟨38,b59,b4S,fun(x:Int×Int×(List ByteArray)×(List Int)×Unit)=>m38 x.1 x.2.1 x.2.2.1 x.2.2.2.1,[1]⟩
theorem a4o:HK h38:=hk (.d 1 (.b (.l [.ghc 0 3 97 bR] ⟨24,[(7,(.int .i64)),(8,(.int .i64))],[(0,.ptr 0 0 0),(6,.row 1)],[.box 82 [.me 0,.row 2,.d (.int .i64),.row 3,.d (.int .i64)],.row 9 .str false,.row 5 (.int .u8) false,.row 97 bR false]⟩ .o))) [.ghc 0 3 97 bR] Tryz.func38 c0 (by kernel_rfl) λx=>by kernel_rfl
def m40(a0:ByteArray)(a1:Int)(a2:Int)(a3:List Int)(a4:List ay):Option (Int×Int×(List Int)×(List ay)×Unit) :=
 cond (fits (List.length a4+List.length ([(4,a0,0,0,())]:List ay)) 40)
 (some (a1,a2,a3,a4++([(4,a0,0,0,())]:List ay),())) none
def b57:Sh:=⟨2,[(1,.str)],[(0,.ptr 0 0 0)],[.box 82 [.me 0,.row 1,.d (.int .i64),.row 2,.d (.int .i64)],.row 5 (.int .u8) false,.row 97 bR false]⟩
def b4Q:Sh:=⟨0,[],[],[.box 82 [.me 0,.row 1,.d (.int .i64),.row 2,.d (.int .i64)],.row 5 (.int .u8) false,.row 97 bR false]⟩
def h40:HI:=⟨40,b57,b4Q,fun(x:ByteArray×Int×Int×(List Int)×(List ay)×Unit)=>m40 x.1 x.2.1 x.2.2.1 x.2.2.2.1 x.2.2.2.2.1,[]⟩
theorem Ue:HK h40:=hk .o [] Tryz.func40 c0 (by kernel_rfl) λx=>by kernel_rfl
def wz(a0:Int)(a1:Int)(a2:List ByteArray)(a3:List Int)(a4:List ay):Option (Int×Int×(List ByteArray)×(List Int)×(List ay)×Unit) :=
 bK (S:=Int×Int×Int×Int×(List ByteArray)×(List Int)×(List ay)×Unit) (R:=Int×Int×(List ByteArray)×(List Int)×(List ay)×Unit) (λnT =>
 cond (iLt nT.2.1 nT.1)
 (cond (bnd nT.2.1 (aA nT.2.2.2.2.1))
 (cond (inB (Int.toNat nT.2.1) nT.2.2.2.2.1)
 (cond (fits (List.length nT.2.2.2.2.2.2.1+List.length ([(1,List.getD nT.2.2.2.2.1 (Int.toNat nT.2.1) ByteArray.empty,0,0,())]:List ay)) 40)
 (some (.inl (nT.1,aR .i64 nT.2.1 1,nT.2.2.1,nT.2.2.2.1,nT.2.2.2.2.1,nT.2.2.2.2.2.1,nT.2.2.2.2.2.2.1++([(1,List.getD nT.2.2.2.2.1 (Int.toNat nT.2.1) ByteArray.empty,0,0,())]:List ay),()))) none) none) none)
 (some (.inr (nT.2.2.1,nT.2.2.2.1,nT.2.2.2.2.1,nT.2.2.2.2.2.1,nT.2.2.2.2.2.2.1,()))))
 (aA a2,0,a0,a1,a2,a3,a4,())
def a6z:Sh:=⟨2,[],[(0,.ptr 0 0 0),(1,.row 1)],[.box 82 [.me 0,.row 2,.d (.int .i64),.row 3,.d (.int .i64)],.row 9 .str false,.row 5 (.int .u8) false,.row 97 bR false]⟩
def a5K:Sh:=⟨0,[],[],[.box 82 [.me 0,.row 2,.d (.int .i64),.row 3,.d (.int .i64)],.row 9 .str false,.row 5 (.int .u8) false,.row 97 bR false]⟩
def b6s:HI:=⟨38,a6z,a5K,fun(x:Int×Int×(List ByteArray)×(List Int)×(List ay)×Unit)=>wz x.1 x.2.1 x.2.2.1 x.2.2.2.1 x.2.2.2.2.1,[1]⟩
theorem JG:HK b6s:=hk (.d 1 (.b (.l [] ⟨24,[(7,(.int .i64)),(8,(.int .i64))],[(0,.ptr 0 0 0),(6,.row 1)],[.box 82 [.me 0,.row 2,.d (.int .i64),.row 3,.d (.int .i64)],.row 9 .str false,.row 5 (.int .u8) false,.row 97 bR false]⟩ .o))) [] Tryz.func38 c0 (by kernel_rfl) λx=>by kernel_rfl
def uK(a0:ByteArray):Option (ay×Unit) :=
 some ((1,a0,0,0,()),())
def b9Q:PI:=⟨172,[.str],[bR],fun(x:ByteArray×Unit)=>uK x.1⟩
theorem b0y:PK b9Q:=pk .o Tryz.func172 c0 (by kernel_rfl) λx=>by kernel_rfl
def Bc(a0:ByteArray):Option (ay×Unit) :=
 some ((4,a0,0,0,()),())
def i173:PI:=⟨173,[.str],[bR],fun(x:ByteArray×Unit)=>Bc x.1⟩
theorem Y9:PK i173:=pk .o Tryz.func173 c0 (by kernel_rfl) λx=>by kernel_rfl
def a13(a0:Int):Option (ay×Unit) :=
 some ((2,(bs []),a0,0,()),())
def b9P:PI:=⟨174,[(.int .i64)],[bR],fun(x:Int×Unit)=>a13 x.1⟩
theorem b0x:PK b9P:=pk .o Tryz.func174 c0 (by kernel_rfl) λx=>by kernel_rfl
def JU(self:(DS0×(List ay)×Unit)->Option ((List ay)×Unit))(a0:Int)(a1:DS0)(a2:List ay):Option ((List ay)×Unit) :=
 cond (or (bnd a1.1 ((9:Nat):Int)) (not (bEq (cond (iEq a1.1 7) true (iEq a1.1 8)) true)))
 (cond (or (bnd a0 ((9:Nat):Int)) (not (bEq (cond (iEq a1.1 7) true (iEq a1.1 8)) true)))
 (cond (cond (cond (iEq a1.1 7) true (iEq a1.1 8)) (iLe ((atI opsL a1.1 (ByteArray.empty,false,0,0,0,())).2.2.2.2.1) ((atI opsL a0 (ByteArray.empty,false,0,0,0,())).2.2.2.2.1)) false)
 ((Bc (bs [40])).bind λa7B =>
 cond (fits (List.length a2+List.length ([a7B.1]:List ay)) 40)
 ((self ((a1.1,a1.2.1,a1.2.2.1,a1.2.2.2.1,a1.2.2.2.2.1,a1.2.2.2.2.2.1,()),a2++([a7B.1]:List ay),())).bind λa7A =>
 (Bc (bs [41])).bind λa7z =>
 cond (fits (List.length a7A.1+List.length ([a7z.1]:List ay)) 40)
 (some (a7A.1++([a7z.1]:List ay),())) none) none)
 ((self ((a1.1,a1.2.1,a1.2.2.1,a1.2.2.2.1,a1.2.2.2.2.1,a1.2.2.2.2.2.1,()),a2,())).bind λb7B =>
 some (b7B.1,()))) none) none
def b2g:Sh:=⟨3,[(1,(.int .i64)),(2,tS0)],[(0,.row 0)],[.row 97 bR false]⟩
def a95:Sh:=⟨1,[],[(0,.row 0)],[.row 97 bR false]⟩
def c0J(self:(DS0×(List ay)×Unit)->Option ((List ay)×Unit)):HI:=⟨175,b2g,a95,fun(x:Int×DS0×(List ay)×Unit)=>JU self x.1 x.2.1 x.2.2.1,[]⟩
theorem b1d(self:(DS0×(List ay)×Unit)->Option ((List ay)×Unit))(hr:HK ⟨151,⟨2,[(1,tS0)],[(0,.row 0)],[.row 97 bR false]⟩,⟨1,[],[(0,.row 0)],[.row 97 bR false]⟩,self,[]⟩):HK (c0J self):=hk (.d 1 (.s (.d 1 (.c (.s (.u [0]) .o) .o)) .o)) [] Tryz.func175 (cH hr (cP Y9 c0)) (by kernel_rfl) λx=>by kernel_rfl
def Mv(self:(DS0×(List ay)×Unit)->Option ((List ay)×Unit))(a0:DS0)(a1:List ay):Option ((List ay)×Unit) :=
 cond (bnd a0.1 ((9:Nat):Int))
 (cond (iEq a0.1 1)
 ((uK ((atI opsL a0.1 (ByteArray.empty,false,0,0,0,())).1)).bind λa7Q =>
 cond (fits (List.length a1+List.length ([a7Q.1]:List ay)) 40)
 (some (a1++([a7Q.1]:List ay),())) none)
 (cond (iEq a0.1 2)
 ((uK ((atI opsL a0.1 (ByteArray.empty,false,0,0,0,())).1)).bind λa7P =>
 cond (fits (List.length a1+List.length ([a7P.1]:List ay)) 40)
 (some (a1++([a7P.1]:List ay),())) none)
 (cond (iEq a0.1 3)
 ((uK a0.2.1).bind λa7O =>
 cond (fits (List.length a1+List.length ([a7O.1]:List ay)) 40)
 (some (a1++([a7O.1]:List ay),())) none)
 (cond (iEq a0.1 4)
 ((uK a0.2.1).bind λa7N =>
 (uK ((atI opsL a0.1 (ByteArray.empty,false,0,0,0,())).1)).bind λa7M =>
 (Bc (bs [40])).bind λa7L =>
 cond (fits (List.length a1+List.length ([a7N.1,a7M.1,a7L.1]:List ay)) 40)
 (bK (S:=(List ByteArray)×Int×Int×(List ay)×Unit) (R:=(List ay)×Unit) (λoH =>
 cond (iLt oH.2.2.1 oH.2.1)
 (cond (bnd oH.2.2.1 (aA oH.1))
 (cond (iLt 0 oH.2.2.1)
 ((Bc (bs [44])).bind λZO =>
 cond (fits (List.length oH.2.2.2.1+List.length ([ZO.1]:List ay)) 40)
 ((uK (atI oH.1 oH.2.2.1 ByteArray.empty)).bind λa7K =>
 cond (fits (List.length (oH.2.2.2.1++([ZO.1]:List ay))+List.length ([a7K.1]:List ay)) 40)
 (some (.inl (oH.1,oH.2.1,aR .i64 oH.2.2.1 1,(oH.2.2.2.1++([ZO.1]:List ay))++([a7K.1]:List ay),()))) none) none)
 ((uK (atI oH.1 oH.2.2.1 ByteArray.empty)).bind λa7J =>
 cond (fits (List.length oH.2.2.2.1+List.length ([a7J.1]:List ay)) 40)
 (some (.inl (oH.1,oH.2.1,aR .i64 oH.2.2.1 1,oH.2.2.2.1++([a7J.1]:List ay),()))) none)) none)
 (Option.map Sum.inr ((Bc (bs [41])).bind λa7I =>
 cond (fits (List.length oH.2.2.2.1+List.length ([a7I.1]:List ay)) 40)
 (some (oH.2.2.2.1++([a7I.1]:List ay),())) none)))
 (a0.2.2.1,aA a0.2.2.1,0,a1++([a7N.1,a7M.1,a7L.1]:List ay),())) none)
 (cond (iEq a0.1 5)
 ((uK a0.2.1).bind λa7H =>
 (uK ((atI opsL a0.1 (ByteArray.empty,false,0,0,0,())).1)).bind λa7G =>
 (a13 a0.2.2.2.1).bind λa7F =>
 (uK (bs [116,111])).bind λa7E =>
 (a13 a0.2.2.2.2.1).bind λa7D =>
 cond (fits (List.length a1+List.length ([a7H.1,a7G.1,a7F.1,a7E.1,a7D.1]:List ay)) 40)
 (some (a1++([a7H.1,a7G.1,a7F.1,a7E.1,a7D.1]:List ay),())) none)
 (cond (iEq a0.1 6)
 ((uK ((atI opsL a0.1 (ByteArray.empty,false,0,0,0,())).1)).bind λa7C =>
 cond (fits (List.length a1+List.length ([a7C.1]:List ay)) 40)
 (cond (and (bnd 0 (aA a0.2.2.2.2.2.1)) (qy (atI a0.2.2.2.2.2.1 0 AV.any)))
 ((JU self a0.1 (aQ (atI a0.2.2.2.2.2.1 0 AV.any)) (a1++([a7C.1]:List ay))).bind λb7A =>
 some (b7A.1,())) none) none)
 (bK (S:=(List AV)×Int×Int×(List ay)×Int×ByteArray×(List ByteArray)×Int×Int×(List AV)×ByteArray×Bool×Int×Int×Int×Unit) (R:=(List ay)×Unit) (λeY =>
 cond (iLt eY.2.2.1 eY.2.1)
 (cond (and (bnd eY.2.2.1 (aA eY.1)) (qy (atI eY.1 eY.2.2.1 AV.any)))
 (cond (iLt 0 eY.2.2.1)
 ((uK eY.2.2.2.2.2.2.2.2.2.2.1).bind λa7y =>
 cond (fits (List.length eY.2.2.2.1+List.length ([a7y.1]:List ay)) 40)
 ((JU self eY.2.2.2.2.1 ((aQ (atI eY.1 eY.2.2.1 AV.any)).1,(aQ (atI eY.1 eY.2.2.1 AV.any)).2.1,(aQ (atI eY.1 eY.2.2.1 AV.any)).2.2.1,(aQ (atI eY.1 eY.2.2.1 AV.any)).2.2.2.1,(aQ (atI eY.1 eY.2.2.1 AV.any)).2.2.2.2.1,(aQ (atI eY.1 eY.2.2.1 AV.any)).2.2.2.2.2.1,()) (eY.2.2.2.1++([a7y.1]:List ay))).bind λb7z =>
 some (.inl (eY.1,eY.2.1,aR .i64 eY.2.2.1 1,b7z.1,eY.2.2.2.2.1,eY.2.2.2.2.2.1,eY.2.2.2.2.2.2.1,eY.2.2.2.2.2.2.2.1,eY.2.2.2.2.2.2.2.2.1,eY.2.2.2.2.2.2.2.2.2.1,eY.2.2.2.2.2.2.2.2.2.2.1,eY.2.2.2.2.2.2.2.2.2.2.2.1,eY.2.2.2.2.2.2.2.2.2.2.2.2.1,eY.2.2.2.2.2.2.2.2.2.2.2.2.2.1,eY.2.2.2.2.2.2.2.2.2.2.2.2.2.2.1,()))) none)
 ((JU self eY.2.2.2.2.1 ((aQ (atI eY.1 eY.2.2.1 AV.any)).1,(aQ (atI eY.1 eY.2.2.1 AV.any)).2.1,(aQ (atI eY.1 eY.2.2.1 AV.any)).2.2.1,(aQ (atI eY.1 eY.2.2.1 AV.any)).2.2.2.1,(aQ (atI eY.1 eY.2.2.1 AV.any)).2.2.2.2.1,(aQ (atI eY.1 eY.2.2.1 AV.any)).2.2.2.2.2.1,()) eY.2.2.2.1).bind λb7y =>
 some (.inl (eY.1,eY.2.1,aR .i64 eY.2.2.1 1,b7y.1,eY.2.2.2.2.1,eY.2.2.2.2.2.1,eY.2.2.2.2.2.2.1,eY.2.2.2.2.2.2.2.1,eY.2.2.2.2.2.2.2.2.1,eY.2.2.2.2.2.2.2.2.2.1,eY.2.2.2.2.2.2.2.2.2.2.1,eY.2.2.2.2.2.2.2.2.2.2.2.1,eY.2.2.2.2.2.2.2.2.2.2.2.2.1,eY.2.2.2.2.2.2.2.2.2.2.2.2.2.1,eY.2.2.2.2.2.2.2.2.2.2.2.2.2.2.1,())))) none)
 (some (.inr (eY.2.2.2.1,()))))
 (a0.2.2.2.2.2.1,aA a0.2.2.2.2.2.1,0,a1,a0.1,a0.2.1,a0.2.2.1,a0.2.2.2.1,a0.2.2.2.2.1,a0.2.2.2.2.2.1,(atI opsL a0.1 (ByteArray.empty,false,0,0,0,())).1,(atI opsL a0.1 (ByteArray.empty,false,0,0,0,())).2.1,(atI opsL a0.1 (ByteArray.empty,false,0,0,0,())).2.2.1,(atI opsL a0.1 (ByteArray.empty,false,0,0,0,())).2.2.2.1,(atI opsL a0.1 (ByteArray.empty,false,0,0,0,())).2.2.2.2.1,())))))))) none
def a15(a0:DS0)(a1:List ay):Option ((List ay)×Unit):=eH (λself (x:DS0×(List ay)×Unit)=>Mv self x.1 x.2.1) 10000 (a0,a1,())
def YN:Sh:=⟨2,[(1,tS0)],[(0,.row 0)],[.row 97 bR false]⟩
def OJ:Sh:=⟨1,[],[(0,.row 0)],[.row 97 bR false]⟩
def c0P:HI:=⟨151,YN,OJ,fun(x:DS0×(List ay)×Unit)=>a15 x.1 x.2.1,[]⟩
theorem b1h:HK c0P:=rC 10000 (ish:=YN) (osh:=OJ) (G:=λself (x:DS0×(List ay)×Unit)=>Mv self x.1 x.2.1) (mK (f:=Tryz.f151) (by kernel_rfl)) λself hr=>hk (.d 2 (.s (.d 1 (.b (.d 1 (.c .o (.d 1 (.c .o (.d 1 (.c (.d 1 (.s (.d 1 (.b (.l [] ⟨125,[(46,(.list .str)),(47,(.int .i64)),(48,(.int .i64))],[(0,.row 0)],[.row 97 bR false]⟩ .o))) .o)) (.d 1 (.c .o (.d 1 (.c (.s (.u [0]) .o) .o)))))))))))) (.s (.d 1 (.b (.l [] ⟨125,[(103,(.rl 34 6)),(104,(.int .i64)),(105,(.int .i64))],[(0,.row 0),(3,.ptr 1 0 0),(5,.ptr 2 0 0)],[.row 97 bR false,.box 34 [.d (.int .i64),.d .str,.d (.list .str),.d (.int .i64),.d (.int .i64),.d (.rl 34 6)],.box 197 [.d .str,.d .bool,.d (.int .i64),.d (.int .i64),.d (.int .i64)]]⟩ .o))) .o))) [] Tryz.func151 (cH hr (cP b0y (cP Y9 (cP b0x (cH (b1d self hr) c0))))) (by kernel_rfl) λx=>by kernel_rfl
def MK(a0:DS0):Option ((List ay)×Unit):=a15 a0 ([]:List ay)
def b6t:HI:=⟨151,⟨2,[(1,tS0)],[(0,.nil)],[]⟩,OJ,fun(x:DS0×Unit)=>MK x.1,[]⟩
theorem a5X:HK b6t:=a6D (by decide) b1h
theorem Ry:PK a4x:=a5S (by rfl)
def a10(a0:Int):Option (Bool×Unit) :=
 some (cond (iLe 0 a0) (iLe a0 876599) false,())
def b9H:PI:=⟨188,[(.int .i64)],[.bool],fun(x:Int×Unit)=>a10 x.1⟩
theorem b0r:PK b9H:=pk .o Tryz.func188 c0 (by kernel_rfl) λx=>by kernel_rfl
def JR(a0:Int):Option (Int×Unit) :=
 cond (iNe 4 0)
 (cond (iEq (jC a0 4) 0)
 (some (366,()))
 (some (365,()))) none
def b9L:PI:=⟨181,[(.int .i64)],[(.int .i64)],fun(x:Int×Unit)=>JR x.1⟩
theorem Y7:PK b9L:=pk .o Tryz.func181 c0 (by kernel_rfl) λx=>by kernel_rfl
def Gr(a0:Int)(a1:Int):Option (Int×Unit) :=
 cond (or (iNe 4 0) (not (bEq (iEq a1 2) true)))
 (cond (cond (iEq a1 2) (iEq (jC a0 4) 0) false)
 (some (29,()))
 (cond (bnd (dQ .i64 a1 1) ((12:Nat):Int))
 (some (atI ([31,28,31,30,31,30,31,31,30,31,30,31]:List Int) (dQ .i64 a1 1) 0,())) none)) none
def b9M:PI:=⟨180,[(.int .i64),(.int .i64)],[(.int .i64)],fun(x:Int×Int×Unit)=>Gr x.1 x.2.1⟩
theorem Y8:PK b9M:=pk .o Tryz.func180 c0 (by kernel_rfl) λx=>by kernel_rfl
def Uu(a0:Int):Option (QO×Int×Int×Unit) :=
 (a10 a0).bind λb7u =>
 cond (not b7u.1)
 (some ((0,0,0,()),0,1,()))
 (cond (iNe 24 0)
 ((JR 2000).bind λb7t =>
 bK (S:=Int×Int×Int×Int×Int×Int×Int×Int×Unit) (R:=QO×Int×Int×Unit) (λqo =>
 cond (iLe qo.2.2.2.2.1 qo.2.1)
 ((JR (aR .i64 qo.2.2.1 1)).bind λb7s =>
 some (.inl (qo.1,dQ .i64 qo.2.1 qo.2.2.2.2.1,aR .i64 qo.2.2.1 1,qo.2.2.2.1,b7s.1,qo.2.2.2.2.2.1,qo.2.2.2.2.2.2.1,qo.2.2.2.2.2.2.2.1,())))
 (Option.map Sum.inr ((Gr qo.2.2.1 qo.2.2.2.1).bind λb7r =>
 bK (S:=Int×Int×Int×Int×Int×Int×Int×Int×Unit) (R:=QO×Int×Int×Unit) (λuF =>
 cond (iLe uF.2.2.2.2.1 uF.2.1)
 ((Gr uF.2.2.1 (aR .i64 uF.2.2.2.1 1)).bind λb7q =>
 some (.inl (uF.1,dQ .i64 uF.2.1 uF.2.2.2.2.1,uF.2.2.1,aR .i64 uF.2.2.2.1 1,b7q.1,uF.2.2.2.2.2.1,uF.2.2.2.2.2.2.1,uF.2.2.2.2.2.2.2.1,())))
 (Option.map Sum.inr (cond (iNe 24 0)
 (some ((uF.2.2.1,uF.2.2.2.1,aR .i64 uF.2.1 1,()),jC uF.1 24,0,())) none)))
 (qo.1,qo.2.1,qo.2.2.1,qo.2.2.2.1,b7r.1,qo.2.2.2.2.2.1,qo.2.2.2.2.2.2.1,qo.2.2.2.2.2.2.2.1,()))))
 (a0,K7 .i64 a0 24,2000,1,b7t.1,0,0,0,())) none)
def b9O:PI:=⟨177,[(.int .i64)],[a9s,(.int .i64),(.int .i64)],fun(x:Int×Unit)=>Uu x.1⟩
theorem b0w:PK b9O:=pk (.d 3 (.s (.d 1 (.b (.l [] ⟨49,[(0,(.int .i64)),(5,(.int .i64)),(6,(.int .i64)),(7,(.int .i64)),(8,(.int .i64))],[(2,.ptr 0 0 0)],[.box 183 [.d (.int .i64),.d (.int .i64),.d (.int .i64)]]⟩ .o))) (.s (.d 1 (.b (.l [] ⟨49,[(0,(.int .i64)),(5,(.int .i64)),(6,(.int .i64)),(7,(.int .i64)),(9,(.int .i64))],[(2,.ptr 0 0 0)],[.box 183 [.d (.int .i64),.d (.int .i64),.d (.int .i64)]]⟩ .o))) .o))) Tryz.func177 (cP Y8 (cP Y7 (cP b0r c0))) (by kernel_rfl) λx=>by kernel_rfl
theorem b0n:PK b2x:=b08
def Eh(a0:Int)(a1:Int):Option (ByteArray×Unit) :=
 (y7 a0).bind λZM =>
 (JL (bs [48]) (tu 0 (dQ .i64 a1 (sLen ZM.1)))).bind λa7x =>
 cond (nu a7x.1 ZM.1)
 (some (iJ a7x.1 ZM.1,())) none
def b9N:PI:=⟨178,[(.int .i64),(.int .i64)],[.str],fun(x:Int×Int×Unit)=>Eh x.1 x.2.1⟩
theorem b0v:PK b9N:=pk .o Tryz.func178 (cP Ry (cP b0n c0)) (by kernel_rfl) λx=>by kernel_rfl
def zQ(a0:Int):Option (ByteArray×Int×Unit) :=
 (Uu a0).bind λFX =>
 cond (iNe FX.2.2.1 0)
 (some ((bs []),FX.2.2.1,()))
 ((Eh FX.1.1 4).bind λFW =>
 cond (nu FW.1 (bs [45]))
 ((Eh FX.1.2.1 2).bind λJk =>
 cond (nu (iJ FW.1 (bs [45])) Jk.1)
 (cond (nu (iJ (iJ FW.1 (bs [45])) Jk.1) (bs [45]))
 ((Eh FX.1.2.2.1 2).bind λSQ =>
 cond (nu (iJ (iJ (iJ FW.1 (bs [45])) Jk.1) (bs [45])) SQ.1)
 (cond (iNe FX.2.1 0)
 ((Eh FX.2.1 2).bind λZL =>
 cond (nu (bs [84]) ZL.1)
 (cond (nu (iJ (iJ (iJ (iJ FW.1 (bs [45])) Jk.1) (bs [45])) SQ.1) (iJ (bs [84]) ZL.1))
 (some (iJ (iJ (iJ (iJ (iJ FW.1 (bs [45])) Jk.1) (bs [45])) SQ.1) (iJ (bs [84]) ZL.1),0,())) none) none)
 (some (iJ (iJ (iJ (iJ FW.1 (bs [45])) Jk.1) (bs [45])) SQ.1,0,()))) none) none) none) none)
def b9W:PI:=⟨153,[(.int .i64)],[.str,(.int .i64)],fun(x:Int×Unit)=>zQ x.1⟩
theorem b0I:PK b9W:=pk .o Tryz.func153 (cP b0w (cP b0v c0)) (by kernel_rfl) λx=>by kernel_rfl
def Em(a0:Int):Option (Bool×Unit) :=
 cond (iEq a0 59)
 (some (true,()))
 (cond (iEq a0 58)
 (some (true,()))
 (cond (iEq a0 44)
 (some (true,()))
 (cond (iEq a0 40)
 (some (true,()))
 (cond (iEq a0 41)
 (some (true,()))
 (some (false,()))))))
def b97:PI:=⟨122,[(.int .u8)],[.bool],fun(x:Int×Unit)=>Em x.1⟩
theorem Ye:PK b97:=pk .o Tryz.func122 c0 (by kernel_rfl) λx=>by kernel_rfl
def Cy(a0:ay):Option (ByteArray×Int×Unit) :=
 cond (iEq a0.1 1)
 (cond (iNe a0.2.2.1 0)
 (some ((bs []),20,()))
 (cond (iEq a0.1 1)
 ((m95 a0.2.1).bind λb7w =>
 cond (not b7w.1)
 (some ((bs []),6,()))
 (some (a0.2.1,0,())))
 (cond (iEq a0.1 2)
 (cond (cond (iLt a0.2.2.1 (-17592186044416)) true (iLt 17592186044416 a0.2.2.1))
 (some ((bs []),1,()))
 ((y7 a0.2.2.1).bind λb7v =>
 some (b7v.1,0,())))
 (cond (iEq a0.1 3)
 ((zQ a0.2.2.1).bind λSN =>
 cond (iNe SN.2.1 0)
 (some ((bs []),SN.2.1,()))
 (cond (nu (bs [64]) SN.1)
 (some (iJ (bs [64]) SN.1,0,())) none))
 (cond (or (bnd 0 (sLen a0.2.1)) (not (bEq (iNe (sLen a0.2.1) 1) false)))
 (cond (iNe (sLen a0.2.1) 1)
 (some ((bs []),5,()))
 ((Em (sAt a0.2.1 0)).bind λb7p =>
 cond (not b7p.1)
 (some ((bs []),5,()))
 (some (a0.2.1,0,())))) none)))))
 (cond (iEq a0.1 4)
 (cond (iNe a0.2.2.1 0)
 (some ((bs []),20,()))
 (cond (iEq a0.1 1)
 ((m95 a0.2.1).bind λb7o =>
 cond (not b7o.1)
 (some ((bs []),6,()))
 (some (a0.2.1,0,())))
 (cond (iEq a0.1 2)
 (cond (cond (iLt a0.2.2.1 (-17592186044416)) true (iLt 17592186044416 a0.2.2.1))
 (some ((bs []),1,()))
 ((y7 a0.2.2.1).bind λb7n =>
 some (b7n.1,0,())))
 (cond (iEq a0.1 3)
 ((zQ a0.2.2.1).bind λSL =>
 cond (iNe SL.2.1 0)
 (some ((bs []),SL.2.1,()))
 (cond (nu (bs [64]) SL.1)
 (some (iJ (bs [64]) SL.1,0,())) none))
 (cond (or (bnd 0 (sLen a0.2.1)) (not (bEq (iNe (sLen a0.2.1) 1) false)))
 (cond (iNe (sLen a0.2.1) 1)
 (some ((bs []),5,()))
 ((Em (sAt a0.2.1 0)).bind λb7m =>
 cond (not b7m.1)
 (some ((bs []),5,()))
 (some (a0.2.1,0,())))) none)))))
 (cond (iEq a0.1 2)
 (cond (not (sEq a0.2.1 (bs [])))
 (some ((bs []),20,()))
 (cond (iEq a0.1 1)
 ((m95 a0.2.1).bind λb7l =>
 cond (not b7l.1)
 (some ((bs []),6,()))
 (some (a0.2.1,0,())))
 (cond (iEq a0.1 2)
 (cond (cond (iLt a0.2.2.1 (-17592186044416)) true (iLt 17592186044416 a0.2.2.1))
 (some ((bs []),1,()))
 ((y7 a0.2.2.1).bind λb7k =>
 some (b7k.1,0,())))
 (cond (iEq a0.1 3)
 ((zQ a0.2.2.1).bind λSI =>
 cond (iNe SI.2.1 0)
 (some ((bs []),SI.2.1,()))
 (cond (nu (bs [64]) SI.1)
 (some (iJ (bs [64]) SI.1,0,())) none))
 (cond (or (bnd 0 (sLen a0.2.1)) (not (bEq (iNe (sLen a0.2.1) 1) false)))
 (cond (iNe (sLen a0.2.1) 1)
 (some ((bs []),5,()))
 ((Em (sAt a0.2.1 0)).bind λb7j =>
 cond (not b7j.1)
 (some ((bs []),5,()))
 (some (a0.2.1,0,())))) none)))))
 (cond (iEq a0.1 3)
 (cond (not (sEq a0.2.1 (bs [])))
 (some ((bs []),20,()))
 (cond (iEq a0.1 1)
 ((m95 a0.2.1).bind λb7i =>
 cond (not b7i.1)
 (some ((bs []),6,()))
 (some (a0.2.1,0,())))
 (cond (iEq a0.1 2)
 (cond (cond (iLt a0.2.2.1 (-17592186044416)) true (iLt 17592186044416 a0.2.2.1))
 (some ((bs []),1,()))
 ((y7 a0.2.2.1).bind λb7h =>
 some (b7h.1,0,())))
 (cond (iEq a0.1 3)
 ((zQ a0.2.2.1).bind λSH =>
 cond (iNe SH.2.1 0)
 (some ((bs []),SH.2.1,()))
 (cond (nu (bs [64]) SH.1)
 (some (iJ (bs [64]) SH.1,0,())) none))
 (cond (or (bnd 0 (sLen a0.2.1)) (not (bEq (iNe (sLen a0.2.1) 1) false)))
 (cond (iNe (sLen a0.2.1) 1)
 (some ((bs []),5,()))
 ((Em (sAt a0.2.1 0)).bind λb7g =>
 cond (not b7g.1)
 (some ((bs []),5,()))
 (some (a0.2.1,0,())))) none)))))
 (some ((bs []),11,())))))
def c0e:PI:=⟨106,[bR],[.str,(.int .i64)],fun(x:ay×Unit)=>Cy x.1⟩
theorem b03:PK c0e:=pk .o Tryz.func106 (cP Ye (cP b0I (cP U8 (cP Ry c0)))) (by kernel_rfl) λx=>by kernel_rfl
def UK(a0:ay)(a1:ay):Option (Bool×Unit) :=
 cond (cond (iEq a0.1 4) (sEq a0.2.1 (bs [40])) false)
 (some (false,()))
 (some (cond (iNe a1.1 4) true (sEq a1.2.1 (bs [40])),()))
def i107:PI:=⟨107,[bR,bR],[.bool],fun(x:ay×ay×Unit)=>UK x.1 x.2.1⟩
theorem b0Z:PK i107:=pk .o Tryz.func107 c0 (by kernel_rfl) λx=>by kernel_rfl
def Fp(a0:List Int):Option ((List Int)×Unit):=some (a0,())
def a6F:HI:=Vb 79 []
theorem KT:HK a6F:=Rz 79 [] (by kernel_rfl)
def m70(a0:Int)(a1:List Int):Option ((List Int)×Unit) :=
 (Fp a1).bind λa7w =>
 cond (fits (List.length a7w.1+List.length ([a0]:List Int)) 1)
 (some (a7w.1++([a0]:List Int),())) none
def b50:Sh:=⟨2,[(1,(.int .u8))],[(0,.ptr 0 0 0)],[.box 79 [.me 0,.row 1],.row 5 (.int .u8) false]⟩
def b4J:Sh:=⟨1,[],[],[.box 79 [.me 0,.row 1],.row 5 (.int .u8) false]⟩
def h70:HI:=⟨70,b50,b4J,fun(x:Int×(List Int)×Unit)=>m70 x.1 x.2.1,[]⟩
theorem b5w:HK h70:=hk .o [] Tryz.func70 (cH KT c0) (by kernel_rfl) λx=>by kernel_rfl
def m69(a0:ByteArray)(a1:List Int):Option (Int×(List Int)×Unit) :=
 (Fp a1).bind λa7v =>
 cond (fits (List.length a7v.1+List.length (aY a0)) 1)
 (some (sLen a0,a7v.1++(aY a0),())) none
def b51:Sh:=⟨2,[(1,.str)],[(0,.ptr 0 0 0)],[.box 79 [.me 0,.row 1],.row 5 (.int .u8) false]⟩
def b4K:Sh:=⟨2,[(0,(.int .i64))],[],[.box 79 [.me 0,.row 1],.row 5 (.int .u8) false]⟩
def h69:HI:=⟨69,b51,b4K,fun(x:ByteArray×(List Int)×Unit)=>m69 x.1 x.2.1,[]⟩
theorem b5x:HK h69:=hk .o [] Tryz.func69 (cH KT c0) (by kernel_rfl) λx=>by kernel_rfl
def m71(a0:List Int):Option (Int×(List Int)×Unit) :=
 some (aA a0,a0,())
def b5Z:Sh:=⟨1,[],[(0,.ptr 0 0 0)],[.box 79 [.me 0,.row 1],.row 5 (.int .u8) false]⟩
def b4I:Sh:=⟨1,[(0,(.int .i64))],[],[.box 79 [.me 0,.row 1],.row 5 (.int .u8) false]⟩
def h71:HI:=⟨71,b5Z,b4I,fun(x:(List Int)×Unit)=>m71 x.1,[]⟩
theorem b5v:HK h71:=hk .o [] Tryz.func71 c0 (by kernel_rfl) λx=>by kernel_rfl
def YA(a0:List Int):Option (ByteArray×(List Int)×Unit):=some (bsI a0,a0,())
def b2V:HI:=a2k 79 []
theorem a1I:HK b2V:=Yf 79 []
def m68(a0:List ay):Option (ByteArray×Int×Unit) :=
 cond (iLt 4000 (aA a0))
 (some ((bs []),4,()))
 (bK (S:=(List ay)×(List ay)×Int×Int×(List Int)×Unit) (R:=ByteArray×Int×Unit) (λiQ =>
 cond (iLt iQ.2.2.2.1 iQ.2.2.1)
 (cond (bnd iQ.2.2.2.1 (aA iQ.2.1))
 ((Cy ((atI iQ.2.1 iQ.2.2.2.1 iU).1,(atI iQ.2.1 iQ.2.2.2.1 iU).2.1,(atI iQ.2.1 iQ.2.2.2.1 iU).2.2.1,(atI iQ.2.1 iQ.2.2.2.1 iU).2.2.2.1,())).bind λN8 =>
 cond (iNe N8.2.1 0)
 (some (.inr ((bs []),N8.2.1,())))
 (cond (or (bnd (dQ .i64 iQ.2.2.2.1 1) (aA iQ.1)) (not (bEq (iLt 0 iQ.2.2.2.1) true)))
 (cond (iLt 0 iQ.2.2.2.1)
 ((UK (atI iQ.1 (dQ .i64 iQ.2.2.2.1 1) iU) ((atI iQ.2.1 iQ.2.2.2.1 iU).1,(atI iQ.2.1 iQ.2.2.2.1 iU).2.1,(atI iQ.2.1 iQ.2.2.2.1 iU).2.2.1,(atI iQ.2.1 iQ.2.2.2.1 iU).2.2.2.1,())).bind λb7f =>
 cond b7f.1
 ((m70 32 iQ.2.2.2.2.1).bind λb7e =>
 (m69 N8.1 b7e.1).bind λb7d =>
 some (.inl (iQ.1,iQ.2.1,iQ.2.2.1,aR .i64 iQ.2.2.2.1 1,b7d.2.1,())))
 ((m69 N8.1 iQ.2.2.2.2.1).bind λb7c =>
 some (.inl (iQ.1,iQ.2.1,iQ.2.2.1,aR .i64 iQ.2.2.2.1 1,b7c.2.1,()))))
 ((m69 N8.1 iQ.2.2.2.2.1).bind λb7b =>
 some (.inl (iQ.1,iQ.2.1,iQ.2.2.1,aR .i64 iQ.2.2.2.1 1,b7b.2.1,())))) none)) none)
 (Option.map Sum.inr ((m71 iQ.2.2.2.2.1).bind λa7u =>
 cond (iLt 16384 a7u.1)
 (some ((bs []),4,()))
 ((YA a7u.2.1).bind λb7a =>
 some (b7a.1,0,())))))
 (a0,a0,aA a0,0,([]:List Int),()))
def i68:PI:=⟨68,[(.list bR)],[.str,(.int .i64)],fun(x:(List ay)×Unit)=>m68 x.1⟩
theorem a4d:PK i68:=pk (.d 3 (.s (.d 1 (.b (.l [.ghc 4 1 5 (.int .u8)] ⟨45,[(0,(.list bR)),(12,(.list bR)),(13,(.int .i64)),(14,(.int .i64))],[(4,.ptr 0 0 0)],[.box 79 [.me 0,.row 1],.row 5 (.int .u8) false]⟩ .o))) .o)) Tryz.func68 (cP b03 (cP b0Z (cH b5x (cH b5w (cH b5v (cH a1I c0)))))) (by kernel_rfl) λx=>by kernel_rfl
def UL(a0:DS0):Option (ByteArray×Int×Unit) :=
 (m93 (a0.1,a0.2.1,a0.2.2.1,a0.2.2.2.1,a0.2.2.2.2.1,a0.2.2.2.2.2.1,())).bind λb7C =>
 cond (not b7C.1)
 (some ((bs []),5,()))
 ((MK (a0.1,a0.2.1,a0.2.2.1,a0.2.2.2.1,a0.2.2.2.2.1,a0.2.2.2.2.2.1,())).bind λb7x =>
 (m68 b7x.1).bind λa7t =>
 some (a7t.1,a7t.2.1,()))
def i105:PI:=⟨105,[tS0],[.str,(.int .i64)],fun(x:DS0×Unit)=>UL x.1⟩
theorem b04:PK i105:=pk .o Tryz.func105 (cP a4d (cP U9 (cH a5X c0))) (by kernel_rfl) λx=>by kernel_rfl
def m78(a0:Int):Option (Bool×Unit) :=
 some (iNe a0 10,())
def i78:PI:=⟨78,[(.int .u8)],[.bool],fun(x:Int×Unit)=>m78 x.1⟩
theorem b5b:PK i78:=pk .o Tryz.func78 c0 (by kernel_rfl) λx=>by kernel_rfl
def a4s(a0:ByteArray)(a1:Int)(a2:Unit):Option (Int×Unit) :=
 bK (S:=ByteArray×Int×Unit×Unit) (R:=Int×Unit) (λxg =>
 cond (or (bnd xg.2.1 (sLen xg.1)) (not (bEq (iLt xg.2.1 (sLen xg.1)) true)))
 (cond (iLt xg.2.1 (sLen xg.1))
 ((m78 (sAt xg.1 xg.2.1)).bind λb69 =>
 cond b69.1
 (some (.inl (xg.1,aR .i64 xg.2.1 1,xg.2.2.1,())))
 (some (.inr (xg.2.1,()))))
 (some (.inr (xg.2.1,())))) none)
 (a0,a1,(),())
def b6i:PI:=⟨77,[.str,(.int .i64),(.fnc 78)],[(.int .i64)],fun(x:ByteArray×Int×Unit×Unit)=>a4s x.1 x.2.1 x.2.2.1⟩
theorem a5R:PK b6i:=pk (.d 1 (.s (.b (.l [] ⟨21,[(0,.str),(1,(.int .i64)),(2,(.fnc 78))],[],[]⟩ .o)) .o)) Tryz.func77 (cP b5b c0) (by kernel_rfl) λx=>by kernel_rfl
def a4r(a0:ByteArray)(a1:Int)(a2:Unit):Option (Int×Unit) :=
 bK (S:=ByteArray×Int×Unit×Unit) (R:=Int×Unit) (λx9 =>
 cond (or (bnd x9.2.1 (sLen x9.1)) (not (bEq (iLt x9.2.1 (sLen x9.1)) true)))
 (cond (iLt x9.2.1 (sLen x9.1))
 ((zR (sAt x9.1 x9.2.1)).bind λb65 =>
 cond b65.1
 (some (.inl (x9.1,aR .i64 x9.2.1 1,x9.2.2.1,())))
 (some (.inr (x9.2.1,()))))
 (some (.inr (x9.2.1,())))) none)
 (a0,a1,(),())
def b6h:PI:=⟨77,[.str,(.int .i64),(.fnc 118)],[(.int .i64)],fun(x:ByteArray×Int×Unit×Unit)=>a4r x.1 x.2.1 x.2.2.1⟩
theorem a5Q:PK b6h:=pk (.d 1 (.s (.b (.l [] ⟨21,[(0,.str),(1,(.int .i64)),(2,(.fnc 118))],[],[]⟩ .o)) .o)) Tryz.func77 (cP Il c0) (by kernel_rfl) λx=>by kernel_rfl
def UJ(a0:ByteArray):Option (Int×Int×Unit) :=
 cond (bnd 0 (sLen a0))
 (cond (iEq (sAt a0 0) 45)
 (cond (nL 1 ((ByteArray.size a0:Nat):Int) (ByteArray.size a0))
 (cond (or (bnd 0 (sLen (lu 1 ((ByteArray.size a0:Nat):Int) a0))) (not (bEq (sEq (lu 1 ((ByteArray.size a0:Nat):Int) a0) (bs [])) false)))
 (cond (sEq (lu 1 ((ByteArray.size a0:Nat):Int) a0) (bs []))
 (some (0,5,()))
 (cond (iEq (sAt (lu 1 ((ByteArray.size a0:Nat):Int) a0) 0) 48)
 (cond (cond (iEq (sAt a0 0) 45) true (iLt 1 (sLen (lu 1 ((ByteArray.size a0:Nat):Int) a0))))
 (some (0,5,()))
 (bK (S:=Bool×ByteArray×Int×Int×Int×Unit) (R:=Int×Int×Unit) (λsO =>
 cond (iLt sO.2.2.2.2.1 sO.2.2.2.1)
 (cond (bnd sO.2.2.2.2.1 (sLen sO.2.1))
 (cond (iLt 17592186044416 (aR .i64 (vE .i64 sO.2.2.1 10) (IntKind.wrap .i64 (dQ .u8 (sAt sO.2.1 sO.2.2.2.2.1) 48))))
 (some (.inr (0,1,())))
 (some (.inl (sO.1,sO.2.1,aR .i64 (vE .i64 sO.2.2.1 10) (IntKind.wrap .i64 (dQ .u8 (sAt sO.2.1 sO.2.2.2.2.1) 48)),sO.2.2.2.1,aR .i64 sO.2.2.2.2.1 1,())))) none)
 (Option.map Sum.inr (cond sO.1
 (some (Gz .i64 sO.2.2.1,0,()))
 (some (sO.2.2.1,0,())))))
 (iEq (sAt a0 0) 45,lu 1 ((ByteArray.size a0:Nat):Int) a0,0,sLen (lu 1 ((ByteArray.size a0:Nat):Int) a0),0,())))
 (bK (S:=Bool×ByteArray×Int×Int×Int×Unit) (R:=Int×Int×Unit) (λsN =>
 cond (iLt sN.2.2.2.2.1 sN.2.2.2.1)
 (cond (bnd sN.2.2.2.2.1 (sLen sN.2.1))
 (cond (iLt 17592186044416 (aR .i64 (vE .i64 sN.2.2.1 10) (IntKind.wrap .i64 (dQ .u8 (sAt sN.2.1 sN.2.2.2.2.1) 48))))
 (some (.inr (0,1,())))
 (some (.inl (sN.1,sN.2.1,aR .i64 (vE .i64 sN.2.2.1 10) (IntKind.wrap .i64 (dQ .u8 (sAt sN.2.1 sN.2.2.2.2.1) 48)),sN.2.2.2.1,aR .i64 sN.2.2.2.2.1 1,())))) none)
 (Option.map Sum.inr (cond sN.1
 (some (Gz .i64 sN.2.2.1,0,()))
 (some (sN.2.2.1,0,())))))
 (iEq (sAt a0 0) 45,lu 1 ((ByteArray.size a0:Nat):Int) a0,0,sLen (lu 1 ((ByteArray.size a0:Nat):Int) a0),0,())))) none) none)
 (cond (or (bnd 0 (sLen a0)) (not (bEq (sEq a0 (bs [])) false)))
 (cond (sEq a0 (bs []))
 (some (0,5,()))
 (cond (iEq (sAt a0 0) 48)
 (cond (cond (iEq (sAt a0 0) 45) true (iLt 1 (sLen a0)))
 (some (0,5,()))
 (bK (S:=Bool×ByteArray×Int×Int×Int×Unit) (R:=Int×Int×Unit) (λsM =>
 cond (iLt sM.2.2.2.2.1 sM.2.2.2.1)
 (cond (bnd sM.2.2.2.2.1 (sLen sM.2.1))
 (cond (iLt 17592186044416 (aR .i64 (vE .i64 sM.2.2.1 10) (IntKind.wrap .i64 (dQ .u8 (sAt sM.2.1 sM.2.2.2.2.1) 48))))
 (some (.inr (0,1,())))
 (some (.inl (sM.1,sM.2.1,aR .i64 (vE .i64 sM.2.2.1 10) (IntKind.wrap .i64 (dQ .u8 (sAt sM.2.1 sM.2.2.2.2.1) 48)),sM.2.2.2.1,aR .i64 sM.2.2.2.2.1 1,())))) none)
 (Option.map Sum.inr (cond sM.1
 (some (Gz .i64 sM.2.2.1,0,()))
 (some (sM.2.2.1,0,())))))
 (iEq (sAt a0 0) 45,a0,0,sLen a0,0,())))
 (bK (S:=Bool×ByteArray×Int×Int×Int×Unit) (R:=Int×Int×Unit) (λsK =>
 cond (iLt sK.2.2.2.2.1 sK.2.2.2.1)
 (cond (bnd sK.2.2.2.2.1 (sLen sK.2.1))
 (cond (iLt 17592186044416 (aR .i64 (vE .i64 sK.2.2.1 10) (IntKind.wrap .i64 (dQ .u8 (sAt sK.2.1 sK.2.2.2.2.1) 48))))
 (some (.inr (0,1,())))
 (some (.inl (sK.1,sK.2.1,aR .i64 (vE .i64 sK.2.2.1 10) (IntKind.wrap .i64 (dQ .u8 (sAt sK.2.1 sK.2.2.2.2.1) 48)),sK.2.2.2.1,aR .i64 sK.2.2.2.2.1 1,())))) none)
 (Option.map Sum.inr (cond sK.1
 (some (Gz .i64 sK.2.2.1,0,()))
 (some (sK.2.2.1,0,())))))
 (iEq (sAt a0 0) 45,a0,0,sLen a0,0,())))) none)) none
def c0c:PI:=⟨119,[.str],[(.int .i64),(.int .i64)],fun(x:ByteArray×Unit)=>UJ x.1⟩
theorem b0X:PK c0c:=pk (.d 6 (.s (.d 1 (.b (.l [] ⟨50,[(4,.bool),(5,.str),(6,(.int .i64)),(31,(.int .i64)),(32,(.int .i64))],[],[]⟩ .o))) .o)) Tryz.func119 c0 (by kernel_rfl) λx=>by kernel_rfl
def Pq(a0:Int):Option (Bool×Unit) :=
 (zR a0).bind λb63 =>
 some (cond (cond b63.1 true (iEq a0 45)) true (iEq a0 84),())
def b99:PI:=⟨120,[(.int .u8)],[.bool],fun(x:Int×Unit)=>Pq x.1⟩
theorem b0W:PK b99:=pk .o Tryz.func120 (cP Il c0) (by kernel_rfl) λx=>by kernel_rfl
def a4q(a0:ByteArray)(a1:Int)(a2:Unit):Option (Int×Unit) :=
 bK (S:=ByteArray×Int×Unit×Unit) (R:=Int×Unit) (λwZ =>
 cond (or (bnd wZ.2.1 (sLen wZ.1)) (not (bEq (iLt wZ.2.1 (sLen wZ.1)) true)))
 (cond (iLt wZ.2.1 (sLen wZ.1))
 ((Pq (sAt wZ.1 wZ.2.1)).bind λb62 =>
 cond b62.1
 (some (.inl (wZ.1,aR .i64 wZ.2.1 1,wZ.2.2.1,())))
 (some (.inr (wZ.2.1,()))))
 (some (.inr (wZ.2.1,())))) none)
 (a0,a1,(),())
def b6g:PI:=⟨77,[.str,(.int .i64),(.fnc 120)],[(.int .i64)],fun(x:ByteArray×Int×Unit×Unit)=>a4q x.1 x.2.1 x.2.2.1⟩
theorem a5P:PK b6g:=pk (.d 1 (.s (.b (.l [] ⟨21,[(0,.str),(1,(.int .i64)),(2,(.fnc 120))],[],[]⟩ .o)) .o)) Tryz.func77 (cP b0W c0) (by kernel_rfl) λx=>by kernel_rfl
def Pb(a0:Int)(a1:Int):Option (Bool×Unit) :=
 cond (iEq a1 4)
 (some (iEq a0 45,()))
 (cond (iEq a1 7)
 (some (iEq a0 45,()))
 (cond (iEq a1 10)
 (some (iEq a0 84,()))
 (some (cond (iLe 48 a0) (iLe a0 57) false,()))))
def i157:PI:=⟨157,[(.int .u8),(.int .i64)],[.bool],fun(x:Int×Int×Unit)=>Pb x.1 x.2.1⟩
theorem b0H:PK i157:=pk .o Tryz.func157 c0 (by kernel_rfl) λx=>by kernel_rfl
def Cx(a0:ByteArray):Option (Int×Unit) :=
 bK (S:=ByteArray×Int×Int×Int×Unit) (R:=Int×Unit) (λzG =>
 cond (iLt zG.2.2.2.1 zG.2.2.1)
 (cond (bnd zG.2.2.2.1 (sLen zG.1))
 (some (.inl (zG.1,aR .i64 (vE .i64 zG.2.1 10) (IntKind.wrap .i64 (dQ .u8 (sAt zG.1 zG.2.2.2.1) 48)),zG.2.2.1,aR .i64 zG.2.2.2.1 1,()))) none)
 (some (.inr (zG.2.1,()))))
 (a0,0,sLen a0,0,())
def b9V:PI:=⟨158,[.str],[(.int .i64)],fun(x:ByteArray×Unit)=>Cx x.1⟩
theorem b0G:PK b9V:=pk (.d 2 (.s (.d 1 (.b (.l [] ⟨20,[(0,.str),(3,(.int .i64)),(6,(.int .i64)),(7,(.int .i64))],[],[]⟩ .o))) .o)) Tryz.func158 c0 (by kernel_rfl) λx=>by kernel_rfl
def P9(a0:QO)(a1:Int):Option (Int×Int×Unit) :=
 cond (cond (cond (cond (cond (iLt a0.1 2000) true (iLt 2099 a0.1)) true (iLt a0.2.1 1)) true (iLt 12 a0.2.1)) true (iLt a0.2.2.1 1))
 (some (0,1,()))
 ((Gr a0.1 a0.2.1).bind λb4b =>
 cond (iLt b4b.1 a0.2.2.1)
 (some (0,1,()))
 (cond (cond (iLt a1 0) true (iLe 24 a1))
 (some (0,1,()))
 (bK (S:=Int×Int×Int×Int×Int×Int×Unit) (R:=Int×Int×Unit) (λsw =>
 cond (iLt sw.2.2.1 sw.2.2.2.1)
 ((JR sw.2.2.1).bind λb4a =>
 some (.inl (sw.1,aR .i64 sw.2.1 b4a.1,aR .i64 sw.2.2.1 1,sw.2.2.2.1,sw.2.2.2.2.1,sw.2.2.2.2.2.1,())))
 (Option.map Sum.inr (bK (S:=Int×Int×Int×Int×Int×Int×Unit) (R:=Int×Int×Unit) (λuT =>
 cond (iLt uT.2.2.1 uT.2.2.2.2.1)
 ((Gr uT.2.2.2.1 uT.2.2.1).bind λb39 =>
 some (.inl (uT.1,aR .i64 uT.2.1 b39.1,aR .i64 uT.2.2.1 1,uT.2.2.2.1,uT.2.2.2.2.1,uT.2.2.2.2.2.1,())))
 (some (.inr (aR .i64 (vE .i64 uT.2.1 24) uT.1,0,()))))
 (sw.1,sw.2.1,1,sw.2.2.2.1,sw.2.2.2.2.1,sw.2.2.2.2.2.1,()))))
 (a1,dQ .i64 a0.2.2.1 1,2000,a0.1,a0.2.1,a0.2.2.1,()))))
def i159:PI:=⟨159,[a9s,(.int .i64)],[(.int .i64),(.int .i64)],fun(x:QO×Int×Unit)=>P9 x.1 x.2.1⟩
theorem b0F:PK i159:=pk (.d 4 (.s (.d 1 (.b (.l [] ⟨77,[(1,(.int .i64)),(6,(.int .i64)),(7,(.int .i64))],[(2,.ptr 0 0 0)],[.box 183 [.d (.int .i64),.d (.int .i64),.d (.int .i64)]]⟩ .o))) (.s (.d 1 (.b (.l [] ⟨77,[(1,(.int .i64)),(6,(.int .i64)),(8,(.int .i64))],[(2,.ptr 0 0 0)],[.box 183 [.d (.int .i64),.d (.int .i64),.d (.int .i64)]]⟩ .o))) .o))) Tryz.func159 (cP Y8 (cP Y7 c0)) (by kernel_rfl) λx=>by kernel_rfl
def Pp(a0:ByteArray):Option (Int×Int×Unit) :=
 cond (cond (iNe (sLen a0) 10) (iNe (sLen a0) 13) false)
 (some (0,5,()))
 (bK (S:=ByteArray×Int×Int×Unit) (R:=Int×Int×Unit) (λoZ =>
 cond (iLt oZ.2.2.1 oZ.2.1)
 (cond (bnd oZ.2.2.1 (sLen oZ.1))
 ((Pb (sAt oZ.1 oZ.2.2.1) oZ.2.2.1).bind λb38 =>
 cond (not b38.1)
 (some (.inr (0,5,())))
 (some (.inl (oZ.1,oZ.2.1,aR .i64 oZ.2.2.1 1,())))) none)
 (Option.map Sum.inr (lV (S:=ByteArray×Int×Unit) (R:=Int×Int×Unit)
 (cond (iEq (sLen oZ.1) 13)
 (cond (nL 11 ((ByteArray.size oZ.1:Nat):Int) (ByteArray.size oZ.1))
 ((Cx (lu 11 ((ByteArray.size oZ.1:Nat):Int) oZ.1)).bind λb37 =>
 some (.inl (oZ.1,b37.1,()))) none)
 (some (.inl (oZ.1,0,()))))
 (λCO =>
 cond (nL 0 4 (ByteArray.size CO.1))
 ((Cx (lu 0 4 CO.1)).bind λb36 =>
 cond (nL 5 7 (ByteArray.size CO.1))
 ((Cx (lu 5 7 CO.1)).bind λb35 =>
 cond (nL 8 10 (ByteArray.size CO.1))
 ((Cx (lu 8 10 CO.1)).bind λb34 =>
 (P9 (b36.1,b35.1,b34.1,()) CO.2.1).bind λa3D =>
 some (a3D.1,a3D.2.1,())) none) none) none))))
 (a0,sLen a0,0,()))
def b98:PI:=⟨121,[.str],[(.int .i64),(.int .i64)],fun(x:ByteArray×Unit)=>Pp x.1⟩
theorem b0V:PK b98:=pk (.d 2 (.s (.d 1 (.b (.l [] ⟨46,[(0,.str),(15,(.int .i64)),(16,(.int .i64))],[],[]⟩ .o))) (.d 1 (.j [] ⟨46,[(0,.str),(5,(.int .i64))],[],[]⟩ .o .o)))) Tryz.func121 (cP b0H (cP b0G (cP b0F c0))) (by kernel_rfl) λx=>by kernel_rfl
def m79(a0:ByteArray)(a1:Int):Option (ay×Int×Int×Unit) :=
 cond (bnd a1 (sLen a0))
 ((m80 (sAt a0 a1)).bind λb68 =>
 cond b68.1
 ((m77 a0 a1 ()).bind λN7 =>
 cond (nL a1 N7.1 (ByteArray.size a0))
 ((m95 (lu a1 N7.1 a0)).bind λb67 =>
 cond (not b67.1)
 (some ((0,(bs []),0,0,()),0,6,()))
 (cond (nL a1 N7.1 (ByteArray.size a0))
 (some ((1,lu a1 N7.1 a0,0,a1,()),N7.1,0,())) none)) none)
 ((zR (sAt a0 a1)).bind λb66 =>
 cond (cond b66.1 true (iEq (sAt a0 a1) 45))
 ((a4r a0 (aR .i64 a1 1) ()).bind λZK =>
 cond (nL a1 ZK.1 (ByteArray.size a0))
 ((UJ (lu a1 ZK.1 a0)).bind λZJ =>
 cond (iNe ZJ.2.1 0)
 (some ((0,(bs []),0,0,()),0,ZJ.2.1,()))
 (some ((2,(bs []),ZJ.1,a1,()),ZK.1,0,()))) none)
 (cond (iEq (sAt a0 a1) 64)
 ((a4q a0 (aR .i64 a1 1) ()).bind λZI =>
 cond (nL (aR .i64 a1 1) ZI.1 (ByteArray.size a0))
 ((Pp (lu (aR .i64 a1 1) ZI.1 a0)).bind λTx =>
 cond (iNe Tx.2.1 0)
 (some ((0,(bs []),0,0,()),0,Tx.2.1,()))
 (some ((3,(bs []),Tx.1,a1,()),ZI.1,0,()))) none)
 ((Em (sAt a0 a1)).bind λb33 =>
 cond b33.1
 (cond (nL a1 (aR .i64 a1 1) (ByteArray.size a0))
 (some ((4,lu a1 (aR .i64 a1 1) a0,0,a1,()),aR .i64 a1 1,0,())) none)
 (some ((0,(bs []),0,0,()),0,5,())))))) none
def i79:PI:=⟨79,[.str,(.int .i64)],[bR,(.int .i64),(.int .i64)],fun(x:ByteArray×Int×Unit)=>m79 x.1 x.2.1⟩
theorem b5a:PK i79:=pk .o Tryz.func79 (cP Il (cP b0X (cP b0V (cP Ye (cP a4c (cP a5Q (cP a5P (cP Mk (cP U8 c0))))))))) (by kernel_rfl) λx=>by kernel_rfl
def m45(a0:ByteArray):Option ((List ay)×Int×Int×Unit) :=
 cond (iLt 16384 (sLen a0))
 (some (([]:List ay),0,4,()))
 (bK (S:=ByteArray×Int×(List ay)×Unit) (R:=(List ay)×Int×Int×Unit) (λiy =>
 cond (iLt iy.2.1 (sLen iy.1))
 (cond (bnd iy.2.1 (sLen iy.1))
 (cond (iEq (sAt iy.1 iy.2.1) 32)
 (some (.inl (iy.1,aR .i64 iy.2.1 1,iy.2.2.1,())))
 (cond (iEq (sAt iy.1 iy.2.1) 10)
 (some (.inl (iy.1,aR .i64 iy.2.1 1,iy.2.2.1,())))
 (cond (iEq (sAt iy.1 iy.2.1) 35)
 ((a4s iy.1 iy.2.1 ()).bind λb31 =>
 some (.inl (iy.1,b31.1,iy.2.2.1,())))
 ((m79 iy.1 iy.2.1).bind λl7 =>
 cond (iNe l7.2.2.1 0)
 (some (.inr (([]:List ay),iy.2.1,l7.2.2.1,())))
 (cond (iEq (aA iy.2.2.1) 4000)
 (some (.inr (([]:List ay),iy.2.1,4,())))
 (cond (fits (List.length iy.2.2.1+List.length ([(l7.1.1,l7.1.2.1,l7.1.2.2.1,l7.1.2.2.2.1,())]:List ay)) 40)
 (cond (or (bnd l7.2.1 (sLen iy.1)) (not (bEq (cond (iEq l7.1.1 2) (iLt l7.2.1 (sLen iy.1)) false) true)))
 (cond (cond (iEq l7.1.1 2) (iLt l7.2.1 (sLen iy.1)) false)
 ((m80 (sAt iy.1 l7.2.1)).bind λa3C =>
 cond (or (bnd l7.2.1 (sLen iy.1)) (not (bEq a3C.1 false)))
 (cond (cond a3C.1 true (iEq (sAt iy.1 l7.2.1) 45))
 (some (.inr (([]:List ay),l7.2.1,5,())))
 (some (.inl (iy.1,l7.2.1,iy.2.2.1++([(l7.1.1,l7.1.2.1,l7.1.2.2.1,l7.1.2.2.2.1,())]:List ay),())))) none)
 (some (.inl (iy.1,l7.2.1,iy.2.2.1++([(l7.1.1,l7.1.2.1,l7.1.2.2.1,l7.1.2.2.2.1,())]:List ay),())))) none) none)))))) none)
 (some (.inr (iy.2.2.1,0,0,()))))
 (a0,0,([]:List ay),()))
def i45:PI:=⟨45,[.str],[(.list bR),(.int .i64),(.int .i64)],fun(x:ByteArray×Unit)=>m45 x.1⟩
theorem a4g:PK i45:=pk (.d 5 (.s (.b (.l [.gh 5 97 bR] ⟨73,[(0,.str),(6,(.int .i64))],[(5,.row 0)],[.row 97 bR false]⟩ .o)) .o)) Tryz.func45 (cP a5R (cP b5a (cP Mk c0))) (by kernel_rfl) λx=>by kernel_rfl
def m66(a0:DS0)(a1:Int)(a2:Int)(a3:List Int)(a4:List ay):Option (Int×Int×(List Int)×(List ay)×Unit) :=
 cond (cond (iNe a2 0) true (iLt 4000 (aA a4)))
 (some (a1,a2,a3,a4,()))
 ((UL (a0.1,a0.2.1,a0.2.2.1,a0.2.2.2.1,a0.2.2.2.2.1,a0.2.2.2.2.2.1,())).bind λTw =>
 cond (iNe Tw.2.1 0)
 (some (a1,Tw.2.1,a3,a4,()))
 ((m45 Tw.1).bind λMe =>
 cond (iNe Me.2.2.1 0)
 (some (a1,Me.2.2.1,a3,a4,()))
 (cond (fits (List.length a4+List.length Me.1) 40)
 (some (a1,a2,a3,a4++Me.1,())) none)))
def b52:Sh:=⟨2,[(1,tS0)],[(0,.ptr 0 0 0)],[.box 82 [.me 0,.row 1,.d (.int .i64),.row 2,.d (.int .i64)],.row 5 (.int .u8) false,.row 97 bR false]⟩
def b4L:Sh:=⟨0,[],[],[.box 82 [.me 0,.row 1,.d (.int .i64),.row 2,.d (.int .i64)],.row 5 (.int .u8) false,.row 97 bR false]⟩
def h66:HI:=⟨66,b52,b4L,fun(x:DS0×Int×Int×(List Int)×(List ay)×Unit)=>m66 x.1 x.2.1 x.2.2.1 x.2.2.2.1 x.2.2.2.2.1,[]⟩
theorem a4m:HK h66:=hk .o [] Tryz.func66 (cP b04 (cP a4g c0)) (by kernel_rfl) λx=>by kernel_rfl
def Uj(self:((List AV)×Int×Int×(List Int)×(List ay)×Unit)->Option (Int×Int×(List Int)×(List ay)×Unit))(a0:List AV)(a1:Int)(a2:Int)(a3:List Int)(a4:List ay):Option (Int×Int×(List Int)×(List ay)×Unit) :=
 cond (iEq (aA a0) 0)
 (some (a1,a2,a3,a4,()))
 ((wz a1 a2 ([(bs [117,110,108,101,115,115])]:List ByteArray) a3 a4).bind λHy =>
 cond (and (Nat.beq (List.length ([(bs [117,110,108,101,115,115])]:List ByteArray)) (List.length Hy.2.2.1)) true)
 ((m40 (bs [40]) Hy.1 Hy.2.1 Hy.2.2.2.1 Hy.2.2.2.2.1).bind λMd =>
 bK (S:=(List AV)×Int×Int×Int×Int×(List Int)×(List ay)×Unit) (R:=Int×Int×(List Int)×(List ay)×Unit) (λdZ =>
 cond (iLt dZ.2.2.1 dZ.2.1)
 (cond (and (bnd dZ.2.2.1 (aA dZ.1)) (lN (atI dZ.1 dZ.2.2.1 AV.any)))
 (lV (S:=(List AV)×Int×Int×Int×Int×(List Int)×(List ay)×ByteArray×Int×ByteArray×(List ByteArray)×Int×Int×(List AV)×(List AV)×Unit) (R:=((List AV)×Int×Int×Int×Int×(List Int)×(List ay)×Unit)⊕(Int×Int×(List Int)×(List ay)×Unit))
 (cond (iLt 0 dZ.2.2.1)
 ((m40 (bs [44]) dZ.2.2.2.1 dZ.2.2.2.2.1 dZ.2.2.2.2.2.1 dZ.2.2.2.2.2.2.1).bind λMc =>
 some (.inl (dZ.1,dZ.2.1,dZ.2.2.1,Mc.1,Mc.2.1,Mc.2.2.1,Mc.2.2.2.1,(aM (atI dZ.1 dZ.2.2.1 AV.any)).1,((aM (atI dZ.1 dZ.2.2.1 AV.any)).2.1).1,((aM (atI dZ.1 dZ.2.2.1 AV.any)).2.1).2.1,((aM (atI dZ.1 dZ.2.2.1 AV.any)).2.1).2.2.1,((aM (atI dZ.1 dZ.2.2.1 AV.any)).2.1).2.2.2.1,((aM (atI dZ.1 dZ.2.2.1 AV.any)).2.1).2.2.2.2.1,((aM (atI dZ.1 dZ.2.2.1 AV.any)).2.1).2.2.2.2.2.1,(aM (atI dZ.1 dZ.2.2.1 AV.any)).2.2.1,())))
 (some (.inl (dZ.1,dZ.2.1,dZ.2.2.1,dZ.2.2.2.1,dZ.2.2.2.2.1,dZ.2.2.2.2.2.1,dZ.2.2.2.2.2.2.1,(aM (atI dZ.1 dZ.2.2.1 AV.any)).1,((aM (atI dZ.1 dZ.2.2.1 AV.any)).2.1).1,((aM (atI dZ.1 dZ.2.2.1 AV.any)).2.1).2.1,((aM (atI dZ.1 dZ.2.2.1 AV.any)).2.1).2.2.1,((aM (atI dZ.1 dZ.2.2.1 AV.any)).2.1).2.2.2.1,((aM (atI dZ.1 dZ.2.2.1 AV.any)).2.1).2.2.2.2.1,((aM (atI dZ.1 dZ.2.2.1 AV.any)).2.1).2.2.2.2.2.1,(aM (atI dZ.1 dZ.2.2.1 AV.any)).2.2.1,()))))
 (λqg =>
 (wz qg.2.2.2.1 qg.2.2.2.2.1 ([qg.2.2.2.2.2.2.2.1]:List ByteArray) qg.2.2.2.2.2.1 qg.2.2.2.2.2.2.1).bind λHw =>
 cond (and (Nat.beq (List.length ([qg.2.2.2.2.2.2.2.1]:List ByteArray)) (List.length Hw.2.2.1)) true)
 ((m40 (bs [58]) Hw.1 Hw.2.1 Hw.2.2.2.1 Hw.2.2.2.2.1).bind λMa =>
 (m66 (qg.2.2.2.2.2.2.2.2.1,qg.2.2.2.2.2.2.2.2.2.1,qg.2.2.2.2.2.2.2.2.2.2.1,qg.2.2.2.2.2.2.2.2.2.2.2.1,qg.2.2.2.2.2.2.2.2.2.2.2.2.1,qg.2.2.2.2.2.2.2.2.2.2.2.2.2.1,()) Ma.1 Ma.2.1 Ma.2.2.1 Ma.2.2.2.1).bind λM9 =>
 (self (qg.2.2.2.2.2.2.2.2.2.2.2.2.2.2.1,M9.1,M9.2.1,M9.2.2.1,M9.2.2.2.1,())).bind λM8 =>
 some (.inl (qg.1,qg.2.1,aR .i64 qg.2.2.1 1,M8.1,M8.2.1,M8.2.2.1,M8.2.2.2.1,()))) none)) none)
 (Option.map Sum.inr ((m40 (bs [41]) dZ.2.2.2.1 dZ.2.2.2.2.1 dZ.2.2.2.2.2.1 dZ.2.2.2.2.2.2.1).bind λM7 =>
 some (M7.1,M7.2.1,M7.2.2.1,M7.2.2.2.1,()))))
 (a0,aA a0,0,Md.1,Md.2.1,Md.2.2.1,Md.2.2.2.1,())) none)
def m67(a0:List AV)(a1:Int)(a2:Int)(a3:List Int)(a4:List ay):Option (Int×Int×(List Int)×(List ay)×Unit):=eH (λself (x:(List AV)×Int×Int×(List Int)×(List ay)×Unit)=>Uj self x.1 x.2.1 x.2.2.1 x.2.2.2.1 x.2.2.2.2.1) 10000 (a0,a1,a2,a3,a4,())
def a4w:Sh:=⟨2,[(1,(.rl 63 8))],[(0,.ptr 0 0 0)],[.box 82 [.me 0,.row 1,.d (.int .i64),.row 2,.d (.int .i64)],.row 5 (.int .u8) false,.row 97 bR false]⟩
def a3Y:Sh:=⟨0,[],[],[.box 82 [.me 0,.row 1,.d (.int .i64),.row 2,.d (.int .i64)],.row 5 (.int .u8) false,.row 97 bR false]⟩
def h67:HI:=⟨67,a4w,a3Y,fun(x:(List AV)×Int×Int×(List Int)×(List ay)×Unit)=>m67 x.1 x.2.1 x.2.2.1 x.2.2.2.1 x.2.2.2.2.1,[]⟩
theorem b5y:HK h67:=rC 10000 (ish:=a4w) (osh:=a3Y) (G:=λself (x:(List AV)×Int×Int×(List Int)×(List ay)×Unit)=>Uj self x.1 x.2.1 x.2.2.1 x.2.2.2.1 x.2.2.2.2.1) (mK (f:=Tryz.f67) (by kernel_rfl)) λself hr=>hk (.d 3 (.s (.d 1 (.b (.l [] ⟨43,[(14,(.rl 63 8)),(15,(.int .i64)),(16,(.int .i64))],[(0,.ptr 0 0 0)],[.box 82 [.me 0,.row 1,.d (.int .i64),.row 2,.d (.int .i64)],.row 5 (.int .u8) false,.row 97 bR false]⟩ (.d 2 (.s (.b (.d 1 (.j [] ⟨43,[(14,(.rl 63 8)),(15,(.int .i64)),(16,(.int .i64))],[(0,.ptr 0 0 0),(5,.ptr 3 0 0)],[.box 82 [.me 0,.row 1,.d (.int .i64),.row 2,.d (.int .i64)],.row 5 (.int .u8) false,.row 97 bR false,.box 63 [.d .str,.d (.int .i64),.d .str,.d (.list .str),.d (.int .i64),.d (.int .i64),.d (.rl 34 6),.d (.rl 63 8)]]⟩ .o .o))) .o))))) .o)) [] Tryz.func67 (cH hr (cH JG (cH Ue (cH a4m c0)))) (by kernel_rfl) λx=>by kernel_rfl
def Fj(a0:Int)(a1:Int)(a2:List Int):Option (Int×Int×(List Int)×Unit):=some (a0,a1,a2,())
def a6E:HI:=Vb 82 [.d (.int .i64),.nil,.d (.int .i64)]
theorem KS:HK a6E:=Rz 82 [.d (.int .i64),.nil,.d (.int .i64)] (by kernel_rfl)
def Uq(a0:ByteArray)(a1:Int)(a2:Int)(a3:List Int):Option (Int×Int×Int×(List Int)×Unit) :=
 (Fj a1 a2 a3).bind λM6 =>
 cond (fits (List.length M6.2.2.1+List.length (aY a0)) 1)
 (some (sLen a0,M6.1,M6.2.1,M6.2.2.1++(aY a0),())) none
def a6y:Sh:=⟨2,[(1,.str)],[(0,.ptr 0 0 0)],[.box 82 [.me 0,.row 1,.d (.int .i64),.nil,.d (.int .i64)],.row 5 (.int .u8) false]⟩
def a5J:Sh:=⟨2,[(0,(.int .i64))],[],[.box 82 [.me 0,.row 1,.d (.int .i64),.nil,.d (.int .i64)],.row 5 (.int .u8) false]⟩
def b6r:HI:=⟨69,a6y,a5J,fun(x:ByteArray×Int×Int×(List Int)×Unit)=>Uq x.1 x.2.1 x.2.2.1 x.2.2.2.1,[]⟩
theorem a5W:HK b6r:=hk .o [] Tryz.func69 (cH KS c0) (by kernel_rfl) λx=>by kernel_rfl
def Uo(a0:Int)(a1:Int)(a2:Int)(a3:List Int):Option (Int×Int×(List Int)×Unit) :=
 (Fj a1 a2 a3).bind λM5 =>
 cond (fits (List.length M5.2.2.1+List.length ([a0]:List Int)) 1)
 (some (M5.1,M5.2.1,M5.2.2.1++([a0]:List Int),())) none
def a6x:Sh:=⟨2,[(1,(.int .u8))],[(0,.ptr 0 0 0)],[.box 82 [.me 0,.row 1,.d (.int .i64),.nil,.d (.int .i64)],.row 5 (.int .u8) false]⟩
def a5I:Sh:=⟨1,[],[],[.box 82 [.me 0,.row 1,.d (.int .i64),.nil,.d (.int .i64)],.row 5 (.int .u8) false]⟩
def b6q:HI:=⟨70,a6x,a5I,fun(x:Int×Int×Int×(List Int)×Unit)=>Uo x.1 x.2.1 x.2.2.1 x.2.2.2.1,[]⟩
theorem a5V:HK b6q:=hk .o [] Tryz.func70 (cH KS c0) (by kernel_rfl) λx=>by kernel_rfl
def Um(a0:Int)(a1:Int)(a2:List Int):Option (Int×Int×Int×(List Int)×Unit) :=
 some (aA a2,a0,a1,a2,())
def a6w:Sh:=⟨1,[],[(0,.ptr 0 0 0)],[.box 82 [.me 0,.row 1,.d (.int .i64),.nil,.d (.int .i64)],.row 5 (.int .u8) false]⟩
def a5H:Sh:=⟨1,[(0,(.int .i64))],[],[.box 82 [.me 0,.row 1,.d (.int .i64),.nil,.d (.int .i64)],.row 5 (.int .u8) false]⟩
def b6p:HI:=⟨71,a6w,a5H,fun(x:Int×Int×(List Int)×Unit)=>Um x.1 x.2.1 x.2.2.1,[]⟩
theorem a5U:HK b6p:=hk .o [] Tryz.func71 c0 (by kernel_rfl) λx=>by kernel_rfl
def m41(a0:Int)(a1:Int)(a2:List Int)(a3:List ay):Option (Int×Int×(List Int)×(List ay)×Unit) :=
 cond (iNe a1 0)
 (some (a0,a1,a2,a3,()))
 ((m68 a3).bind λTv =>
 cond (iNe Tv.2.1 0)
 (some (a0,Tv.2.1,a2,a3,()))
 ((Uq Tv.1 a0 a1 a2).bind λTt =>
 (Uo 10 Tt.2.1 Tt.2.2.1 Tt.2.2.2.1).bind λTq =>
 (Um (aR .i64 Tq.1 (aA a3)) Tq.2.1 Tq.2.2.1).bind λCb =>
 cond (cond (iLt 16384 Cb.1) true (iLt 4000 Cb.2.1))
 (some (Cb.2.1,4,Cb.2.2.2.1,a3,()))
 (some (Cb.2.1,Cb.2.2.1,Cb.2.2.2.1,a3,()))))
def b56:Sh:=⟨1,[],[(0,.ptr 0 0 0)],[.box 82 [.me 0,.row 1,.d (.int .i64),.row 2,.d (.int .i64)],.row 5 (.int .u8) false,.row 97 bR false]⟩
def b4P:Sh:=⟨0,[],[],[.box 82 [.me 0,.row 1,.d (.int .i64),.nil,.d (.int .i64)],.row 5 (.int .u8) false,.row 97 bR false]⟩
def h41:HI:=⟨41,b56,b4P,fun(x:Int×Int×(List Int)×(List ay)×Unit)=>m41 x.1 x.2.1 x.2.2.1 x.2.2.2.1,[]⟩
theorem a4n:HK h41:=hk .o [] Tryz.func41 (cP a4d (cH a5W (cH a5V (cH a5U c0)))) (by kernel_rfl) λx=>by kernel_rfl
def m37(a0:List DS1)(a1:Int)(a2:Int)(a3:List Int):Option (Int×Int×(List Int)×Unit) :=
 bK (S:=(List DS1)×Int×Int×Int×Int×(List Int)×Unit) (R:=Int×Int×(List Int)×Unit) (λdL =>
 cond (iLt dL.2.2.1 dL.2.1)
 (cond (bnd dL.2.2.1 (aA dL.1))
 ((m64 ((atI dL.1 dL.2.2.1 zS1).1)).bind λa3B =>
 (m38 dL.2.2.2.1 dL.2.2.2.2.1 ([a3B.1,(atI dL.1 dL.2.2.1 zS1).2.1]:List ByteArray) dL.2.2.2.2.2.1).bind λHu =>
 cond (and (Nat.beq (List.length ([a3B.1,(atI dL.1 dL.2.2.1 zS1).2.1]:List ByteArray)) (List.length Hu.2.2.1)) true)
 ((m40 (bs [58]) Hu.1 Hu.2.1 Hu.2.2.2.1 Hu.2.2.2.2.1).bind λyU =>
 lV (S:=(List DS1)×Int×Int×Int×Int×(List Int)×Int×ByteArray×Int×ByteArray×(List ByteArray)×Int×Int×(List AV)×(List AV)×Int×(List ay)×Unit) (R:=((List DS1)×Int×Int×Int×Int×(List Int)×Unit)⊕(Int×Int×(List Int)×Unit))
 ((m65 ((atI dL.1 dL.2.2.1 zS1).1)).bind λb30 =>
 cond (iLt 0 b30.1)
 (cond (fits (List.length yU.2.2.2.1+List.length ([(2,(bs []),(atI dL.1 dL.2.2.1 zS1).2.2.2.2.1,0,())]:List ay)) 40)
 ((wz yU.1 yU.2.1 ([(bs [119,104,101,110])]:List ByteArray) yU.2.2.1 (yU.2.2.2.1++([(2,(bs []),(atI dL.1 dL.2.2.1 zS1).2.2.2.2.1,0,())]:List ay))).bind λHt =>
 cond (and (Nat.beq (List.length ([(bs [119,104,101,110])]:List ByteArray)) (List.length Ht.2.2.1)) true)
 (some (.inl (dL.1,dL.2.1,dL.2.2.1,Ht.1,Ht.2.1,Ht.2.2.2.1,(atI dL.1 dL.2.2.1 zS1).1,(atI dL.1 dL.2.2.1 zS1).2.1,((atI dL.1 dL.2.2.1 zS1).2.2.1).1,((atI dL.1 dL.2.2.1 zS1).2.2.1).2.1,((atI dL.1 dL.2.2.1 zS1).2.2.1).2.2.1,((atI dL.1 dL.2.2.1 zS1).2.2.1).2.2.2.1,((atI dL.1 dL.2.2.1 zS1).2.2.1).2.2.2.2.1,((atI dL.1 dL.2.2.1 zS1).2.2.1).2.2.2.2.2.1,(atI dL.1 dL.2.2.1 zS1).2.2.2.1,(atI dL.1 dL.2.2.1 zS1).2.2.2.2.1,Ht.2.2.2.2.1,()))) none) none)
 (some (.inl (dL.1,dL.2.1,dL.2.2.1,yU.1,yU.2.1,yU.2.2.1,(atI dL.1 dL.2.2.1 zS1).1,(atI dL.1 dL.2.2.1 zS1).2.1,((atI dL.1 dL.2.2.1 zS1).2.2.1).1,((atI dL.1 dL.2.2.1 zS1).2.2.1).2.1,((atI dL.1 dL.2.2.1 zS1).2.2.1).2.2.1,((atI dL.1 dL.2.2.1 zS1).2.2.1).2.2.2.1,((atI dL.1 dL.2.2.1 zS1).2.2.1).2.2.2.2.1,((atI dL.1 dL.2.2.1 zS1).2.2.1).2.2.2.2.2.1,(atI dL.1 dL.2.2.1 zS1).2.2.2.1,(atI dL.1 dL.2.2.1 zS1).2.2.2.2.1,yU.2.2.2.1,()))))
 (λsF =>
 (m66 (sF.2.2.2.2.2.2.2.2.1,sF.2.2.2.2.2.2.2.2.2.1,sF.2.2.2.2.2.2.2.2.2.2.1,sF.2.2.2.2.2.2.2.2.2.2.2.1,sF.2.2.2.2.2.2.2.2.2.2.2.2.1,sF.2.2.2.2.2.2.2.2.2.2.2.2.2.1,()) sF.2.2.2.1 sF.2.2.2.2.1 sF.2.2.2.2.2.1 sF.2.2.2.2.2.2.2.2.2.2.2.2.2.2.2.2.1).bind λM4 =>
 (m67 sF.2.2.2.2.2.2.2.2.2.2.2.2.2.2.1 M4.1 M4.2.1 M4.2.2.1 M4.2.2.2.1).bind λM0 =>
 (m40 (bs [59]) M0.1 M0.2.1 M0.2.2.1 M0.2.2.2.1).bind λLZ =>
 (m41 LZ.1 LZ.2.1 LZ.2.2.1 LZ.2.2.2.1).bind λTp =>
 some (.inl (sF.1,sF.2.1,aR .i64 sF.2.2.1 1,Tp.1,Tp.2.1,Tp.2.2.1,())))) none) none)
 (some (.inr (dL.2.2.2.1,dL.2.2.2.2.1,dL.2.2.2.2.2.1,()))))
 (a0,aA a0,0,a1,a2,a3,())
def b6a:Sh:=⟨2,[(1,(.list tS1))],[(0,.ptr 0 0 0)],[.box 82 [.me 0,.row 1,.d (.int .i64),.nil,.d (.int .i64)],.row 5 (.int .u8) false]⟩
def b4T:Sh:=⟨0,[],[],[.box 82 [.me 0,.row 1,.d (.int .i64),.nil,.d (.int .i64)],.row 5 (.int .u8) false]⟩
def h37:HI:=⟨37,b6a,b4T,fun(x:(List DS1)×Int×Int×(List Int)×Unit)=>m37 x.1 x.2.1 x.2.2.1 x.2.2.2.1,[]⟩
theorem b5D:HK h37:=hk (.d 1 (.b (.l [] ⟨54,[(6,(.list tS1)),(7,(.int .i64)),(8,(.int .i64))],[(0,.ptr 0 0 0)],[.box 82 [.me 0,.row 1,.d (.int .i64),.nil,.d (.int .i64)],.row 5 (.int .u8) false]⟩ (.d 2 (.s (.b (.d 1 (.s (.u [0,1]) (.d 1 (.j [] ⟨54,[(6,(.list tS1)),(7,(.int .i64)),(8,(.int .i64))],[(0,.ptr 0 0 0),(5,.ptr 2 0 0)],[.box 82 [.me 0,.row 1,.d (.int .i64),.row 3,.d (.int .i64)],.row 5 (.int .u8) false,.box 37 [.d (.int .i64),.d .str,.d (.int .i64),.d .str,.d (.list .str),.d (.int .i64),.d (.int .i64),.d (.rl 34 6),.d (.rl 63 8),.d (.int .i64)],.row 97 bR false]⟩ .o .o))))) .o))))) [] Tryz.func37 (cP Ua (cP Ml (cH a4o (cH JG (cH Ue (cH a4n (cH a4m (cH b5y c0)))))))) (by kernel_rfl) λx=>by kernel_rfl
def m39(a0:Int)(a1:Int)(a2:Int)(a3:List Int)(a4:List ay):Option (Int×Int×(List Int)×(List ay)×Unit) :=
 cond (fits (List.length a4+List.length ([(3,(bs []),a0,0,())]:List ay)) 40)
 (some (a1,a2,a3,a4++([(3,(bs []),a0,0,())]:List ay),())) none
def b58:Sh:=⟨2,[(1,(.int .i64))],[(0,.ptr 0 0 0)],[.box 82 [.me 0,.row 1,.d (.int .i64),.row 2,.d (.int .i64)],.row 5 (.int .u8) false,.row 97 bR false]⟩
def b4R:Sh:=⟨0,[],[],[.box 82 [.me 0,.row 1,.d (.int .i64),.row 2,.d (.int .i64)],.row 5 (.int .u8) false,.row 97 bR false]⟩
def h39:HI:=⟨39,b58,b4R,fun(x:Int×Int×Int×(List Int)×(List ay)×Unit)=>m39 x.1 x.2.1 x.2.2.1 x.2.2.2.1 x.2.2.2.2.1,[]⟩
theorem b5C:HK h39:=hk .o [] Tryz.func39 c0 (by kernel_rfl) λx=>by kernel_rfl
def Yz(a0:Int)(a1:Int)(a2:List Int):Option (ByteArray×Int×Int×(List Int)×Unit):=some (bsI a2,a0,a1,a2,())
def b2U:HI:=a2k 82 [.d (.int .i64),.nil,.d (.int .i64)]
theorem a1H:HK b2U:=Yf 82 [.d (.int .i64),.nil,.d (.int .i64)]
def m19(a0:DS4):Option (ByteArray×Int×Unit) :=
 (m15 (a0.1,a0.2.1,())).bind λb3Z =>
 cond (not b3Z.1)
 (some ((bs []),5,()))
 (lV (S:=(List DS1)×(List DS3)×Int×Int×(List Int)×Unit) (R:=ByteArray×Int×Unit)
 (some (.inl (a0.1,a0.2.1,0,0,([]:List Int),())))
 (λFB =>
 (m37 FB.1 FB.2.2.1 FB.2.2.2.1 FB.2.2.2.2.1).bind λTn =>
 bK (S:=(List DS3)×Int×Int×Int×Int×(List Int)×Unit) (R:=ByteArray×Int×Unit) (λgy =>
 cond (iLt gy.2.2.1 gy.2.1)
 (cond (bnd gy.2.2.1 (aA gy.1))
 ((m38 gy.2.2.2.1 gy.2.2.2.2.1 ([(bs [101,110,100,111,114,115,101])]:List ByteArray) gy.2.2.2.2.2.1).bind λHr =>
 cond (and (Nat.beq (List.length ([(bs [101,110,100,111,114,115,101])]:List ByteArray)) (List.length Hr.2.2.1)) true)
 ((m39 (((atI gy.1 gy.2.2.1 zS3).1).1) Hr.1 Hr.2.1 Hr.2.2.2.1 Hr.2.2.2.2.1).bind λLY =>
 (wz LY.1 LY.2.1 ([(bs [116,111])]:List ByteArray) LY.2.2.1 LY.2.2.2.1).bind λHq =>
 cond (and (Nat.beq (List.length ([(bs [116,111])]:List ByteArray)) (List.length Hq.2.2.1)) true)
 ((m39 (((atI gy.1 gy.2.2.1 zS3).1).2.1) Hq.1 Hq.2.1 Hq.2.2.2.1 Hq.2.2.2.2.1).bind λLX =>
 (m40 (bs [58]) LX.1 LX.2.1 LX.2.2.1 LX.2.2.2.1).bind λLW =>
 (m41 LW.1 LW.2.1 LW.2.2.1 LW.2.2.2.1).bind λEL =>
 lV (S:=(List DS3)×Int×Int×Int×Int×Int×Int×(List ByteArray)×(List DS1)×(List Int)×Unit) (R:=((List DS3)×Int×Int×Int×Int×(List Int)×Unit)⊕(ByteArray×Int×Unit))
 (cond (iLt 0 (aA ((atI gy.1 gy.2.2.1 zS3).2.1)))
 ((m38 EL.1 EL.2.1 ([(bs [114,101,109,111,118,101])]:List ByteArray) EL.2.2.1).bind λHo =>
 cond (and (Nat.beq (List.length ([(bs [114,101,109,111,118,101])]:List ByteArray)) (List.length Ho.2.2.1)) true)
 (bK (S:=(List DS3)×Int×Int×(List ByteArray)×Int×Int×Int×Int×Int×Int×(List ByteArray)×(List DS1)×(List Int)×(List ay)×Unit) (R:=((List DS3)×Int×Int×Int×Int×Int×Int×(List ByteArray)×(List DS1)×(List Int)×Unit)⊕(((List DS3)×Int×Int×Int×Int×(List Int)×Unit)⊕(ByteArray×Int×Unit))) (λeZ =>
 cond (iLt eZ.2.2.2.2.2.1 eZ.2.2.2.2.1)
 (cond (bnd eZ.2.2.2.2.2.1 (aA eZ.2.2.2.1))
 (cond (iLt 0 eZ.2.2.2.2.2.1)
 ((m40 (bs [44]) eZ.2.2.2.2.2.2.1 eZ.2.2.2.2.2.2.2.1 eZ.2.2.2.2.2.2.2.2.2.2.2.2.1 eZ.2.2.2.2.2.2.2.2.2.2.2.2.2.1).bind λLU =>
 (wz LU.1 LU.2.1 ([atI eZ.2.2.2.1 eZ.2.2.2.2.2.1 ByteArray.empty]:List ByteArray) LU.2.2.1 LU.2.2.2.1).bind λHl =>
 cond (and (Nat.beq (List.length ([atI eZ.2.2.2.1 eZ.2.2.2.2.2.1 ByteArray.empty]:List ByteArray)) (List.length Hl.2.2.1)) true)
 (some (.inl (eZ.1,eZ.2.1,eZ.2.2.1,eZ.2.2.2.1,eZ.2.2.2.2.1,aR .i64 eZ.2.2.2.2.2.1 1,Hl.1,Hl.2.1,eZ.2.2.2.2.2.2.2.2.1,eZ.2.2.2.2.2.2.2.2.2.1,eZ.2.2.2.2.2.2.2.2.2.2.1,eZ.2.2.2.2.2.2.2.2.2.2.2.1,Hl.2.2.2.1,Hl.2.2.2.2.1,()))) none)
 ((wz eZ.2.2.2.2.2.2.1 eZ.2.2.2.2.2.2.2.1 ([atI eZ.2.2.2.1 eZ.2.2.2.2.2.1 ByteArray.empty]:List ByteArray) eZ.2.2.2.2.2.2.2.2.2.2.2.2.1 eZ.2.2.2.2.2.2.2.2.2.2.2.2.2.1).bind λHg =>
 cond (and (Nat.beq (List.length ([atI eZ.2.2.2.1 eZ.2.2.2.2.2.1 ByteArray.empty]:List ByteArray)) (List.length Hg.2.2.1)) true)
 (some (.inl (eZ.1,eZ.2.1,eZ.2.2.1,eZ.2.2.2.1,eZ.2.2.2.2.1,aR .i64 eZ.2.2.2.2.2.1 1,Hg.1,Hg.2.1,eZ.2.2.2.2.2.2.2.2.1,eZ.2.2.2.2.2.2.2.2.2.1,eZ.2.2.2.2.2.2.2.2.2.2.1,eZ.2.2.2.2.2.2.2.2.2.2.2.1,Hg.2.2.2.1,Hg.2.2.2.2.1,()))) none)) none)
 (Option.map Sum.inr ((m40 (bs [59]) eZ.2.2.2.2.2.2.1 eZ.2.2.2.2.2.2.2.1 eZ.2.2.2.2.2.2.2.2.2.2.2.2.1 eZ.2.2.2.2.2.2.2.2.2.2.2.2.2.1).bind λLP =>
 (m41 LP.1 LP.2.1 LP.2.2.1 LP.2.2.2.1).bind λTm =>
 some (.inl (eZ.1,eZ.2.1,eZ.2.2.1,Tm.1,Tm.2.1,eZ.2.2.2.2.2.2.2.2.1,eZ.2.2.2.2.2.2.2.2.2.1,eZ.2.2.2.2.2.2.2.2.2.2.1,eZ.2.2.2.2.2.2.2.2.2.2.2.1,Tm.2.2.1,())))))
 (gy.1,gy.2.1,gy.2.2.1,(atI gy.1 gy.2.2.1 zS3).2.1,aA ((atI gy.1 gy.2.2.1 zS3).2.1),0,Ho.1,Ho.2.1,((atI gy.1 gy.2.2.1 zS3).1).1,((atI gy.1 gy.2.2.1 zS3).1).2.1,(atI gy.1 gy.2.2.1 zS3).2.1,(atI gy.1 gy.2.2.1 zS3).2.2.1,Ho.2.2.2.1,Ho.2.2.2.2.1,())) none)
 (some (.inl (gy.1,gy.2.1,gy.2.2.1,EL.1,EL.2.1,((atI gy.1 gy.2.2.1 zS3).1).1,((atI gy.1 gy.2.2.1 zS3).1).2.1,(atI gy.1 gy.2.2.1 zS3).2.1,(atI gy.1 gy.2.2.1 zS3).2.2.1,EL.2.2.1,()))))
 (λCJ =>
 (m37 CJ.2.2.2.2.2.2.2.2.1 CJ.2.2.2.1 CJ.2.2.2.2.1 CJ.2.2.2.2.2.2.2.2.2.1).bind λTj =>
 (m38 Tj.1 Tj.2.1 ([(bs [101,110,100])]:List ByteArray) Tj.2.2.1).bind λHe =>
 cond (and (Nat.beq (List.length ([(bs [101,110,100])]:List ByteArray)) (List.length He.2.2.1)) true)
 ((m40 (bs [59]) He.1 He.2.1 He.2.2.2.1 He.2.2.2.2.1).bind λLM =>
 (m41 LM.1 LM.2.1 LM.2.2.1 LM.2.2.2.1).bind λTi =>
 some (.inl (CJ.1,CJ.2.1,aR .i64 CJ.2.2.1 1,Ti.1,Ti.2.1,Ti.2.2.1,()))) none)) none) none) none)
 (Option.map Sum.inr (cond (iNe gy.2.2.2.2.1 0)
 (some ((bs []),gy.2.2.2.2.1,()))
 ((Yz gy.2.2.2.1 gy.2.2.2.2.1 gy.2.2.2.2.2.1).bind λb3Y =>
 some (b3Y.1,0,())))))
 (FB.2.1,aA FB.2.1,0,Tn.1,Tn.2.1,Tn.2.2.1,())))
def i19:PI:=⟨19,[tS4],[.str,(.int .i64)],fun(x:DS4×Unit)=>m19 x.1⟩
theorem b5l:PK i19:=pk (.d 2 (.j [.ghc 4 1 5 (.int .u8)] ⟨74,[],[(1,.ptr 0 0 0),(4,.ptr 1 0 0)],[.box 29 [.d (.list tS1),.d (.list tS3)],.box 82 [.me 1,.row 2,.d (.int .i64),.nil,.d (.int .i64)],.row 5 (.int .u8) false]⟩ .o (.d 1 (.s (.d 1 (.b (.l [] ⟨74,[(16,(.list tS3)),(17,(.int .i64)),(18,(.int .i64))],[(4,.ptr 0 0 0)],[.box 82 [.me 0,.row 1,.d (.int .i64),.nil,.d (.int .i64)],.row 5 (.int .u8) false]⟩ (.d 2 (.s (.b (.d 7 (.j [] ⟨74,[(16,(.list tS3)),(17,(.int .i64)),(18,(.int .i64))],[(4,.ptr 0 0 0),(6,.ptr 1 0 0)],[.box 82 [.me 0,.row 2,.d (.int .i64),.nil,.d (.int .i64)],.box 55 [.d (.int .i64),.d (.int .i64),.d (.list .str),.d (.list tS1)],.row 5 (.int .u8) false]⟩ (.d 1 (.c (.d 1 (.s (.d 1 (.b (.l [] ⟨74,[(16,(.list tS3)),(17,(.int .i64)),(18,(.int .i64)),(43,(.list .str)),(44,(.int .i64)),(45,(.int .i64))],[(4,.ptr 0 0 0),(6,.ptr 1 0 0)],[.box 82 [.me 0,.row 2,.d (.int .i64),.row 3,.d (.int .i64)],.box 55 [.d (.int .i64),.d (.int .i64),.d (.list .str),.d (.list tS1)],.row 5 (.int .u8) false,.row 97 bR false]⟩ .o))) .o)) .o)) .o))) .o))))) .o)))) Tryz.func19 (cP b5n (cH b5D (cH a4o (cH JG (cH b5C (cH Ue (cH a4n (cH a1H c0)))))))) (by kernel_rfl) λx=>by kernel_rfl
end
end Abs
end Go.Proofs.YtnhgeocdffhkjaaGreatDoor
