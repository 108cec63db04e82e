/- Merged and trimmed by a program: EX8. -/
import Derived.Test.YtnhgeocdffhkjaaGreatDoorZGD
set_option linter.unusedVariables false
set_option linter.unusedSimpArgs false
set_option linter.defProp false
namespace Go.Proofs.YtnhgeocdffhkjaaGreatDoor
namespace Abs
noncomputable section
section
open Go.RowKit
noncomputable section
def iD{α β:Type}(f:α->β)(l:List α):List β:=List.rec [] (λa _ ih=>f a::ih) l
theorem JM{α β:Type}(f:α->β):∀l:List α,iD f l=l.map f
 |[]=>rfl
 |a::l=>by show f a::iD f l=_;rw[JM f l];rfl
structure Op3 where
 run:CF->PF->Bool->Nat->(TT->List ay->List Nat->FO)->TT->List ay->List Nat->FO
def opF(w:PB)(g:TT->List ay->FR):Op3:=⟨λcf pf d N ih T h U=>kP d N ih U (λa=>kN a w T) (g T h)⟩
def opO(n:Nat)(Gl:Nat->Option (List AV))(w:PB)(g:(Opd->AV)->List ay->FR):Op3:=⟨λcf pf d N ih T h U=>kP d N ih U (λa=>kN a w T) (g (vT n Gl T) h)⟩
def opC(w:PB)(f:Nat)(args:List OV):Op3:=⟨λcf pf d N ih T h U=>kP d N ih U (λa=>kN a w T) (Bool.rec (cf f (iD (vO T) args) h) (CS pf f h (iD (vO T) args)) d)⟩
def b7i(f:Nat)(args:List OV):Op3:=⟨λcf pf d N ih T h U=>kP d N ih U (λ_=>T) (Bool.rec (cf f (iD (vO T) args) h) (CS pf f h (iD (vO T) args)) d)⟩
def opW(n:Nat)(Gl:Nat->Option (List AV))(g:(Opd->AV)->List ay->FR->FR)(i:I):Op3:=⟨λcf pf d N ih T h U=>kP d N ih U (λ_=>T) (g (vT n Gl T) h (slow Gl (slots n T) h i))⟩
def opX(n:Nat)(Gl:Nat->Option (List AV))(x:X3):Op3:=⟨λcf pf d N ih T h U=>Am cf pf Gl n d N x ih T h U⟩
def opM(w:PB)(x:OV):Op3:=⟨λcf pf d N ih T h U=>ih (kN (vO T x) w T) h U⟩
def opP(n:Nat)(Gl:Nat->Option (List AV))(w:PB)(b:B3):Op3:=match b with
 |.f g=>opF w g
 |.o g=>opO n Gl w g
 |.c f args=>opC w f args
 |b=>opX n Gl (.p w b)
def opQ(n:Nat)(Gl:Nat->Option (List AV))(b:B3):Op3:=match b with
 |.c f args=>b7i f args
 |.w g i=>opW n Gl g i
 |b=>opX n Gl (.q b)
def a0A(n:Nat)(Gl:Nat->Option (List AV))(x:X3):Op3:=match x with
 |.m w x=>opM w x
 |.p w b=>opP n Gl w b
 |.q b=>opQ n Gl b
 |.g w s v b=>opX n Gl (.g w s v b)
 |.u s v b=>opX n Gl (.u s v b)
theorem a4A(n:Nat)(Gl:Nat->Option (List AV))(x:X3)(cf:CF)(pf:PF)(d:Bool)(N:Nat)(ih:TT->List ay->List Nat->FO)(T:TT)(h:List ay)(U:List Nat):(a0A n Gl x).run cf pf d N ih T h U=Am cf pf Gl n d N x ih T h U:=by
 cases x with
 |p w b =>
  cases b with
  |c f args =>
   show kP d N ih U (λa=>kN a w T) (Bool.rec (cf f (iD (vO T) args) h) (CS pf f h (iD (vO T) args)) d)=kP d N ih U (λa=>kN a w T) (r3C cf pf d T h f args)
   unfold r3C;rw[JM]
  |_=>rfl
 |q b =>
  cases b with
  |c f args =>
   show kP d N ih U (λ_=>T) (Bool.rec (cf f (iD (vO T) args) h) (CS pf f h (iD (vO T) args)) d)=kP d N ih U (λ_=>T) (r3C cf pf d T h f args)
   unfold r3C;rw[JM]
  |_=>rfl
 |_=>rfl
def I8(n:Nat)(Gl:Nat->Option (List AV))(l:List Ins):List Op3:=iD (λo=>a0A n Gl (yJ n Gl o)) l
def TN(cf:CF)(pf:PF)(d:Bool)(N:Nat)(l:List Op3):TT->List ay->List Nat->FO :=
 List.rec (λT h U=>.nrm .normal T h U) (λb _ ih=>b.run cf pf d N ih) l
theorem QI(cf:CF)(pf:PF)(Gl:Nat->Option (List AV))(n:Nat)(d:Bool)(N:Nat):∀l:List Ins,TN cf pf d N (I8 n Gl l)=Gn cf pf Gl n d N (l.map (yJ n Gl))
 |[]=>rfl
 |o::l=>by
  show(a0A n Gl (yJ n Gl o)).run cf pf d N (TN cf pf d N (I8 n Gl l))=Am cf pf Gl n d N (yJ n Gl o) (Gn cf pf Gl n d N (l.map (yJ n Gl)))
  rw[QI cf pf Gl n d N l]
  funext T h U
  exact a4A n Gl _ cf pf d N _ T h U
structure K3 where
 run:EX->Nat->TT->List ay->List Nat->FO
def b7w(p:PR)(n:Nat)(d:Bool)(l:List Ins):K3:=⟨λih N T h U=>TN (cfF p.tab p.hd ih) (pfF p.tab p.hd ih) d N (I8 n p.Gl l) T h U⟩
def b31(p:PR)(n:Nat)(l:List (Nat×Ins)):K3:=⟨λih N T h U=>MO p.Gl p.tab p.hd l ih N n T h U⟩
def b7v(n:Nat)(a b:C):K3:=⟨λih N T h U=>AP (ih N n a T h U) (ih N n b)⟩
def b34(p:PR)(n:Nat)(x:Opd)(a b:C):K3:=⟨λih N T h U=>Q6 (vO T (cO n p.Gl x)) (ih N n a T h U) (ih N n b T h U)⟩
def b7x(n:Nat)(id:Nat)(b:C):K3:=⟨λih N T h U=>VG id (ih N n b T h U)⟩
def b33(n:Nat)(b:C):K3:=⟨λih N T h U=>AP (ih N n b T h U) (ih N n (.loop b))⟩
def a1Z(e:Exit):K3:=⟨λih N T h U=>.nrm e T h U⟩
def comp(p:PR)(n:Nat)(c:C):K3:=match c with
 |.skip=>a1Z .normal
 |.ops d l=>b7w p n d l
 |.qd l=>b31 p n l
 |.seq a b=>b7v n a b
 |.cond x a b=>b34 p n x a b
 |.block id b=>b7x n id b
 |.loop b=>b33 n b
 |.exit id=>a1Z (.exit id)
 |.ret=>a1Z .ret
theorem a6p(p:PR)(n:Nat)(c:C)(ih:EX)(N:Nat)(T:TT)(h:List ay)(U:List Nat):(comp p n c).run ih N T h U=fC3 p c ih N n T h U:=by
 cases c with
 |ops d l =>
  show TN _ _ d N (I8 n p.Gl l) T h U=Gn _ _ p.Gl n d N (l.map (yJ n p.Gl)) T h U
  rw[QI]
 |_=>rfl
def hC(p:PR)(k:Nat):EX:=Nat.rec (λ_ _ _ _ _ _=>.no) (λ_ ih N n c T h U=>(comp p n c).run ih N T h U) k
theorem a3X(p:PR)(k:Nat):hC p k=gC p k:=by
 induction k with
 |zero=>rfl
 |succ k ih =>
  funext N n c T h U
  show(comp p n c).run (hC p k) N T h U=fC3 p c (gC p k) N n T h U
  rw[ih,a6p]
theorem b4F{P:Program}{Gl:Nat->Option (List AV)}{hd:wN}(hm:P.follows .mixedOrders=true){hl:List Nat}(hh:wM P Gl hd.hand)(k:Nat){f:Nat}{as:List AV}{res:AV}(h:Gf (fnE P hl) (hC ⟨Gl,fnE P hl,hd⟩ k) f as=some res):Pure P Gl f as res:=by
 rw[a3X]at h
 exact b4G hm hh k h
end
end
end
end Abs
end Go.Proofs.YtnhgeocdffhkjaaGreatDoor
