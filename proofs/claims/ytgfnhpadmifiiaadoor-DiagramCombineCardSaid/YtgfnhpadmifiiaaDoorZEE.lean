/- Merged and trimmed by a program: XI XJ XK XL XP XQ XR XS. -/
import Derived.Test.YtgfnhpadmifiiaaDoorZED
set_option linter.unusedVariables false
set_option linter.unusedSimpArgs false
set_option linter.defProp false
namespace Go.Proofs.YtgfnhpadmifiiaaDoor
namespace Abs
noncomputable section
section
open Go.RowKit
section
variable{P:Program}{c:Cfg}{ρ:List Nat}{X:XS}{σ:St}
theorem EP(hS:Sim ρ X σ):∀(rv:List RV) (vs:List XV),xq c X rv=some vs->∃p l,su (gx c.GX) σ rv=some (p,l)/\p/\bQ (VT ρ X.h) vs l:=by
 intro rv
 induction rv with
 |nil=>intro vs h;cases h;exact⟨True,[],rfl,trivial,.nil⟩
 |cons v rv ih =>
  intro vs h
  cases v with
  |t i =>
   simp only[xq]at h
   split at h
   .rename_i l hl
    cases h
    obtain⟨p,m,h1,h2,h3⟩:=ih l hl
    exact⟨p,_,by simp only[su,h1,bE],h2,.cons (rT hS.t i) h3⟩
   .cases h
  |c i sz ag =>
   simp only[xq]at h
   split at h
   .rename_i v1 kl h' l hst hl
    cases h
    obtain⟨p,m,h1,h2,h3⟩:=ih l hl
    obtain⟨q,a,H',ρ',tch,e1,e2,e3,e4,e5⟩:=CU (.load sz ag (.t i)) hS.h (Bh hS) _ _ _ _ hst rfl
    obtain⟨c1,c2⟩:=CV (i:=.load sz ag (.t i)) (by simp[I.cls]) hst
    subst c1 c2
    have hρ:=Im e3 hS.h.rl rfl
    subst hρ
    exact⟨q/\p,a::m,by simp only[su,e1,h1],⟨e2,h2⟩,.cons e4 h3⟩
   .cases h
theorem WZ:∀(ps:List Ty) (x:Ty.dz ps),(encs ps x).length=ps.length:=by
 intro ps
 induction ps with
 |nil=>intro x;rfl
 |cons T ps ih=>intro x;simp only[encs,bI,ih]
theorem Io(ρ:List Nat)(h:List XO)(n:Nat):bQ (VT ρ h) (List.replicate n .any) (List.replicate n AV.any) :=
 ⟨by simp,λi x a p q=>by
  have:=gJ (bM p)
  subst this;trivial⟩
theorem KQ{Gl:Nat->Option (List AV)}{rv:List RV}{p:Prop}{l:List AV}(e1:su Gl σ rv=some (p,l))(hone:¬∃a,l=[a]):sP Gl σ rv=some (p,.tup l):=by
 unfold sP
 rw[e1]
 match l,hone with
 |[],_=>rfl
 |[a],h=>exact absurd ⟨a,rfl⟩ h
 |a::b::l,_=>rfl
theorem a1y{rv:List RV}{rs:List Ty}{y:Ty.dz rs}{e:Exit}(hS:Sim ρ X σ)(hK:Ph c rv rs e X=some y):Ends (gx c.GX) rv (sw (encs rs y)) e σ:=by
 have key:∀vs,xq c X rv=some vs->yT X.h rs vs=some y->∃p a b,sP (gx c.GX) σ rv=some (p,a)/\p/\Qw σ.h a=some b/\Wk b (sw (encs rs y)):=by
  intro vs h1 h2
  obtain⟨p,l,e1,e2,e3⟩:=EP hS rv vs h1
  obtain⟨bs,k1,k2,k3,k4⟩:=MQ hS.h rs vs y l h2 e3
  by_cases hone:∃a,l=[a]
  .obtain⟨a,rfl⟩:=hone
   obtain⟨v,vs',rfl,hv,hvs⟩:=e3.cons_right
   have:=hvs.vD
   subst this
   simp only[iE]at k1
   split at k1
   .rename_i b l' hb hl'
    cases hl'
    cases k1
    obtain⟨en,r,he,hw,ht⟩:=k2.iF
    have hr:=ht.lq
    subst hr
    refine⟨p,a,b,by simp only[sP,e1],e2,?_,?_⟩
    ·have hnt:∀ us,a ≠ .tup us:=fun us q=>by
      subst q
      simp[kV,lC]at hb
     cases a<;>first|exact hb|exact absurd rfl (hnt _)
    .rw[he];exact hw.wk
   .cases k1
  .refine⟨p,.tup l,.tup bs,?_,e2,by simp only[Qw,k1,bE],?_⟩
   .exact KQ e1 hone
   ·have hlen:l.length=(encs rs y).length:=by
     have h3:=k2.1
     have:∀{as bs:List AV},iE σ.h as=some bs->as.length=bs.length:=by
      intro as
      induction as with
      |nil=>intro bs q;cases q;rfl
      |cons a as ih =>
       intro bs q
       simp only[iE]at q
       split at q
       .rename_i b m _ hm;cases q;simp[ih hm]
       .cases q
     rw[this k1,h3]
    have hot:sw (encs rs y)=.tup (encs rs y):=by
     unfold sw
     split
     .rename_i a ha
      exfalso
      rw[ha]at hlen
      match l,hlen with
      |[x],_=>exact hone ⟨x,rfl⟩
     .rfl
    rw[hot]
    exact Wk.tup k2.1 λj a b p q=>(k2.2 j a b p q).wk
 unfold Ph at hK
 cases e with
 |normal =>
  simp only at hK
  split at hK
  .rename_i vs h1;exact⟨trivial,key vs h1 hK⟩
  .cases hK
 |ret =>
  simp only at hK
  split at hK
  .rename_i vs h1;exact⟨trivial,key vs h1 hK⟩
  .cases hK
 |_=>cases hK
theorem pok(hm:P.follows .mixedOrders=true)(hc:dx P c){f n:Nat}{xc:XC}{rv:List RV}{ps rs:List Ty}{run:Ty.dz ps->Option (Ty.dz rs)}(hf:Fn P f n xc.er rv)(hrun:∀x,gK c xc n rv ps rs x=run x):POk P (gx c.GX) ⟨f,ps,rs,run⟩:=by
 refine⟨hf.callable,?_⟩
 intro x y hy
 have hy:run x=some y:=hy
 rw[<- hrun]at hy
 obtain⟨fn,hl,h1,h2,h3,rfl,_⟩:=hf
 cases hb:fn.body with
 |none=>rw[hb]at h2;cases h2
 |some code =>
  rw[hb]at h2
  refine Pure.ofW h1 hb h3 ?_
  intro F own B w0 act w hN hI
  have hS:Sim [] ⟨Ej ps x++List.replicate (fn.ntmps-ps.length) .any,[]⟩ ⟨encs ps x++List.replicate (fn.ntmps-(encs ps x).length) .any,[]⟩:=by
   refine⟨?_,rfl,kC,λi o q=>by simp at q⟩
   rw[WZ]
   exact((LV ps x).mono λ_ _ q=>VT.ofA q).append (Io _ _ _)
  refine wp_mono (CS (H0:=[]) (ρ0:=[]) hc hm hN (gU hN) (λj O q=>by simp at q) rfl code xc h2 _ (Ph c rv rs) y _ [] _ F own act w hy hS (Frm.refl [] []) hI) ?_
  rintro e a1 w1 ⟨F1,fQ,τ,hI1,ρ1,X1,hS1,hF1,hK⟩
  exact⟨F1,fQ,τ,hI1,a1y hS1 hK⟩
theorem OD{ρ:List Nat}{sh:Sh}{x:Ty.dz sh.tys}{as:List AV}{H:List aL}(hS:Sim ρ (emb sh x) ⟨as,H⟩):as.length=sh.n:=by
 have h1:=hS.t.1
 rw[<- h1]
 have hv:∀(vs:List (Nat×Ty)) (r:List Ty) (x:Ty.dz (zh vs r)) (b:List XV),(wX vs r x b).1.length=b.length:=by
  intro vs
  induction vs with
  |nil=>intro r x b;rfl
  |cons p vs ih=>intro r x b;obtain⟨s,T⟩:=p;simp only[wX];rw[ih];simp
 have hr:∀(refs:List (Nat×SR)) (r:List Ty) (x:Ty.dz (jk refs r)) (b:List XV),(nT refs r x b).1.length=b.length:=by
  intro refs
  induction refs with
  |nil=>intro r x b;rfl
  |cons p refs ih =>
   intro r x b
   obtain⟨s,sr⟩:=p
   cases sr with
   |row j=>exact(ih r x _).trans (by simp)
   |ptr j i o=>exact(ih r x _).trans (by simp)
   |nil=>exact(ih r x _).trans (by simp)
   |mp j=>exact(ih r x _).trans (by simp)
   |sub j o n=>exact(ih r x _).trans (by simp)
   |cst k n=>exact(ih r x _).trans (by simp)
   |agg cs=>exact(ih r _ _).trans (by simp)
 refine(hr sh.refs (SO.tys sh.objs) _ _).trans ?_
 refine(hv sh.vars _ x _).trans ?_
 simp
theorem hok(hm:P.follows .mixedOrders=true)(hc:dx P c){f n:Nat}{xc:XC}{rv:List RV}{pre:List Pre}{ish osh:Sh}{run:Ty.dz ish.tys->Option (Ty.dz osh.tys)}{kp:List Nat}(hf:Fn P f n xc.er rv)(hrun:∀x,oL c xc n rv pre ish osh x=run x):HOk P (gx c.GX) ⟨f,ish,osh,run,kp⟩:=by
 refine⟨hf.callable,?_⟩
 intro x y hy H ρ as hS0
 have hS0:Sim ρ (emb ish x) ⟨as,H⟩:=hS0
 have hy:run x=some y:=hy
 rw[<- hrun]at hy
 obtain⟨fn,hl,h1,h2,h3,rfl,_⟩:=hf
 cases hb:fn.body with
 |none=>rw[hb]at h2;cases h2
 |some code =>
  rw[hb]at h2
  refine jJ.ofW h1 hb h3 ?_
  intro F own B w0 act w hN hI
  have hlen:=OD hS0
  have hS:Sim ρ ⟨(emb ish x).t++List.replicate (fn.ntmps-ish.n) .any,(emb ish x).h⟩ ⟨as++List.replicate (fn.ntmps-as.length) .any,H⟩:=by
   refine⟨?_,hS0.h⟩
   rw[hlen]
   exact hS0.t.append (Io _ _ _)
  have hrl:ish.objs.length=ρ.length:=by
   rw[hS0.h.rl]
   have:=jW List.length (xK ish.objs (zH ish x).2)
   simp only[bR]at this
   exact this.symm
  refine wp_mono (CS (H0:=H) (ρ0:=ρ) hc hm hN (gU hN) hI.clH hrl code xc h2 _ _ y _ ρ _ F own act w hy hS (Frm.refl H ρ) hI) ?_
  rintro e a1 w1 ⟨F1,fQ,τ,hI1,ρ1,X1,hS1,hF1,hK⟩
  obtain⟨F2,F9,σ2,ρ2,hI2,hS2,hF2⟩:=Lb hrl (gU hN) hI.clH pre hI1 hS1 hF1
  simp only at hK
  split at hK
  case h_2=>cases hK
  rename_i vs he hvs
  obtain⟨p,l,e1,e2,e3⟩:=EP hS2 rv vs hvs
  have hext:∃foc,ext ish.objs.length osh ⟨vs,(wO ish.objs.length pre X1).h⟩=some (foc,y)/\vC ish.objs.length 0 foc=true/\vs.length=osh.n:=by
   unfold zG at hK
   split at hK
   .rename_i foc x' hx'
    split at hK
    .rename_i hb'
     cases hK
     simp only[au]at hb'
     exact⟨foc,hx',hb'.1,beq_eq hb'.2⟩
    .cases hK
   .cases hK
  obtain⟨foc,hx1,hx2,hx3⟩:=hext
  obtain⟨q1,q2,q3,q4⟩:=Bz (X:=⟨vs,(wO ish.objs.length pre X1).h⟩) e3 hS2.h hx3 hx1
  have hfr:=I9 hS2.h hF2 hrl hx2 q4 q2
  refine⟨F2,F9,σ2,hI2,?_,?_⟩
  .cases e<;>first|trivial|cases he
  .by_cases hone:∃a,l=[a]
   .obtain⟨a,rfl⟩:=hone
    exact⟨p,a,by simp only[sP,e1],e2,_,[a],q1,rfl,hfr⟩
   .refine⟨p,.tup l,KQ e1 hone,e2,_,l,q1,?_,hfr⟩
    unfold sw
    split
    .rename_i a;exact absurd ⟨_,rfl⟩ hone
    .rfl
theorem jJ.kz{Gl:Nat->Option (List AV)}{f:FuncId}{h0:List aL}{as:List AV}{Q0 Q:AV->List aL->Prop}(h:jJ P Gl f h0 as Q0)(hq:∀res h',Q0 res h'->∃b,kV h' res=some b/\Q b (freeze h' (gL res))):jJ P Gl f h0 as Q:=by
 intro F own B w0 t act w xs hI hxs
 refine(h F own B w0 t act w xs hI hxs).mono ?_
 rintro e w' ⟨v,res,h',F',own',rfl,hI',hR,hQ⟩
 obtain⟨b,k1,k2⟩:=hq res h' hQ
 obtain⟨F1,hF1,hI1,hkp⟩:=hI'.yY (gL res)
 obtain⟨r1,_,_⟩:=uz hI' hF1 hR k1 hkp
 exact⟨v,b,_,F1,own',rfl,hI1,.pure r1,k2⟩
theorem a9R(hm:P.follows .mixedOrders=true)(hc:dx P c){f n:Nat}{xc:XC}{rv:List RV}{pre:List Pre}{T:Ty}{ish osh:Sh}{run:Ty.dz ish.tys->Option (Ty.dz osh.tys)}{kp:List Nat}(hf:Fn P f n xc.er rv)(hrun:∀x,Ry c xc n rv pre T ish osh x=run x):HOk P (gx c.GX) ⟨f,ish,osh,run,kp⟩:=by
 refine⟨hf.callable,?_⟩
 intro x y hy H ρ as hS0
 have hS0:Sim ρ (emb ish x) ⟨as,H⟩:=hS0
 have hy:run x=some y:=hy
 rw[<- hrun]at hy
 obtain⟨fn,hl,h1,h2,h3,rfl,_⟩:=hf
 refine jJ.kz (Q:=λb h=>∃ρ' rs,Sim ρ' (emb osh y) ⟨rs,h⟩/\sw rs=b/\Frm H ρ ρ' h) (Q0:=λres h'=>∃b,kV h' res=some b/\(∃ρ' rs,Sim ρ' (emb osh y) ⟨rs,freeze h' (gL res)⟩/\sw rs=b/\Frm H ρ ρ' (freeze h' (gL res)))) ?_ (λres h' q=>q)
 cases hb:fn.body with
 |none=>rw[hb]at h2;cases h2
 |some code =>
  rw[hb]at h2
  refine jJ.ofW h1 hb h3 ?_
  intro F own B w0 act w hN hI
  have hlen:=OD hS0
  have hS:Sim ρ ⟨(emb ish x).t++List.replicate (fn.ntmps-ish.n) .any,(emb ish x).h⟩ ⟨as++List.replicate (fn.ntmps-as.length) .any,H⟩:=by
   refine⟨?_,hS0.h⟩
   rw[hlen]
   exact hS0.t.append (Io _ _ _)
  have hrl:ish.objs.length=ρ.length:=by
   rw[hS0.h.rl]
   have:=jW List.length (xK ish.objs (zH ish x).2)
   simp only[bR]at this
   exact this.symm
  refine wp_mono (CS (H0:=H) (ρ0:=ρ) hc hm hN (gU hN) hI.clH hrl code xc h2 _ _ y _ ρ _ F own act w hy hS (Frm.refl H ρ) hI) ?_
  rintro e a1 w1 ⟨F1,fQ,τ,hI1,ρ1,X1,hS1,hF1,hK⟩
  obtain⟨F2,F9,σ2,ρ2,hI2,hS2,hF2⟩:=Lb hrl (gU hN) hI.clH pre hI1 hS1 hF1
  simp only at hK
  split at hK
  case h_2=>cases hK
  rename_i v he hvs
  split at hK
  case h_2=>cases hK
  rename_i z hz
  obtain⟨p,l,e1,e2,e3⟩:=EP hS2 rv [v] hvs
  obtain⟨a,r,rfl,hva,hr⟩:=e3.iF
  obtain rfl:=hr.lq
  have hnt:∀us,v≠.tup us:=λus q=>by
   subst q
   cases T<;>simp[toD,lst]at hz
  obtain⟨b,k1,k2,k3,k4⟩:=zk hS2.h hz (hva.qO hnt)
  have hu:=Upd.frz _ hS2.h k4
  rw[<- k3]at hu
  have hF3:=hF2.upd hS2.h.rl hu
  have e4:bQ (VT ρ2 (o7 (wO ish.objs.length pre X1).h (iR v))) [.d T z] [b]:=.cons (GY k2) .nil
  have hext:∃foc,ext ish.objs.length osh ⟨[.d T z],o7 (wO ish.objs.length pre X1).h (iR v)⟩=some (foc,y)/\vC ish.objs.length 0 foc=true/\([.d T z]:List XV).length=osh.n:=by
   unfold zG at hK
   split at hK
   .rename_i foc x' hx'
    split at hK
    .rename_i hb'
     cases hK
     simp only[au]at hb'
     exact⟨foc,hx',hb'.1,beq_eq hb'.2⟩
    .cases hK
   .cases hK
  obtain⟨foc,hx1,hx2,hx3⟩:=hext
  obtain⟨q1,q2,q3,q4⟩:=Bz (X:=⟨[.d T z],o7 (wO ish.objs.length pre X1).h (iR v)⟩) e4 hu.hs hx3 hx1
  have hfr:=I9 hu.hs hF3 hrl hx2 q4 q2
  refine⟨F2,F9,σ2,hI2,?_,?_⟩
  .cases e<;>first|trivial|cases he
  .exact⟨p,a,by simp only[sP,e1],e2,b,k1,_,[b],q1,rfl,hfr⟩
theorem bZ(tt:Nat->Option Ty)(GX:GXT):dx P ⟨tt,GX,[],[]⟩:=⟨by simp,by simp⟩
theorem dw{tt:Nat->Option Ty}{GX:GXT}{p:PI}{pis:List PI}{his:List HI}(h:POk P (gx GX) p)(hc:dx P ⟨tt,GX,pis,his⟩):dx P ⟨tt,GX,p::pis,his⟩:=⟨λq hq=>by
 rcases bT.1 hq with rfl|hq
 .exact h
 .exact hc.pis q hq,hc.his⟩
theorem jI{tt:Nat->Option Ty}{GX:GXT}{p:HI}{pis:List PI}{his:List HI}(h:HOk P (gx GX) p)(hc:dx P ⟨tt,GX,pis,his⟩):dx P ⟨tt,GX,pis,p::his⟩:=⟨hc.pis,λq hq=>by
 rcases bT.1 hq with rfl|hq
 .exact h
 .exact hc.his q hq⟩
end
end
theorem a6C{a b:Int}(h:a<=b):iLe a b=true:=gF h
theorem a6D{a b:Int}(h:b<a):iLe a b=false:=jh (by omega)
theorem JR{a b:Int}(h:a=b):iEq a b=true:=by simp[iEq,h]
theorem Gn{a b:Int}(h:a≠b):iEq a b=false:=by simp[iEq,h]
theorem a6B{a b:Int}(h:a≠b):iNe a b=true:=by simp[iNe,h]
theorem a8g{n m:Int}(h:0<=n)(h':n<m):bnd n m=true:=by simp[bnd,h,h']
theorem aY{a b:Int}(h1:-9223372036854775808<=a+b)(h2:a+b<=9223372036854775807):bX .i64 a b=a+b:=wrap64 h1 h2
theorem eF{a b:Int}(h1:-9223372036854775808<=a-b)(h2:a-b<=9223372036854775807):fV .i64 a b=a-b:=wrap64 h1 h2
theorem jC{a b:Int}(h1:-9223372036854775808<=a*b)(h2:a*b<=9223372036854775807):AQ .i64 a b=a*b:=wrap64 h1 h2
theorem aR{α:Type}(xs:List α):ay xs=(xs.length:Int):=rfl
section
variable{S R:Type}{step:S->Option (S⊕R)}
theorem Og{s s':S}(h:step s=some (.inl s')):eT step s=eT step s':=by rw[LP,h]
theorem Fh{s:S}{r:R}(h:step s=some (.inr r)):eT step s=some r:=by rw[LP,h]
end
section
open Go.RowKit
mutual
def OkT:(T:Ty)->T.den->Prop
 |.int k,n=>(Lit.int k n).wf=true
 |.bool,_=>True
 |.str,s=>ByteArray.size s<=maxLen
 |.list e,xs=>List.length (α:=e.den) xs<=maxLen/\∀x,x∈(show List e.den from xs)->OkT e x
 |.tup fs,x=>OkL fs x
 |.fnc _,_=>True
 |.jV _,_=>True
def OkL:(fs:List Ty)->Ty.dz fs->Prop
 |[],_=>True
 |t::ts,x=>OkT t x.1/\OkL ts x.2
end
theorem Lg{T:Ty}(x:T.den):pack T (Ty.enc T x).cells=Ty.enc T x:=by
 rcases om (x:=x) with⟨ht,cs,he⟩|⟨ht,hp⟩
 .unfold pack;rw[if_pos ht,he];rfl
 .unfold pack;rw[ht,hp.cells];rfl
theorem a3L(T:Ty):∀l:List AV,Is T l->∃x:T.den,OkT T x/\l=(Ty.enc T x).cells:=by
 refine Ty.rec (motive_1:=λT=>∀l:List AV,Is T l->∃x:T.den,OkT T x/\l=(Ty.enc T x).cells) (motive_2:=λfs=>∀l:List AV,IsL fs l->∃x:Ty.dz fs,OkL fs x/\l=Ty.iL fs x) ?_ ?_ ?_ ?_ ?_ ?_ ?_ ?_ ?_ T
 .intro k l h;simp only[Is]at h;obtain⟨n,rfl,hw⟩:=h;exact⟨n,hw,rfl⟩
 .intro l h;simp only[Is]at h;obtain⟨b,rfl⟩:=h;exact⟨b,trivial,rfl⟩
 .intro l h;simp only[Is]at h;obtain⟨s,rfl,hs⟩:=h;exact⟨s,hs,rfl⟩
 .intro e ih l h
  simp only[Is]at h
  obtain⟨xss,rfl,hl,hx⟩:=h
  have key:∀xss:List (List AV),(∀xs∈xss,Is e xs)->∃ys:List e.den,(∀y∈ys,OkT e y)/\xss.map (pack e)=ys.map (Ty.enc e):=by
   intro xss
   induction xss with
   |nil=>intro _;exact⟨[],by simp,rfl⟩
   |cons a xss ihx =>
    intro h
    obtain⟨ys,h1,h2⟩:=ihx λxs hxs=>h xs (by simp[hxs])
    obtain⟨y,hy,rfl⟩:=ih a (h a (by simp))
    refine⟨y::ys,λz hz=>?_,by rw[dn,dn,Lg,h2]⟩
    rcases bT.1 hz with rfl|hz
    .exact hy
    .exact h1 z hz
  obtain⟨ys,h1,h2⟩:=key xss hx
  refine⟨ys,⟨?_,h1⟩,by show _=[AV.list e.size (List.map (Ty.enc e) ys)];rw[h2]⟩
  have:=jW List.length h2
  simp only[bR]at this
  show List.length ys<=maxLen
  omega
 .intro fs ih l h;simp only[Is]at h;exact ih l h
 .intro f l h;simp only[Is]at h;exact⟨(),trivial,h⟩
 .intro e _ l h;simp only[Is]at h;exact⟨none,trivial,h⟩
 .intro l h;simp only[IsL]at h;exact⟨(),trivial,h⟩
 .intro t ts h1 h2 l h
  simp only[IsL]at h
  obtain⟨a,b,rfl,ha,hb⟩:=h
  obtain⟨x,ox,rfl⟩:=h1 a ha
  obtain⟨y,oy,rfl⟩:=h2 b hb
  exact⟨(x,y),⟨ox,oy⟩,rfl⟩
theorem Bu{T:Ty}{a:AV}(h:IsV T a):∃x:T.den,OkT T x/\a=Ty.enc T x:=by
 obtain⟨l,hl,rfl⟩:=h
 obtain⟨x,ox,rfl⟩:=a3L T l hl
 exact⟨x,ox,Lg x⟩
theorem Ls{n:Int}(h:OkT (.int .i64) n):-9223372036854775808<=n/\n<=9223372036854775807:=by
 have h:(Lit.int .i64 n).wf=true:=h
 simp only[Lit.wf,IntKind.min,IntKind.max,IntKind.signed,IntKind.bits,au,dH,if_true,aT,if_false]at h;omega
theorem Bl{e:Ty}{xs:List e.den}(h:OkT (.list e) xs):xs.length<=maxLen/\∀x∈xs,OkT e x:=h
end
section
variable{S R A α:Type}{step:S->Option (S⊕R)}
theorem a1b(J:S->Prop)(μ:S->Nat)(Q:R->Prop)(h:∀s,J s->(∃s',step s=some (.inl s')/\J s'/\μ s'<μ s)\/∃r,step s=some (.inr r)/\Q r):∀s,J s->∃r,eT step s=some r/\Q r:=by
 have key:∀n s,μ s<=n->J s->∃r,eT step s=some r/\Q r:=by
  intro n
  induction n with
  |zero =>
   intro s hm hJ
   rcases h s hJ with⟨s',h1,h2,h3⟩|⟨r,h1,h2⟩
   .omega
   .exact⟨r,Fh h1,h2⟩
  |succ n ih =>
   intro s hm hJ
   rcases h s hJ with⟨s',h1,h2,h3⟩|⟨r,h1,h2⟩
   .rw[Og h1];exact ih s' (by omega) h2
   .exact⟨r,Fh h1,h2⟩
 intro s hJ
 exact key _ s (bF _) hJ
end
theorem a11{α:Type}{xs:List α}{k:Nat}(z:α)(h:k<xs.length):atI xs (k:Int) z=xs[k]:=by
 show xs.getD k z=_
 simp[List.getD,ah h]
theorem M5{a b:Int}(h:0<=a):tZ a b=a%b:=by
 show a.tmod b=_
 rw[Int.tmod_eq_emod_of_nonneg h]
def T{α:Type}(o:Option α)(Q:α->Prop):Prop:=∃v,o=some v/\Q v
def LQ{S R:Type}(J:S->Prop)(μ:S->Nat)(m:Nat)(Q:R->Prop):S⊕R->Prop
 |.inl s=>J s/\μ s<m
 |.inr r=>Q r
def JQ{S R:Type}(M:S->Prop)(Q:R->Prop):S⊕R->Prop
 |.inl s=>M s
 |.inr r=>Q r
section
variable{α β S R:Type}
theorem T.ret{v:α}{Q:α->Prop}(h:Q v):T (some v) Q:=⟨v,rfl,h⟩
theorem T.eq{o:Option α}{v:α}(h:T o λx=>x=v):o=some v:=by obtain⟨x,h1,h2⟩:=h;rw[h1,h2]
theorem T.of{o:Option α}{v:α}{Q:α->Prop}(h:o=some v)(q:Q v):T o Q:=⟨v,h,q⟩
theorem T.mono{o:Option α}{Q Q':α->Prop}(h:T o Q)(q:∀v,Q v->Q' v):T o Q':=by obtain⟨v,h1,h2⟩:=h;exact⟨v,h1,q v h2⟩
theorem T.bind{o:Option α}{f:α->Option β}{Q:β->Prop}(h:T o λv=>T (f v) Q):T (o.bind f) Q:=by obtain⟨v,h1,h2⟩:=h;rw[h1];exact h2
theorem T.call{o:Option α}{f:α->Option β}{P:α->Prop}{Q:β->Prop}(h:T o P)(q:∀v,P v->T (f v) Q):T (o.bind f) Q:=T.bind (h.mono q)
theorem T.dh{o:Option α}{v:α}{f:α->Option β}{Q:β->Prop}(h:o=some v)(q:T (f v) Q):T (o.bind f) Q:=by rw[h];exact q
theorem T.grd{c:Bool}{x:Option α}{Q:α->Prop}(h:c=true)(q:T x Q):T (cond c x none) Q:=by rw[h];exact q
theorem T.cnd{c:Bool}{x y:Option α}{Q:α->Prop}(h:c=true->T x Q)(q:c=false->T y Q):T (cond c x y) Q:=by cases c;exact q rfl;exact h rfl
theorem T.ct{c:Bool}{x y:Option α}{Q:α->Prop}(h:c=true)(q:T x Q):T (cond c x y) Q:=by rw[h];exact q
theorem T.cf{c:Bool}{x y:Option α}{Q:α->Prop}(h:c=false)(q:T y Q):T (cond c x y) Q:=by rw[h];exact q
theorem T.map{o:Option α}{f:α->β}{Q:β->Prop}(h:T o λv=>Q (f v)):T (o.map f) Q:=by obtain⟨v,h1,h2⟩:=h;rw[h1];exact⟨_,rfl,h2⟩
theorem T.lT{J:S->Prop}{μ:S->Nat}{m:Nat}{o:Option R}{Q:R->Prop}(h:T o Q):T (o.map (Sum.inr (α:=S))) (LQ J μ m Q):=T.map h
theorem T.loop{step:S->Option (S⊕R)}{s0:S}{Q:R->Prop}(J:S->Prop)(μ:S->Nat)(h0:J s0)(h:∀s,J s->T (step s) (LQ J μ (μ s) Q)):T (eT step s0) Q:=by
 refine a1b J μ Q (λs hs=>?_) s0 h0
 obtain⟨r,h1,h2⟩:=h s hs
 cases r with
 |inl s'=>exact .inl ⟨s',h1,h2.1,h2.2⟩
 |inr r=>exact .inr ⟨r,h1,h2⟩
theorem T.go{J:S->Prop}{μ:S->Nat}{m:Nat}{Q:R->Prop}{s:S}(h:J s)(h2:μ s<m):T (some (Sum.inl (β:=R) s)) (LQ J μ m Q):=⟨_,rfl,h,h2⟩
theorem T.out{J:S->Prop}{μ:S->Nat}{m:Nat}{Q:R->Prop}{r:R}(h:Q r):T (some (Sum.inr (α:=S) r)) (LQ J μ m Q):=⟨_,rfl,h⟩
theorem T.jgo{M:S->Prop}{Q:R->Prop}{s:S}(h:M s):T (some (Sum.inl (β:=R) s)) (JQ M Q):=⟨_,rfl,h⟩
theorem T.join{o:Option (S⊕R)}{f:S->Option R}{Q:R->Prop}(M:S->Prop)(h:T o (JQ M Q))(h2:∀s,M s->T (f s) Q):T (Cm o f) Q:=by
 obtain⟨r,h1,h3⟩:=h
 rw[h1]
 cases r with
 |inl s=>exact h2 s h3
 |inr r=>exact⟨r,rfl,h3⟩
end
theorem bD{a b:Int}:(iLt a b=true)=(a<b):=by simp[iLt]
theorem bq{a b:Int}:(iLt a b=false)=(b<=a):=by simp[iLt]
theorem fU{a b:Int}:(iLe a b=true)=(a<=b):=by simp[iLe]
theorem gq{a b:Int}:(iLe a b=false)=(b<a):=by simp[iLe]
theorem dD{a b:Int}:(iEq a b=true)=(a=b):=by simp[iEq]
theorem dG{a b:Int}:(iEq a b=false)=(¬a=b):=by simp[iEq]
theorem fZ{a b:Int}:(iNe a b=true)=(¬a=b):=by simp[iNe]
theorem gT{a b:Int}:(iNe a b=false)=(a=b):=by simp[iNe]
theorem bf{a b:Int}:(bnd a b=true)=(0<=a/\a<b):=by simp[bnd]
theorem kY{a b:Int}:(bnd a b=false)=(a<0\/b<=a):=by simp[bnd];constructor<;>intro h<;>omega
theorem dU{α:Type}{i:Nat}{xs:List α}:(inB i xs=true)=(i<xs.length):=by simp[inB]
theorem kW{α:Type}{i:Nat}{xs:List α}:(inB i xs=false)=(xs.length<=i):=by simp[inB]
theorem dN{n b:Nat}:(fits n b=true)=(n*b<=140737488355328/\n<=4611686018427387904):=by
 rw[eq_iff_iff];constructor
 .intro h;unfold fits lG at h;rw[au]at h;exact⟨of_decide_eq_true h.1,of_decide_eq_true h.2⟩
 .rintro⟨h1,h2⟩;unfold fits lG;rw[gF h1,gF h2];rfl
theorem gM{n:Int}{b:Nat}:(qQ n b=true)=(0<=n/\n*b<=140737488355328/\n<=4611686018427387904):=by
 rw[eq_iff_iff];constructor
 .intro h;unfold qQ lG at h;rw[au,au]at h;exact⟨of_decide_eq_true h.1.1,of_decide_eq_true h.1.2,of_decide_eq_true h.2⟩
 .rintro⟨h1,h2,h3⟩;unfold qQ lG;rw[gF h1,gF h3];simp only[Bool.true_and,jA];exact gF h2
theorem iJ{l u:Int}{n:Nat}:(uM l u n=true)=(0<=l/\l<=u/\u<=(n:Int)):=by simp[uM,and_assoc]
theorem je{α:Type}{xs:List α}:(someE xs=true)=(0<xs.length):=by cases xs<;>simp[someE]
theorem jf{α:Type}{xs:List α}:(someE xs=false)=(xs.length=0):=by cases xs<;>simp[someE]
theorem kT{α:Type}{n:Nat}{xs:List α}:(leN n xs=true)=(n<=xs.length):=by simp[leN]
theorem dO{b:Bool}:(Bool.not b=true)=(b=false):=by cases b<;>simp
theorem gQ{b:Bool}:(Bool.not b=false)=(b=true):=by cases b<;>simp
theorem iB{a b:Bool}:(and a b=true)=(a=true/\b=true):=by cases a<;>simp
theorem l5{a b:Bool}:(and a b=false)=(a=false\/b=false):=by cases a<;>simp
theorem eY{a b:Bool}:(or a b=true)=(a=true\/b=true):=by cases a<;>simp
theorem nO{a b:Bool}:(or a b=false)=(a=false/\b=false):=by cases a<;>simp
theorem dM{a b:Bool}:(cond a b false=true)=(a=true/\b=true):=by cases a<;>simp
theorem dS{a b:Bool}:(cond a b false=false)=(a=false\/b=false):=by cases a<;>simp
theorem fB{a b:Bool}:(cond a true b=true)=(a=true\/b=true):=by cases a<;>simp
theorem fF{a b:Bool}:(cond a true b=false)=(a=false/\b=false):=by cases a<;>simp
theorem jM{a:Bool}:(bEq a true=true)=(a=true):=by cases a<;>simp[bEq]
theorem fC{a:Bool}:(bEq a true=false)=(a=false):=by cases a<;>simp[bEq]
theorem jN{a:Bool}:(bEq a false=true)=(a=false):=by cases a<;>simp[bEq]
theorem iM{a:Bool}:(bEq a false=false)=(a=true):=by cases a<;>simp[bEq]
theorem FZ{a b:ByteArray}:(sEq a b=true)=(a=b):=by
 simp only[sEq,nU,eq_iff_iff]
 constructor
 .intro h
  exact(show ∀x y:ByteArray,x.toList=y.toList->x=y from λx y q=>by
   have hx:∀z:ByteArray,z.toList=z.data.toList:=λz=>ByteArray.toList_eq z
   rw[hx,hx]at q
   cases x;cases y
   simp at q;rw[q]) a b h
 .intro h;rw[h]
theorem G5{a b:ByteArray}:(sEq a b=false)=(¬a=b):=by
 rw[<- rR,FZ]
section
open Go.RowKit
theorem Tn{F:Addr->Option Value}{g:Nat}{k:IntKind}{zs:List Int}(h:∀i,i<zs.length->F ⟨g,i,none⟩=some (.int k (zs.getD i 0))):RP F (.pointer (some ⟨g,0,none⟩)) (.jZ (zs.map λz=>.v (.int k z))):=by
 refine RP.jZ _ _ (λj=>.int k (zs.getD j 0)) (λj a hj=>?_) (λj a hj=>?_)
 ·have hl:j < zs.length:=by
   rcases aM j zs.length with q|q
   .exact q
   .rw[bg (by simpa using q)]at hj;cases hj
  refine⟨?_,rfl⟩
  have:(Addr.add ⟨g,0,none⟩ j:Addr)=⟨g,j,none⟩:=by simp[Addr.add];intro h;exact h.symm
  rw[this];exact h j hl
 .rw[aS]at hj
  rcases q:zs[j]? with _|z
  .rw[q]at hj;cases hj
  .rw[q]at hj
   simp only[bE,iG]at hj
   subst hj
   have:zs.getD j 0=z:=by rw[aQ,q];rfl
   rw[this];exact .v _
theorem Nr{P:Program}{Gl:Nat->Option (List AV)}{w:World}{f:Nat}{xs:Array Value}{l:List AV}(hP:Pure P Gl f l (.v (.bool true)))(hg:Nb Gl (snap w))(hw:GlW Gl w.heap.size w)(hxs:RPL (snap w) xs l):Calls P f xs w λe w'=>e=.returned (.bool true)/\Below w.heap.size w w':=by
 refine(hP w (snap w) xs (λ_ _ h=>h) hg hw hxs).mono ?_
 rintro e w' ⟨v,F',rfl,_,_,_,hR,hb⟩
 cases hR
 exact⟨rfl,hb⟩
end
def uK{α β:Type}(F:(α->Option β)->α->Option β):Nat->α->Option β
 |0,_=>none
 |n+1,x=>F (uK F n) x
open Classical in
def wW{α β:Type}(F:(α->Option β)->α->Option β)(x:α):Option β:=if h:∃v,∃N,∀n,N<=n->uK F n x=some v then some h.choose else none
section
variable{α β:Type}{F:(α->Option β)->α->Option β}
theorem Jb{x:α}{v:β}(h:wW F x=some v):∃n,uK F n x=some v:=by
 unfold wW at h
 split at h
 .rename_i hx
  have he:=aI h
  obtain⟨N,hN⟩:=hx.choose_spec
  exact⟨N,by rw[hN N (bF _),he]⟩
 .cases h
theorem a1k{x:α}{v:β}(N:Nat)(h:∀n,N<=n->uK F n x=some v):wW F x=some v:=by
 have hx:∃v,∃N,∀n,N<=n->uK F n x=some v:=⟨v,N,h⟩
 unfold wW
 rw[dif_pos hx]
 obtain⟨M,hM⟩:=hx.choose_spec
 have h1:=hM (max M N) (wm _ _)
 rw[h _ (zP _ _)]at h1
 exact h1.symm
variable{P:Program}{Gl:Nat->Option (List AV)}
theorem a0H{f:Nat}{ps rs:List Ty}{G:(Ty.dz ps->Option (Ty.dz rs))->Ty.dz ps->Option (Ty.dz rs)}(hc:callable P f=true)(h:∀run,POk P Gl ⟨f,ps,rs,run⟩->POk P Gl ⟨f,ps,rs,G run⟩):POk P Gl ⟨f,ps,rs,wW G⟩:=by
 have key:∀n,POk P Gl ⟨f,ps,rs,uK G n⟩:=by
  intro n
  induction n with
  |zero=>exact⟨hc,λx y q=>by cases q⟩
  |succ n ih=>exact h _ ih
 refine⟨hc,λx y q=>?_⟩
 obtain⟨n,hn⟩:=Jb q
 exact(key n).2 x y hn
theorem Bw{f:Nat}{ish osh:Sh}{kp:List Nat}{G:(Ty.dz ish.tys->Option (Ty.dz osh.tys))->Ty.dz ish.tys->Option (Ty.dz osh.tys)}(hc:callable P f=true)(h:∀run,HOk P Gl ⟨f,ish,osh,run,kp⟩->HOk P Gl ⟨f,ish,osh,G run,kp⟩):HOk P Gl ⟨f,ish,osh,wW G,kp⟩:=by
 have key:∀n,HOk P Gl ⟨f,ish,osh,uK G n,kp⟩:=by
  intro n
  induction n with
  |zero=>exact⟨hc,λx y q=>by cases q⟩
  |succ n ih=>exact h _ ih
 refine⟨hc,λx y q=>?_⟩
 obtain⟨n,hn⟩:=Jb q
 exact(key n).2 x y hn
end
inductive AT where
 |o
 |u (l:List Nat)
 |s (a b:AT)
 |d (n:Nat) (a:AT)
 |j (pre:List Pre) (sh:Sh) (a b:AT)
 |c (a b:AT)
 |b (a:AT)
 |l (pre:List Pre) (sh:Sh) (a:AT)
 |n (k:Nat) (a:AT)
 |p (s:Nat) (k:IntKind) (ns:List Int) (a:AT)
def sI:C->XC
 |.skip=>.skip
 |.ops d l=>.ops d l
 |.wN l=>.wN [] l
 |.seq a b=>.seq (sI a) (sI b)
 |.cond c a b=>.cond c (sI a) (sI b)
 |.block i b=>.block i (sI b)
 |.loop b=>.Gi 0 (sI b)
 |.exit i=>.exit i
 |.ret=>.ret
def JW(f:C->XC):Nat->C->XC
 |0,c=>f c
 |n+1,.seq a b=>.seq (sI a) (JW f n b)
 |_,c=>sI c
def toX:AT->C->XC
 |.u l,.wN r=>.wN l r
 |.s a b,.seq x y=>.seq (toX a x) (toX b y)
 |.d n a,c=>JW (toX a) n c
 |.j pre sh a b,.seq x y=>.PX pre sh (toX a x) (toX b y)
 |.c a b,.cond o x y=>.cond o (toX a x) (toX b y)
 |.b a,.block i x=>.block i (toX a x)
 |.l pre sh a,.loop x=>.loop pre sh (toX a x)
 |.n k a,.loop x=>.Gi k (toX a x)
 |.p s k ns a,c=>.H9 s k ns (toX a c)
 |_,c=>sI c
theorem qM:∀c,(sI c).er=c:=by
 intro c
 induction c with
 |seq a b h1 h2=>simp only[sI,XC.er,h1,h2]
 |cond c a b h1 h2=>simp only[sI,XC.er,h1,h2]
 |block i b h=>simp only[sI,XC.er,h]
 |loop b h=>simp only[sI,XC.er,h]
 |_=>rfl
theorem X5{f:C->XC}(h:∀c,(f c).er=c):∀(n:Nat) (c:C),(JW f n c).er=c:=by
 intro n
 induction n with
 |zero=>intro c;exact h c
 |succ n ih =>
  intro c
  cases c with
  |seq a b=>simp only[JW,XC.er,qM,ih]
  |_=>exact qM _
theorem a2z:∀(a:AT) (c:C),(toX a c).er=c:=by
 intro a
 induction a with
 |d n a ih=>intro c;cases c<;>exact X5 ih n _
 |s a b h1 h2=>intro c;cases c<;>first|(simp only[toX,XC.er,h1,h2];done)|exact qM _
 |j pre sh a b h1 h2=>intro c;cases c<;>first|(simp only[toX,XC.er,h1,h2];done)|exact qM _
 |c a b h1 h2=>intro c;cases c<;>first|(simp only[toX,XC.er,h1,h2];done)|exact qM _
 |b a ih=>intro c;cases c<;>first|(simp only[toX,XC.er,ih];done)|exact qM _
 |l pre sh a ih=>intro c;cases c<;>first|(simp only[toX,XC.er,ih];done)|exact qM _
 |n k a ih=>intro c;cases c<;>first|(simp only[toX,XC.er,ih];done)|exact qM _
 |p s k ns a ih=>intro c;cases c<;>exact ih _
 |u l=>intro c;cases c<;>first|rfl|exact qM _
 |o=>intro c;cases c<;>exact qM _
def xo(P:Program)(hc:List Nat)(f:Func)(a:AT):XC:=match f.body.bind (cC P hc) with
 |some c=>toX a c
 |none=>.skip
theorem a5q{P:Program}{hc:List Nat}{f:Func}{a:AT}(h:(f.body.bind (cC P hc)).isSome=true):f.body.bind (cC P hc)=some (xo P hc f a).er:=by
 unfold xo
 cases e:f.body.bind (cC P hc) with
 |none=>rw[e]at h;cases h
 |some c=>rw[a2z]
def Mo{α β γ:Type}(F:(α->Option β)->Option γ):Prop:=∀s s':α->Option β,(∀y v,s y=some v->s' y=some v)->∀v,F s=some v->F s'=some v
section
variable{α β γ δ S R:Type}
theorem Mo.const(o:Option γ):Mo (λ_:α->Option β=>o):=λ_ _ _ _ h=>h
theorem Mo.self(y:α):Mo (λs:α->Option β=>s y):=λ_ _ h _ q=>h _ _ q
theorem Mo.bind{F:(α->Option β)->Option γ}{G:(α->Option β)->γ->Option δ}(hF:Mo F)(hG:∀x,Mo λs=>G s x):Mo (λs=>(F s).bind (G s)):=by
 intro s s' h v q
 cases e:F s with
 |none=>simp only[e,Option.bind_none]at q;cases q
 |some x =>
  simp only[e,nQ]at q
  simp only[hF s s' h x e,nQ]
  exact hG x s s' h v q
theorem Mo.cond(c:Bool){F G:(α->Option β)->Option γ}(hF:Mo F)(hG:Mo G):Mo (λs=>_root_.cond c (F s) (G s)):=by cases c<;>assumption
theorem Mo.map{F:(α->Option β)->Option γ}{f:γ->δ}(hF:Mo F):Mo (λs=>(F s).map f):=by
 intro s s' h v q
 cases e:F s with
 |none=>simp only[e,oo]at q;cases q
 |some x =>
  simp only[e,bE]at q
  simp only[hF s s' h x e,bE]
  exact q
theorem Mo.join{F:(α->Option β)->Option (S⊕R)}{G:(α->Option β)->S->Option R}(hF:Mo F)(hG:∀x,Mo λs=>G s x):Mo (λs=>Cm (F s) (G s)):=by
 intro s s' h v q
 cases e:F s with
 |none=>simp only[e]at q;cases q
 |some x =>
  simp only[e]at q
  simp only[hF s s' h x e]
  cases x with
  |inl x=>exact hG x s s' h v q
  |inr r=>exact q
theorem a0y{step step':S->Option (S⊕R)}(h:∀y v,step y=some v->step' y=some v):∀n s r,rG step n s=some r->rG step' n s=some r:=by
 intro n
 induction n with
 |zero=>intro s r q;cases q
 |succ n ih =>
  intro s r q
  simp only[rG]at q ⊢
  cases e:step s with
  |none=>rw[e]at q;cases q
  |some x =>
   rw[e]at q;rw[h _ _ e]
   cases x with
   |inl x=>exact ih _ _ q
   |inr x=>exact q
theorem Tp{step:S->Option (S⊕R)}{s:S}{r:R}(h:eT step s=some r):∃n,rG step n s=some r:=by
 unfold eT at h
 split at h
 .rename_i hx;exact⟨_,h⟩
 .cases h
theorem Sl{step:S->Option (S⊕R)}:∀(n:Nat) {s:S} {r:R},rG step n s=some r->eT step s=some r:=by
 intro n
 induction n with
 |zero=>intro s r q;cases q
 |succ n ih =>
  intro s r q
  simp only[rG]at q
  cases e:step s with
  |none=>rw[e]at q;cases q
  |some x =>
   rw[e]at q
   cases x with
   |inl x=>rw[Og e];exact ih q
   |inr x=>rw[Fh e];exact q
theorem Mo.loop{G:(α->Option β)->S->Option (S⊕R)}(hG:∀x,Mo λs=>G s x)(x:S):Mo (λs=>eT (G s) x):=by
 intro s s' h v q
 obtain⟨n,hn⟩:=Tp q
 exact Sl n (a0y (λy v hy=>hG y s s' h v hy) n x v hn)
theorem Cu{ι:Type}{F:(α->Option β)->α->Option β}(hm:∀x,Mo λs=>F s x)(arg:ι->α)(P:ι->Prop)(Q:ι->β->Prop)(μ:ι->Nat)(h:∀g,P g->∀s:α->Option β,(∀g',P g'->μ g'<μ g->T (s (arg g')) (Q g'))->T (F s (arg g)) (Q g))(g:ι)(hg:P g):T (wW F (arg g)) (Q g):=by
 have up:∀n x v,uK F n x=some v->uK F (n+1) x=some v:=by
  intro n
  induction n with
  |zero=>intro x v q;cases q
  |succ n ih=>intro x v q;exact hm x _ _ ih v q
 have ups:∀k n x v,uK F n x=some v->uK F (n+k) x=some v:=by
  intro k
  induction k with
  |zero=>intro n x v q;exact q
  |succ k ih=>intro n x v q;exact up _ _ _ (ih n x v q)
 have key:∀m g,P g->μ g<m->T (uK F m (arg g)) (Q g):=by
  intro m
  induction m with
  |zero=>intro x _ q;omega
  |succ m ih=>intro x hx q;exact h x hx _ λy hy hlt=>ih y hy (by omega)
 obtain⟨v,h1,h2⟩:=key (μ g+1) g hg (by omega)
 refine⟨v,a1k (μ g+1) (λn hn=>?_),h2⟩
 have:=ups (n-(μ g+1)) _ _ _ h1
 rwa [show μ g+1+(n-(μ g+1))=n by omega]at this
end
end
end Abs
end Go.Proofs.YtgfnhpadmifiiaaDoor
