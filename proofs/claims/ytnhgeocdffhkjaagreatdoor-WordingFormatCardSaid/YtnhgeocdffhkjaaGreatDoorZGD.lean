/- Merged and trimmed by a program: XH XI XR XJ XK XL XP XQ EX0 EX1 EX2 EX3 EX4 EX5 EX6 EX7. -/
import Derived.Test.YtnhgeocdffhkjaaGreatDoorZGC
import Derived.LoopN
set_option linter.unusedVariables false
set_option linter.unusedSimpArgs false
set_option linter.defProp false
namespace Go.Proofs.YtnhgeocdffhkjaaGreatDoor
namespace Abs
noncomputable section
section
open Go.RowKit
section
variable{S R:Type}{step:S->Option (S⊕R)}
theorem KS:∀{n m:Nat} {s:S} {r:R},xB step n s=some r->n<=m->xB step m s=some r:=by
 intro n
 induction n with
 |zero=>intro m s r h;cases h
 |succ n ih =>
  intro m s r h hm
  cases m with
  |zero=>omega
  |succ m =>
   simp only[xB]at h ⊢
   split at h
   .exact ih h (by omega)
   .exact h
   .cases h
theorem zi{s:S}{r:R}:bH step s=some r↔∃n,xB step n s=some r:=by
 constructor
 .intro h
  unfold bH at h
  split at h
  .rename_i hn;exact⟨_,h⟩
  .cases h
 .rintro⟨n,h⟩
  have hn:∃n r,xB step n s=some r:=⟨n,r,h⟩
  obtain⟨r',hr'⟩:=hn.choose_spec
  have e1:=KS hr' (Nat.le_max_left _ n)
  have e2:=KS h (Nat.le_max_right hn.choose n)
  rw[e1]at e2
  cases e2
  unfold bH
  rw[dif_pos hn]
  exact hr'
theorem OZ (step:S->Option (S ⊕ R)) (s:S):bH step s=match step s with
  |some (.inl s')=>bH step s'
  |some (.inr r)=>some r
  |none=>none:=by
 apply Option.ext
 intro r
 rw[zi]
 constructor
 .rintro⟨n,h⟩
  cases n with
  |zero=>cases h
  |succ n =>
   simp only[xB]at h
   split at h
   .rename_i s' hs;rw[hs];exact zi.2 ⟨n,h⟩
   .rename_i r' hs;rw[hs];exact h
   .cases h
 .intro h
  split at h
  .rename_i s' hs
   obtain⟨n,hn⟩:=zi.1 h
   exact⟨n+1,by simp only[xB,hs];exact hn⟩
  .rename_i r' hs
   cases h
   exact⟨1,by simp only[xB,hs]⟩
  .cases h
end
section
variable{P:Program}{c:Cfg}{ρ:List Nat}{X:XS}{σ:St}{F:Addr->Option Value}{own:List Ent}{B:Nat}{w0:W0}{act:Act}{w:World}{H0:List ay}{ρ0:List Nat}{Gl:Nat->Option (List AV)}
theorem Qj{i:Nat}(hlt:i<act.tmps.size):act.put (some i) act.tmps[i]=act:=by
 have hs:act.tmps.setIfInBounds i act.tmps[i]=act.tmps:=by
  apply yF
  intro j
  rw[iZ]
  split
  .rename_i hj
   subst hj
   rw[aF hlt]
  .rfl
 show({ act with tmps:=act.tmps.setIfInBounds i act.tmps[i] }:Act)=act
 rw[hs]
theorem Frm.mine{nf id:Nat}{h:List XO}{H:List ay}(hF:Frm H0 ρ0 ρ H)(hs:HS ρ h H)(hnf:nf=ρ0.length)(hid:nf<=id)(hl:id<h.length):H0.length<=ρ.getD id 0:=by
 subst hnf
 obtain⟨l,hl',hq⟩:=hF.pre
 have oz:id<ρ.length:=by rw[hs.rl];exact hl
 rw[hl']at oz ⊢
 simp only[ak]at oz
 have:(ρ0++l).getD id 0=l[id-ρ0.length]'(by omega):=by
  simp only[List.getD]
  rw[aO hid,ah (by omega)];rfl
 rw[this]
 exact hq _ (jF _)
theorem a5c {nf:Nat} (hnf:nf=ρ0.length) (hN:w0.N<=H0.length) (hcl:ClH H0.length H0) (hI:Inv Gl F own B w0 σ act w) (hS:Sim ρ X σ) (hF:Frm H0 ρ0 ρ σ.h) {s id len ty:Nat} {T:Ty} {es:List T.den} (hk:X.t.getD s .any=.sub id 0 len) (he:X.h[id]?=some (.row ty T false es)) (hid:nf<=id) :
  ∃F' own' σ' ρ',Inv Gl F' own' B w0 σ' act w/\Sim ρ' ⟨(X.t.map (zk id)).set s (.row id),(X.h.map (F9 id)).set id (.row ty T false (es.take len))⟩ σ'/\Frm H0 ρ0 ρ' σ'.h:=by
 have oz:id<X.h.length:=(aj.1 he).1
 have hsl:s<X.t.length:=by
  rcases bK s X.t.length with q|q
  .exact q
  .simp[List.getD,aR q]at hk
 have yV:s<σ.t.length:=by rw[<- hS.t.1];exact hsl
 have hv:=pY hS.t s
 rw[hk]at hv
 obtain⟨ty',T',fz',es',he',ha⟩:=hv
 rw[he]at he'
 cases he'
 obtain⟨O,hO,o1,o2,o3,o4,o5⟩:=hS.h.hr id _ he
 have hlen:O.es.length=es.length:=by have:=o5.1;simpa using this
 have hkn:H0.length<=ρ.getD id 0:=hF.mine hS.h hnf hid oz
 have hs?:σ.t[s]?=some (.row (ρ.getD id 0) O.es.length T.size 0 len):=by
  rw[ah yV]
  simp only[List.getD,ah yV,eu]at ha
  rw[ha,hlen];rfl
 obtain⟨e',hle,hI'⟩:=hI.cut hO o3 (by rw[o4];simp) (bD hN hkn) hs?
 have hkH:ρ.getD id 0<σ.h.length:=hS.h.lt oz
 have hmap:X.h.map (F9 id)=X.h.map (lI [id]):=sQ [id] X.h
 have htm:X.t.map (zk id)=X.t.map (uL [id]):=Lh [id] X.t
 rw[hmap,htm]
 have ht:Trn ρ X.h ρ ((X.h.map (lI [id])).set id (.row ty T false (es.take len))) [id]:=Trn.mk (λj oj e hj=>by
  refine⟨lI [id] oj,by rw[aP (λq=>hj (by simp[q])),aK,e];rfl,?_⟩
  cases oj<;>simp[rM,lI]) (λ_ _=>rfl)
 refine⟨F,_,_,ρ,hI',⟨?_,by simp[hS.h.rl],hS.h.nd,λj oj q=>?_⟩,⟨hF.pre,by simpa using hF.ge,λj hj hn=>?_⟩⟩
 ·have hvr:VT ρ ((X.h.map (lI [id])).set id (.row ty T false (es.take len))) (.row id) (.row (ρ.getD id 0) len T.size 0 len):=by
   refine⟨ty,T,false,es.take len,by rw[bg (by simpa using oz)],?_⟩
   rw[jE,Aw (by omega)]
  refine bB.set ⟨by simp[hS.t.1],λi y b p q=>?_⟩ hvr s
  rw[aK]at p q
  cases hy:X.t[i]? with
  |none=>rw[hy]at p;cases p
  |some z =>
   cases hb:σ.t[i]? with
   |none=>rw[hb]at q;cases q
   |some c=>rw[hy]at p;rw[hb]at q;cases p;cases q;exact(hS.t.2 i z c hy hb).off hS.h oz ht
 .have q:((X.h.map (lI [id])).set id (.row ty T false (es.take len)))[j]?=some oj:=q
  by_cases hj:id=j
  .subst hj
   rw[bg (by simpa using oz)]at q
   cases q
   refine⟨{ O with es:=O.es.take len },by show((σ.h.map _).set _ _)[ρ.getD id 0]?=_;rw[bg (by simpa using hkH)],o1,o2,o3,by rw[show({ O with es:=O.es.take len }:ay).fz=O.fz from rfl,o4];simp,?_⟩
   rw[uP];exact o5.take len
  .rw[aP hj,aK]at q
   cases hx:X.h[j]? with
   |none=>rw[hx]at q;cases q
   |some ox =>
    rw[hx]at q;cases q
    have hjl:=(aj.1 hx).1
    obtain⟨O1,hO1,hR⟩:=hS.h.hr j ox hx
    refine⟨_,?_,hR.off (F:=F) (own:=own) (e':=e') hS.h oz ht⟩
    show((σ.h.map _).set _ _)[ρ.getD j 0]?=_
    rw[aP (λq=>hj (hS.h.inj oz hjl q)),aK,hO1];rfl
 .show((σ.h.map _).set _ _)[j]?=_
  rw[aP (by omega),aK,hF.fr j hj hn]
  cases hj0:H0[j]? with
  |none=>rfl
  |some O1 =>
   show some (vV _ _ _ O1)=some O1
   congr 1
   unfold vV
   split
   .rfl
   .rename_i hpr
    have hpr:O1.pr=false:=by simpa using hpr
    have:O1.es.map (qJ F own (own.set (ρ.getD id 0) e'))=O1.es:=by
     refine(gN λe hem=>?_).trans (Bh O1.es)
     obtain⟨i,hi⟩:=dI.1 hem
     have hc:∀c∈e.cells,off1 F own (own.set (ρ.getD id 0) e') c=c:=λc hcm=>by
      obtain⟨k,hk⟩:=dI.1 hcm
      exact JI (hcl j O1 hj0 hpr i k e c hi hk F own _ λi hi=>by rw[aP (by omega)])
     show qJ F own (own.set (ρ.getD id 0) e') e=e
     by_cases hag:∃cs,e=.agg cs
     .obtain⟨cs,rfl⟩:=hag
      show AV.agg (cs.map _)=_
      congr 1
      exact(gN λc hcm=>hc c hcm).trans (Bh cs)
     .rw[Ao λcs q=>hag ⟨cs,q⟩]
      exact hc e (by cases e<;>first|exact aY.2 rfl|exact absurd ⟨_,rfl⟩ hag)
    rw[this]
theorem a05 (hI:Inv Gl F own B w0 σ act w) (hS:Sim ρ X σ) (hF:Frm H0 ρ0 ρ σ.h) {id o ty ty':Nat} {T:Ty} {cs:List XV} (he:X.h[id]?=some (.box ty' cs)) (ho:cs[o]?=some (.k (.slice none 0 0))) (hz:0 < T.size) :
  ∃F' own' σ' ρ',Inv Gl F' own' B w0 σ' act w/\Sim ρ' ⟨X.t,(X.h++[XO.row ty T false []]).set id (.box ty' (cs.set o (.row X.h.length)))⟩ σ'/\Frm H0 ρ0 ρ' σ'.h:=by
 have oz:id<X.h.length:=(aj.1 he).1
 obtain⟨O,hO,o1,o2,o3,o4,e,o5,hc⟩:=hS.h.hr id _ he
 have hkH:ρ.getD id 0<σ.h.length:=hS.h.lt oz
 have hI1:=hI.DI ty T.size true hz
 obtain⟨a,ha,hva⟩:=hc.mF ho
 have hva:a=.v (.slice none 0 0):=hva
 subst hva
 have hrow:R F (own++[⟨none,0,T.size,0⟩]) (.slice none 0 0) (.row σ.h.length 0 T.size 0 0):=by
  rw[<- hI.hl]
  exact .row _ _ _ _ _ _ _ p9 (by simp) ⟨_,_,rfl,by simp,λq=>by simp at q⟩ (λ_=>⟨rfl,by simp,λ_=>⟨_,fE (dD _),by simp⟩⟩) (by first|assumption|(show 0<T.size;omega)|(show 0<_;assumption))
 have hO1:(σ.h++[(⟨ty,T.size,0,true,[]⟩:ay)])[ρ.getD id 0]?=some O:=by rw[aL hkH];exact hO
 have hI2:=hI1.a6z hO1 o5 o3 ha hrow rfl
 obtain⟨u1,u2⟩:=tN (ty:=ty) (ys:=([]:List T.den)) (as:=[]) hS.h rfl .nil
 have he1:(X.h++[XO.row ty T false []])[id]?=some (.box ty' cs):=by rw[aL oz];exact he
 have hg:(ρ++[σ.h.length]).getD id 0=ρ.getD id 0:=kZ (by rw[hS.h.rl];exact oz)
 have hcl:=Cc (e:=e) (a:=.row σ.h.length 0 T.size 0 0) rfl ha
 have hob:vo (ρ++[σ.h.length]) (X.h++[XO.row ty T false []]) (.box ty' (cs.set o (.row X.h.length))) { O with es:=[Ce e o (.row σ.h.length 0 T.size 0 0)] }:=by
  refine⟨o1,by simpa using o2,o3,o4,_,rfl,?_⟩
  rw[hcl]
  refine bB.set ?_ u2 o
  have:=u1.tr.cells hc
  rw[vY]at this
  exact this
 have u3:=Upd.set u1.hs he1 (o':=.box ty' (cs.set o (.row X.h.length))) trivial hob
 have u4:=u1.trans u3 hS.h.rl
 rw[hg]at u4
 refine⟨F,_,_,ρ++[σ.h.length],hI2,?_,hF.upd hS.h.rl u4⟩
 exact qg (X:=X) (kl:=[]) hS.t u4 (v:=.any) (a:=.any) trivial none
theorem a06 (hI:Inv Gl F own B w0 σ act w) (hS:Sim ρ X σ) (hF:Frm H0 ρ0 ρ σ.h) {s o ty:Nat} {T:Ty} {cs:List XV} (hk:X.t.getD s .any=.agg cs) (ho:cs[o]?=some (.k (.slice none 0 0))) (hz:0 < T.size) :
  ∃F' own' σ' ρ',Inv Gl F' own' B w0 σ' act w/\Sim ρ' ⟨X.t.set s (.agg (cs.set o (.row X.h.length))),X.h++[XO.row ty T false []]⟩ σ'/\Frm H0 ρ0 ρ' σ'.h:=by
 have hsl:s<X.t.length:=by
  rcases bK s X.t.length with q|q
  .exact q
  .simp[List.getD,aR q]at hk
 have yV:s<σ.t.length:=by rw[<- hS.t.1];exact hsl
 have hst:s<act.tmps.size:=by rw[hI.tl];exact yV
 have hv:=pY hS.t s
 rw[hk]at hv
 obtain⟨as,has,hc⟩:=hv
 have hs?:σ.t[s]?=some (.agg as):=by
  rw[ah yV]
  simp only[List.getD,ah yV,eu]at has
  rw[has]
 obtain⟨a,ha,hva⟩:=hc.mF ho
 have hva:a=.v (.slice none 0 0):=hva
 subst hva
 have hI1:=hI.DI ty T.size true hz
 have hrow:R F (own++[⟨none,0,T.size,0⟩]) (.slice none 0 0) (.row σ.h.length 0 T.size 0 0):=by
  rw[<- hI.hl]
  exact .row _ _ _ _ _ _ _ p9 (by simp) ⟨_,_,rfl,by simp,λq=>by simp at q⟩ (λ_=>⟨rfl,by simp,λ_=>⟨_,fE (dD _),by simp⟩⟩) (by first|assumption|(show 0<T.size;omega)|(show 0<_;assumption))
 have hR:=hI1.tr s _ _ (aF hst) hs?
 have hag:R F (own++[⟨none,0,T.size,0⟩]) act.tmps[s] (.agg (as.set o (.row σ.h.length 0 T.size 0 0))):=by
  obtain⟨xs,hxs,hl,h1,hRc⟩:=hR.ku
  rw[hxs]
  refine .agg xs _ (by simp[hl]) h1 λj x b p q=>?_
  rw[dn]at q
  split at q
  .rename_i hj
   subst hj
   split at q
   .cases q
    have:=(hRc o x _ p ha).dN
    subst this
    exact hrow
   .cases q
  .exact hRc j x b p q
 obtain⟨u1,u2⟩:=tN (ty:=ty) (ys:=([]:List T.den)) (as:=[]) hS.h rfl .nil
 have hI2:=hI1.put hag (some s)
 rw[Qj hst]at hI2
 refine⟨F,_,_,ρ++[σ.h.length],hI2,?_,hF.upd hS.h.rl u1⟩
 refine qg (X:=X) (kl:=[]) hS.t u1 (v:=.agg (cs.set o (.row X.h.length))) (a:=.agg (as.set o (.row σ.h.length 0 T.size 0 0))) ⟨_,rfl,?_⟩ (some s)
 refine bB.set ?_ u2 o
 have:=u1.tr.cells hc
 rw[vY]at this
 exact this
theorem VZ{T:Ty}{b:AV}{x:T.den}(h:Wp b (Ty.enc T x))(hT:T.nZ=false):b.cells=[b]:=by
 have hs:=Ru T x
 generalize Ty.enc T x=e at h hs
 cases h with
 |agg=>simp only[shp]at hs;rw[hT]at hs;cases hs
 |refl =>
  cases b with
  |agg cs=>simp only[shp]at hs;rw[hT]at hs;cases hs
  |_=>rfl
 |_=>rfl
theorem a07 (hI:Inv Gl F own B w0 σ act w) (hS:Sim ρ X σ) (hF:Frm H0 ρ0 ρ σ.h) {id o ty':Nat} {T:Ty} {cs:List XV} {c:XV} {x:T.den} (he:X.h[id]?=some (.box ty' cs)) (ho:cs[o]?=some c) (hx:toD X.h T c=some x) (hT:T.nZ=false) :
  ∃F' own' σ' ρ',Inv Gl F' own' B w0 σ' act w/\Sim ρ' ⟨X.t,(kg X.h (eZ c)).set id (.box ty' (cs.set o (.d T x)))⟩ σ'/\Frm H0 ρ0 ρ' σ'.h:=by
 have oz:id<X.h.length:=(aj.1 he).1
 obtain⟨O,hO,o1,o2,o3,o4,e,o5,hc⟩:=hS.h.hr id _ he
 have hkH:ρ.getD id 0<σ.h.length:=hS.h.lt oz
 obtain⟨a,ha,hva⟩:=hc.mF ho
 obtain⟨b,k1,k2,k3,k4⟩:=wX hS.h hx (VA.of1 hva)
 obtain⟨F1,hF1,hI1,hkp⟩:=hI.r9 (dJ a)
 have hu:=Upd.frz _ hS.h k4
 rw[<- k3]at hu
 have hni:∀j∈eZ c,j≠id:=λj hj q=>by
  obtain⟨ty,T',fz,es,e'⟩:=k4 j hj
  rw[q,he]at e';cases e'
 have he1:(kg X.h (eZ c))[id]?=some (.box ty' cs):=by
  have key:∀(ids:List Nat) (g:List XO),(∀j∈ids,j≠id)->(kg g ids)[id]?=g[id]?:=by
   intro ids
   induction ids with
   |nil=>intro g _;rfl
   |cons j ids ih =>
    intro g hn
    simp only[kg,fu]
    have:=λg=>ih g λi hi=>hn i (by simp[hi])
    simp only[kg]at this
    rw[this]
    cases hg:g[j]? with
    |none=>rfl
    |some o=>exact aP (hn j (by simp))
  rw[key _ _ hni];exact he
 have hO1:(freeze σ.h (dJ a))[ρ.getD id 0]?=some O:=by
  rw[hu.fr _ hkH (λj hj hjl q=>hni j hj (hS.h.inj hjl oz q))];exact hO
 have hbc:=VZ k2 hT
 have hI2:=hI1.YP hO1 o5 o3 ha (a':=b) (λen g cs' fr y p1 p2 p3 p4 p5=>by
  obtain⟨q1,q2,q3,q4,q5,q6,q7,q8⟩:=hI.objs _ en O p1 hO
  rw[p2]at q8
  obtain⟨cs2,⟨fr2,r1,_⟩,r2,r3,r4⟩:=q8
  rw[p3]at r1
  cases r1
  obtain⟨y',s1,s2,s3⟩:=r3 0 o e a (by rw[o5];rfl) ha
  rw[p4]at s1
  cases s1
  unfold RC at s3
  rw[if_neg (by rw[o3];simp)]at s3
  exact .pure (nO hI hF1 s3 k1 hkp).1) hbc
 have hcl:=Cc (e:=e) (a:=b) hbc ha
 have hob:vo ρ (kg X.h (eZ c)) (.box ty' (cs.set o (.d T x))) { O with es:=[Ce e o b] }:=by
  refine⟨o1,by simpa using o2,o3,o4,_,rfl,?_⟩
  rw[hcl]
  refine bB.set ?_ (show V1 ρ (kg X.h (eZ c)) (.d T x) b from k2) o
  have:=hu.tr.cells hc
  rw[vY]at this
  exact this
 have u3:=Upd.set hu.hs he1 (o':=.box ty' (cs.set o (.d T x))) trivial hob
 have u4:=hu.trans u3 hS.h.rl
 refine⟨F1,_,_,ρ,hI2,?_,hF.upd hS.h.rl u4⟩
 exact qg (X:=X) (kl:=[]) hS.t u4 (v:=.any) (a:=.any) trivial none
theorem a5d{nf:Nat}(hnf:nf=ρ0.length)(hN:w0.N<=H0.length)(hcl:ClH H0.length H0)(hI:Inv Gl F own B w0 σ act w)(hS:Sim ρ X σ)(hF:Frm H0 ρ0 ρ σ.h)(p:Pre):∃F' own' σ' ρ',Inv Gl F' own' B w0 σ' act w/\Sim ρ' (Ak nf X p) σ'/\Frm H0 ρ0 ρ' σ'.h:=by
 cases p with
 |gh s ty T =>
  simp only[Ak]
  split
  .rename_i hk
   split
   .rename_i hz
    have hz:=wE hz
    have hsl:s<X.t.length:=by
     rcases bK s X.t.length with q|q
     .exact q
     .simp[List.getD,aR q]at hk
    have yV:s<σ.t.length:=by rw[<- hS.t.1];exact hsl
    have hv:=pY hS.t s
    rw[hk]at hv
    have ha:=G6 hv
    have hs?:σ.t[s]?=some (.v (.slice none 0 0)):=by
     rw[ah yV]
     simp only[List.getD,ah yV,eu]at ha
     rw[ha]
    obtain⟨own',hI'⟩:=hI.Yl (s,ty,T.size)
    have hgh:ghost σ (s,ty,T.size)=⟨σ.t.set s (.row σ.h.length 0 T.size 0 0),σ.h++[⟨ty,T.size,0,true,[]⟩]⟩:=by
     simp only[ghost,hs?,hz,if_true]
    rw[hgh]at hI'
    obtain⟨u1,u2⟩:=tN (ty:=ty) (ys:=([]:List T.den)) (as:=[]) hS.h rfl .nil
    refine⟨F,own',_,ρ++[σ.h.length],hI',?_,?_⟩
    .exact qg (X:=X) (kl:=[]) hS.t u1 (VT.of1 u2) (some s)
    .exact hF.upd hS.h.rl u1
   .exact⟨F,own,σ,ρ,hI,hS,hF⟩
  .exact⟨F,own,σ,ρ,hI,hS,hF⟩
 |fz s T =>
  simp only[Ak]
  split
  .rename_i x hx
   have hsl:s<X.t.length:=by
    rcases bK s X.t.length with q|q
    .exact q
    .rw[show X.t.getD s .any=.any by simp[List.getD,aR q]]at hx
     cases T<;>simp[toD,lst]at hx
   have yV:s<σ.t.length:=by rw[<- hS.t.1];exact hsl
   have hst:s<act.tmps.size:=by rw[hI.tl];exact yV
   have hv:=pY hS.t s
   have hnt:∀us,X.t.getD s .any≠.tup us:=λus q=>by
    rw[q]at hx
    cases T<;>simp[toD,lst]at hx
   obtain⟨b,k1,k2,k3,k4⟩:=wX hS.h hx (hv.vW hnt)
   obtain⟨F1,hF1,hI1,hkp⟩:=hI.r9 (dJ (σ.t.getD s .any))
   have hsg:σ.t[s]?=some (σ.t.getD s .any):=by simp[List.getD,ah yV]
   have hR:=hI.tr s _ _ (aF hst) hsg
   obtain⟨r1,_,_⟩:=nO hI hF1 hR k1 hkp
   have hI2:=hI1.put (.pure r1) (some s)
   rw[Qj hst]at hI2
   have hu:=Upd.frz _ hS.h k4
   rw[<- k3]at hu
   refine⟨F1,own,_,ρ,hI2,?_,?_⟩
   .exact qg (X:=X) (kl:=[]) hS.t hu (a0w k2) (some s)
   .exact hF.upd hS.h.rl hu
  .exact⟨F,own,σ,ρ,hI,hS,hF⟩
 |ghc s o ty T =>
  simp only[Ak]
  split
  case h_2=>exact⟨F,own,σ,ρ,hI,hS,hF⟩
  split
  case h_2=>exact⟨F,own,σ,ρ,hI,hS,hF⟩
  rename_i he
  split
  case h_2=>exact⟨F,own,σ,ρ,hI,hS,hF⟩
  rename_i ho
  split
  .rename_i hz
   exact a05 hI hS hF he ho (wE hz)
  .exact⟨F,own,σ,ρ,hI,hS,hF⟩
 |gha s o ty T =>
  simp only[Ak]
  split
  case h_2=>exact⟨F,own,σ,ρ,hI,hS,hF⟩
  rename_i hk
  split
  case h_2=>exact⟨F,own,σ,ρ,hI,hS,hF⟩
  rename_i ho
  split
  .rename_i hz
   exact a06 hI hS hF hk ho (wE hz)
  .exact⟨F,own,σ,ρ,hI,hS,hF⟩
 |tr s =>
  simp only[Ak]
  split
  case h_2=>exact⟨F,own,σ,ρ,hI,hS,hF⟩
  rename_i id off len hk
  split
  case h_2=>exact⟨F,own,σ,ρ,hI,hS,hF⟩
  rename_i ty T fz es he
  split
  .rename_i hb
   simp only[au,fH]at hb
   have h0:=beq_eq hb.1.1
   have hf:=hb.2
   subst h0 hf
   exact a5c hnf hN hcl hI hS hF hk he (aZ hb.1.2)
  .exact⟨F,own,σ,ρ,hI,hS,hF⟩
 |fzc s o T =>
  simp only[Ak]
  split
  case h_2=>exact⟨F,own,σ,ρ,hI,hS,hF⟩
  split
  case h_2=>exact⟨F,own,σ,ρ,hI,hS,hF⟩
  rename_i he
  split
  case h_2=>exact⟨F,own,σ,ρ,hI,hS,hF⟩
  rename_i ho
  split
  case h_2=>exact⟨F,own,σ,ρ,hI,hS,hF⟩
  rename_i hx
  split
  .exact⟨F,own,σ,ρ,hI,hS,hF⟩
  .rename_i hT
   exact a07 hI hS hF he ho hx (by simpa using hT)
theorem Oe{nf:Nat}(hnf:nf=ρ0.length)(hN:w0.N<=H0.length)(hcl:ClH H0.length H0)(pre:List Pre):∀{X:XS} {F:Addr->Option Value} {own:List Ent} {σ:St} {ρ:List Nat},Inv Gl F own B w0 σ act w->Sim ρ X σ->Frm H0 ρ0 ρ σ.h->∃F' own' σ' ρ',Inv Gl F' own' B w0 σ' act w/\Sim ρ' (xC nf pre X) σ'/\Frm H0 ρ0 ρ' σ'.h:=by
 induction pre with
 |nil=>intro X F own σ ρ hI hS hF;exact⟨F,own,σ,ρ,hI,hS,hF⟩
 |cons p pre ih =>
  intro X F own σ ρ hI hS hF
  obtain⟨F',own',σ',ρ',a,b,d⟩:=a5d hnf hN hcl hI hS hF p
  exact ih a b d
theorem Tp:∀(n j:Nat) (l:List Nat),vw n j l=true->∃r,l=List.range' j n++r:=by
 intro n
 induction n with
 |zero=>intro j l _;exact⟨l,by simp⟩
 |succ n ih =>
  intro j l h
  cases l with
  |nil=>simp[vw]at h
  |cons a l =>
   simp only[vw,au]at h
   have:=beq_eq h.1
   subst this
   obtain⟨r,rfl⟩:=ih (a+1) l h.2
   exact⟨r,by simp[nV]⟩
theorem Ka{H:List ay}{foc:List Nat}{nf:Nat}{h:List XO}(hs:HS ρ h H)(hF:Frm H0 ρ0 ρ H)(hnf:nf=ρ0.length)(hst:vw nf 0 foc=true)(hnd:foc.Nodup)(hlt:∀id∈foc,id<h.length):Frm H0 ρ0 (foc.map λid=>ρ.getD id 0) H:=by
 subst hnf
 obtain⟨r,rfl⟩:=Tp _ _ _ hst
 obtain⟨l,hl,hq⟩:=hF.pre
 refine⟨⟨r.map λid=>ρ.getD id 0,?_,λx hx=>?_⟩,hF.ge,hF.fr⟩
 .rw[bJ]
  congr 1
  apply List.ext_getElem
  .simp
  .intro i h1 h2
   simp only[bN,List.length_range']at h1
   simp only[List.getElem_map,List.getElem_range',dD,iP]
   rw[hl,kZ h1]
   simp[List.getD,ah h1]
 .obtain⟨id,hid,rfl⟩:=bT.1 hx
  have hge:ρ0.length<=id:=by
   rcases bK id ρ0.length with q|q
   .exfalso
    rw[nC]at hnd
    exact hnd.2.2 id (by simp[List.mem_range'_1,q]) id hid rfl
   .exact q
  have oz:id<ρ.length:=by rw[hs.rl];exact hlt id (by simp[hid])
  rw[hl]at oz ⊢
  simp only[ak]at oz
  have:(ρ0++l).getD id 0=l[id-ρ0.length]'(by omega):=by
   simp only[List.getD]
   rw[aO hge,ah (by omega)];rfl
  rw[this]
  exact hq _ (jF _)
theorem Kk{nf:Nat}(hN:w0.N<=H0.length)(hcl:ClH H0.length H0){pre:List Pre}{sh:Sh}{s:Ty.bP sh.tys}(hI:Inv Gl F own B w0 σ act w)(hS:Sim ρ X σ)(hF:Frm H0 ρ0 ρ σ.h)(hnf:nf=ρ0.length)(hx:zV nf pre sh X=some s):∃F' own' σ' ρ',Inv Gl F' own' B w0 σ' act w/\Sim ρ' (emb sh s) σ'/\Frm H0 ρ0 ρ' σ'.h:=by
 obtain⟨F',own',σ',ρ',hI',hS',hF'⟩:=Oe hnf hN hcl pre hI hS hF
 unfold zV at hx
 split at hx
 .rename_i foc x he
  split at hx
  .rename_i hb
   cases hx
   simp only[au]at hb
   have hn:(xC nf pre X).t.length=sh.n:=by
    have h1:=beq_eq hb.2
    rw[<- h1,hS'.t.1,hS.t.1,<- hI'.tl,<- hI.tl]
   obtain⟨e1,e2,e3,e4⟩:=BG hS'.t hS'.h hn he
   exact⟨F',own',σ',_,hI',e1,Ka hS'.h hF' hnf hb.1 e4 e2⟩
  .cases hx
 .cases hx
def Std{β:Type}(H0:List ay)(ρ0:List Nat)(K:Exit->XS->Option β)(r:β)(e:Exit)(τ:St):Prop:=∃ρ' X',Sim ρ' X' τ/\Frm H0 ρ0 ρ' τ.h/\K e X'=some r
theorem SY (hc:oO P c) (hm:P.follows .mixedOrders=true) {hl0:List Nat} {N nf:Nat} (hN:w0.N=N) (hN0:w0.N<=H0.length) (hcl:ClH H0.length H0) (hnf:nf=ρ0.length):∀ (code:Code) (xc:XC),cC P hl0 code=some xc.er->∀ (β:Type) (K:Exit->XS->Option β) (r:β) (X:XS) (ρ:List Nat) (σ:St) (F:Addr->Option Value) (own:List Ent) (act:Act) (w:World),
  xwp c nf xc β K X=some r->Sim ρ X σ->Frm H0 ρ0 ρ σ.h->Inv (gx c.GX) F own B w0 σ act w->code.wp P (λe a w=>NG e/\mh (gx c.GX) B w0 (Std H0 ρ0 K r e) a w) act w:=by
 intro code
 induction code with
 |skip =>
  intro xc hcc β K r X ρ σ F own act w hx hS hF hI
  cases xc<;>simp only[cC,XC.er,dM,reduceCtorEq]at hcc
  exact wp_skip ⟨lQ,F,own,σ,hI,ρ,X,hS,hF,hx⟩
 |region id ops draw =>
  intro xc hcc β K r X ρ σ F own act w hx hS hF hI
  refine zq hm hN _ _ hcc _ σ F own act w ?_ hI
  have hsp:SpR ρ X.h σ []:=λq hq=>by simp at hq
  cases xc with
  |ops d l=>exact a4s hc l X [] ρ σ hS hsp hF hx
  |qd U l =>
   refine⟨(U.filter λj=>Nat.blt j X.h.length).map λj=>ρ.getD j 0,a0o (m:=X.h.length) (N:=σ.h.length) (U:=U) hc l X [] ρ σ hS hsp hF (λi hi hi'=>⟨hS.h.lt hi,λq=>?_,λq=>bT.2 ⟨i,eD.2 ⟨q,dU hi⟩,rfl⟩⟩) (λi hi hi'=>by rw[hS.h.rl]at hi';omega) (bq _) (bq _) hx⟩
   obtain⟨j,hj,he⟩:=bT.1 q
   obtain⟨h1,h2⟩:=eD.1 hj
   have:=getD_inj hS.h.nd (by rw[hS.h.rl];exact wE h2) hi' he
   subst this;exact h1
  |_ =>
   exfalso
   cases draw with
   |false =>
    simp only[cC,XC.er]at hcc
    rw[dK]at hcc
    obtain⟨_,_,q⟩:=hcc
    cases q
   |true =>
    simp only[cC,XC.er]at hcc
    repeat' (split at hcc)
    all_goals cases hcc
 |seq a b iha ihb =>
  intro xc hcc β K r X ρ σ F own act w hx hS hF hI
  simp only[cC]at hcc
  split at hcc
  .rename_i x y hxa hyb
   cases xc<;>simp only[XC.er,dM,reduceCtorEq,C.seq.injEq]at hcc
   case seq xa xb =>
    obtain⟨rfl,rfl⟩:=hcc
    refine wp_seq (wp_mono (iha xa hxa β _ r X ρ σ F own act w hx hS hF hI) ?_)
    rintro e a1 w1 ⟨ng,F1,dA,τ,hI1,ρ1,X1,hS1,hF1,hK⟩
    cases e with
    |normal=>exact ihb xb hyb β K r X1 ρ1 τ F1 dA a1 w1 hK hS1 hF1 hI1
    |_=>exact⟨ng,F1,dA,τ,hI1,ρ1,X1,hS1,hF1,hK⟩
   case Tz pre sh xa xb =>
    obtain⟨rfl,rfl⟩:=hcc
    simp only[xwp]at hx
    generalize hA:xwp c nf xa (Ty.bP sh.tys⊕β) (λe Y=>match e with
     |.normal=>match zV nf pre sh Y with
      |some s'=>some (.inl s')
      |none=>none
     |e=>Option.map Sum.inr (K e Y)) X=oA at hx
    unfold jZ at hx
    split at hx
    .rename_i s0
     refine wp_seq (wp_mono (iha xa hxa _ _ _ X ρ σ F own act w hA hS hF hI) ?_)
     rintro e a1 w1 ⟨ng,F1,dA,τ,hI1,ρ1,X1,hS1,hF1,hK⟩
     cases e with
     |normal =>
      simp only at hK
      split at hK
      .rename_i s2 hs2
       cases hK
       obtain⟨F2,yQ,σ2,ρ2,hI2,hS2,hF2⟩:=Kk hN0 hcl hI1 hS1 hF1 hnf hs2
       exact ihb xb hyb β K r _ ρ2 σ2 F2 yQ a1 w1 hx hS2 hF2 hI2
      .cases hK
     |_ =>
      simp only[dK]at hK
      obtain⟨_,_,q⟩:=hK
      cases q
    .rename_i r0
     cases hx
     refine wp_seq (wp_mono (iha xa hxa _ _ _ X ρ σ F own act w hA hS hF hI) ?_)
     rintro e a1 w1 ⟨ng,F1,dA,τ,hI1,ρ1,X1,hS1,hF1,hK⟩
     cases e with
     |normal =>
      simp only at hK
      split at hK<;>cases hK
     |_ =>
      simp only[dK]at hK
      obtain⟨r2,hr2,q⟩:=hK
      cases q
      exact⟨ng,F1,dA,τ,hI1,ρ1,X1,hS1,hF1,hr2⟩
    .cases hx
  .cases hcc
 |cond c0 a b iha ihb =>
  intro xc hcc β K r X ρ σ F own act w hx hS hF hI
  simp only[cC]at hcc
  split at hcc
  .rename_i x y hxa hyb
   cases xc<;>simp only[XC.er,dM,reduceCtorEq,C.cond.injEq]at hcc
   rename_i o xa xb
   obtain⟨rfl,rfl,rfl⟩:=hcc
   simp only[xwp]at hx
   have hv:=Bp (c:=c) hS (bF c0)
   split at hx
   case h_2=>cases hx
   rename_i t ht
   rw[ht]at hv
   have hva:=tC hv
   have he:=hI.ev c0
   rw[hva]at he
   refine wp_cond he.dN ?_
   have lit:∀v:Bool,St.val (gx c.GX) σ (bF c0)=.v (.bool v)->Sim ρ (JY (bF c0) v X) σ:=by
    intro v hv
    unfold JY
    split
    .rename_i i hi
     rw[hi]at hv
     exact⟨NW hS.t hv,hS.h⟩
    .exact hS
   have key:∀v:Bool,St.val (gx c.GX) σ (bF c0)=.v (.bool v)->cond v (xwp c nf xa β K (JY (bF c0) true X)) (xwp c nf xb β K (JY (bF c0) false X))=some r->Code.wp P (if v=true then a else b) (λe a w=>NG e/\mh (gx c.GX) B w0 (Std H0 ρ0 K r e) a w) act w:=by
    intro v hv hx
    cases v with
    |true=>simp only[if_true];exact iha xa hxa β K r _ ρ σ F own act w hx (lit true hv) hF hI
    |false=>simp only[cK,if_false];exact ihb xb hyb β K r _ ρ σ F own act w hx (lit false hv) hF hI
   exact key t hva hx
  .cases hcc
 |block id b ih =>
  intro xc hcc β K r X ρ σ F own act w hx hS hF hI
  simp only[cC]at hcc
  cases hb:cC P hl0 b with
  |none=>rw[hb]at hcc;cases hcc
  |some x =>
   rw[hb]at hcc
   cases xc<;>simp only[XC.er,aW,dM,reduceCtorEq,C.block.injEq]at hcc
   rename_i id' xb
   obtain⟨rfl,rfl⟩:=hcc
   refine wp_block (wp_mono (ih xb hb β _ r X ρ σ F own act w hx hS hF hI) ?_)
   rintro e a1 w1 ⟨ng,F1,dA,τ,hI1,ρ1,X1,hS1,hF1,hK⟩
   cases e with
   |exit i =>
    simp only at hK
    simp only[Exit.inBlock]
    by_cases hi:i=id
    .rw[if_pos (by rw[hi];simp)]at hK
     rw[if_pos hi]
     exact⟨lQ,F1,dA,τ,hI1,ρ1,X1,hS1,hF1,hK⟩
    .rw[if_neg (λq=>hi (beq_eq q))]at hK
     rw[if_neg hi]
     exact⟨Br _,F1,dA,τ,hI1,ρ1,X1,hS1,hF1,hK⟩
   |_=>exact⟨ng,F1,dA,τ,hI1,ρ1,X1,hS1,hF1,hK⟩
 |loop b ih =>
  intro xc hcc β K r X ρ σ F own act w hx hS hF hI
  simp only[cC]at hcc
  cases hb:cC P hl0 b with
  |none=>rw[hb]at hcc;cases hcc
  |some x =>
   rw[hb]at hcc
   cases xc<;>simp only[XC.er,aW,dM,reduceCtorEq,C.loop.injEq]at hcc
   case loop pre sh xb =>
    subst hcc
    simp only[xwp]at hx
    split at hx
    case h_2=>cases hx
    rename_i s0 hs0
    obtain⟨F0,AY,σ0,ρ0',hI0,hS0,hF0⟩:=Kk hN0 hcl hI hS hF hnf hs0
    obtain⟨n,hn⟩:=zi.1 hx
    have key:∀ (n:Nat) (s:Ty.bP sh.tys) (ρ:List Nat) (σ:St) (F:Addr->Option Value) (own:List Ent) (act:Act) (w:World),xB (fun s=>xwp c nf xb (Ty.bP sh.tys ⊕ β) (fun e Y=>match e with
      |.normal=>match zV nf pre sh Y with
       |some s'=>some (.inl s')
       |none=>none
      |e=>Option.map Sum.inr (K e Y)) (emb sh s)) n s=some r->Sim ρ (emb sh s) σ->Frm H0 ρ0 ρ σ.h->Inv (gx c.GX) F own B w0 σ act w->Code.rounds P b (λe a w=>NG e/\mh (gx c.GX) B w0 (Std H0 ρ0 K r e) a w) n act w:=by
     intro n
     induction n with
     |zero=>intro s ρ σ F own act w hr;cases hr
     |succ n ihn =>
      intro s ρ σ F own act w hr hS hF hI
      simp only[xB]at hr
      rw[rounds_succ]
      split at hr
      .rename_i s' hs'
       refine wp_mono (ih xb hb _ _ _ _ ρ σ F own act w hs' hS hF hI) ?_
       rintro e a1 w1 ⟨ng,F1,dA,τ,hI1,ρ1,X1,hS1,hF1,hK⟩
       cases e with
       |normal =>
        simp only at hK
        split at hK
        .rename_i s2 hs2
         cases hK
         obtain⟨F2,yQ,σ2,ρ2,hI2,hS2,hF2⟩:=Kk hN0 hcl hI1 hS1 hF1 hnf hs2
         exact ihn s' ρ2 σ2 F2 yQ a1 w1 hr hS2 hF2 hI2
        .cases hK
       |_ =>
        simp only[dK]at hK
        obtain⟨_,_,q⟩:=hK
        cases q
      .rename_i r' hs'
       cases hr
       refine wp_mono (ih xb hb _ _ _ _ ρ σ F own act w hs' hS hF hI) ?_
       rintro e a1 w1 ⟨ng,F1,dA,τ,hI1,ρ1,X1,hS1,hF1,hK⟩
       cases e with
       |normal =>
        simp only at hK
        split at hK<;>cases hK
       |_ =>
        simp only[dK]at hK
        obtain⟨r2,hr2,q⟩:=hK
        cases q
        exact⟨ng,F1,dA,τ,hI1,ρ1,X1,hS1,hF1,hr2⟩
      .cases hr
    exact wp_loop_rounds n (key n s0 ρ0' σ0 F0 AY act w hn hS0 hF0 hI0)
 |exit id =>
  intro xc hcc β K r X ρ σ F own act w hx hS hF hI
  cases xc<;>simp only[cC,XC.er,dM,reduceCtorEq,C.exit.injEq]at hcc
  subst hcc
  exact wp_exit ⟨Br _,F,own,σ,hI,ρ,X,hS,hF,hx⟩
 |ret =>
  intro xc hcc β K r X ρ σ F own act w hx hS hF hI
  cases xc<;>simp only[cC,XC.er,dM,reduceCtorEq]at hcc
  exact wp_ret ⟨OA,F,own,σ,hI,ρ,X,hS,hF,hx⟩
 |label l =>
  intro xc hcc β K r X ρ σ F own act w hx hS hF hI
  cases xc<;>simp only[cC,XC.er,dM,reduceCtorEq]at hcc
  exact wp_label ⟨lQ,F,own,σ,hI,ρ,X,hS,hF,hx⟩
 |scope b ih =>
  intro xc hcc β K r X ρ σ F own act w hx hS hF hI
  refine wp_scope_straight (wp_mono (ih xc hcc β K r X ρ σ F own act w hx hS hF hI) ?_)
  rintro e a1 w1 ⟨ng,hK⟩
  cases e with
  |goto l=>exact absurd rfl (ng l)
  |_=>exact⟨ng,hK⟩
 |_=>intro xc hcc;cases hcc
theorem D9 (hc:oO P c) (hm:P.follows .mixedOrders=true) {hl0:List Nat} {N nf:Nat} (hN:w0.N=N) (hN0:w0.N<=H0.length) (hcl:ClH H0.length H0) (hnf:nf=ρ0.length):∀ (code:Code) (xc:XC),cC P hl0 code=some xc.er->∀ (β:Type) (K:Exit->XS->Option β) (r:β) (X:XS) (ρ:List Nat) (σ:St) (F:Addr->Option Value) (own:List Ent) (act:Act) (w:World),
  xwp c nf xc β K X=some r->Sim ρ X σ->Frm H0 ρ0 ρ σ.h->Inv (gx c.GX) F own B w0 σ act w->code.wp P (λe a w=>mh (gx c.GX) B w0 (Std H0 ρ0 K r e) a w) act w:=by
 intro code xc hcc β K r X ρ σ F own act w hx hS hF hI
 exact wp_mono (SY hc hm hN hN0 hcl hnf code xc hcc β K r X ρ σ F own act w hx hS hF hI) λe a w h=>h.2
end
section
variable{P:Program}{c:Cfg}{ρ:List Nat}{X:XS}{σ:St}
theorem FY(hS:Sim ρ X σ):∀(rv:List RV) (vs:List XV),xX c X rv=some vs->∃p l,uj (gx c.GX) σ rv=some (p,l)/\p/\bB (VT ρ X.h) vs l:=by
 intro rv
 induction rv with
 |nil=>intro vs h;cases h;exact⟨True,[],rfl,trivial,.nil⟩
 |cons v rv ih =>
  intro vs h
  cases v with
  |t i =>
   simp only[xX]at h
   split at h
   .rename_i l hl
    cases h
    obtain⟨p,m,h1,h2,h3⟩:=ih l hl
    exact⟨p,_,by simp only[uj,h1,aW],h2,.cons (pY hS.t i) h3⟩
   .cases h
  |c i sz ag =>
   simp only[xX]at h
   split at h
   .rename_i v1 kl h' l hst hl
    cases h
    obtain⟨p,m,h1,h2,h3⟩:=ih l hl
    obtain⟨q,a,H',ρ',tch,e1,e2,e3,e4,e5⟩:=Da (.load sz ag (.t i)) hS.h (Bp hS) _ _ _ _ hst rfl
    obtain⟨c1,c2⟩:=Db (i:=.load sz ag (.t i)) (by simp[I.cls]) hst
    subst c1 c2
    have hρ:=Kz e3 hS.h.rl rfl
    subst hρ
    exact⟨q/\p,a::m,by simp only[uj,e1,h1],⟨e2,h2⟩,.cons e4 h3⟩
   .cases h
theorem a2v:∀(ps:List Ty) (x:Ty.bP ps),(encs ps x).length=ps.length:=by
 intro ps
 induction ps with
 |nil=>intro x;rfl
 |cons T ps ih=>intro x;simp only[encs,bf,ih]
theorem KA(ρ:List Nat)(h:List XO)(n:Nat):bB (VT ρ h) (List.replicate n .any) (List.replicate n AV.any) :=
 ⟨by simp,λi x a p q=>by
  have:=gD (bO p)
  subst this;trivial⟩
theorem O7{Gl:Nat->Option (List AV)}{rv:List RV}{p:Prop}{l:List AV}(e1:uj Gl σ rv=some (p,l))(hone:¬∃a,l=[a]):yO Gl σ rv=some (p,.tup l):=by
 unfold yO
 rw[e1]
 match l,hone with
 |[],_=>rfl
 |[a],h=>exact absurd ⟨a,rfl⟩ h
 |a::b::l,_=>rfl
theorem a6m{rv:List RV}{rs:List Ty}{y:Ty.bP rs}{e:Exit}(hS:Sim ρ X σ)(hK:T9 c rv rs e X=some y):Ends (gx c.GX) rv (qh (encs rs y)) e σ:=by
 have key:∀vs,xX c X rv=some vs->zu X.h rs vs=some y->∃p a b,yO (gx c.GX) σ rv=some (p,a)/\p/\yg σ.h a=some b/\Wk b (qh (encs rs y)):=by
  intro vs h1 h2
  obtain⟨p,l,e1,e2,e3⟩:=FY hS rv vs h1
  obtain⟨bs,k1,k2,k3,k4⟩:=Qf hS.h rs vs y l h2 e3
  by_cases hone:∃a,l=[a]
  .obtain⟨a,rfl⟩:=hone
   obtain⟨v,vs',rfl,hv,hvs⟩:=e3.cons_right
   have:=hvs.Lb
   subst this
   simp only[dY]at k1
   split at k1
   .rename_i b l' hb hl'
    cases hl'
    cases k1
    obtain⟨en,r,he,hw,ht⟩:=k2.iW
    have hr:=ht.lH
    subst hr
    refine⟨p,a,b,by simp only[yO,e1],e2,?_,?_⟩
    ·have hnt:∀ us,a ≠ .tup us:=fun us q=>by
      subst q
      simp[jT,nE]at hb
     cases a<;>first|exact hb|exact absurd rfl (hnt _)
    .rw[he];exact hw.wk
   .cases k1
  .refine⟨p,.tup l,.tup bs,?_,e2,by simp only[yg,k1,aW],?_⟩
   .exact O7 e1 hone
   ·have hlen:l.length=(encs rs y).length:=by
     have h3:=k2.1
     have:∀{as bs:List AV},dY σ.h as=some bs->as.length=bs.length:=by
      intro as
      induction as with
      |nil=>intro bs q;cases q;rfl
      |cons a as ih =>
       intro bs q
       simp only[dY]at q
       split at q
       .rename_i b m _ hm;cases q;simp[ih hm]
       .cases q
     rw[this k1,h3]
    have hot:qh (encs rs y)=.tup (encs rs y):=by
     unfold qh
     split
     .rename_i a ha
      exfalso
      rw[ha]at hlen
      match l,hlen with
      |[x],_=>exact hone ⟨x,rfl⟩
     .rfl
    rw[hot]
    exact Wk.tup k2.1 λj a b p q=>(k2.2 j a b p q).wk
 unfold T9 at hK
 cases e with
 |normal =>
  simp only at hK
  split at hK
  .rename_i vs h1;exact⟨trivial,key vs h1 hK⟩
  .cases hK
 |ret =>
  simp only at hK
  split at hK
  .rename_i vs h1;exact⟨trivial,key vs h1 hK⟩
  .cases hK
 |_=>cases hK
theorem pok(hm:P.follows .mixedOrders=true)(hc:oO P c){f n:Nat}{xc:XC}{rv:List RV}{ps rs:List Ty}{run:Ty.bP ps->Option (Ty.bP rs)}(hf:Fn P f n xc.er rv)(hrun:∀x,a8y c xc n rv ps rs x=run x):POk P (gx c.GX) ⟨f,ps,rs,run⟩:=by
 refine⟨hf.callable,?_⟩
 intro x y hy
 have hy:run x=some y:=hy
 rw[<- hrun]at hy
 obtain⟨fn,hl,h1,h2,h3,rfl,_⟩:=hf
 cases hb:fn.body with
 |none=>rw[hb]at h2;cases h2
 |some code =>
  rw[hb]at h2
  refine Pure.ofW h1 hb h3 ?_
  intro F own B w0 act w hN hI
  have hS:Sim [] ⟨F4 ps x++List.replicate (fn.ntmps-ps.length) .any,[]⟩ ⟨encs ps x++List.replicate (fn.ntmps-(encs ps x).length) .any,[]⟩:=by
   refine⟨?_,rfl,tX,λi o q=>by simp at q⟩
   rw[a2v]
   exact((P7 ps x).mono λ_ _ q=>VT.ofA q).append (KA _ _ _)
  refine wp_mono (D9 (H0:=[]) (ρ0:=[]) hc hm hN (fE hN) (λj O q=>by simp at q) rfl code xc h2 _ (T9 c rv rs) y _ [] _ F own act w hy hS (Frm.refl [] []) hI) ?_
  rintro e a1 w1 ⟨F1,dA,τ,hI1,ρ1,X1,hS1,hF1,hK⟩
  exact⟨F1,dA,τ,hI1,a6m hS1 hK⟩
theorem Rv{ρ:List Nat}{sh:Sh}{x:Ty.bP sh.tys}{as:List AV}{H:List ay}(hS:Sim ρ (emb sh x) ⟨as,H⟩):as.length=sh.n:=by
 have h1:=hS.t.1
 rw[<- h1]
 have hv:∀(vs:List (Nat×Ty)) (r:List Ty) (x:Ty.bP (zG vs r)) (b:List XV),(xR vs r x b).1.length=b.length:=by
  intro vs
  induction vs with
  |nil=>intro r x b;rfl
  |cons p vs ih=>intro r x b;obtain⟨s,T⟩:=p;simp only[xR];rw[ih];simp
 have hr:∀(refs:List (Nat×SR)) (r:List Ty) (x:Ty.bP (iM refs r)) (b:List XV),(nH refs r x b).1.length=b.length:=by
  intro refs
  induction refs with
  |nil=>intro r x b;rfl
  |cons p refs ih =>
   intro r x b
   obtain⟨s,sr⟩:=p
   cases sr with
   |row j=>exact(ih r x _).trans (by simp)
   |ptr j i o=>exact(ih r x _).trans (by simp)
   |nil=>exact(ih r x _).trans (by simp)
   |sub j o n=>exact(ih r x _).trans (by simp)
   |agg cs=>exact(ih r _ _).trans (by simp)
 refine(hr sh.refs (SO.tys sh.objs) _ _).trans ?_
 refine(hv sh.vars _ x _).trans ?_
 simp
theorem hok(hm:P.follows .mixedOrders=true)(hc:oO P c){f n:Nat}{xc:XC}{rv:List RV}{pre:List Pre}{ish osh:Sh}{run:Ty.bP ish.tys->Option (Ty.bP osh.tys)}{kp:List Nat}(hf:Fn P f n xc.er rv)(hrun:∀x,a3b c xc n rv pre ish osh x=run x):HOk P (gx c.GX) ⟨f,ish,osh,run,kp⟩:=by
 refine⟨hf.callable,?_⟩
 intro x y hy H ρ as hS0
 have hS0:Sim ρ (emb ish x) ⟨as,H⟩:=hS0
 have hy:run x=some y:=hy
 rw[<- hrun]at hy
 obtain⟨fn,hl,h1,h2,h3,rfl,_⟩:=hf
 cases hb:fn.body with
 |none=>rw[hb]at h2;cases h2
 |some code =>
  rw[hb]at h2
  refine mV.ofW h1 hb h3 ?_
  intro F own B w0 act w hN hI
  have hlen:=Rv hS0
  have hS:Sim ρ ⟨(emb ish x).t++List.replicate (fn.ntmps-ish.n) .any,(emb ish x).h⟩ ⟨as++List.replicate (fn.ntmps-as.length) .any,H⟩:=by
   refine⟨?_,hS0.h⟩
   rw[hlen]
   exact hS0.t.append (KA _ _ _)
  have hrl:ish.objs.length=ρ.length:=by
   rw[hS0.h.rl]
   have:=dO List.length (yu ish.objs (zW ish x).2)
   simp only[bN]at this
   exact this.symm
  refine wp_mono (D9 (H0:=H) (ρ0:=ρ) hc hm hN (fE hN) hI.clH hrl code xc h2 _ _ y _ ρ _ F own act w hy hS (Frm.refl H ρ) hI) ?_
  rintro e a1 w1 ⟨F1,dA,τ,hI1,ρ1,X1,hS1,hF1,hK⟩
  obtain⟨F2,yQ,σ2,ρ2,hI2,hS2,hF2⟩:=Oe hrl (fE hN) hI.clH pre hI1 hS1 hF1
  simp only at hK
  split at hK
  case h_2=>cases hK
  rename_i vs he hvs
  obtain⟨p,l,e1,e2,e3⟩:=FY hS2 rv vs hvs
  have hext:∃foc,ext ish.objs.length osh ⟨vs,(xC ish.objs.length pre X1).h⟩=some (foc,y)/\vw ish.objs.length 0 foc=true/\vs.length=osh.n:=by
   unfold zV at hK
   split at hK
   .rename_i foc x' hx'
    split at hK
    .rename_i hb'
     cases hK
     simp only[au]at hb'
     exact⟨foc,hx',hb'.1,beq_eq hb'.2⟩
    .cases hK
   .cases hK
  obtain⟨foc,hx1,hx2,hx3⟩:=hext
  obtain⟨q1,q2,q3,q4⟩:=BG (X:=⟨vs,(xC ish.objs.length pre X1).h⟩) e3 hS2.h hx3 hx1
  have hfr:=Ka hS2.h hF2 hrl hx2 q4 q2
  refine⟨F2,yQ,σ2,hI2,?_,?_⟩
  .cases e<;>first|trivial|cases he
  .by_cases hone:∃a,l=[a]
   .obtain⟨a,rfl⟩:=hone
    exact⟨p,a,by simp only[yO,e1],e2,_,[a],q1,rfl,hfr⟩
   .refine⟨p,.tup l,O7 e1 hone,e2,_,l,q1,?_,hfr⟩
    unfold qh
    split
    .rename_i a;exact absurd ⟨_,rfl⟩ hone
    .rfl
theorem mV.kz{Gl:Nat->Option (List AV)}{f:FuncId}{h0:List ay}{as:List AV}{Q0 Q:AV->List ay->Prop}(h:mV P Gl f h0 as Q0)(hq:∀res h',Q0 res h'->∃b,jT h' res=some b/\Q b (freeze h' (dJ res))):mV P Gl f h0 as Q:=by
 intro F own B w0 t act w xs hI hxs
 refine(h F own B w0 t act w xs hI hxs).mono ?_
 rintro e w' ⟨v,res,h',F',own',rfl,hI',hR,hQ⟩
 obtain⟨b,k1,k2⟩:=hq res h' hQ
 obtain⟨F1,hF1,hI1,hkp⟩:=hI'.r9 (dJ res)
 obtain⟨r1,_,_⟩:=nO hI' hF1 hR k1 hkp
 exact⟨v,b,_,F1,own',rfl,hI1,.pure r1,k2⟩
theorem b8v(hm:P.follows .mixedOrders=true)(hc:oO P c){f n:Nat}{xc:XC}{rv:List RV}{pre:List Pre}{T:Ty}{ish osh:Sh}{run:Ty.bP ish.tys->Option (Ty.bP osh.tys)}{kp:List Nat}(hf:Fn P f n xc.er rv)(hrun:∀x,VU c xc n rv pre T ish osh x=run x):HOk P (gx c.GX) ⟨f,ish,osh,run,kp⟩:=by
 refine⟨hf.callable,?_⟩
 intro x y hy H ρ as hS0
 have hS0:Sim ρ (emb ish x) ⟨as,H⟩:=hS0
 have hy:run x=some y:=hy
 rw[<- hrun]at hy
 obtain⟨fn,hl,h1,h2,h3,rfl,_⟩:=hf
 refine mV.kz (Q:=λb h=>∃ρ' rs,Sim ρ' (emb osh y) ⟨rs,h⟩/\qh rs=b/\Frm H ρ ρ' h) (Q0:=λres h'=>∃b,jT h' res=some b/\(∃ρ' rs,Sim ρ' (emb osh y) ⟨rs,freeze h' (dJ res)⟩/\qh rs=b/\Frm H ρ ρ' (freeze h' (dJ res)))) ?_ (λres h' q=>q)
 cases hb:fn.body with
 |none=>rw[hb]at h2;cases h2
 |some code =>
  rw[hb]at h2
  refine mV.ofW h1 hb h3 ?_
  intro F own B w0 act w hN hI
  have hlen:=Rv hS0
  have hS:Sim ρ ⟨(emb ish x).t++List.replicate (fn.ntmps-ish.n) .any,(emb ish x).h⟩ ⟨as++List.replicate (fn.ntmps-as.length) .any,H⟩:=by
   refine⟨?_,hS0.h⟩
   rw[hlen]
   exact hS0.t.append (KA _ _ _)
  have hrl:ish.objs.length=ρ.length:=by
   rw[hS0.h.rl]
   have:=dO List.length (yu ish.objs (zW ish x).2)
   simp only[bN]at this
   exact this.symm
  refine wp_mono (D9 (H0:=H) (ρ0:=ρ) hc hm hN (fE hN) hI.clH hrl code xc h2 _ _ y _ ρ _ F own act w hy hS (Frm.refl H ρ) hI) ?_
  rintro e a1 w1 ⟨F1,dA,τ,hI1,ρ1,X1,hS1,hF1,hK⟩
  obtain⟨F2,yQ,σ2,ρ2,hI2,hS2,hF2⟩:=Oe hrl (fE hN) hI.clH pre hI1 hS1 hF1
  simp only at hK
  split at hK
  case h_2=>cases hK
  rename_i v he hvs
  split at hK
  case h_2=>cases hK
  rename_i z hz
  obtain⟨p,l,e1,e2,e3⟩:=FY hS2 rv [v] hvs
  obtain⟨a,r,rfl,hva,hr⟩:=e3.iW
  obtain rfl:=hr.lH
  have hnt:∀us,v≠.tup us:=λus q=>by
   subst q
   cases T<;>simp[toD,lst]at hz
  obtain⟨b,k1,k2,k3,k4⟩:=wX hS2.h hz (hva.vW hnt)
  have hu:=Upd.frz _ hS2.h k4
  rw[<- k3]at hu
  have hF3:=hF2.upd hS2.h.rl hu
  have e4:bB (VT ρ2 (kg (xC ish.objs.length pre X1).h (eZ v))) [.d T z] [b]:=.cons (a0w k2) .nil
  have hext:∃foc,ext ish.objs.length osh ⟨[.d T z],kg (xC ish.objs.length pre X1).h (eZ v)⟩=some (foc,y)/\vw ish.objs.length 0 foc=true/\([.d T z]:List XV).length=osh.n:=by
   unfold zV at hK
   split at hK
   .rename_i foc x' hx'
    split at hK
    .rename_i hb'
     cases hK
     simp only[au]at hb'
     exact⟨foc,hx',hb'.1,beq_eq hb'.2⟩
    .cases hK
   .cases hK
  obtain⟨foc,hx1,hx2,hx3⟩:=hext
  obtain⟨q1,q2,q3,q4⟩:=BG (X:=⟨[.d T z],kg (xC ish.objs.length pre X1).h (eZ v)⟩) e4 hu.hs hx3 hx1
  have hfr:=Ka hu.hs hF3 hrl hx2 q4 q2
  refine⟨F2,yQ,σ2,hI2,?_,?_⟩
  .cases e<;>first|trivial|cases he
  .exact⟨p,a,by simp only[yO,e1],e2,b,k1,_,[b],q1,rfl,hfr⟩
theorem a6x(tt:Nat->Option Ty)(GX:GXT):oO P ⟨tt,GX,[],[]⟩:=⟨by simp,by simp⟩
theorem b4N{tt:Nat->Option Ty}{GX:GXT}{p:PI}{pis:List PI}{his:List HI}(h:POk P (gx GX) p)(hc:oO P ⟨tt,GX,pis,his⟩):oO P ⟨tt,GX,p::pis,his⟩:=⟨λq hq=>by
 rcases bE.1 hq with rfl|hq
 .exact h
 .exact hc.pis q hq,hc.his⟩
theorem b4O{tt:Nat->Option Ty}{GX:GXT}{p:HI}{pis:List PI}{his:List HI}(h:HOk P (gx GX) p)(hc:oO P ⟨tt,GX,pis,his⟩):oO P ⟨tt,GX,pis,p::his⟩:=⟨hc.pis,λq hq=>by
 rcases bE.1 hq with rfl|hq
 .exact h
 .exact hc.his q hq⟩
end
end
def eT{α β:Type}(F:(α->Option β)->α->Option β):Nat->α->Option β
 |0,_=>none
 |n+1,x=>F (eT F n) x
open Classical in
def Kc{α β:Type}(F:(α->Option β)->α->Option β)(x:α):Option β:=if h:∃v,∃N,∀n,N<=n->eT F n x=some v then some h.choose else none
section
variable{α β:Type}{F:(α->Option β)->α->Option β}
theorem Yr{x:α}{v:β}(h:Kc F x=some v):∃n,eT F n x=some v:=by
 unfold Kc at h
 split at h
 .rename_i hx
  have he:=aJ h
  obtain⟨N,hN⟩:=hx.choose_spec
  exact⟨N,by rw[hN N (bq _),he]⟩
 .cases h
theorem a6d{x:α}{v:β}(N:Nat)(h:∀n,N<=n->eT F n x=some v):Kc F x=some v:=by
 have hx:∃v,∃N,∀n,N<=n->eT F n x=some v:=⟨v,N,h⟩
 unfold Kc
 rw[dif_pos hx]
 obtain⟨M,hM⟩:=hx.choose_spec
 have h1:=hM (max M N) (Nat.le_max_left _ _)
 rw[h _ (Nat.le_max_right _ _)]at h1
 exact h1.symm
variable{P:Program}{Gl:Nat->Option (List AV)}
theorem a5e{f:Nat}{ps rs:List Ty}{G:(Ty.bP ps->Option (Ty.bP rs))->Ty.bP ps->Option (Ty.bP rs)}(hc:callable P f=true)(h:∀run,POk P Gl ⟨f,ps,rs,run⟩->POk P Gl ⟨f,ps,rs,G run⟩):POk P Gl ⟨f,ps,rs,Kc G⟩:=by
 have key:∀n,POk P Gl ⟨f,ps,rs,eT G n⟩:=by
  intro n
  induction n with
  |zero=>exact⟨hc,λx y q=>by cases q⟩
  |succ n ih=>exact h _ ih
 refine⟨hc,λx y q=>?_⟩
 obtain⟨n,hn⟩:=Yr q
 exact(key n).2 x y hn
theorem qI{f:Nat}{ps rs:List Ty}{G:(Ty.bP ps->Option (Ty.bP rs))->Ty.bP ps->Option (Ty.bP rs)}(n:Nat)(hc:callable P f=true)(h:∀run,POk P Gl ⟨f,ps,rs,run⟩->POk P Gl ⟨f,ps,rs,G run⟩):POk P Gl ⟨f,ps,rs,eT G n⟩:=by
 induction n with
 |zero=>exact⟨hc,λx y q=>by cases q⟩
 |succ n ih=>exact h _ ih
theorem pG{f:Nat}{ish osh:Sh}{kp:List Nat}{G:(Ty.bP ish.tys->Option (Ty.bP osh.tys))->Ty.bP ish.tys->Option (Ty.bP osh.tys)}(n:Nat)(hc:callable P f=true)(h:∀run,HOk P Gl ⟨f,ish,osh,run,kp⟩->HOk P Gl ⟨f,ish,osh,G run,kp⟩):HOk P Gl ⟨f,ish,osh,eT G n,kp⟩:=by
 induction n with
 |zero=>exact⟨hc,λx y q=>by cases q⟩
 |succ n ih=>exact h _ ih
theorem a5V{f ty:Nat}{T E:Ty}{osh:Sh}{kp kp':List Nat}(hz:0<E.size){run:Ty.bP (Sh.tys ⟨2,[(1,T)],[(0,.row 0)],[.row ty E false]⟩)->Option (Ty.bP osh.tys)}(h:HOk P Gl ⟨f,⟨2,[(1,T)],[(0,.row 0)],[.row ty E false]⟩,osh,run,kp⟩):HOk P Gl ⟨f,⟨2,[(1,T)],[(0,.nil)],[]⟩,osh,λx=>run (x.1,([]:List E.den),()),kp'⟩:=by
 refine⟨h.1,λx y hy H ρ as hS=>?_⟩
 obtain⟨u1,u2⟩:=tN (ty:=ty) (ys:=([]:List E.den)) (as:=[]) hS.h rfl .nil
 have hS':=qg (kl:=[]) hS.t u1 (VT.of1 u2) (some 0)
 have hρ:ρ=[]:=bW.1 hS.h.rl
 subst hρ
 have h0:as.getD 0 .any=.v (.slice none 0 0):=G6 (pY hS.t 0)
 have hl:as.length=2:=hS.t.1.symm
 intro F own B w0 t act w xs hI hxs
 have hI':=hI.DI ty E.size true hz
 refine(h.2 (x.1,([]:List E.den),()) y hy _ _ _ hS' F _ B w0 t act w xs hI' ⟨by rw[hxs.1];show _=(as.set 0 _).length;rw[wL],λj z a p q=>?_⟩).mono ?_
 .have q2:(as.set 0 (.row H.length 0 E.size 0 0))[j]?=some a:=q
  rw[dn]at q2
  split at q2
  .rename_i hj
   subst hj
   have hv:=(hxs.2 0 z _ p (by rw[ah (by omega)])).mono (λ_ _ r=>r) (Le.refl own)
   have e:as[0]'(by omega)=.v (.slice none 0 0):=by rw[<- h0,bn,ah (by omega)];rfl
   rw[e]at hv
   rw[if_pos (by omega)]at q2
   cases q2
   rw[hv.dN,<- hI.hl]
   exact .row _ _ _ _ _ _ _ p9 (by simp) ⟨_,_,rfl,by simp,λq=>by simp at q⟩ (λ_=>⟨rfl,by simp,λ_=>⟨_,fE (dD _),by simp⟩⟩) hz
  .exact(hxs.2 j z a p q2).mono (λ_ _ r=>r) (Le.snoc _ _)
 .rintro e w' ⟨v,res,h',F',b2L,e1,e2,e3,ρ',rs,s1,s2,s3⟩
  refine⟨v,res,h',F',b2L,e1,e2,e3,ρ',rs,s1,s2,⟨ρ',rfl,λj hj=>?_⟩,bD (by simp) s3.ge,λj hj _=>?_⟩
  .obtain⟨l,g1,g2⟩:=s3.pre
   rw[g1]at hj
   rcases aH.1 hj with q|q
   .rw[fq,aY]at q;rw[q];exact bq _
   .have:=g2 j q;simp at this;exact Nat.le_of_succ_le this
  .rw[s3.fr j (by simp;omega) (by simp;omega),aL hj]
end
inductive AT where
 |o
 |u (l:List Nat)
 |s (a b:AT)
 |d (n:Nat) (a:AT)
 |j (pre:List Pre) (sh:Sh) (a b:AT)
 |c (a b:AT)
 |b (a:AT)
 |l (pre:List Pre) (sh:Sh) (a:AT)
def rQ:C->XC
 |.skip=>.skip
 |.ops d l=>.ops d l
 |.qd l=>.qd [] l
 |.seq a b=>.seq (rQ a) (rQ b)
 |.cond c a b=>.cond c (rQ a) (rQ b)
 |.block i b=>.block i (rQ b)
 |.loop b=>.loop [] ⟨0,[],[],[]⟩ (rQ b)
 |.exit i=>.exit i
 |.ret=>.ret
def ML(f:C->XC):Nat->C->XC
 |0,c=>f c
 |n+1,.seq a b=>.seq (rQ a) (ML f n b)
 |_,c=>rQ c
def toX:AT->C->XC
 |.u l,.qd r=>.qd l r
 |.s a b,.seq x y=>.seq (toX a x) (toX b y)
 |.d n a,c=>ML (toX a) n c
 |.j pre sh a b,.seq x y=>.Tz pre sh (toX a x) (toX b y)
 |.c a b,.cond o x y=>.cond o (toX a x) (toX b y)
 |.b a,.block i x=>.block i (toX a x)
 |.l pre sh a,.loop x=>.loop pre sh (toX a x)
 |_,c=>rQ c
theorem qP:∀c,(rQ c).er=c:=by
 intro c
 induction c with
 |seq a b h1 h2=>simp only[rQ,XC.er,h1,h2]
 |cond c a b h1 h2=>simp only[rQ,XC.er,h1,h2]
 |block i b h=>simp only[rQ,XC.er,h]
 |loop b h=>simp only[rQ,XC.er,h]
 |_=>rfl
theorem a2C{f:C->XC}(h:∀c,(f c).er=c):∀(n:Nat) (c:C),(ML f n c).er=c:=by
 intro n
 induction n with
 |zero=>intro c;exact h c
 |succ n ih =>
  intro c
  cases c with
  |seq a b=>simp only[ML,XC.er,qP,ih]
  |_=>exact qP _
theorem a8G:∀(a:AT) (c:C),(toX a c).er=c:=by
 intro a
 induction a with
 |d n a ih=>intro c;cases c<;>exact a2C ih n _
 |s a b h1 h2=>intro c;cases c<;>first|(simp only[toX,XC.er,h1,h2];done)|exact qP _
 |j pre sh a b h1 h2=>intro c;cases c<;>first|(simp only[toX,XC.er,h1,h2];done)|exact qP _
 |c a b h1 h2=>intro c;cases c<;>first|(simp only[toX,XC.er,h1,h2];done)|exact qP _
 |b a ih=>intro c;cases c<;>first|(simp only[toX,XC.er,ih];done)|exact qP _
 |l pre sh a ih=>intro c;cases c<;>first|(simp only[toX,XC.er,ih];done)|exact qP _
 |u l=>intro c;cases c<;>first|rfl|exact qP _
 |o=>intro c;cases c<;>exact qP _
def xo(P:Program)(hc:List Nat)(f:Func)(a:AT):XC:=match f.body.bind (cC P hc) with
 |some c=>toX a c
 |none=>.skip
theorem b2u{P:Program}{hc:List Nat}{f:Func}{a:AT}(h:(f.body.bind (cC P hc)).isSome=true):f.body.bind (cC P hc)=some (xo P hc f a).er:=by
 unfold xo
 cases e:f.body.bind (cC P hc) with
 |none=>rw[e]at h;cases h
 |some c=>rw[a8G]
theorem bC{a b:Int}(h1:-9223372036854775808<=a+b)(h2:a+b<=9223372036854775807):aN .i64 a b=a+b:=wrap64 h1 h2
theorem dB{a b:Int}(h1:-9223372036854775808<=a-b)(h2:a-b<=9223372036854775807):dz .i64 a b=a-b:=wrap64 h1 h2
theorem Yh{a b:Int}(h1:-9223372036854775808<=a*b)(h2:a*b<=9223372036854775807):uY .i64 a b=a*b:=wrap64 h1 h2
theorem aX{α:Type}(xs:List α):aD xs=(xs.length:Int):=rfl
section
variable{S R:Type}{step:S->Option (S⊕R)}
theorem R5{s s':S}(h:step s=some (.inl s')):bH step s=bH step s':=by rw[OZ,h]
theorem zR{s:S}{r:R}(h:step s=some (.inr r)):bH step s=some r:=by rw[OZ,h]
end
section
open Go.RowKit
mutual
def OkZ(Z:Nat->Nat->AV->Prop):(T:Ty)->T.den->Prop
 |.int k,n=>(Lit.int k n).wf=true
 |.bool,_=>True
 |.str,s=>ByteArray.size s<=maxLen
 |.list e,xs=>List.length (α:=e.den) xs<=maxLen/\∀x,x∈(show List e.den from xs)->OkZ Z e x
 |.tup fs,x=>a2T Z fs x
 |.fnc _,_=>True
 |.iR _,_=>True
 |.rl ty sz,xs=>Z ty sz (.list sz xs)
def a2T(Z:Nat->Nat->AV->Prop):(fs:List Ty)->Ty.bP fs->Prop
 |[],_=>True
 |t::ts,x=>OkZ Z t x.1/\a2T Z ts x.2
end
abbrev OkT(T:Ty)(x:T.den):Prop:=OkZ ZA T x
theorem Gh{T:Ty}(x:T.den):pack T (Ty.enc T x).cells=Ty.enc T x:=by
 rcases ql (x:=x) with⟨ht,cs,he⟩|⟨ht,hp⟩
 .unfold pack;rw[if_pos ht,he];rfl
 .unfold pack;rw[ht,hp.cells];rfl
theorem Rb(Z:Nat->Nat->AV->Prop)(T:Ty):∀l:List AV,IsZ Z T l->∃x:T.den,OkZ Z T x/\l=(Ty.enc T x).cells:=by
 refine Ty.rec (motive_1:=λT=>∀l:List AV,IsZ Z T l->∃x:T.den,OkZ Z T x/\l=(Ty.enc T x).cells) (motive_2:=λfs=>∀l:List AV,qV Z fs l->∃x:Ty.bP fs,a2T Z fs x/\l=Ty.iY fs x) ?_ ?_ ?_ ?_ ?_ ?_ ?_ ?_ ?_ ?_ T
 .intro k l h;simp only[IsZ]at h;obtain⟨n,rfl,hw⟩:=h;exact⟨n,hw,rfl⟩
 .intro l h;simp only[IsZ]at h;obtain⟨b,rfl⟩:=h;exact⟨b,trivial,rfl⟩
 .intro l h;simp only[IsZ]at h;obtain⟨s,rfl,hs⟩:=h;exact⟨s,hs,rfl⟩
 .intro e ih l h
  simp only[IsZ]at h
  obtain⟨xss,rfl,hl,hx⟩:=h
  have key:∀xss:List (List AV),(∀xs∈xss,IsZ Z e xs)->∃ys:List e.den,(∀y∈ys,OkZ Z e y)/\xss.map (pack e)=ys.map (Ty.enc e):=by
   intro xss
   induction xss with
   |nil=>intro _;exact⟨[],by simp,rfl⟩
   |cons a xss ihx =>
    intro h
    obtain⟨ys,h1,h2⟩:=ihx λxs hxs=>h xs (by simp[hxs])
    obtain⟨y,hy,rfl⟩:=ih a (h a (by simp))
    refine⟨y::ys,λz hz=>?_,by rw[bL,bL,Gh,h2]⟩
    rcases bE.1 hz with rfl|hz
    .exact hy
    .exact h1 z hz
  obtain⟨ys,h1,h2⟩:=key xss hx
  refine⟨ys,⟨?_,h1⟩,by show _=[AV.list e.size (List.map (Ty.enc e) ys)];rw[h2]⟩
  have:=dO List.length h2
  simp only[bN]at this
  show List.length ys<=maxLen
  omega
 .intro fs ih l h;simp only[IsZ]at h;exact ih l h
 .intro f l h;simp only[IsZ]at h;exact⟨(),trivial,h⟩
 .intro e _ l h;simp only[IsZ]at h;exact⟨none,trivial,h⟩
 .intro ty sz l h;simp only[IsZ]at h;obtain⟨xs,rfl,hz⟩:=h;exact⟨xs,hz,rfl⟩
 .intro l h;simp only[qV]at h;exact⟨(),trivial,h⟩
 .intro t ts h1 h2 l h
  simp only[qV]at h
  obtain⟨a,b,rfl,ha,hb⟩:=h
  obtain⟨x,ox,rfl⟩:=h1 a ha
  obtain⟨y,oy,rfl⟩:=h2 b hb
  exact⟨(x,y),⟨ox,oy⟩,rfl⟩
theorem b1a(T:Ty)(l:List AV)(h:Is T l):∃x:T.den,OkT T x/\l=(Ty.enc T x).cells:=Rb ZA T l h
theorem VQ{n ty sz:Nat}{xs:List AV}(h:ZN n ty sz (.list sz xs)):∃T,Gc ty=some T/\T.size=sz/\∃ys:List T.den,xs=Fp T ys/\xs.length<=maxLen/\∀y∈ys,∃m,m<n/\OkZ (ZN m) T y:=by
 cases n with
 |zero =>
  obtain⟨T,h1,h2,h3⟩:=h
  cases h3
  exact⟨T,h1,h2,[],rfl,dG _,λy q=>by simp at q⟩
 |succ n =>
  obtain⟨T,h1,h2,xss,h3,h4,h5⟩:=h
  have key:∀xss:List (List AV),(∀xs∈xss,IsZ (ZN n) T xs)->∃ys:List T.den,xss.map (pack T)=Fp T ys/\∀y∈ys,∃m,m<n+1/\OkZ (ZN m) T y:=by
   intro xss
   induction xss with
   |nil=>intro _;exact⟨[],rfl,by simp⟩
   |cons a xss ih =>
    intro h
    obtain⟨ys,e1,e2⟩:=ih λxs hx=>h xs (by simp[hx])
    obtain⟨y,hy,rfl⟩:=Rb (ZN n) T a (h a (by simp))
    refine⟨y::ys,by rw[bL,Gh,e1];rfl,λz hz=>?_⟩
    rcases bE.1 hz with rfl|hz
    .exact⟨n,Nat.lt_succ_self n,hy⟩
    .exact e2 z hz
  obtain⟨ys,e1,e2⟩:=key xss h5
  cases h3
  exact⟨T,h1,h2,ys,e1,by rw[bN];exact h4,e2⟩
theorem Fe{T:Ty}{a:AV}(h:IsV T a):∃x:T.den,OkT T x/\a=Ty.enc T x:=by
 obtain⟨l,hl,rfl⟩:=h
 obtain⟨x,ox,rfl⟩:=b1a T l hl
 exact⟨x,ox,Gh x⟩
theorem QX{e:Ty}{xs:List e.den}(h:OkT (.list e) xs):xs.length<=maxLen/\∀x∈xs,OkT e x:=h
end
section
variable{S R A α:Type}{step:S->Option (S⊕R)}
theorem a5L(J:S->Prop)(μ:S->Nat)(Q:R->Prop)(h:∀s,J s->(∃s',step s=some (.inl s')/\J s'/\μ s'<μ s)\/∃r,step s=some (.inr r)/\Q r):∀s,J s->∃r,bH step s=some r/\Q r:=by
 have key:∀n s,μ s<=n->J s->∃r,bH step s=some r/\Q r:=by
  intro n
  induction n with
  |zero =>
   intro s hm hJ
   rcases h s hJ with⟨s',h1,h2,h3⟩|⟨r,h1,h2⟩
   .omega
   .exact⟨r,zR h1,h2⟩
  |succ n ih =>
   intro s hm hJ
   rcases h s hJ with⟨s',h1,h2,h3⟩|⟨r,h1,h2⟩
   .rw[R5 h1];exact ih s' (by omega) h2
   .exact⟨r,zR h1,h2⟩
 intro s hJ
 exact key _ s (bq _) hJ
end
theorem a2h{α:Type}{xs:List α}{k:Nat}(z:α)(h:k<xs.length):xs.getD k z=xs[k]:=by
 simp[List.getD,ah h]
theorem b1e{a:Int}(h1:-9223372036854775808<=-a)(h2:-a<=9223372036854775807):Bc .i64 a=-a:=by
 show IntKind.wrap .i64 (0-a)=-a
 rw[wrap64 (by omega) (by omega)];omega
def T{α:Type}(o:Option α)(Q:α->Prop):Prop:=∃v,o=some v/\Q v
def LQ{S R:Type}(J:S->Prop)(μ:S->Nat)(m:Nat)(Q:R->Prop):S⊕R->Prop
 |.inl s=>J s/\μ s<m
 |.inr r=>Q r
def JQ{S R:Type}(M:S->Prop)(Q:R->Prop):S⊕R->Prop
 |.inl s=>M s
 |.inr r=>Q r
section
variable{α β S R:Type}
theorem T.ret{v:α}{Q:α->Prop}(h:Q v):T (some v) Q:=⟨v,rfl,h⟩
theorem T.eq{o:Option α}{v:α}(h:T o λx=>x=v):o=some v:=by obtain⟨x,h1,h2⟩:=h;rw[h1,h2]
theorem T.of{o:Option α}{v:α}{Q:α->Prop}(h:o=some v)(q:Q v):T o Q:=⟨v,h,q⟩
theorem T.mono{o:Option α}{Q Q':α->Prop}(h:T o Q)(q:∀v,Q v->Q' v):T o Q':=by obtain⟨v,h1,h2⟩:=h;exact⟨v,h1,q v h2⟩
theorem T.bind{o:Option α}{f:α->Option β}{Q:β->Prop}(h:T o λv=>T (f v) Q):T (o.bind f) Q:=by obtain⟨v,h1,h2⟩:=h;rw[h1];exact h2
theorem T.call{o:Option α}{f:α->Option β}{P:α->Prop}{Q:β->Prop}(h:T o P)(q:∀v,P v->T (f v) Q):T (o.bind f) Q:=T.bind (h.mono q)
theorem T.aU{o:Option α}{v:α}{f:α->Option β}{Q:β->Prop}(h:o=some v)(q:T (f v) Q):T (o.bind f) Q:=by rw[h];exact q
theorem T.grd{c:Bool}{x:Option α}{Q:α->Prop}(h:c=true)(q:T x Q):T (cond c x none) Q:=by rw[h];exact q
theorem T.cnd{c:Bool}{x y:Option α}{Q:α->Prop}(h:c=true->T x Q)(q:c=false->T y Q):T (cond c x y) Q:=by cases c;exact q rfl;exact h rfl
theorem T.ct{c:Bool}{x y:Option α}{Q:α->Prop}(h:c=true)(q:T x Q):T (cond c x y) Q:=by rw[h];exact q
theorem T.cf{c:Bool}{x y:Option α}{Q:α->Prop}(h:c=false)(q:T y Q):T (cond c x y) Q:=by rw[h];exact q
theorem T.map{o:Option α}{f:α->β}{Q:β->Prop}(h:T o λv=>Q (f v)):T (o.map f) Q:=by obtain⟨v,h1,h2⟩:=h;rw[h1];exact⟨_,rfl,h2⟩
theorem T.iD{J:S->Prop}{μ:S->Nat}{m:Nat}{o:Option R}{Q:R->Prop}(h:T o Q):T (o.map (Sum.inr (α:=S))) (LQ J μ m Q):=T.map h
theorem T.sO{M:S->Prop}{o:Option R}{Q:R->Prop}(h:T o Q):T (o.map (Sum.inr (α:=S))) (JQ M Q):=T.map h
theorem T.loop{step:S->Option (S⊕R)}{s0:S}{Q:R->Prop}(J:S->Prop)(μ:S->Nat)(h0:J s0)(h:∀s,J s->T (step s) (LQ J μ (μ s) Q)):T (bH step s0) Q:=by
 refine a5L J μ Q (λs hs=>?_) s0 h0
 obtain⟨r,h1,h2⟩:=h s hs
 cases r with
 |inl s'=>exact .inl ⟨s',h1,h2.1,h2.2⟩
 |inr r=>exact .inr ⟨r,h1,h2⟩
theorem T.go{J:S->Prop}{μ:S->Nat}{m:Nat}{Q:R->Prop}{s:S}(h:J s)(h2:μ s<m):T (some (Sum.inl (β:=R) s)) (LQ J μ m Q):=⟨_,rfl,h,h2⟩
theorem T.out{J:S->Prop}{μ:S->Nat}{m:Nat}{Q:R->Prop}{r:R}(h:Q r):T (some (Sum.inr (α:=S) r)) (LQ J μ m Q):=⟨_,rfl,h⟩
theorem T.jgo{M:S->Prop}{Q:R->Prop}{s:S}(h:M s):T (some (Sum.inl (β:=R) s)) (JQ M Q):=⟨_,rfl,h⟩
theorem T.pz{M:S->Prop}{Q:R->Prop}{r:R}(h:Q r):T (some (Sum.inr (α:=S) r)) (JQ M Q):=⟨_,rfl,h⟩
theorem T.join{o:Option (S⊕R)}{f:S->Option R}{Q:R->Prop}(M:S->Prop)(h:T o (JQ M Q))(h2:∀s,M s->T (f s) Q):T (jZ o f) Q:=by
 obtain⟨r,h1,h3⟩:=h
 rw[h1]
 cases r with
 |inl s=>exact h2 s h3
 |inr r=>exact⟨r,rfl,h3⟩
end
theorem bQ{a b:Int}:(iLt a b=true)=(a<b):=by simp[iLt]
theorem dh{a b:Int}:(iLt a b=false)=(b<=a):=by simp[iLt]
theorem gG{a b:Int}:(iLe a b=true)=(a<=b):=by simp[iLe]
theorem kT{a b:Int}:(iLe a b=false)=(b<a):=by simp[iLe]
theorem lK{a b:Int}:(iEq a b=true)=(a=b):=by simp[iEq]
theorem iT{a b:Int}:(iEq a b=false)=(¬a=b):=by simp[iEq]
theorem nG{a b:Int}:(iNe a b=true)=(¬a=b):=by simp[iNe]
theorem yh{a b:Int}:(iNe a b=false)=(a=b):=by simp[iNe]
theorem bV{a b:Int}:(bnd a b=true)=(0<=a/\a<b):=by simp[bnd]
theorem b4T{a b:Int}:(bnd a b=false)=(a<0\/b<=a):=by simp[bnd];constructor<;>intro h<;>omega
theorem tO{α:Type}{i:Nat}{xs:List α}:(inB i xs=true)=(i<xs.length):=by simp[inB]
theorem b4q{α:Type}{i:Nat}{xs:List α}:(inB i xs=false)=(xs.length<=i):=by simp[inB]
theorem jh{n b:Nat}:(fits n b=true)=(n*b<=140737488355328/\n<=4611686018427387904):=by
 rw[eq_iff_iff];constructor
 .intro h;unfold fits nD at h;rw[au]at h;exact⟨of_decide_eq_true h.1,of_decide_eq_true h.2⟩
 .rintro⟨h1,h2⟩;unfold fits nD;rw[bX h1,bX h2];rfl
theorem Rn{n:Int}{b:Nat}:(Aq n b=true)=(0<=n/\n*b<=140737488355328/\n<=4611686018427387904):=by
 rw[eq_iff_iff];constructor
 .intro h;unfold Aq nD at h;rw[au,au]at h;exact⟨of_decide_eq_true h.1.1,of_decide_eq_true h.1.2,of_decide_eq_true h.2⟩
 .rintro⟨h1,h2,h3⟩;unfold Aq nD;rw[bX h1,bX h3];simp only[iJ,uR];exact bX h2
theorem vF{l u:Int}{n:Nat}:(nI l u n=true)=(0<=l/\l<=u/\u<=(n:Int)):=by simp[nI,and_assoc]
theorem a4E{α:Type}{xs:List α}:(someE xs=true)=(0<xs.length):=by cases xs<;>simp[someE]
theorem a4F{α:Type}{xs:List α}:(someE xs=false)=(xs.length=0):=by cases xs<;>simp[someE]
theorem b3Z{α:Type}{n:Nat}{xs:List α}:(leN n xs=true)=(n<=xs.length):=by simp[leN]
theorem iA{b:Bool}:(Bool.not b=true)=(b=false):=by cases b<;>simp
theorem rO{b:Bool}:(Bool.not b=false)=(b=true):=by cases b<;>simp
theorem dR{a b:Bool}:(and a b=true)=(a=true/\b=true):=by cases a<;>simp
theorem pW{a b:Bool}:(and a b=false)=(a=false\/b=false):=by cases a<;>simp
theorem lq{a b:Bool}:(or a b=true)=(a=true\/b=true):=by cases a<;>simp
theorem U5{a b:Bool}:(or a b=false)=(a=false/\b=false):=by cases a<;>simp
theorem xU{a b:Bool}:(cond a b false=true)=(a=true/\b=true):=by cases a<;>simp
theorem zD{a b:Bool}:(cond a b false=false)=(a=false\/b=false):=by cases a<;>simp
theorem l5{a b:Bool}:(cond a true b=true)=(a=true\/b=true):=by cases a<;>simp
theorem nu{a b:Bool}:(cond a true b=false)=(a=false/\b=false):=by cases a<;>simp
theorem b1R{a:Bool}:(bEq a true=true)=(a=true):=by cases a<;>simp[bEq]
theorem Qe{a:Bool}:(bEq a true=false)=(a=false):=by cases a<;>simp[bEq]
theorem b1S{a:Bool}:(bEq a false=true)=(a=false):=by cases a<;>simp[bEq]
theorem b1T{a:Bool}:(bEq a false=false)=(a=true):=by cases a<;>simp[bEq]
theorem I4{a b:ByteArray}:(sEq a b=true)=(a=b):=by
 simp only[sEq,nK,eq_iff_iff]
 constructor
 .intro h
  exact(show ∀x y:ByteArray,x.toList=y.toList->x=y from λx y q=>by
   have hx:∀z:ByteArray,z.toList=z.data.toList:=λz=>ByteArray.toList_eq z
   rw[hx,hx]at q
   cases x;cases y
   simp at q;rw[q]) a b h
 .intro h;rw[h]
theorem I5{a b:ByteArray}:(sEq a b=false)=(¬a=b):=by
 rw[<- qW,I4]
section
open Go.RowKit
theorem Qx{P:Program}{Gl:Nat->Option (List AV)}{w:World}{f:Nat}{xs:Array Value}{l:List AV}(hP:Pure P Gl f l (.v (.bool true)))(hg:KG Gl (snap w))(hw:GlW Gl w.heap.size w)(hxs:RPL (snap w) xs l):Calls P f xs w λe w'=>e=.returned (.bool true)/\Below w.heap.size w w':=by
 refine(hP w (snap w) xs (λ_ _ h=>h) hg hw hxs).mono ?_
 rintro e w' ⟨v,F',rfl,_,_,_,hR,hb⟩
 cases hR
 exact⟨rfl,hb⟩
def wu(n:Int)(len:Nat):Bool:=match n with
 |.ofNat m=>Nat.blt m len
 |.negSucc _=>false
def ltI:Int->Int->Bool
 |.ofNat a,.ofNat b=>Nat.blt a b
 |.ofNat _,.negSucc _=>false
 |.negSucc _,.ofNat _=>true
 |.negSucc a,.negSucc b=>Nat.blt b a
def eqI:Int->Int->Bool
 |.ofNat a,.ofNat b=>Nat.beq a b
 |.negSucc a,.negSucc b=>Nat.beq a b
 |_,_=>false
def xY(k:IntKind)(n:Int):Int:=match k,n with
 |.i64,.ofNat m=>if Nat.blt m 9223372036854775808=true then .ofNat m else IntKind.wrap .i64 (.ofNat m)
 |.i64,.negSucc m=>if Nat.blt m 9223372036854775808=true then .negSucc m else IntKind.wrap .i64 (.negSucc m)
 |.u8,.ofNat m=>if Nat.blt m 256=true then .ofNat m else IntKind.wrap .u8 (.ofNat m)
 |k,n=>k.wrap n
def J7:List UInt8->List UInt8->Bool
 |[],[]=>true
 |a::as,b::bs=>if Nat.beq a.toNat b.toNat=true then J7 as bs else false
 |_,_=>false
def zf(a b:ByteArray):Bool:=J7 a.data.toList b.data.toList
def GL:BinOp->Value->Value->Option Value
 |.add,.int k a,.int k' b=>if k=k' then some (.int k (xY k (a+b))) else none
 |.sub,.int k a,.int k' b=>if k=k' then some (.int k (xY k (a-b))) else none
 |.mul,.int k a,.int k' b=>if k=k' then some (.int k (xY k (a*b))) else none
 |.quo,.int k a,.int k' b=>if k=k' then(if eqI b 0=true then none else some (.int k (xY k (a.tdiv b)))) else none
 |.rem,.int k a,.int k' b=>if k=k' then(if eqI b 0=true then none else some (.int k (a.tmod b))) else none
 |.eql,.int k a,.int k' b=>if k=k' then some (.bool (eqI a b)) else none
 |.neq,.int k a,.int k' b=>if k=k' then some (.bool (not (eqI a b))) else none
 |.lss,.int k a,.int k' b=>if k=k' then some (.bool (ltI a b)) else none
 |.leq,.int k a,.int k' b=>if k=k' then some (.bool (not (ltI b a))) else none
 |.gtr,.int k a,.int k' b=>if k=k' then some (.bool (ltI b a)) else none
 |.geq,.int k a,.int k' b=>if k=k' then some (.bool (not (ltI a b))) else none
 |.add,.string a,.string b=>if Nat.ble (a.size+b.size) 9223372036854775807=true then some (.string (a++b)) else none
 |.eql,.string a,.string b=>some (.bool (zf a b))
 |.neq,.string a,.string b=>some (.bool (not (zf a b)))
 |_,_,_=>none
def El(n:Nat)(lo hi:Option AV):Bool:=match nJ n lo hi with
 |some (_,l,h)=>not (ltI l 0)&&not (ltI h l)&&not (ltI n h)
 |none=>false
def PD(n bytes:Nat):Bool:=Nat.ble (n*bytes) nD&&Nat.ble n 4611686018427387904
def appG(h:List ay)(bytes:Nat)(a:AV)(k:Nat)(emp:Bool):Bool:=match a with
 |.v (.slice none 0 0)=>PD k bytes
 |.row id G _ _ len=>Nat.beq len G&&PD (G+k) bytes
 |_=>false
def gB(Gl:Nat->Option (List AV))(σ:St):I->Bool
 |.mov _|.pick ..|.un ..|.conv ..|.ext ..|.tQ ..|.len _|.nck _|.wZ _|.b2s _|.mq ..|.zo ..|.bsc ..|.build ..|.box ..|.alloc ..|.min2 ..|.max2 ..=>true
 |.oK _ x i=>match σ.val Gl x,σ.val Gl i with
  |.list _ xs,.v (.int _ n)=>wu n xs.length
  |.row _ _ _ _ len,.v (.int _ n)=>wu n len
  |_,_=>false
 |.load sz ag x=>match σ.val Gl x with
  |.fZ _=>true
  |.ptr id G i o=>match σ.h[id]? with
   |some ob=>(if ag then Nat.ble (o+sz) ob.sz else Nat.blt o ob.sz)&&Nat.blt i G
   |none=>false
  |_=>false
 |.store sz x y=>match σ.val Gl x with
  |.ptr id G i o=>match σ.h[id]? with
   |some ob=>match gy ob.pr (σ.val Gl y) with
    |some _=>Nat.ble (o+sz) ob.sz&&Nat.blt i G&&Nat.ble ob.fz i
    |none=>match(freeze σ.h (dJ (σ.val Gl y)))[id]? with
     |some oc=>Nat.ble (o+sz) oc.sz&&Nat.blt i G&&Nat.ble oc.fz i
     |none=>false
   |none=>false
  |_=>false
 |.slice _ x lo hi=>match σ.val Gl x with
  |.list _ xs=>El xs.length (lo.map (σ.val Gl)) (hi.map (σ.val Gl))
  |.v _=>El 0 (lo.map (σ.val Gl)) (hi.map (σ.val Gl))
  |.row _ _ _ _ len=>El len (lo.map (σ.val Gl)) (hi.map (σ.val Gl))
  |_=>false
 |.oI x lo hi=>match σ.val Gl x with
  |.v (.string s)=>El s.size (lo.map (σ.val Gl)) (hi.map (σ.val Gl))
  |_=>false
 |.idx x i=>match σ.val Gl x,σ.val Gl i with
  |.v (.string s),.v (.int _ n)=>wu n s.size
  |_,_=>false
 |.app _ sz bytes s x=>match jl σ.h sz (σ.val Gl x) with
  |some ys=>appG σ.h bytes (σ.val Gl s) ys.length ys.isEmpty
  |none=>false
 |.apps _ bytes s x=>match σ.val Gl x with
  |.v (.string b)=>appG σ.h bytes (σ.val Gl s) (jm b).length (jm b).isEmpty
  |_=>false
 |.mk _ _ bytes _ n=>match σ.val Gl n with
  |.v (.int .i64 (.ofNat m))=>PD m bytes
  |_=>false
 |.o8 _ _ n x i=>match σ.val Gl i with
  |.v (.int _ m)=>wu m n
  |_=>false
 |.call ..=>false
 |.bin ..=>false
def tI(Gl:Nat->Option (List AV))(σ:St):I->List Nat
 |.store _ x y=>match σ.val Gl x with
  |.ptr id _ _ _=>id::dJ (σ.val Gl y)
  |_=>[]
 |.app _ _ _ s _=>match σ.val Gl s with
  |.row id _ _ _ _=>[id]
  |_=>[]
 |.apps _ _ s _=>match σ.val Gl s with
  |.row id _ _ _ _=>[id]
  |_=>[]
 |.mq _ _ xs=>(xs.map (σ.val Gl)).flatMap dJ
 |_=>[]
def exS(Gl:Nat->Option (List AV))(σ:St)(i:I):Option (AV×List ay):=match i with
 |.bin op x y=>match σ.val Gl x,σ.val Gl y with
  |.v a,.v b=>match GL op a b with
   |some r=>some (.v r,σ.h)
   |none=>none
  |_,_=>none
 |.conv k x=>match σ.val Gl x with
  |.v (.int _ n)=>some (.v (.int k (xY k n)),σ.h)
  |_=>none
 |i=>match step Gl σ i with
  |some (_,a,h')=>if gB Gl σ i=true then some (a,h') else none
  |none=>none
inductive IR where
 |val (a:AV) (h:List ay) (ids:List Nat)
 |pan (v:Value)
inductive Out where
 |nrm (e:Exit) (σ:St) (U:List Nat)
 |pan (v:Value)
def vk(N:Nat):List Nat->List Nat->List Nat
 |[],U=>U
 |i::l,U=>if(Nat.blt i N&&!(U.any (Nat.beq i)))=true then vk N l (i::U) else vk N l U
def Vh(h:List ay)(ids:List Nat):Bool:=ids.all λid=>match h[id]? with
 |some o=>Nat.beq o.fz o.es.length
 |none=>true
def fnV:Value->Option Nat
 |.func (.func f) a b=>match a.toList,b.toList with
  |[],[]=>some f
  |_,_=>none
 |_=>none
section
variable(Gl:Nat->Option (List AV))(cf:Nat->List AV->List ay->Option IR)(pf:Nat->List AV->Option AV)
def exI(d:Bool)(σ:St):I->Option IR
 |.call fo args=>match σ.val Gl fo with
  |.v v=>match fnV v with
   | some f=>if d=true then match dY σ.h (args.map (σ.val Gl)) with
     |some as=>match pf f as with
      |some res=>if(scalar res||Vh σ.h ((args.map (σ.val Gl)).flatMap dJ))=true then some (.val res σ.h []) else none
      |none=>none
     |none=>none
    else cf f (args.map (σ.val Gl)) σ.h
   |none=>none
  |_=>none
 |i=>match exS Gl σ i with
  |some (a,h')=>some (.val a h' (tI Gl σ i))
  |none=>none
def gdB(σ:St)(ins:Ins):Option Bool:=match ins.gd with
 |none=>some true
 |some (s,want)=>match σ.t.getD s .any with
  |.v (.bool b)=>some (b==want)
  |.v (.tuple _)=>some false
  |_=>none
def wC(d:Bool)(σ:St)(ins:Ins):Option IR:=match gdB σ ins with
 |some true=>exI Gl cf pf d σ ins.i
 |some false=>some (.val und σ.h [])
 |none=>none
def pV(d:Bool)(N:Nat):List Ins->St->List Nat->Option Out
 |[],σ,U=>some (.nrm .normal σ U)
 |i::r,σ,U=>match wC Gl cf pf d σ i with
  |some (.val a h' ids)=>pV d N r (St.put ⟨σ.t,h'⟩ i.dst a) (vk N ids U)
  |some (.pan v)=>if(d||i.gd.isSome)=true then none else some (.pan v)
  |none=>none
structure RW where
 rd:List Nat
 uw:List Nat
def waits(p:Nat×Ins)(r:List (Nat×Ins)):Bool:=r.all λq=>iw p q&&!pU q
def calm(p:Nat×Ins):Bool:=!(p.2.i.iU)&&Nat.ble p.2.i.cls 1&&Nat.ble p.1 1&&!pU p
def exR(M N:Nat):Bool->List (Nat×Ins)->St->RW->List Nat->Option (Out×RW)
 |_,[],σ,q,U=>some (.nrm .normal σ U,q)
 |c,(0,i)::r,σ,q,U=>match wC Gl cf pf true σ i with
  |some (.val a h' ids)=>exR M N (c&&calm (0,i)) r (St.put ⟨σ.t,h'⟩ i.dst a) q (vk N ids U)
  |_=>none
 |c,(1,i)::r,σ,q,U=>match wC Gl cf pf true σ i with
  |some (.val a h' ids)=>exR M N (c&&calm (1,i)) r (St.put ⟨σ.t,h'⟩ i.dst a) ⟨(match gdB σ i with|some true=>i.i.ids Gl σ|_=>[])++q.rd,q.uw⟩ (vk N ids U)
  |_=>none
 |c,(m+2,i)::r,σ,q,U=>match wC Gl cf pf false σ i with
  |some (.val a h' ids)=>exR M N false r (St.put ⟨σ.t,h'⟩ i.dst a) ⟨q.rd,vk M ids q.uw⟩ (vk N ids U)
  |some (.pan v)=>if(c&&waits (m+2,i) r&&!(i.gd.isSome))=true then some (.pan v,q) else none
  |none=>none
def TM(M:Nat)(q:RW):Bool:=q.rd.all λid=>Nat.blt id M&&!(q.uw.any (Nat.beq id))
end
def um(Gl:Nat->Option (List AV))(σ:St):List RV->Option (List AV)
 |[]=>some []
 |.t i::r=>match um Gl σ r with
  |some l=>some (σ.t.getD i .any::l)
  |none=>none
 |.c i sz ag::r=>match exS Gl σ (.load sz ag (.t i)),um Gl σ r with
  |some (a,_),some l=>some (a::l)
  |_,_=>none
def uV:List AV->AV
 |[a]=>a
 |l=>.tup l
def rP:Exit->Bool
 |.normal=>true
 |.ret=>true
 |_=>false
structure FnE where
 c:C
 rs:List RV
 n:Nat
def fnE(P:Program)(hl:List Nat)(f:Nat):Option FnE:=match P.funcs[f]? with
 |some fn=>match fn.body with
  |some b=>match cC P hl b,pJ P fn.results.toList with
   |some c,some rs=>if callable P f=true then some ⟨c,rs,fn.ntmps⟩ else none
   |_,_=>none
  |none=>none
 |none=>none
structure Hand where
 h:(Nat->List AV->List ay->Option IR)->(Nat->List AV->Option AV)->Nat->Option (List AV->List ay->Option IR)
 p:(Nat->List AV->List ay->Option IR)->(Nat->List AV->Option AV)->Nat->Option (List AV->Option AV)
section
variable(Gl:Nat->Option (List AV))(tab:Nat->Option FnE)(hd:Hand)(ex:Nat->C->St->List Nat->Option Out)
def cfB(f:Nat)(as:List AV)(h:List ay):Option IR:=match tab f with
 |some e=>match ex h.length e.c ⟨as++List.replicate (e.n-as.length) .any,h⟩ []with
  | some (.nrm x τ U)=>if rP x=true then match um Gl τ e.rs with
    |some l=>some (.val (uV l) τ.h U)
    |none=>none
   else none
  |some (.pan v)=>some (.pan v)
  |none=>none
 |none=>none
def pfB(f:Nat)(as:List AV):Option AV:=match tab f with
 |some e=>match ex 0 e.c ⟨as++List.replicate (e.n-as.length) .any,[]⟩ []with
  | some (.nrm x τ _)=>if rP x=true then match um Gl τ e.rs with
    |some l=>yg τ.h (uV l)
    |none=>none
   else none
  |_=>none
 |none=>none
def pfA(f:Nat)(as:List AV):Option AV:=match hd.p (cfB Gl tab ex) (pfB Gl tab ex) f with
 |some g=>g as
 |none=>pfB Gl tab ex f as
def cfA(f:Nat)(as:List AV)(h:List ay):Option IR:=match hd.h (cfB Gl tab ex) (pfB Gl tab ex) f with
 |some g=>g as h
 |none=>match hd.p (cfB Gl tab ex) (pfB Gl tab ex) f with
  |some g=>match dY h as with
   |some bs=>match g bs with
    |some res=>some (if scalar res=true then .val res h [] else .val res (freeze h (as.flatMap dJ)) (as.flatMap dJ))
    |none=>none
   |none=>none
  |none=>cfB Gl tab ex f as h
end
def exC(Gl:Nat->Option (List AV))(tab:Nat->Option FnE)(hd:Hand):Nat->Nat->C->St->List Nat->Option Out
 |0,_,_,_,_=>none
 |n+1,N,c,σ,U=>match c with
  |.skip=>some (.nrm .normal σ U)
  |.ops d l=>pV Gl (cfA Gl tab hd (exC Gl tab hd n)) (pfA Gl tab hd (exC Gl tab hd n)) d N l σ U
  |.qd l=>match exR Gl (cfA Gl tab hd (exC Gl tab hd n)) (pfA Gl tab hd (exC Gl tab hd n)) σ.h.length N true l σ ⟨[],[]⟩ U with
   |some (o,q)=>if TM σ.h.length q=true then some o else none
   |none=>none
  |.seq a b=>match exC Gl tab hd n N a σ U with
   |some (.nrm .normal τ V)=>exC Gl tab hd n N b τ V
   |o=>o
  |.cond o a b=>match σ.val Gl o with
   |.v (.bool true)=>exC Gl tab hd n N a σ U
   |.v (.bool false)=>exC Gl tab hd n N b σ U
   |_=>none
  |.block id b=>match exC Gl tab hd n N b σ U with
   |some (.nrm (.exit i) τ V)=>if Nat.beq i id=true then some (.nrm .normal τ V) else some (.nrm (.exit i) τ V)
   |o=>o
  |.loop b=>match exC Gl tab hd n N b σ U with
   |some (.nrm .normal τ V)=>exC Gl tab hd n N (.loop b) τ V
   |o=>o
  |.exit id=>some (.nrm (.exit id) σ U)
  |.ret=>some (.nrm .ret σ U)
theorem nA{a b:Nat}(h:Nat.blt a b=true):a<b:=aZ h
theorem xP{n:Int}{len:Nat}(h:wu n len=true):0<=n/\n<len:=by
 cases n with
 |ofNat m=>have:=nA h;exact⟨Int.natCast_nonneg m,by simpa using this⟩
 |negSucc m=>cases h
theorem Y3(a b:Int):ltI a b=decide (a<b):=by
 cases a with
 |ofNat a=>cases b with
  |ofNat b =>
   show Nat.blt a b=_
   rw[cZ,dV]
   exact⟨λh=>by have:=nA h;show(a:Int)<(b:Int);omega,λh=>dU (by have h:(a:Int)<(b:Int):=h;show a+1<=b;omega)⟩
  |negSucc b =>
   show false=_
   rw[cZ,dV]
   exact⟨λh=>(by cases h),λh=>(by have h:(a:Int)<Int.negSucc b:=h;omega)⟩
 |negSucc a=>cases b with
  |ofNat b =>
   show true=_
   rw[cZ,dV]
   exact⟨λ_=>by show Int.negSucc a<(b:Int);omega,λ_=>rfl⟩
  |negSucc b =>
   show Nat.blt b a=_
   rw[cZ,dV]
   exact⟨λh=>by have:=nA h;omega,λh=>dU (by show b+1<=a;omega)⟩
theorem PN(a b:Int):eqI a b=(a==b):=by
 rw[cZ,nK]
 cases a with
 |ofNat a=>cases b with
  |ofNat b=>show Nat.beq a b=true↔_;rw[Nat.beq_eq];exact⟨λh=>by rw[h],λh=>by cases h;rfl⟩
  |negSucc b=>exact⟨λh=>(by cases h),λh=>(by cases h)⟩
 |negSucc a=>cases b with
  |ofNat b=>exact⟨λh=>(by cases h),λh=>(by cases h)⟩
  |negSucc b=>show Nat.beq a b=true↔_;rw[Nat.beq_eq];exact⟨λh=>by rw[h],λh=>by cases h;rfl⟩
theorem FZ(k:IntKind)(n:Int):xY k n=k.wrap n:=by
 unfold xY
 split
 .split
  .rename_i m h;have:=nA h;exact(wrap64 (by show _<=(m:Int);omega) (by show(m:Int)<=_;omega)).symm
  .rfl
 .split
  .rename_i m h;have:=nA h;exact(wrap64 (by omega) (by omega)).symm
  .rfl
 .split
  .rename_i m h;have:=nA h;exact(Td (by show _<=(m:Int);omega) (by show(m:Int)<=_;omega)).symm
  .rfl
 .rfl
theorem En:∀(a b:List UInt8),J7 a b=(a==b)
 |[],[]=>rfl
 |[],_::_=>rfl
 |_::_,[]=>rfl
 |a::as,b::bs=>by
  rw[List.cons_beq_cons,<- En as bs]
  show(if Nat.beq a.toNat b.toNat=true then J7 as bs else false)=_
  by_cases h:a=b
  .subst h;simp
  ·have:Nat.beq a.toNat b.toNat=false:=by
    rw[gY]
    intro q
    rw[Nat.beq_eq]at q
    exact h (Av.1 q)
   rw[this];simp[h]
theorem NY(a b:ByteArray):zf a b=(a.toList==b.toList):=by
 unfold zf
 rw[En,ByteArray.toList_eq,ByteArray.toList_eq]
theorem XP(a b:Int):(not (ltI b a))=decide (a<=b):=by
 rw[Y3]
 by_cases h:a<=b
 .rw[bX h,dQ (by omega)];rfl
 .rw[dQ h,bX (by omega)];rfl
theorem a6F{op:BinOp}{a b r:Value}(h:GL op a b=some r):∃p,rF op a b=some (p,r)/\p:=by
 unfold GL at h
 split at h
 iterate 3
  .split at h
   .rename_i hk;subst hk;cases h;exact⟨True,by simp only[rF,if_true,FZ],trivial⟩
   .cases h
 .split at h
  .rename_i hk;subst hk
   split at h
   .cases h
   .rename_i hz;cases h
    exact⟨_,by simp only[rF,if_true,FZ];rfl,by rw[PN]at hz;simpa using hz⟩
  .cases h
 .split at h
  .rename_i hk;subst hk
   split at h
   .cases h
   .rename_i hz;cases h
    exact⟨_,by simp only[rF,if_true];rfl,by rw[PN]at hz;simpa using hz⟩
  .cases h
 iterate 6
  .split at h
   .rename_i hk;subst hk;cases h;exact⟨True,by first|(simp only[rF,if_true,PN,XP,bne];done)|(simp only[rF,if_true,Y3];done),trivial⟩
   .cases h
 .split at h
  .rename_i hf;cases h;exact⟨_,rfl,aZ hf⟩
  .cases h
 .cases h;exact⟨True,by simp only[rF,NY],trivial⟩
 .cases h;exact⟨True,by simp only[rF,NY],trivial⟩
 .cases h
theorem a6n{n:Nat}{lo hi:Option AV}{p:Prop}{l u:Int}(hg:El n lo hi=true)(hc:nJ n lo hi=some (p,l,u)):p:=by
 have e:p=(0<=l/\l<=u/\u<=n):=by
  unfold nJ at hc
  split at hc
  .cases hc;rfl
  .cases hc
 unfold El at hg
 rw[hc]at hg
 simp only[au,XP,dV]at hg
 rw[e]
 exact⟨hg.1.1,hg.1.2,hg.2⟩
theorem Fv{n:Nat}{lo hi:Option AV}{α:Type}{f:Prop×Int×Int->α}{q:α}(hg:El n lo hi=true)(hc:(nJ n lo hi).map f=some q):∃p l u,p/\q=f (p,l,u):=by
 rw[dK]at hc
 obtain⟨⟨p,l,u⟩,h1,rfl⟩:=hc
 exact⟨p,l,u,a6n hg h1,rfl⟩
theorem b7t{m b c:Nat}(h:m*b<=c):(m:Int)*(b:Int)<=(c:Int):=by
 have:=Int.ofNat_le.2 h
 rw[Int.natCast_mul]at this
 exact this
theorem Ke{n b:Nat}(h:PD n b=true):n*b<=nD/\n<=4611686018427387904:=by
 unfold PD at h
 rw[au]at h
 exact⟨aZ h.1,aZ h.2⟩
theorem RN{h:List ay}{ty sz bytes:Nat}{a:AV}{ys:List AV}{p:Prop}{r:AV}{h':List ay}(hg:appG h bytes a ys.length ys.isEmpty=true)(hs:wG h ty sz bytes a ys=some (p,r,h')):p:=by
 unfold wG at hs
 split at hs
 .cases hs;exact Ke hg
 .rename_i id G sz' off len
  split at hs
  .split at hs
   .cases hs
    simp only[appG,au]at hg
    have:=Ke hg.2
    exact⟨bM hg.1,this.1,this.2⟩
   .cases hs
  .cases hs
 .cases hs
section
variable{Gl:Nat->Option (List AV)}{σ:St}
theorem b4E{i:I}{p:Prop}{a:AV}{h':List ay}(hg:gB Gl σ i=true)(hb:∀op x y,i≠.bin op x y)(hs:step Gl σ i=some (p,a,h')):p:=by
 have triv:∀{α:Type} {o:Option α} {f:α->Prop×AV×List ay},(∀x,(f x).1=True)->o.map f=some (p,a,h')->p:=λhf h=>by
  rw[dK]at h
  obtain⟨x,_,e⟩:=h
  have:=hf x
  rw[e]at this
  simp only at this
  rw[this];trivial
 cases i with
 |bin op x y=>exact absurd rfl (hb op x y)
 |call f as=>cases hg
 |oK sz x n =>
  simp only[step]at hs
  simp only[gB]at hg
  split at hs
  .rename_i sz' xs k m h1 h2
   rw[h1,h2]at hg
   split at hs
   .cases hs;exact xP hg
   .cases hs
  .rename_i id G sz' off len k m h1 h2
   rw[h1,h2]at hg
   split at hs
   .cases hs;exact xP hg
   .cases hs
  .cases hs
 |load sz ag x =>
  simp only[step]at hs
  simp only[gB]at hg
  split at hs
  .split at hs
   .split at hs
    .cases hs;trivial
    .cases hs
   .exact triv (λ_=>rfl) hs
  .rename_i id G j o hv
   rw[hv]at hg
   split at hs
   .rename_i ob ho
    simp only[ho,au]at hg
    split at hs
    .split at hs
     .rename_i hag
      cases hs
      rw[if_pos hag]at hg
      exact⟨aZ hg.1,nA hg.2⟩
     .rename_i hag
      cases hs
      rw[if_neg hag]at hg
      exact⟨nA hg.1,nA hg.2⟩
    .cases hs
   .cases hs
  .cases hs
 |store sz x y =>
  simp only[step]at hs
  simp only[gB]at hg
  split at hs
  .rename_i id G j o hv
   rw[hv]at hg
   split at hs
   .rename_i ob ho
    simp only[ho]at hg
    split at hs
    .split at hs
     .rename_i cs hcs
      simp only[hcs,au]at hg
      split at hs
      .cases hs;exact⟨aZ hg.1.1,nA hg.1.2,aZ hg.2⟩
      .cases hs
     .rename_i hcs
      simp only[hcs]at hg
      split at hs
      .rename_i b oc hb' hoc
       simp only[hoc,au]at hg
       split at hs
       .split at hs
        .cases hs;exact⟨aZ hg.1.1,nA hg.1.2,aZ hg.2⟩
        .cases hs
       .cases hs
      .cases hs
    .cases hs
   .cases hs
  .cases hs
 |slice sz x lo hi =>
  simp only[step]at hs
  simp only[gB]at hg
  split at hs
  .rename_i sz' xs hv
   rw[hv]at hg
   split at hs
   .obtain⟨p',l,u,hp,e⟩:=Fv hg hs;cases e;exact hp
   .cases hs
  .rename_i hv
   rw[hv]at hg
   obtain⟨p',l,u,hp,e⟩:=Fv hg hs;cases e;exact hp
  .rename_i id G sz' off len hv
   rw[hv]at hg
   split at hs
   .obtain⟨p',l,u,hp,e⟩:=Fv hg hs;cases e;exact hp
   .cases hs
  .cases hs
 |oI x lo hi =>
  simp only[step]at hs
  simp only[gB]at hg
  split at hs
  .rename_i s hv
   rw[hv]at hg
   obtain⟨p',l,u,hp,e⟩:=Fv hg hs;cases e;exact hp
  .cases hs
 |idx x n =>
  simp only[step]at hs
  simp only[gB]at hg
  split at hs
  .rename_i s k m h1 h2
   rw[h1,h2]at hg
   cases hs;exact xP hg
  .cases hs
 |app ty sz bytes s x =>
  simp only[step]at hs
  simp only[gB]at hg
  split at hs
  .rename_i ys hy
   rw[hy]at hg
   exact RN hg hs
  .cases hs
 |apps ty bytes s x =>
  simp only[step]at hs
  simp only[gB]at hg
  split at hs
  .rename_i b hv
   rw[hv]at hg
   exact RN hg hs
  .cases hs
 |mk ty sz bytes zero n =>
  simp only[step]at hs
  simp only[gB]at hg
  split at hs
  .rename_i m hv
   rw[hv]at hg
   cases hs
   cases m with
   |ofNat m =>
    have:=Ke hg
    exact⟨Int.natCast_nonneg m,b7t this.1,by show(m:Int)<=_;have:=this.2;omega⟩
   |negSucc m=>cases hg
  .cases hs
 |o8 bsz st n x m =>
  simp only[step]at hs
  simp only[gB]at hg
  split at hs
  .rename_i id G j o k m h1 h2
   rw[h2]at hg
   split at hs
   .split at hs
    .cases hs;exact xP hg
    .split at hs
     .cases hs;exact xP hg
     .cases hs
   .cases hs
  .rename_i cs k m h1 h2
   rw[h2]at hg
   cases hs;exact xP hg
  .cases hs
 |un op x =>
  simp only[step]at hs
  split at hs
  .exact triv (λ_=>rfl) hs
  .cases hs
 |ext j x =>
  simp only[step]at hs
  split at hs
  .exact triv (λ_=>rfl) hs
  .cases hs
 |b2s x =>
  simp only[step]at hs
  split at hs
  .exact triv (λ_=>rfl) hs
  .cases hs
 |build z ps =>
  simp only[step]at hs
  exact triv (λ_=>rfl) hs
 |_ =>
  simp only[step]at hs
  repeat' split at hs
  all_goals first
   |(cases hs;trivial)
   |(cases hs;done)
theorem Yx{i:I}{a:AV}{h':List ay}(h:exS Gl σ i=some (a,h')):∃p,step Gl σ i=some (p,a,h')/\p:=by
 have gen:∀ {i:I},(∀ op x y,i ≠ .bin op x y)->(match step Gl σ i with
   |some (_,a,h')=>if gB Gl σ i=true then some (a,h') else none
   |none=>none)=some (a,h')->∃p,step Gl σ i=some (p,a,h')/\p:=λhb h=>by
  split at h
  .rename_i p a0 h0 hs
   split at h
   .rename_i hg;cases h;exact⟨p,hs,b4E hg hb hs⟩
   .cases h
  .cases h
 cases i with
 |bin op x y =>
  simp only[exS]at h
  split at h
  .rename_i va vb h1 h2
   split at h
   .rename_i r hr
    cases h
    obtain⟨p,e,hp⟩:=a6F hr
    exact⟨p,by simp only[step,h1,h2,e,aW],hp⟩
   .cases h
  .cases h
 |conv k x =>
  simp only[exS]at h
  split at h
  .rename_i k' n h1
   cases h
   exact⟨True,by simp only[step,h1,FZ],trivial⟩
  .cases h
 |_=>exact gen (λ_ _ _ q=>by cases q) h
theorem Yn:∀(ids:List Nat) (h:List ay) (id:Nat),id∉ids->(freeze h ids)[id]?=h[id]?:=by
 intro ids
 induction ids with
 |nil=>intro h id _;rfl
 |cons j ids ih =>
  intro h id hn
  simp only[bE,not_or]at hn
  show(freeze (match h[j]? with|some o=>h.set j { o with fz:=o.es.length }|none=>h) ids)[id]?=_
  rw[ih _ id hn.2]
  split
  .rw[aP (λe=>hn.1 e.symm)]
  .rfl
theorem b1B:∀(ids:List Nat) (h:List ay),(freeze h ids).length=h.length:=by
 intro ids
 induction ids with
 |nil=>intro h;rfl
 |cons j ids ih =>
  intro h
  show(freeze (match h[j]? with|some o=>h.set j { o with fz:=o.es.length }|none=>h) ids).length=_
  rw[ih]
  split
  .simp
  .rfl
def Tch(h h':List ay)(ids:List Nat):Prop:=h.length<=h'.length/\∀id,id<h.length->id∉ids->h'[id]?=h[id]?
theorem Tch.refl(h:List ay)(ids:List Nat):Tch h h ids:=⟨bq _,λ_ _ _=>rfl⟩
theorem Tch.app(h l:List ay)(ids:List Nat):Tch h (h++l) ids:=⟨by simp,λid hid _=>aL hid⟩
theorem Tch.set{h:List ay}{id:Nat}{o:ay}{ids:List Nat}(hi:id∈ids):Tch h (h.set id o) ids:=⟨by simp,λj _ hn=>aP λe=>hn (by rw[<- e];exact hi)⟩
theorem Tch.frz(h:List ay){l ids:List Nat}(hl:∀id∈l,id∈ids):Tch h (freeze h l) ids:=⟨by rw[b1B];exact bq _,λj _ hn=>Yn l h j λq=>hn (hl j q)⟩
theorem Tch.trans{h h1 h2:List ay}{ids:List Nat}(a:Tch h h1 ids)(b:Tch h1 h2 ids):Tch h h2 ids:=⟨bD a.1 b.1,λj hj hn=>by rw[b.2 j (jk hj a.1) hn,a.2 j hj hn]⟩
theorem Qh{h:List ay}{ty sz bytes:Nat}{a:AV}{ys:List AV}{p:Prop}{r:AV}{h':List ay}{ids:List Nat}(hi:∀id G sz off len,a=.row id G sz off len->id∈ids)(hs:wG h ty sz bytes a ys=some (p,r,h')):Tch h h' ids:=by
 unfold wG at hs
 split at hs
 .cases hs;exact .app _ _ _
 .split at hs
  .split at hs
   .cases hs;exact .set (hi _ _ _ _ _ rfl)
   .cases hs
  .cases hs
 .cases hs
theorem b2A{i:I}{p:Prop}{a:AV}{h':List ay}(hs:step Gl σ i=some (p,a,h')):Tch σ.h h' (tI Gl σ i):=by
 have same:∀{α:Type} {o:Option α} {f:α->Prop×AV×List ay},(∀x,(f x).2.2=σ.h)->o.map f=some (p,a,h')->h'=σ.h:=λhf h=>by
  rw[dK]at h
  obtain⟨x,_,e⟩:=h
  have:=hf x
  rw[e]at this
  exact this
 have rfl':h'=σ.h->Tch σ.h h' (tI Gl σ i):=λe=>by rw[e];exact .refl _ _
 cases i with
 |app ty sz bytes s x =>
  simp only[step]at hs
  split at hs
  .exact Qh (λid G sz off len e=>by simp only[tI,e];simp) hs
  .cases hs
 |apps ty bytes s x =>
  simp only[step]at hs
  split at hs
  .exact Qh (λid G sz off len e=>by simp only[tI,e];simp) hs
  .cases hs
 |store sz x y =>
  simp only[step]at hs
  split at hs
  .rename_i id G j o hv
   have ht:tI Gl σ (.store sz x y)=id::dJ (σ.val Gl y):=by simp only[tI,hv]
   rw[ht]
   split at hs
   .split at hs
    .split at hs
     .split at hs
      .cases hs;exact .set (by simp)
      .cases hs
     .split at hs
      .split at hs
       .split at hs
        .cases hs;exact(Tch.frz σ.h (λid q=>gu _ q)).trans (.set (by simp))
        .cases hs
       .cases hs
      .cases hs
    .cases hs
   .cases hs
  .cases hs
 |mq ty sz xs =>
  simp only[step]at hs
  split at hs
  .split at hs
   .cases hs
    exact(Tch.frz σ.h (λid q=>q)).trans (.app _ _ _)
   .cases hs
  .cases hs
 |bin op x y =>
  simp only[step]at hs
  split at hs
  .exact rfl' (same (λ_=>rfl) hs)
  .cases hs
 |un op x =>
  simp only[step]at hs
  split at hs
  .exact rfl' (same (λ_=>rfl) hs)
  .cases hs
 |ext j x =>
  simp only[step]at hs
  split at hs
  .exact rfl' (same (λ_=>rfl) hs)
  .cases hs
 |load sz ag x =>
  simp only[step]at hs
  split at hs
  .split at hs
   .split at hs
    .cases hs;exact .refl _ _
    .cases hs
   .exact rfl' (same (λ_=>rfl) hs)
  .split at hs
   .split at hs
    .split at hs
     .cases hs;exact .refl _ _
     .cases hs;exact .refl _ _
    .cases hs
   .cases hs
  .cases hs
 |b2s x =>
  simp only[step]at hs
  split at hs
  .exact rfl' (same (λ_=>rfl) hs)
  .cases hs
 |build z ps =>
  simp only[step]at hs
  exact rfl' (same (λ_=>rfl) hs)
 |slice sz x lo hi =>
  simp only[step]at hs
  split at hs
  .split at hs
   .exact rfl' (same (λ_=>rfl) hs)
   .cases hs
  .exact rfl' (same (λ_=>rfl) hs)
  .split at hs
   .exact rfl' (same (λ_=>rfl) hs)
   .cases hs
  .cases hs
 |oI x lo hi =>
  simp only[step]at hs
  split at hs
  .exact rfl' (same (λ_=>rfl) hs)
  .cases hs
 |call f as=>cases hs
 |_ =>
  simp only[step]at hs
  repeat' split at hs
  all_goals first
   |(cases hs;exact .refl _ _)
   |(cases hs;exact .app _ _ _)
   |(cases hs;done)
end
section
variable{P:Program}{Gl:Nat->Option (List AV)}
def H7(B:Nat)(w0:W0)(v:Value)(w:World):Prop:=(∀ad y,w0.F ad=some y->w.cell? ad=some y)/\Below B w0.w w
def Ey(P:Program)(Gl:Nat->Option (List AV))(f:FuncId)(h:List ay)(as:List AV)(v:Value):Prop :=
 ∀(F:Addr->Option Value) (own:List Ent) (B:Nat) (w0:W0) (t:List AV) (act:Act) (w:World) (xs:Array Value),Inv Gl F own B w0 ⟨t,h⟩ act w->RL F own xs as->
  Calls P f xs w λe w'=>e=.panicked [{ v,recovered:=false }]/\H7 B w0 v w'
def a2U(P:Program)(Gl:Nat->Option (List AV))(f:Nat)(as:List AV)(h:List ay):IR->Prop
 |.val a h' ids=>mV P Gl f h as (λr k=>r=a/\k=h')/\Tch h h' ids
 |.pan v=>Ey P Gl f h as v
def uF(P:Program)(Gl:Nat->Option (List AV))(cf:Nat->List AV->List ay->Option IR):Prop:=∀f as h r,cf f as h=some r->callable P f=true/\a2U P Gl f as h r
def wI(P:Program)(Gl:Nat->Option (List AV))(pf:Nat->List AV->Option AV):Prop:=∀f as res,pf f as=some res->callable P f=true/\Pure P Gl f as res
def Qm(Gl:Nat->Option (List AV))(σ:St)(fo:Opd)(args:List Opd)(f:Nat)(as:List AV):Prop :=
 σ.val Gl fo=.v (.func (.func f) #[] #[])/\as=args.map (σ.val Gl)
def wO(P:Program)(Gl:Nat->Option (List AV))(σ:St)(ins:Ins)(v:Value):Prop :=
 ins.gd=none/\∃fo args f as,ins.i=.call fo args/\Qm Gl σ fo args f as/\callable P f=true/\Ey P Gl f σ.h as v
theorem Yq{v:Value}{f:Nat}(h:fnV v=some f):v=.func (.func f) #[] #[]:=by
 cases v with
 |func fn a b =>
  cases fn with
  |func g =>
   simp only[fnV]at h
   split at h
   .rename_i h1 h2
    have e1:a=#[]:=by simpa using h1
    have e2:b=#[]:=by simpa using h2
    cases h
    rw[e1,e2]
   .cases h
  |_=>cases h
 |_=>cases h
theorem a6a{h:List ay}{ids:List Nat}(hf:Vh h ids=true):freeze h ids=h:=Lx ids h λid hid o ho=>by
 have:=aG.1 hf id hid
 rw[ho]at this
 exact bM this
variable{cf:Nat->List AV->List ay->Option IR}{pf:Nat->List AV->Option AV}
theorem a6j(hcf:uF P Gl cf)(hpf:wI P Gl pf){d:Bool}{σ:St}{dst:Option Nat}{i:I}{a:AV}{h':List ay}{ids:List Nat}(h:exI Gl cf pf d σ i=some (.val a h' ids)):(∀K:St->Prop,K (St.put ⟨σ.t,h'⟩ dst a)->mg P Gl d σ dst K i)/\Tch σ.h h' ids:=by
 by_cases hn:i.iU=false
 ·have h1:(match exS Gl σ i with | some (a,h')=>some (IR.val a h' (tI Gl σ i)) | none=>none)=some (.val a h' ids):=by
   cases i<;>first|exact h|cases hn
  split at h1
  .rename_i a0 h0 hs
   cases h1
   obtain⟨p,e,hp⟩:=Yx hs
   exact⟨λK hK=>(GZ hn).2 ⟨p,_,_,e,hp,hK⟩,b2A e⟩
  .cases h1
 ·obtain ⟨fo,args,rfl⟩:∃ fo args,i=.call fo args:=by
   cases i with
   |call fo args=>exact⟨_,_,rfl⟩
   |_=>exact absurd rfl hn
  simp only[exI]at h
  split at h
  .rename_i v hv
   split at h
   .rename_i f hf
    rw[Yq hf]at hv
    split at h
    .rename_i hd
     split at h
     .rename_i as hk
      split at h
      .rename_i res hres
       split at h
       .rename_i hz
        cases h
        obtain⟨hc,hP⟩:=hpf _ _ _ hres
        have e:(if scalar a then σ.h else freeze σ.h ((args.map (σ.val Gl)).flatMap dJ))=σ.h:=by
         rw[fG]at hz
         rcases hz with q|q
         .rw[if_pos q]
         .rw[a6a q];split<;>rfl
        exact⟨λK hK=>⟨f,hv,hc,.inl ⟨as,a,hk,hP,λ_=>e,by rw[e];exact hK⟩⟩,.refl _ _⟩
       .cases h
      .cases h
     .cases h
    .rename_i hd
     obtain⟨hc,hP,hT⟩:=hcf _ _ _ _ h
     refine⟨λK hK=>⟨f,hv,hc,.inr ⟨by simpa using hd,hP.mono ?_⟩⟩,hT⟩
     rintro _ _ ⟨rfl,rfl⟩;exact hK
   .cases h
  .cases h
theorem a6k(hcf:uF P Gl cf){d:Bool}{σ:St}{i:I}{v:Value}(h:exI Gl cf pf d σ i=some (.pan v)):∃fo args f as,i=.call fo args/\Qm Gl σ fo args f as/\callable P f=true/\Ey P Gl f σ.h as v:=by
 by_cases hn:i.iU=false
 ·have h1:(match exS Gl σ i with | some (a,h')=>some (IR.val a h' (tI Gl σ i)) | none=>none)=some (.pan v):=by
   cases i<;>first|exact h|cases hn
  split at h1<;>cases h1
 ·obtain ⟨fo,args,rfl⟩:∃ fo args,i=.call fo args:=by
   cases i with
   |call fo args=>exact⟨_,_,rfl⟩
   |_=>exact absurd rfl hn
  simp only[exI]at h
  split at h
  .rename_i v' hv
   split at h
   .rename_i f hf
    rw[Yq hf]at hv
    split at h
    .split at h
     .split at h
      .split at h<;>cases h
      .cases h
     .cases h
    .obtain⟨hc,hP⟩:=hcf _ _ _ _ h
     exact⟨fo,args,f,_,rfl,⟨hv,rfl⟩,hc,hP⟩
   .cases h
  .cases h
theorem Lv{σ:St}{ins:Ins}(h:wants σ ins):gdB σ ins=some true:=by
 unfold wants at h
 unfold gdB
 split
 .rfl
 .rename_i s want hg
  rw[hg]at h
  simp only at h
  rw[h]
  simp
theorem sU(hcf:uF P Gl cf)(hpf:wI P Gl pf){d:Bool}{σ:St}{ins:Ins}{a:AV}{h':List ay}{ids:List Nat}(h:wC Gl cf pf d σ ins=some (.val a h' ids)):(∀K:St->Prop,K (St.put ⟨σ.t,h'⟩ ins.dst a)->gV P Gl d σ ins K)/\Tch σ.h h' ids:=by
 unfold wC at h
 split at h
 .rename_i hg
  obtain⟨h1,h2⟩:=a6j (dst:=ins.dst) hcf hpf h
  refine⟨λK hK=>?_,h2⟩
  have:=h1 K hK
  unfold gdB at hg
  unfold gV
  split at hg
  .rename_i e;rw[e];exact this
  .rename_i s want e
   rw[e]
   simp only
   split at hg
   .rename_i b hb
    rw[hb]
    simp only[dM,nK]at hg
    simp only[hg,if_true];exact this
   .cases hg
   .cases hg
 .rename_i hg
  cases h
  refine⟨λK hK=>?_,.refl _ _⟩
  unfold gdB at hg
  unfold gV
  split at hg
  .cases hg
  .rename_i s want e
   rw[e]
   simp only
   split at hg
   .rename_i b hb
    rw[hb]
    have hne:¬b=want:=by
     simp only[dM,wQ]at hg
     exact hg
    simp only[if_neg hne]
    exact hK
   .rename_i xs hb
    rw[hb]
    exact hK
   .cases hg
 .cases h
theorem Ee(hcf:uF P Gl cf){d:Bool}{σ:St}{ins:Ins}{v:Value}(h:wC Gl cf pf d σ ins=some (.pan v))(hg:ins.gd=none):wO P Gl σ ins v:=by
 unfold wC at h
 split at h
 .exact⟨hg,a6k hcf h⟩
 .cases h
 .cases h
theorem Kn{F:Addr->Option Value}{own:List Ent}{B:Nat}{w0:W0}{σ:St}{act:Act}{w:World}(hI:Inv Gl F own B w0 σ act w){lm:Bool}{ops:Array Oper}{o:Oper}{ins:Ins}(hc:jI P lm ops o=some ins){k:Nat}(hk:ops[k]?=some o){v:Value}(hd:wO P Gl σ ins v){Q:Exit->Act->World->Prop}(hQ:∀w',H7 B w0 v w'->Q (.panic [{ v,recovered:=false }]) act w')(next:Act->World->Prop):wpOp P ops Q k next act w:=by
 obtain⟨hgd,fo,args,f,as,hi,hat,hcb,hP⟩:=hd
 unfold wpOp
 rw[hk]
 simp only
 unfold jI at hc
 cases hci:cI P (a1V P lm ops o) o.op with
 |none=>rw[hci]at hc;cases hc
 |some i =>
  rw[hci]at hc
  simp only at hc
  have hg:o.guard=none:=by
   cases hg:o.guard with
   |none=>rfl
   |some q =>
    obtain⟨j,want⟩:=q
    rw[hg]at hc
    simp only at hc
    split at hc
    .cases hc;cases hgd
    .cases hc
  rw[hg]at hc
  cases hc
  simp only at hi
  subst hi
  rw[if_pos (by simp[Region.wanted,hg])]
  left
  obtain⟨c,x,hop,a2f,rfl,rfl⟩:=RG hci
  obtain⟨fn,hfn,hbody,hname⟩:=CX hcb
  obtain⟨hfv,rfl⟩:=hat
  have hev:act.eval x=.func (.func f) #[] #[]:=by have:=hI.ev x;rw[hfv]at this;exact this.dN
  have hrl:RL F own (c.args.map act.eval) ((c.args.toList.map bF).map (σ.val Gl)):=by
   refine⟨by simp,λj x a hx ha=>?_⟩
   have hj:j<c.args.size:=by have:=(eY.1 hx).1;simpa using this
   rw[tu,aF hj]at hx
   cases hx
   simp[ah,hj]at ha
   subst ha
   exact hI.ev c.args[j]
  have hrun:(execOp act.eval o).run P w=.ok (.enter f (c.args.map act.eval)) w:=by
   unfold execOp
   simp only[hop]
   have hb':¬fn.body=none:=by intro q;rw[q]at hbody;cases hbody
   have hn':¬fn.name= "runtime.NumGoroutine":=by simpa using hname
   simp[resolve,a2f,hev,Deferred.ofValue,invoke,callFunc,hfn,hn',hb']
  unfold Oper.wp
  rw[hrun,Oper.upon_enter]
  refine(hP F own B w0 σ.t act w _ hI hrl).mono ?_
  rintro e w' ⟨rfl,hD⟩
  exact hQ w' hD
def TU(N:Nat)(V:List Nat)(h h':List ay):Prop:=h.length<=h'.length/\∀id,id<N->id<h.length->id∉V->h'[id]?=h[id]?
theorem TU.refl(N:Nat)(V:List Nat)(h:List ay):TU N V h h:=⟨bq _,λ_ _ _ _=>rfl⟩
theorem TU.trans{N:Nat}{V V':List Nat}{h h1 h2:List ay}(a:TU N V h h1)(b:TU N V' h1 h2)(hs:∀id∈V,id∈V'):TU N V' h h2 :=
 ⟨bD a.1 b.1,λid hN hid hn=>by rw[b.2 id hN (jk hid a.1) hn,a.2 id hN hid λq=>hn (hs id q)]⟩
theorem vg(N:Nat):∀(ids U:List Nat),(∀id∈U,id∈vk N ids U)/\∀id∈ids,id<N->id∈vk N ids U:=by
 intro ids
 induction ids with
 |nil=>intro U;exact⟨λ_ h=>h,λ_ h=>by simp at h⟩
 |cons i ids ih =>
  intro U
  simp only[vk]
  split
  .rename_i hc
   obtain⟨h1,h2⟩:=ih (i::U)
   refine⟨λid h=>h1 id (gu _ h),λid h hN=>?_⟩
   rcases bE.1 h with rfl|h
   .exact h1 _ (by simp)
   .exact h2 id h hN
  .rename_i hc
   obtain⟨h1,h2⟩:=ih U
   refine⟨h1,λid h hN=>?_⟩
   rcases bE.1 h with rfl|h
   .refine h1 _ ?_
    have hb:Nat.blt id N=true:=dU hN
    rw[hb]at hc
    simp only[iJ,fH,Bool.not_eq_false]at hc
    obtain⟨j,hj,e⟩:=gT.1 hc
    rw[bM e];exact hj
   .exact h2 id h hN
theorem TU.step{N:Nat}{h h':List ay}{ids U:List Nat}(ht:Tch h h' ids):TU N (vk N ids U) h h' :=
 ⟨ht.1,λid hN hid hn=>ht.2 id hid λq=>hn ((vg N ids U).2 id q hN)⟩
theorem Ed(hcf:uF P Gl cf)(hpf:wI P Gl pf){d:Bool}{N:Nat}:∀(l:List Ins) (σ:St) (U:List Nat) (e:Exit) (τ:St) (V:List Nat),pV Gl cf pf d N l σ U=some (.nrm e τ V)->e=.normal/\(∀K:St->Prop,K τ->Bg P Gl d K l σ)/\TU N V σ.h τ.h/\∀id∈U,id∈V:=by
 intro l
 induction l with
 |nil=>intro σ U e τ V h;cases h;exact⟨rfl,λK hK=>hK,.refl _ _ _,λ_ h=>h⟩
 |cons i l ih =>
  intro σ U e τ V h
  simp only[pV]at h
  split at h
  .rename_i a h' ids hi
   obtain⟨h1,h2⟩:=sU hcf hpf hi
   obtain⟨k1,k2,k3,k4⟩:=ih _ _ _ _ _ h
   rw[mP]at k3
   exact⟨k1,λK hK=>h1 _ (k2 K hK),(TU.step (U:=U) h2).trans k3 k4,λid hid=>k4 id ((vg N ids U).1 id hid)⟩
  .split at h<;>cases h
  .cases h
theorem Yy (hcf:uF P Gl cf) (hpf:wI P Gl pf) {lm d:Bool} {N:Nat} {ops:Array Oper} {Q:Exit->Act->World->Prop} {B:Nat} {w0:W0} {v:Value} (hQ:∀ a w,a.defers=w0.df->H7 B w0 v w->Q (.panic [{ v,recovered:=false }]) a w):∀ (l:List Ins) (k:Nat),(∀ j,k + j < ops.size->∃ ins o,l[j]?=some ins/\ops[k + j]?=some o/\jI P lm ops o=some ins)->k + l.length=ops.size ->
  ∀(σ:St) (U:List Nat) (F:Addr->Option Value) (own:List Ent) (act:Act) (w:World),pV Gl cf pf d N l σ U=some (.pan v)->Inv Gl F own B w0 σ act w->d=false/\wpOps P ops Q (List.range' k l.length) act w:=by
 intro l
 induction l with
 |nil=>intro k _ _ σ U F own act w h;cases h
 |cons ins l ih =>
  intro k hl hk σ U F own act w h hI
  obtain⟨ins',o,e1,e2,e3⟩:=hl 0 (by simp at hk;omega)
  simp at e1
  subst e1
  simp only[jW]at e2
  rw[bf,nV,wpOps_cons]
  simp only[pV]at h
  split at h
  .rename_i a h' ids hi
   obtain⟨h1,h2⟩:=sU hcf hpf hi
   have key:=λF own act w hI=>ih (k+1) (λj hj=>by
    obtain⟨i',o',f1,f2,f3⟩:=hl (j+1) (by omega)
    exact⟨i',o',by simpa using f1,by rw[<- f2];congr 1;omega,f3⟩) (by simp at hk;omega) (St.put ⟨σ.t,h'⟩ ins.dst a) _ F own act w h hI
   have hd:d=false:=by
    cases d with
    |false=>rfl
    |true =>
     exfalso
     clear key ih hl hk e2 e3 hI h1 h2 hi
     revert h
     generalize St.put ⟨σ.t,h'⟩ ins.dst a=τ
     generalize vk N ids U=W
     clear U
     induction l generalizing τ W with
     |nil=>intro h;cases h
     |cons j l ihl =>
      intro h
      simp only[pV]at h
      split at h
      .exact ihl _ _ h
      .simp at h
      .cases h
   refine⟨hd,wpOp_mono ?_ (mH hI e3 (h1 _ (show(λρ=>ρ=St.put ⟨σ.t,h'⟩ ins.dst a) _ from rfl)) Q e2)⟩
   rintro a1 w1 ⟨F1,dA,σ1,hI1,rfl⟩
   exact(key F1 dA a1 w1 hI1).2
  .rename_i v' hi
   split at h
   .cases h
   .rename_i hg
    cases h
    simp only[fG,not_or,qW]at hg
    have hgd:ins.gd=none:=by
     cases hq:ins.gd with
     |none=>rfl
     |some _=>rw[hq]at hg;cases hg.2
    exact⟨hg.1,Kn hI e3 e2 (Ee hcf hi hgd) (λw' hD=>hQ act w' hI.defers hD) _⟩
  .cases h
theorem a6h (hcf:uF P Gl cf) (hpf:wI P Gl pf) {M N:Nat}:∀ (l:List (Nat × Ins)) (c:Bool) (σ:St) (q:RW) (U:List Nat) (e:Exit) (τ:St) (V:List Nat) (q':RW),M<=σ.h.length->exR Gl cf pf M N c l σ q U=some (.nrm e τ V,q') ->
  e=.normal/\(∀id∈q.rd,id∈q'.rd)/\(∀id∈q.uw,id∈q'.uw)/\TU N V σ.h τ.h/\(∀id∈U,id∈V)/\∀W:List Nat,(∀id∈q'.uw,id∈W)->(∀id∈q'.rd,id<M/\id∉W)->∀K:St->Prop,K τ->fQ P Gl M W K l σ:=by
 intro l
 induction l with
 |nil=>intro c σ q U e τ V q' _ h;cases h;exact⟨rfl,λ_ h=>h,λ_ h=>h,.refl _ _ _,λ_ h=>h,λ_ _ _ K hK=>hK⟩
 |cons p l ih =>
  intro c σ q U e τ V q' hM h
  obtain⟨m,i⟩:=p
  match m,h with
  |0,h =>
   simp only[exR]at h
   split at h
   .rename_i a h' ids hi
    obtain⟨h1,h2⟩:=sU hcf hpf hi
    obtain⟨k1,k2,k3,k4,k5,k6⟩:=ih _ _ _ _ _ _ _ _ (by rw[mP];exact bD hM h2.1) h
    rw[mP]at k4
    exact⟨k1,k2,k3,(TU.step (U:=U) h2).trans k4 k5,λid hid=>k5 id ((vg N ids U).1 id hid),λW a b K hK=>h1 _ (k6 W a b K hK)⟩
   .cases h
  |1,h =>
   simp only[exR]at h
   split at h
   .rename_i a h' ids hi
    obtain⟨h1,h2⟩:=sU hcf hpf hi
    obtain⟨k1,k2,k3,k4,k5,k6⟩:=ih _ _ _ _ _ _ _ _ (by rw[mP];exact bD hM h2.1) h
    rw[mP]at k4
    refine⟨k1,λid hid=>k2 id (aH.2 (.inr hid)),k3,(TU.step (U:=U) h2).trans k4 k5,λid hid=>k5 id ((vg N ids U).1 id hid),λW a b K hK=>⟨λhw id hid=>?_,h1 _ (k6 W a b K hK)⟩⟩
    refine b id (k2 id (aH.2 (.inl ?_)))
    rw[Lv hw]
    exact hid
   .cases h
  |m+2,h =>
   simp only[exR]at h
   split at h
   .rename_i a h' ids hi
    obtain⟨h1,h2⟩:=sU hcf hpf hi
    obtain⟨k1,k2,k3,k4,k5,k6⟩:=ih _ _ _ _ _ _ _ _ (by rw[mP];exact bD hM h2.1) h
    rw[mP]at k4
    refine⟨k1,k2,λid hid=>k3 id ((vg M ids q.uw).1 id hid),(TU.step (U:=U) h2).trans k4 k5,λid hid=>k5 id ((vg N ids U).1 id hid),λW a b K hK=>?_⟩
    show gV P Gl false σ i (λρ=>agree M W σ.h ρ.h/\fQ P Gl M W K l ρ)
    refine h1 _ ⟨?_,k6 W a b K hK⟩
    rw[mP]
    exact λid hid hn=>h2.2 id (jk hid hM) λr=>hn (a id (k3 id ((vg M ids q.uw).2 id r hid)))
   .split at h
    .cases h
    .cases h
   .cases h
theorem a6i (hcf:uF P Gl cf) (hpf:wI P Gl pf) {M N:Nat}:∀ (l:List (Nat × Ins)) (c:Bool) (σ:St) (q:RW) (U:List Nat) (v:Value) (q':RW),exR Gl cf pf M N c l σ q U=some (.pan v,q') ->
  c=true/\(∀id∈q.rd,id∈q'.rd)/\∃pre p post,l=pre++p::post/\(∀a∈pre,calm a=true)/\waits p post=true/\p.2.gd=none/\p.2.i.iU=true/\∀W:List Nat,(∀id∈q'.rd,id<M/\id∉W)->fQ P Gl M W (λρ=>wO P Gl ρ p.2 v) pre σ:=by
 intro l
 induction l with
 |nil=>intro c σ q U v q' h;cases h
 |cons p l ih =>
  intro c σ q U v q' h
  obtain⟨m,i⟩:=p
  match m,h with
  |0,h =>
   simp only[exR]at h
   split at h
   .rename_i a h' ids hi
    obtain⟨h1,h2⟩:=sU hcf hpf hi
    obtain⟨k1,k2,pre,p,post,rfl,k3,k4,k5,k6,k7⟩:=ih _ _ _ _ _ _ h
    rw[au]at k1
    refine⟨k1.1,k2,(0,i)::pre,p,post,rfl,λa ha=>?_,k4,k5,k6,λW b=>h1 _ (k7 W b)⟩
    rcases bE.1 ha with rfl|ha
    .exact k1.2
    .exact k3 a ha
   .cases h
  |1,h =>
   simp only[exR]at h
   split at h
   .rename_i a h' ids hi
    obtain⟨h1,h2⟩:=sU hcf hpf hi
    obtain⟨k1,k2,pre,p,post,rfl,k3,k4,k5,k6,k7⟩:=ih _ _ _ _ _ _ h
    rw[au]at k1
    refine⟨k1.1,λid hid=>k2 id (aH.2 (.inr hid)),(1,i)::pre,p,post,rfl,λa ha=>?_,k4,k5,k6,λW b=>⟨λhw id hid=>?_,h1 _ (k7 W b)⟩⟩
    .rcases bE.1 ha with rfl|ha
     .exact k1.2
     .exact k3 a ha
    .refine b id (k2 id (aH.2 (.inl ?_)))
     rw[Lv hw]
     exact hid
   .cases h
  |m+2,h =>
   simp only[exR]at h
   split at h
   .rename_i a h' ids hi
    obtain⟨k1,_⟩:=ih _ _ _ _ _ _ h
    cases k1
   .rename_i v' hi
    split at h
    .rename_i hc
     cases h
     simp only[au,fH]at hc
     have hgd:i.gd=none:=by
      cases hq:i.gd with
      |none=>rfl
      |some _=>rw[hq]at hc;cases hc.2
     exact⟨hc.1.1,λ_ h=>h,[],(m+2,i),l,rfl,λa ha=>by simp at ha,hc.1.2,hgd,(by obtain⟨_,fo,args,f,as,e,_⟩:=Ee hcf hi hgd;rw[e];rfl),λW _=>Ee hcf hi hgd⟩
    .cases h
   .cases h
end
section
variable{P:Program}{Gl:Nat->Option (List AV)}
theorem LP{a:Nat×Ins}(h:calm a=true):a.2.i.iU=false/\a.2.i.cls<=1/\a.1<=1/\pU a=false:=by
 unfold calm at h
 simp only[au,fH]at h
 exact⟨h.1.1.1,aZ h.1.1.2,aZ h.1.2,h.2⟩
theorem Vp{N:Nat}{U:List Nat}{p:Nat×Ins}{v:Value}:∀(pre:List (Nat×Ins)),(∀a∈pre,calm a=true/\iw a p=false)->∀(σ:St),fQ P Gl N U (λρ=>wO P Gl ρ p.2 v) pre σ->wO P Gl σ p.2 v:=by
 intro pre
 induction pre with
 |nil=>intro _ σ h;exact h
 |cons a pre ih =>
  intro hp σ h
  obtain⟨hc,hq⟩:=hp a (by simp)
  obtain⟨c1,c2,c3,c4⟩:=LP hc
  have h':rJ P Gl N U a σ (fQ P Gl N U (λρ=>wO P Gl ρ p.2 v) pre):=h
  rw[tH c1]at h'
  obtain⟨x,h2,hD,hr⟩:=h'
  obtain⟨⟨q,e,_⟩,_,_⟩:=hD
  have eh:h2=σ.h:=Gi c2 c1 e
  subst eh
  obtain⟨g1,fo,args,f,as,g2,g3,g4,g5⟩:=ih (λb hb=>hp b (by simp[hb])) _ hr
  rw[mP]at g5
  have hs:∀s∈p.2.i.reads,(St.put ⟨σ.t,σ.h⟩ a.2.dst x).t.getD s .any=σ.t.getD s .any:=λs hs=>Ia λr=>((nR hq).1 s r).1 (by simp[Ins.looks,hs])
  rw[g2]at hs
  have e1:St.val Gl (St.put ⟨σ.t,σ.h⟩ a.2.dst x) fo=σ.val Gl fo:=val_congr λs q=>hs s (by simp[I.reads,q])
  have e2:args.map (St.val Gl (St.put ⟨σ.t,σ.h⟩ a.2.dst x))=args.map (σ.val Gl):=map_congr λs q=>hs s (by simp only[I.reads,aH];exact .inr q)
  unfold Qm at g3
  rw[e1,e2]at g3
  exact⟨g1,fo,args,f,as,g2,g3,g4,g5⟩
theorem a2B {F:Addr->Option Value} {own:List Ent} {B:Nat} {w0:W0} {σ:St} {act:Act} {w:World} {N:Nat} {U:List Nat} {lm:Bool} {ops:Array Oper} {L:List (Nat × Ins)} (hl:L.length=ops.size) (hc:∀ (j:Nat) (o:Oper),ops[j]?=some o->∃ p,L[j]?=some p/\jI P lm ops o=some p.2) (hd:vD ops L=true\/vE ops L=true)
  {pre post:List (Nat×Ins)} {p:Nat×Ins} (hL:L=pre++p::post) (hpre:∀a∈pre,calm a=true) (hw:waits p post=true) (hcp:p.2.i.iU=true) {v:Value} {Q:Exit->Act->World->Prop} (hQ:∀a w,a.defers=w0.df->H7 B w0 v w->Q (.panic [{ v,recovered:=false }]) a w)
  (ha:fQ P Gl N U (λρ=>wO P Gl ρ p.2 v) pre σ) (hI:Inv Gl F own B w0 σ act w):wpAny P .any ops Q ops.size (Array.replicate ops.size false) act w:=by
 have hgo:∀i,i<L.length->pU (L.getD i default)=false:=λi hi=>by
  have hm:L.getD i default∈L:=by
   rw[bn,ah hi];exact jF hi
  generalize L.getD i default=a at hm
  rw[hL]at hm
  rcases aH.1 hm with h|h
  .exact(LP (hpre _ h)).2.2.2
  .rcases bE.1 h with rfl|h
   .cases hq:pU a with
    |false=>rfl
    |true=>have:=(zh hq).2.2.2.1;rw[hcp]at this;cases this
   .have:=aG.1 hw _ h
    simp only[au,fH]at this
    exact this.2
 obtain ⟨d1,d2,d3,dm⟩:(∀ i d,i < ops.size->d ∈ direct ops i->d < i)/\(∀ i j,j < i->i < ops.size->tb (Region.before ops) i j=true->j ∈ direct ops i\/∃ d ∈ direct ops i,j < d/\tb (Region.before ops) d j=true) /\
   (∀i j,j<i->i<ops.size->iw (L.getD j default) (L.getD i default)=true->tb (Region.before ops) i j=true)/\∀p∈L,okM p:=by
  rcases hd with hd|hd
  .exact Ef hd
  .obtain⟨a,b,c,d⟩:=Eh hd
   refine⟨a,b,λi j hj hi hq=>?_,d⟩
   rcases c i j hj hi hq with r|r
   .have:pU (L.getD i default)=true:=by unfold zQ at r;simp only[au]at r;exact r.1.1
    rw[hgo i (by omega)]at this;cases this
   .exact r.1
 generalize hn:ops.size=n at *
 generalize hk:pre.length=k
 have hkn:k<n:=by rw[<- hl,hL,<- hk];simp
 have l7:∀i,i<n->∃o p,ops[i]?=some o/\L[i]?=some p/\jI P lm ops o=some p.2/\L.getD i default=p/\okM p:=λi hi=>by
  have ho:ops[i]?=some (ops[i]'(by omega)):=aF (by omega)
  obtain⟨ins,e1,e2⟩:=hc i _ ho
  exact⟨_,ins,ho,e1,e2,by simp[List.getD,e1],dm ins (bO e1)⟩
 have atK:L[k]?=some p:=by rw[hL,<- hk];simp
 have ahead:∀(S:Nat->Bool),(∀i,i<n->S i=true->∀d∈direct ops i,S d=true)->∀i j,i<n->(∀d∈direct ops i,S d=true)->tb (Region.before ops) i j=true->j<i->S j=true:=by
  intro S hcl i
  induction i using Nat.strongRecOn with
  |_ i ih =>
   intro j hi lu ht hji
   rcases d2 i j hji hi ht with q|⟨d,hdm,r,q⟩
   .exact lu j q
   .have hdi:=d1 i d hi hdm
    exact ih d hdi j (by omega) (hcl d (by omega) (lu d hdm)) q r
 have mem_ready:∀(listed:Array Bool) (i:Nat),listed.size=n->i∈Region.ready .any ops listed->i<n/\listed.getD i false=false/\∀d∈direct ops i,listed.getD d false=true:=by
  intro listed i hsz hi
  unfold Region.ready at hi
  rw[eD,bA,hn]at hi
  obtain⟨h1,h2⟩:=hi
  rw[au]at h2
  have e0:listed.getD i false=listed.getD i true:=by
   have:i<listed.size:=by omega
   simp[Array.getD,this]
  refine⟨h1,by rw[e0];simpa using h2.1,λd hd=>?_⟩
  obtain⟨o,ins,ho,_⟩:=l7 i h1
  have h3:=h2.2
  rw[ho]at h3
  simp only[aW,eu]at h3
  unfold direct at hd
  rw[ho]at hd
  simp only at hd
  obtain⟨e,he,hq⟩:=jX.1 hd
  have:=dP.1 h3 e (by simpa using he)
  split at hq
  .rename_i hb
   cases hq
   simpa[hb]using this
  .cases hq
 have sM:∀(listed:Array Bool) (i:Nat),listed.size=n->i<n->listed.getD i false=false->(∀j,j<i->listed.getD j false=true)->i∈Region.ready .any ops listed:=by
  intro listed i hsz hi h1 h2
  unfold Region.ready
  rw[eD,bA,hn]
  refine⟨hi,?_⟩
  have e0:listed.getD i false=listed.getD i true:=by
   have:i<listed.size:=by omega
   simp[Array.getD,this]
  rw[au]
  refine⟨by rw[<- e0,h1];rfl,?_⟩
  obtain⟨o,ins,ho,_⟩:=l7 i hi
  rw[ho]
  simp only[aW,eu]
  refine dP.2 λe he=>?_
  cases hb:Region.binds .any e with
  |false=>rfl
  |true =>
   have hd:e.on∈direct ops i:=by
    unfold direct
    rw[ho]
    exact jX.2 ⟨e,by simpa using he,by simp[hb]⟩
   have:=h2 e.on (d1 i e.on hi hd)
   simpa using this
 have main:∀ (fuel:Nat) (listed:Array Bool) (τ:St) (F:Addr->Option Value) (own:List Ent) (act:Act) (w:World),listed.size=n->(∀ i,i < n->listed.getD i false=true->∀ d ∈ direct ops i,listed.getD d false=true) ->
   ((List.range n).countP λi=>!listed.getD i false)=fuel->(∀i,k<=i->listed.getD i false=false)->fQ P Gl N U (λρ=>wO P Gl ρ p.2 v) (((List.range k).filter λi=>!listed.getD i false).map λi=>L.getD i default) τ->
   Inv Gl F own B w0 τ act w->wpAny P .any ops Q fuel listed act w:=by
  intro fuel
  induction fuel with
  |zero =>
   intro listed τ F own act w hsz hcl hcnt hhi hop hI
   have:=rH.1 hcnt k (bA.2 hkn)
   rw[hhi k (bq k)]at this
   simp at this
  |succ fuel ih =>
   intro listed τ F own act w hsz hcl hcnt hhi hop hI
   refine⟨λhnil=>?_,λi hi=>?_⟩
   .obtain⟨i,h1,h2,h3⟩:=Au (n:=n) (S:=λi=>listed.getD i false) (by omega)
    have:=sM listed i hsz h1 h2 h3
    rw[hnil]at this
    simp at this
   .obtain⟨hin,hiS,lu⟩:=mem_ready listed i hsz hi
    obtain⟨o,p',ho,hli,hci,hgd,hmp⟩:=l7 i hin
    have hmem:∀j,j<k->L.getD j default∈pre:=λj hj=>by
     rw[bn,hL,aL (by omega),ah (by omega)]
     exact jF _
    rcases uD i k with hik|hik|hik
    ·have hset:∀ j,(listed.setIfInBounds i true).getD j false=if j=i then true else listed.getD j false:=fun j=>by
      by_cases hji:j=i
      .subst hji
       have:j<listed.size:=by omega
       simp[Array.getD,this]
      .rw[if_neg hji]
       simp only[gF]
       rw[lD (λe=>hji e.symm)]
     obtain⟨pre',post',e1,e2,e3⟩:=wB (p:=λj=>!listed.getD j false) (q:=λj=>!(listed.setIfInBounds i true).getD j false) (i:=i) (List.range k) pK (bA.2 hik) (by simp[hiS]) (λj=>by rw[hset];split<;>simp)
     have hpre':∀j∈pre',j<n/\listed.getD j false=false:=λj hj=>by
      have:j∈(List.range k).filter (λj=>!listed.getD j false):=by rw[e1];simp[hj]
      rw[eD,bA]at this
      exact⟨by omega,by simpa using this.2⟩
     rw[e1,bJ,bL,hgd]at hop
     refine wpOp_mono ?_ (Ri (lm:=lm) hmp ho hci (pre'.map λi=>L.getD i default) (λa ha=>?_) hI hop)
     .rintro a1 w1 ⟨F1,dA,ρ,hI1,hk1⟩
      refine ih (listed.setIfInBounds i true) ρ F1 dA a1 w1 (by simp[hsz]) (λj hj hS d hdj=>?_) ?_ (λj hj=>?_) ?_ hI1
      .rw[hset]at hS ⊢
       split
       .rfl
       .split at hS
        .rename_i hji;subst hji;exact lu d hdj
        .exact hcl j hj hS d hdj
      .have:=count_set (n:=n) (S:=λj=>listed.getD j false) (S':=λj=>(listed.setIfInBounds i true).getD j false) hin hiS (by simp only[hset];simp) (λj hj=>by simp only[hset,if_neg hj])
       omega
      .rw[hset,if_neg (by omega)];exact hhi j hj
      .rw[e2,bJ];exact hk1
     .obtain⟨j,hj,rfl⟩:=bT.1 ha
      obtain⟨hjn,hjS⟩:=hpre' j hj
      obtain⟨oj,pj,hoj,hlj,hcj,hgj,hmj⟩:=l7 j hjn
      simp only[hgj]
      refine⟨hmj,?_,j,oj,hoj,hcj⟩
      cases hq:iw pj p' with
      |false=>rfl
      |true =>
       have ht:=d3 i j (e3 j hj) hin (by rw[hgj,hgd];exact hq)
       have:=ahead (λk=>listed.getD k false) hcl i j hin lu ht (e3 j hj)
       rw[hjS]at this;cases this
    .subst hik
     rw[atK]at hli
     cases hli
     have b8C:wO P Gl τ p.2 v:=Vp _ (λa ha=>by
      obtain⟨j,hj,rfl⟩:=bT.1 ha
      rw[eD,bA]at hj
      refine⟨hpre _ (hmem j hj.1),?_⟩
      cases hq:iw (L.getD j default) p with
      |false=>rfl
      |true =>
       have ht:=d3 i j hj.1 hin (by rw[hgd];exact hq)
       have:=ahead (λk=>listed.getD k false) hcl i j hin lu ht hj.1
       rw[this]at hj;simp at hj) τ hop
     exact Kn hI hci ho b8C (λw' hD=>hQ act w' hI.defers hD) _
    .exfalso
     have hq:iw p p'=true:=by
      have hm:p'∈post:=by
       have:L[i]?=some p':=hli
       rw[hL,aO (by omega),hk]at this
       obtain⟨m,hm⟩:∃m,i-k=m+1:=⟨i-k-1,by omega⟩
       rw[hm,u6]at this
       exact bO this
      have:=aG.1 hw _ hm
      simp only[au]at this
      exact this.1
     have hgk:L.getD k default=p:=by rw[bn,atK];rfl
     have ht:=d3 i k hik hin (by rw[hgk,hgd];exact hq)
     have:=ahead (λk=>listed.getD k false) hcl i k hin lu ht hik
     rw[hhi k (bq k)]at this;cases this
 have hrep:∀i,(Array.replicate n false).getD i false=false:=λi=>by
  simp only[gF,nW]
  split<;>rfl
 refine main n (Array.replicate n false) σ F own act w (by simp) (λi _ h=>by rw[hrep]at h;cases h) ?_ (λi _=>hrep i) ?_ hI
 .have:((List.range n).countP λi=>!(Array.replicate n false).getD i false)=(List.range n).length:=qA.2 λi _=>by rw[hrep];rfl
  rw[this];simp
 .have e1:(List.range k).filter (λi=>!(Array.replicate n false).getD i false)=List.range k:=wR.2 λi _=>by rw[hrep];rfl
  have e2:(List.range k).map (λi=>L.getD i default)=pre:=by
   apply fA
   intro j
   rw[aK]
   rcases bK j k with q|q
   .rw[jO q]
    simp only[aW]
    rw[bn,hL,aL (by omega),ah (by omega)]
    rfl
   .rw[aR (by simpa using q),aR (by omega)];rfl
  rw[e1,e2];exact ha
def qQ(Gl:Nat->Option (List AV))(B:Nat)(w0:W0)(o:Out)(e:Exit)(a:Act)(w:World):Prop:=match o with
 |.nrm x τ _=>e=x/\NG x/\mh Gl B w0 (·=τ) a w
 |.pan v=>e=.panic [{ v,recovered:=false }]/\a.defers=w0.df/\H7 B w0 v w
def H6(N:Nat)(U:List Nat)(h:List ay):Out->Prop
 |.nrm _ τ V=>TU N V h τ.h/\∀id∈U,id∈V
 |.pan _=>True
def Ah(P:Program)(Gl:Nat->Option (List AV))(hl:List Nat)(ex:Nat->C->St->List Nat->Option Out):Prop:=∀N c σ U o,ex N c σ U=some o->H6 N U σ.h o/\
 ∀code,cC P hl code=some c->∀F own B w0 act w,Inv Gl F own B w0 σ act w->code.wp P (qQ Gl B w0 o) act w
theorem Py{hl:List Nat}{f:Nat}{e:FnE}(h:fnE P hl f=some e):callable P f=true/\∃fn code,P.funcs[f]?=some fn/\fn.body=some code/\cC P hl code=some e.c/\pJ P fn.results.toList=some e.rs/\fn.ntmps=e.n:=by
 unfold fnE at h
 split at h
 .rename_i fn hfn
  split at h
  .rename_i b hb
   split at h
   .rename_i c rs hc hr
    split at h
    .rename_i hcb
     cases h
     exact⟨hcb,fn,b,hfn,hb,hc,hr,rfl⟩
    .cases h
   .cases h
  .cases h
 .cases h
theorem QJ{τ:St}:∀(rs:List RV) (l:List AV),um Gl τ rs=some l->∃p,uj Gl τ rs=some (p,l)/\p:=by
 intro rs
 induction rs with
 |nil=>intro l h;cases h;exact⟨True,rfl,trivial⟩
 |cons r rs ih =>
  intro l h
  cases r with
  |t i =>
   simp only[um]at h
   split at h
   .rename_i l' hl
    cases h
    obtain⟨p,e,hp⟩:=ih l' hl
    exact⟨p,by simp only[uj,e,aW],hp⟩
   .cases h
  |c i sz ag =>
   simp only[um]at h
   split at h
   .rename_i a h' l' ha hl
    cases h
    obtain⟨p,e,hp⟩:=ih l' hl
    obtain⟨q,e',hq⟩:=Yx ha
    exact⟨q/\p,by simp only[uj,e,e'],hq,hp⟩
   .cases h
theorem QK{τ:St}{rs:List RV}{l:List AV}(h:um Gl τ rs=some l):∃p,yO Gl τ rs=some (p,uV l)/\p:=by
 obtain⟨p,e,hp⟩:=QJ rs l h
 refine⟨p,?_,hp⟩
 unfold yO
 rw[e]
 match l with
 |[]=>rfl
 |[a]=>rfl
 |a::b::l=>rfl
theorem Pj:∀e:Exit,rP e=true->match e with|.normal=>True|.ret=>True|_=>False:=by
 intro e h
 cases e<;>first|trivial|cases h
theorem Ey.ofW {f:FuncId} {fn:Func} {code:Code} (hf:P.funcs[f]?=some fn) (hb:fn.body=some code) {h0:List ay} {as:List AV} {v:Value}
  (h:∀(F:Addr->Option Value) (own:List Ent) (B:Nat) (w0:W0) (act:Act) (w:World),Inv Gl F own B w0 ⟨as++List.replicate (fn.ntmps-as.length) .any,h0⟩ act w->code.wp P (qQ Gl B w0 (.pan v)) act w):Ey P Gl f h0 as v:=by
 intro F own B w0 t act w xs hI hxs
 refine calls_of_wp hf hb ?_
 have Gx:∀q∈w0.fr,q.1<=h0.length:=λq hq=>bD (w0.hfr q hq) hI.nl
 have hI1:Inv Gl F own B ⟨w0.w,w0.F,h0.length,w0.fr,Gx,w0.pd,w0.pdn,[]⟩ ⟨as++List.replicate (fn.ntmps-as.length) .any,h0⟩ { tmps:=xs++Array.replicate (fn.ntmps-xs.size) undef,defers:=[] } w:=by
  refine{ tl:=by simp[hxs.1],tr:=λi x a p q=>?_,defers:=rfl,sub:=hI.sub,hl:=hI.hl,objs:=hI.objs,inj:=hI.inj,below:=hI.below,base:=hI.base,gl:=hI.gl,gw:=hI.gw,room:=hI.room,ext:=hI.ext,ko:=hI.ko,nl:=bq _,fr:=hI.fr,pd:=hI.pd }
  simp only at p q
  rcases bK i as.length with hi|hi
  .rw[aL hi]at q
   rw[gU (by rw[hxs.1];exact hi)]at p
   exact hxs.2 i x a p q
  .rw[aO hi,jo]at q
   split at q
   .cases q;exact .pure (.any _)
   .cases q
 refine wp_mono (h F own _ _ _ w hI1) ?_
 rintro e a1 w1 ⟨rfl,hd,hD⟩
 exact⟨hd,rfl,hD⟩
theorem Pure.toH{f:Nat}{bs:List AV}{res:AV}(hP:Pure P Gl f bs res){h:List ay}{as:List AV}(hk:dY h as=some bs):mV P Gl f h as λr k=>r=res/\k=if scalar res=true then h else freeze h (as.flatMap dJ):=by
 intro F own B w0 t act w xs hI hxs
 obtain⟨F1,hF1,hI1,hkp⟩:=hI.r9 (as.flatMap dJ)
 obtain⟨l1,l2⟩:=sS hI hF1 _ bs hk hkp
 have a18:RPL F1 xs bs:=by
  refine⟨by rw[hxs.1,l1],λj x a hx ha=>?_⟩
  have hj:j<as.length:=by rw[l1];exact(aj.1 ha).1
  exact(l2 j x as[j] a (ah hj) ha (hxs.2 j x as[j] hx (ah hj))).1
 have hgw:GlW Gl w.heap.size w:=λg cs q=>by
  obtain⟨q1,vs,ty,fr,q2,q3⟩:=hI1.gw g cs q
  exact⟨jk q1 (bD hI1.room hI1.below.size),vs,ty,fr,by rw[hI1.below.block _ q1];exact q2,q3⟩
 refine(hP w F1 xs hI1.sub hI1.gl hgw a18).mono ?_
 rintro e w' ⟨v,F',rfl,g1,g2,g3,g4,g5⟩
 cases hsc:scalar res with
 |true =>
  have hI2:=hI.call (F':=F) (w':=w') (λ_ _ q=>q) (λad y q=>by rw[World.cell?_of_block (w:=w) (g5.block _ (hI.yY q))];exact hI.sub _ _ q) (λ_ _ q=>.inl q) g5
  exact⟨v,res,h,F,own,rfl,hI2,.pure (KR g4 hsc),rfl,rfl⟩
 |false =>
  have hI2:=hI1.call g1 g2 g3 g5
  exact⟨v,res,_,F',own,rfl,hI2,.pure g4,rfl,by simp⟩
theorem J5{hl:List Nat}{ex:Nat->C->St->List Nat->Option Out}(hx:Ah P Gl hl ex):uF P Gl (cfB Gl (fnE P hl) ex):=by
 intro f as h r hr
 unfold cfB at hr
 split at hr
 .rename_i e he
  obtain⟨hcb,fn,code,h1,h2,h3,h4,h5⟩:=Py he
  refine⟨hcb,?_⟩
  split at hr
  .rename_i x τ V hex
   obtain⟨o1,o2⟩:=hx _ _ _ _ _ hex
   split at hr
   .rename_i hend
    split at hr
    .rename_i l hrl
     cases hr
     refine⟨mV.ofW h1 h2 h4 λF own B w0 act w _ hI=>?_,o1.1.1,λid hid hn=>o1.1.2 id hid hid hn⟩
     rw[h5]at hI
     refine wp_mono (o2 code h3 F own B w0 act w hI) ?_
     rintro e' a w' ⟨rfl,_,F1,dA,τ',hI1,rfl⟩
     obtain⟨p,e1,hp⟩:=QK hrl
     exact⟨F1,dA,τ',hI1,Pj _ hend,p,_,e1,hp,rfl,rfl⟩
    .cases hr
   .cases hr
  .rename_i v hex
   cases hr
   obtain⟨o1,o2⟩:=hx _ _ _ _ _ hex
   refine Ey.ofW h1 h2 λF own B w0 act w hI=>?_
   rw[h5]at hI
   exact o2 code h3 F own B w0 act w hI
  .cases hr
 .cases hr
theorem Dw{hl:List Nat}{ex:Nat->C->St->List Nat->Option Out}(hx:Ah P Gl hl ex):wI P Gl (pfB Gl (fnE P hl) ex):=by
 intro f as res hr
 unfold pfB at hr
 split at hr
 .rename_i e he
  obtain⟨hcb,fn,code,h1,h2,h3,h4,h5⟩:=Py he
  refine⟨hcb,?_⟩
  split at hr
  .rename_i x τ V hex
   obtain⟨o1,o2⟩:=hx _ _ _ _ _ hex
   split at hr
   .rename_i hend
    split at hr
    .rename_i l hrl
     refine Pure.ofW h1 h2 h4 λF own B w0 act w _ hI=>?_
     rw[h5]at hI
     refine wp_mono (o2 code h3 F own B w0 act w hI) ?_
     rintro e' a w' ⟨rfl,_,F1,dA,τ',hI1,rfl⟩
     obtain⟨p,e1,hp⟩:=QK hrl
     exact⟨F1,dA,τ',hI1,Pj _ hend,p,_,res,e1,hp,hr,Wk.refl _⟩
    .cases hr
   .cases hr
  .cases hr
 .cases hr
def wM(P:Program)(Gl:Nat->Option (List AV))(hd:Hand):Prop:=∀cf pf,uF P Gl cf->wI P Gl pf->(∀f g,hd.h cf pf f=some g->∀as h r,g as h=some r->callable P f=true/\a2U P Gl f as h r)/\∀f g,hd.p cf pf f=some g->∀as res,g as=some res->callable P f=true/\Pure P Gl f as res
theorem Xg{hl:List Nat}{hd:Hand}(hh:wM P Gl hd){ex:Nat->C->St->List Nat->Option Out}(hx:Ah P Gl hl ex):wI P Gl (pfA Gl (fnE P hl) hd ex):=by
 intro f as res hr
 unfold pfA at hr
 split at hr
 .rename_i g hg
  exact(hh _ _ (J5 hx) (Dw hx)).2 f g hg as res hr
 .exact Dw hx f as res hr
theorem YO{hl:List Nat}{hd:Hand}(hh:wM P Gl hd){ex:Nat->C->St->List Nat->Option Out}(hx:Ah P Gl hl ex):uF P Gl (cfA Gl (fnE P hl) hd ex):=by
 intro f as h r hr
 unfold cfA at hr
 split at hr
 .rename_i g hg
  exact(hh _ _ (J5 hx) (Dw hx)).1 f g hg as h r hr
 .split at hr
  .rename_i g hg
   split at hr
   .rename_i bs hk
    split at hr
    .rename_i res hres
     cases hr
     obtain⟨hcb,hP⟩:=(hh _ _ (J5 hx) (Dw hx)).2 f g hg bs res hres
     refine⟨hcb,?_⟩
     have:=hP.toH hk
     split
     .rename_i hs
      rw[if_pos hs]at this
      exact⟨this,.refl _ _⟩
     .rename_i hs
      rw[if_neg hs]at this
      exact⟨this,.frz _ λ_ q=>q⟩
    .cases hr
   .cases hr
  .exact J5 hx f as h r hr
end
section
variable{P:Program}{Gl:Nat->Option (List AV)}
theorem Ui{hl:List Nat}{ops:Array Oper}{lm:Bool}{l:List Ins}(hc:cL P lm ops ops.toList=some l):(marks hl ops l).length=ops.size/\∀(j:Nat) (o:Oper),ops[j]?=some o->∃p,(marks hl ops l)[j]?=some p/\jI P lm ops o=some p.2:=by
 obtain⟨l1,l2⟩:=A8 _ _ hc
 refine⟨by rw[Lc];simpa using l1,λj o ho=>?_⟩
 obtain⟨ins,a1,a2⟩:=l2 j o (by simpa using ho)
 obtain⟨m,hm⟩:=OE (hc:=hl) (ops:=ops) a1
 exact⟨_,hm,a2⟩
theorem a6A{hl:List Nat}:∀(code:Code) (c:C),cC P hl code=some c->∃core,cC P hl core=some c/\(∀b,core≠.scope b)/\∀(Q:Exit->Act->World->Prop) (a:Act) (w:World),(∀l a w,¬Q (.goto l) a w)->core.wp P Q a w->code.wp P Q a w:=by
 intro code
 induction code with
 |scope b ih =>
  intro c hc
  simp only[cC]at hc
  obtain⟨core,h1,h2,h3⟩:=ih c hc
  refine⟨core,h1,h2,λQ a w hQ h=>wp_scope_straight (wp_mono (h3 Q a w hQ h) ?_)⟩
  intro e a1 w1 h
  cases e with
  |goto l=>exact absurd h (hQ l a1 w1)
  |_=>exact h
 |_=>intro c hc;exact⟨_,hc,(λb q=>by cases q),λQ a w _ h=>h⟩
theorem a08{B:Nat}{w0:W0}{o:Out}:∀l a w,¬qQ Gl B w0 o (.goto l) a w:=by
 intro l a w h
 cases o with
 |nrm e τ V=>obtain⟨h1,h2,_⟩:=h;exact h2 l h1.symm
 |pan v=>obtain⟨h1,_⟩:=h;cases h1
theorem nP{hl:List Nat}{id:Nat}{ops:Array Oper}{draw:Bool}{c:C}(h:cC P hl (.region id ops draw)=some c):(∃d l,c=.ops d l/\(d=false->draw=false/\cL P false ops ops.toList=some l))\/∃l,c=.qd l/\draw=true/\∃lm l0,cL P lm ops ops.toList=some l0/\l=marks hl ops l0/\(vD ops l=true\/vE ops l=true):=by
 cases draw with
 |false =>
  simp only[cC]at h
  cases hl':cL P false ops ops.toList with
  |none=>rw[hl']at h;cases h
  |some l=>rw[hl']at h;cases h;exact .inl ⟨_,_,rfl,λ_=>⟨rfl,rfl⟩⟩
 |true =>
  simp only[cC]at h
  split at h
  .rename_i l0 hl0
   split at h
   .cases h;exact .inl ⟨_,_,rfl,λq=>by cases q⟩
   .split at h
    .rename_i hd
     cases h
     rw[au,fG]at hd
     exact .inr ⟨_,rfl,rfl,false,l0,hl0,rfl,hd.1⟩
    .split at h
     .rename_i l1 hl1
      split at h
      .cases h;exact .inl ⟨_,_,rfl,λq=>by cases q⟩
      .split at h
       .rename_i hd
        cases h
        rw[fG]at hd
        exact .inr ⟨_,rfl,rfl,true,l1,hl1,rfl,hd⟩
       .split at h
        .cases h;exact .inl ⟨_,_,rfl,λq=>by cases q⟩
        .cases h
     .cases h
  .cases h
def b2c(P:Program)(Gl:Nat->Option (List AV))(hl:List Nat)(n:Nat)(ex:Nat->C->St->List Nat->Option Out):Prop:=∀N b σ U o,ex N (.loop b) σ U=some o->H6 N U σ.h o/\
 ∀x,cC P hl x=some b->∀F own B w0 act w,Inv Gl F own B w0 σ act w->Code.rounds P x (qQ Gl B w0 o) n act w
theorem X8{M:Nat}{q:RW}(h:TM M q=true):∀id∈q.rd,id<M/\id∉q.uw:=λid hid=>by
 have:=aG.1 h id hid
 simp only[au,fH]at this
 refine⟨nA this.1,λhm=>?_⟩
 have h2:q.uw.any (Nat.beq id)=true:=gT.2 ⟨id,hm,sZ id⟩
 rw[this.2]at h2;cases h2
theorem a6l(hm:P.follows .mixedOrders=true){hl:List Nat}{hd:Hand}(hh:wM P Gl hd):∀n,Ah P Gl hl (exC Gl (fnE P hl) hd n)/\b2c P Gl hl n (exC Gl (fnE P hl) hd n):=by
 intro n
 induction n with
 |zero=>exact⟨λN c σ U o h=>(by cases h),λN b σ U o h=>(by cases h)⟩
 |succ n ih =>
  obtain⟨ih,ihl⟩:=ih
  have loops:b2c P Gl hl (n+1) (exC Gl (fnE P hl) hd (n+1)):=by
   intro N b σ U o h
   simp only[exC]at h
   split at h
   .rename_i τ V ha
    obtain⟨o1,o2⟩:=ih _ _ _ _ _ ha
    obtain⟨p1,p2⟩:=ihl _ _ _ _ _ h
    refine⟨?_,λx hx F own B w0 act w hI=>?_⟩
    .cases o with
     |nrm e ρ W=>exact⟨o1.1.trans p1.1 p1.2,λid hid=>p1.2 id (o1.2 id hid)⟩
     |pan v=>trivial
    .rw[rounds_succ]
     refine wp_mono (o2 x hx F own B w0 act w hI) ?_
     rintro e a1 w1 ⟨rfl,_,F1,dA,τ',hI1,rfl⟩
     exact p2 x hx F1 dA B w0 a1 w1 hI1
   .rename_i hne
    obtain⟨o1,o2⟩:=ih _ _ _ _ _ h
    refine⟨o1,λx hx F own B w0 act w hI=>?_⟩
    rw[rounds_succ]
    refine wp_mono (o2 x hx F own B w0 act w hI) ?_
    intro e a1 w1 hp
    cases e with
    |normal =>
     exfalso
     cases o with
     |nrm e τ V=>obtain⟨rfl,_⟩:=hp;exact hne τ V h
     |pan v=>obtain⟨q,_⟩:=hp;cases q
    |_=>exact hp
  refine⟨?_,loops⟩
  have hcf:=YO hh ih
  have hpf:=Xg hh ih
  intro N c σ U o h
  have wrap:(H6 N U σ.h o/\∀core,(∀b,core≠.scope b)->cC P hl core=some c->∀F own B w0 act w,Inv Gl F own B w0 σ act w->core.wp P (qQ Gl B w0 o) act w)->H6 N U σ.h o/\∀code,cC P hl code=some c->∀F own B w0 act w,Inv Gl F own B w0 σ act w->code.wp P (qQ Gl B w0 o) act w:=by
   rintro⟨h1,h2⟩
   refine⟨h1,λcode hc F own B w0 act w hI=>?_⟩
   obtain⟨core,k1,k2,k3⟩:=a6A code c hc
   exact k3 _ _ _ a08 (h2 core k2 k1 F own B w0 act w hI)
  apply wrap
  clear wrap
  cases c with
  |skip =>
   simp only[exC]at h
   cases h
   refine⟨⟨.refl _ _ _,λ_ h=>h⟩,λcore hs hc F own B w0 act w hI=>?_⟩
   have hp:qQ Gl B w0 (.nrm .normal σ U) .normal act w:=⟨rfl,lQ,F,own,σ,hI,rfl⟩
   cases core with
   |skip=>exact wp_skip hp
   |label l=>exact wp_label hp
   |scope b=>exact absurd rfl (hs b)
   |region id ops draw=>rcases nP hc with⟨_,_,q,_⟩|⟨_,q,_⟩<;>cases q
   |seq a b=>simp only[cC]at hc;split at hc<;>cases hc
   |cond o a b=>simp only[cC]at hc;split at hc<;>cases hc
   |block id b=>simp only[cC]at hc;cases hb:cC P hl b<;>rw[hb]at hc<;>cases hc
   |loop b=>simp only[cC]at hc;cases hb:cC P hl b<;>rw[hb]at hc<;>cases hc
   |_=>cases hc
  |ret =>
   simp only[exC]at h
   cases h
   refine⟨⟨.refl _ _ _,λ_ h=>h⟩,λcore hs hc F own B w0 act w hI=>?_⟩
   have hp:qQ Gl B w0 (.nrm .ret σ U) .ret act w:=⟨rfl,OA,F,own,σ,hI,rfl⟩
   cases core with
   |ret=>exact wp_ret hp
   |scope b=>exact absurd rfl (hs b)
   |region id ops draw=>rcases nP hc with⟨_,_,q,_⟩|⟨_,q,_⟩<;>cases q
   |seq a b=>simp only[cC]at hc;split at hc<;>cases hc
   |cond o a b=>simp only[cC]at hc;split at hc<;>cases hc
   |block id b=>simp only[cC]at hc;cases hb:cC P hl b<;>rw[hb]at hc<;>cases hc
   |loop b=>simp only[cC]at hc;cases hb:cC P hl b<;>rw[hb]at hc<;>cases hc
   |_=>cases hc
  |exit id =>
   simp only[exC]at h
   cases h
   refine⟨⟨.refl _ _ _,λ_ h=>h⟩,λcore hs hc F own B w0 act w hI=>?_⟩
   have hp:qQ Gl B w0 (.nrm (.exit id) σ U) (.exit id) act w:=⟨rfl,Br _,F,own,σ,hI,rfl⟩
   cases core with
   |exit i=>cases hc;exact wp_exit hp
   |scope b=>exact absurd rfl (hs b)
   |region id ops draw=>rcases nP hc with⟨_,_,q,_⟩|⟨_,q,_⟩<;>cases q
   |seq a b=>simp only[cC]at hc;split at hc<;>cases hc
   |cond o a b=>simp only[cC]at hc;split at hc<;>cases hc
   |block id b=>simp only[cC]at hc;cases hb:cC P hl b<;>rw[hb]at hc<;>cases hc
   |loop b=>simp only[cC]at hc;cases hb:cC P hl b<;>rw[hb]at hc<;>cases hc
   |_=>cases hc
  |seq a b =>
   simp only[exC]at h
   split at h
   .rename_i τ V ha
    obtain⟨o1,o2⟩:=ih _ _ _ _ _ ha
    obtain⟨p1,p2⟩:=ih _ _ _ _ _ h
    refine⟨?_,λcore hs hc F own B w0 act w hI=>?_⟩
    .cases o with
     |nrm e ρ W=>exact⟨o1.1.trans p1.1 p1.2,λid hid=>p1.2 id (o1.2 id hid)⟩
     |pan v=>trivial
    .cases core with
     |seq x y =>
      simp only[cC]at hc
      split at hc
      .rename_i x' y' hx hy
       cases hc
       refine wp_seq (wp_mono (o2 x hx F own B w0 act w hI) ?_)
       rintro e a1 w1 ⟨rfl,_,F1,dA,τ',hI1,rfl⟩
       exact p2 y hy F1 dA B w0 a1 w1 hI1
      .cases hc
     |scope b=>exact absurd rfl (hs b)
     |region id ops draw=>rcases nP hc with⟨_,_,q,_⟩|⟨_,q,_⟩<;>cases q
     |cond o a b=>simp only[cC]at hc;split at hc<;>cases hc
     |block id b=>simp only[cC]at hc;cases hb:cC P hl b<;>rw[hb]at hc<;>cases hc
     |loop b=>simp only[cC]at hc;cases hb:cC P hl b<;>rw[hb]at hc<;>cases hc
     |_=>cases hc
   .rename_i hne
    obtain⟨o1,o2⟩:=ih _ _ _ _ _ h
    refine⟨o1,λcore hs hc F own B w0 act w hI=>?_⟩
    cases core with
    |seq x y =>
     simp only[cC]at hc
     split at hc
     .rename_i x' y' hx hy
      cases hc
      refine wp_seq (wp_mono (o2 x hx F own B w0 act w hI) ?_)
      intro e a1 w1 hp
      cases e with
      |normal =>
       exfalso
       cases o with
       |nrm e τ V=>obtain⟨rfl,_⟩:=hp;exact hne τ V h
       |pan v=>obtain⟨q,_⟩:=hp;cases q
      |_=>exact hp
     .cases hc
    |scope b=>exact absurd rfl (hs b)
    |region id ops draw=>rcases nP hc with⟨_,_,q,_⟩|⟨_,q,_⟩<;>cases q
    |cond o a b=>simp only[cC]at hc;split at hc<;>cases hc
    |block id b=>simp only[cC]at hc;cases hb:cC P hl b<;>rw[hb]at hc<;>cases hc
    |loop b=>simp only[cC]at hc;cases hb:cC P hl b<;>rw[hb]at hc<;>cases hc
    |_=>cases hc
  |cond x a b =>
   have key:∀(t:Bool),σ.val Gl x=.v (.bool t)->exC Gl (fnE P hl) hd n N (if t=true then a else b) σ U=some o->H6 N U σ.h o/\∀core,(∀b,core≠.scope b)->cC P hl core=some (.cond x a b)->∀F own B w0 act w,Inv Gl F own B w0 σ act w->core.wp P (qQ Gl B w0 o) act w:=by
    intro t hv hx
    obtain⟨o1,o2⟩:=ih _ _ _ _ _ hx
    refine⟨o1,λcore hs hc F own B w0 act w hI=>?_⟩
    cases core with
    |cond c0 u v =>
     simp only[cC]at hc
     split at hc
     .rename_i u' v' hu hv'
      cases hc
      have he:=hI.ev c0
      rw[hv]at he
      refine wp_cond he.dN ?_
      cases t with
      |true=>simp only[if_true]at o2 ⊢;exact o2 u hu F own B w0 act w hI
      |false=>simp only[cK,if_false]at o2 ⊢;exact o2 v hv' F own B w0 act w hI
     .cases hc
    |scope b=>exact absurd rfl (hs b)
    |region id ops draw=>rcases nP hc with⟨_,_,q,_⟩|⟨_,q,_⟩<;>cases q
    |seq a b=>simp only[cC]at hc;split at hc<;>cases hc
    |block id b=>simp only[cC]at hc;cases hb:cC P hl b<;>rw[hb]at hc<;>cases hc
    |loop b=>simp only[cC]at hc;cases hb:cC P hl b<;>rw[hb]at hc<;>cases hc
    |_=>cases hc
   simp only[exC]at h
   split at h
   .rename_i hv;exact key true hv h
   .rename_i hv;exact key false hv h
   .cases h
  |block id b =>
   have key:∀(o':Out),exC Gl (fnE P hl) hd n N b σ U=some o'->(match o' with|.nrm (.exit i) τ V=>(if Nat.beq i id=true then some (Out.nrm .normal τ V) else some (.nrm (.exit i) τ V))|o=>some o)=some o->H6 N U σ.h o/\∀core,(∀b,core≠.scope b)->cC P hl core=some (.block id b)->∀F own B w0 act w,Inv Gl F own B w0 σ act w->core.wp P (qQ Gl B w0 o) act w:=by
    intro o' hx ho
    obtain⟨o1,o2⟩:=ih _ _ _ _ _ hx
    have hpost:H6 N U σ.h o/\∀B w0 e a w,qQ Gl B w0 o' e a w->Exit.inBlock id (qQ Gl B w0 o) e a w:=by
     split at ho
     .rename_i i τ V
      split at ho
      .rename_i hi
       cases ho
       refine⟨o1,λB w0 e a w hp=>?_⟩
       obtain⟨rfl,_,hs⟩:=hp
       simp only[Exit.inBlock,bM hi,if_true]
       exact⟨rfl,lQ,hs⟩
      .rename_i hi
       cases ho
       refine⟨o1,λB w0 e a w hp=>?_⟩
       obtain⟨rfl,hng,hs⟩:=hp
       have hne:¬i=id:=λq=>hi (by rw[q];exact sZ id)
       simp only[Exit.inBlock,if_neg hne]
       exact⟨rfl,hng,hs⟩
     .rename_i o'' hne
      cases ho
      refine⟨o1,λB w0 e a w hp=>?_⟩
      cases e with
      |exit i =>
       exfalso
       cases o with
       |nrm e τ V=>obtain⟨q,_⟩:=hp;subst q;exact hne i τ V rfl
       |pan v=>obtain⟨q,_⟩:=hp;cases q
      |_=>exact hp
    refine⟨hpost.1,λcore hs hc F own B w0 act w hI=>?_⟩
    cases core with
    |block j y =>
     simp only[cC]at hc
     cases hb:cC P hl y with
     |none=>rw[hb]at hc;cases hc
     |some y' =>
      rw[hb]at hc;cases hc
      exact wp_block (wp_mono (o2 y hb F own B w0 act w hI) λe a w hp=>hpost.2 B w0 e a w hp)
    |scope b=>exact absurd rfl (hs b)
    |region id ops draw=>rcases nP hc with⟨_,_,q,_⟩|⟨_,q,_⟩<;>cases q
    |seq a b=>simp only[cC]at hc;split at hc<;>cases hc
    |cond o a b=>simp only[cC]at hc;split at hc<;>cases hc
    |loop b=>simp only[cC]at hc;cases hb:cC P hl b<;>rw[hb]at hc<;>cases hc
    |_=>cases hc
   simp only[exC]at h
   cases hx:exC Gl (fnE P hl) hd n N b σ U with
   |none=>rw[hx]at h;cases h
   |some o' =>
    rw[hx]at h
    refine key o' hx ?_
    cases o' with
    |nrm e τ V=>cases e<;>exact h
    |pan v=>exact h
  |loop b =>
   obtain⟨o1,o2⟩:=loops _ _ _ _ _ h
   refine⟨o1,λcore hs hc F own B w0 act w hI=>?_⟩
   cases core with
   |loop y =>
    simp only[cC]at hc
    cases hb:cC P hl y with
    |none=>rw[hb]at hc;cases hc
    |some y' =>
     rw[hb]at hc;cases hc
     exact wp_loop_rounds _ (o2 y hb F own B w0 act w hI)
   |scope b=>exact absurd rfl (hs b)
   |region id ops draw=>rcases nP hc with⟨_,_,q,_⟩|⟨_,q,_⟩<;>cases q
   |seq a b=>simp only[cC]at hc;split at hc<;>cases hc
   |cond o a b=>simp only[cC]at hc;split at hc<;>cases hc
   |block id b=>simp only[cC]at hc;cases hb:cC P hl b<;>rw[hb]at hc<;>cases hc
   |_=>cases hc
  |ops d l =>
   simp only[exC]at h
   cases o with
   |nrm e τ V =>
    obtain⟨rfl,k2,k3,k4⟩:=Ed hcf hpf _ _ _ _ _ _ h
    refine⟨⟨k3,k4⟩,λcore hs hc F own B w0 act w hI=>?_⟩
    refine wp_mono (zq (N:=w0.N) hm rfl core _ hc (λe ρ=>e=.normal/\ρ=τ) σ F own act w (by rw[a6J];exact k2 _ ⟨rfl,rfl⟩) hI) ?_
    rintro e a1 w1 ⟨hng,F1,dA,ρ,hI1,rfl,rfl⟩
    exact⟨rfl,hng,F1,dA,ρ,hI1,rfl⟩
   |pan v =>
    refine⟨trivial,λcore hs hc F own B w0 act w hI=>?_⟩
    cases core with
    |region id ops draw =>
     rcases nP hc with⟨d',l',q,r⟩|⟨_,q,_⟩
     .cases q
      have hQ:∀a w,a.defers=w0.df->H7 B w0 v w->qQ Gl B w0 (.pan v) (.panic [{ v,recovered:=false }]) a w:=λa w h1 h2=>⟨rfl,h1,h2⟩
      have hdf:d=false:=by
       cases hd':d with
       |false=>rfl
       |true =>
        exfalso
        subst hd'
        clear hc r hI loops ihl ih
        revert h
        generalize σ=τ
        generalize U=W
        induction l generalizing τ W with
        |nil=>intro h;cases h
        |cons j l ihl =>
         intro h
         simp only[pV]at h
         split at h
         .exact ihl _ _ h
         .simp at h
         .cases h
      obtain⟨rfl,hcl⟩:=r hdf
      subst hdf
      obtain⟨l1,l2⟩:=A8 _ _ hcl
      have hlen:l.length=ops.size:=by simpa using l1
      refine wp_region ?_
      have:=(Yy (P:=P) (lm:=false) (ops:=ops) hcf hpf hQ l 0 (λj hj=>by
       have hj':j<ops.size:=by rw[dD]at hj;exact hj
       have ho:ops[j]?=some ops[j]:=aF hj'
       obtain⟨ins,a1,a2⟩:=l2 j ops[j] (by rw[qB];exact ho)
       exact⟨ins,ops[j],a1,by rw[dD];exact ho,a2⟩) (by omega) σ U F own act w h hI).2
      rw[hlen]at this
      rw[qR];exact this
     .cases q
    |scope b=>exact absurd rfl (hs b)
    |seq a b=>simp only[cC]at hc;split at hc<;>cases hc
    |cond o a b=>simp only[cC]at hc;split at hc<;>cases hc
    |block id b=>simp only[cC]at hc;cases hb:cC P hl b<;>rw[hb]at hc<;>cases hc
    |loop b=>simp only[cC]at hc;cases hb:cC P hl b<;>rw[hb]at hc<;>cases hc
    |_=>cases hc
  |qd l =>
   simp only[exC]at h
   split at h
   .rename_i o' q hx
    split at h
    .rename_i hrw
     cases h
     have hrd:=X8 hrw
     cases o with
     |nrm e τ V =>
      obtain⟨rfl,k2,k3,k4,k5,k6⟩:=a6h hcf hpf _ _ _ _ _ _ _ _ _ (bq _) hx
      refine⟨⟨k4,k5⟩,λcore hs hc F own B w0 act w hI=>?_⟩
      refine wp_mono (zq (N:=w0.N) hm rfl core _ hc (λe ρ=>e=.normal/\ρ=τ) σ F own act w ⟨q.uw,k6 q.uw (λ_ h=>h) hrd _ ⟨rfl,rfl⟩⟩ hI) ?_
      rintro e a1 w1 ⟨hng,F1,dA,ρ,hI1,rfl,rfl⟩
      exact⟨rfl,hng,F1,dA,ρ,hI1,rfl⟩
     |pan v =>
      obtain⟨_,_,pre,p,post,hL,c1,c2,c3,c4,c5⟩:=a6i hcf hpf _ _ _ _ _ _ _ hx
      refine⟨trivial,λcore hs hc F own B w0 act w hI=>?_⟩
      cases core with
      |region id ops draw =>
       rcases nP hc with⟨_,_,q,_⟩|⟨l',q,rfl,lm,l0,hl0,rfl,hdr⟩
       .cases q
       .cases q
        obtain⟨m1,m2⟩:=Ui (hl:=hl) hl0
        have hQ:∀a w,a.defers=w0.df->H7 B w0 v w->qQ Gl B w0 (.pan v) (.panic [{ v,recovered:=false }]) a w:=λa w h1 h2=>⟨rfl,h1,h2⟩
        refine wp_region_any hm ?_
        exact a2B (lm:=lm) m1 m2 hdr hL c1 c2 c4 hQ (c5 _ hrd) (hI.same (w':=w.drew) rfl rfl rfl rfl)
      |scope b=>exact absurd rfl (hs b)
      |seq a b=>simp only[cC]at hc;split at hc<;>cases hc
      |cond o a b=>simp only[cC]at hc;split at hc<;>cases hc
      |block id b=>simp only[cC]at hc;cases hb:cC P hl b<;>rw[hb]at hc<;>cases hc
      |loop b=>simp only[cC]at hc;cases hb:cC P hl b<;>rw[hb]at hc<;>cases hc
      |_=>cases hc
    .cases h
   .cases h
theorem Yz(hm:P.follows .mixedOrders=true){hl:List Nat}{hd:Hand}(hh:wM P Gl hd)(n:Nat):Ah P Gl hl (exC Gl (fnE P hl) hd n):=(a6l hm hh n).1
theorem run_pure(hm:P.follows .mixedOrders=true){hl:List Nat}{hd:Hand}(hh:wM P Gl hd)(n:Nat){f:Nat}{as:List AV}{res:AV}(h:pfB Gl (fnE P hl) (exC Gl (fnE P hl) hd n) f as=some res):Pure P Gl f as res:=(Dw (Yz hm hh n) f as res h).2
end
noncomputable section
inductive TT where
 |e
 |n (a:AV) (l r:TT)
inductive PB where
 |o
 |l (p:PB)
 |r (p:PB)
def tA:TT->AV:=TT.rec .any λa _ _ _ _=>a
def oC(p:PB):TT->AV:=PB.rec tA (λ_ ih t=>TT.rec .any (λ_ l _ _ _=>ih l) t) (λ_ ih t=>TT.rec .any (λ_ _ r _ _=>ih r) t) p
def kN(x:AV)(p:PB):TT->TT:=PB.rec (λt=>TT.rec (.n x .e .e) (λ_ l r _ _=>.n x l r) t) (λ_ ih t=>TT.rec (.n .any (ih .e) .e) (λa l r _ _=>.n a (ih l) r) t) (λ_ ih t=>TT.rec (.n .any .e (ih .e)) (λa l r _ _=>.n a l (ih r)) t) p
theorem zU:∀p:PB,oC p .e=.any
 |.o=>rfl
 |.l p=>rfl
 |.r p=>rfl
theorem CG(x:AV):∀(p q:PB) (t:TT),(p=q->oC q (kN x p t)=x)/\(p≠q->oC q (kN x p t)=oC q t)
 |.o,q,t=>by
  refine⟨λe=>by subst e;cases t<;>rfl,λe=>?_⟩
  cases q with
  |o=>exact absurd rfl e
  |l q=>cases t<;>first|rfl|exact zU q
  |r q=>cases t<;>first|rfl|exact zU q
 |.l p,q,t=>by
  cases q with
  |o=>exact⟨λe=>(by cases e),λ_=>(by cases t<;>rfl)⟩
  |r q=>exact⟨λe=>(by cases e),λ_=>(by cases t<;>first|rfl|exact zU q)⟩
  |l q =>
   have key:=λu=>CG x p q u
   refine⟨λe=>?_,λe=>?_⟩
   .cases e;cases t with
    |e=>exact(key .e).1 rfl
    |n a l r=>exact(key l).1 rfl
   .have hne:p≠q:=λh=>e (by rw[h])
    cases t with
    |e=>exact((key .e).2 hne).trans (zU q)
    |n a l r=>exact(key l).2 hne
 |.r p,q,t=>by
  cases q with
  |o=>exact⟨λe=>(by cases e),λ_=>(by cases t<;>rfl)⟩
  |l q=>exact⟨λe=>(by cases e),λ_=>(by cases t<;>first|rfl|exact zU q)⟩
  |r q =>
   have key:=λu=>CG x p q u
   refine⟨λe=>?_,λe=>?_⟩
   .cases e;cases t with
    |e=>exact(key .e).1 rfl
    |n a l r=>exact(key r).1 rfl
   .have hne:p≠q:=λh=>e (by rw[h])
    cases t with
    |e=>exact((key .e).2 hne).trans (zU q)
    |n a l r=>exact(key r).2 hne
def Js:Nat->Nat->PB
 |0,_=>.o
 |k+1,n=>if Nat.ble n 1=true then .o else if Nat.beq (n%2) 0=true then .l (Js k (n/2)) else .r (Js k (n/2))
def way(i:Nat):PB:=Js 16 (i+1)
theorem G5:∀(k n m:Nat),0<n->0<m->n<2^k->m<2^k->Js k n=Js k m->n=m
 |0,n,m,hn,hm,h1,h2,_=>by simp at h1 h2;omega
 |k+1,n,m,hn,hm,h1,h2,h=>by
  simp only[Js]at h
  have hp:(2:Nat)^(k+1)=2*2^k:=by rw[Nat.pow_succ];omega
  by_cases a1:n<=1
  .rw[if_pos (dU a1)]at h
   by_cases b1:m<=1
   .omega
   .rw[if_neg λq=>b1 (aZ q)]at h
    split at h<;>cases h
  .rw[if_neg λq=>a1 (aZ q)]at h
   by_cases b1:m<=1
   .rw[if_pos (dU b1)]at h
    split at h<;>cases h
   .rw[if_neg λq=>b1 (aZ q)]at h
    split at h
    .rename_i p
     have p:=bM p
     split at h
     .rename_i q
      have q:=bM q
      have:=G5 k (n/2) (m/2) (by omega) (by omega) (by omega) (by omega) (PB.l.inj h)
      omega
     .cases h
    .rename_i p
     split at h
     .cases h
     .rename_i q
      have p':n%2=1:=by
       have:n%2≠0:=λe=>p (by rw[e];rfl)
       omega
      have q':m%2=1:=by
       have:m%2≠0:=λe=>q (by rw[e];rfl)
       omega
      have:=G5 k (n/2) (m/2) (by omega) (by omega) (by omega) (by omega) (PB.r.inj h)
      omega
theorem a4w{i j:Nat}(hi:i<65535)(hj:j<65535)(h:way i=way j):i=j:=by
 have:=G5 16 (i+1) (j+1) (by omega) (by omega) (by simp;omega) (by simp;omega) h
 omega
def slots(n:Nat)(T:TT):List AV:=(List.range n).map λi=>oC (way i) T
theorem KP{n:Nat}{T:TT}{i:Nat}:(slots n T).getD i .any=if i<n then oC (way i) T else .any:=by
 rw[bn]
 unfold slots
 rw[aK]
 split
 .rename_i h;rw[jO h];rfl
 .rename_i h;rw[aR (by simpa using h)];rfl
theorem rZ{n:Nat}{T:TT}{i:Nat}{x:AV}(hn:n<=65535)(hi:i<n):slots n (kN x (way i) T)=(slots n T).set i x:=by
 apply fA
 intro j
 unfold slots
 rw[dn,aK]
 rcases bK j n with hj|hj
 .rw[jO hj]
  simp only[aW,bN,List.length_range]
  by_cases e:i=j
  .subst e
   rw[if_pos rfl,if_pos hi,(CG x (way i) (way i) T).1 rfl]
  .rw[if_neg e,aK,jO hj,(CG x (way i) (way j) T).2 λq=>e (a4w (by omega) (by omega) q)]
   rfl
 .rw[aR (by simpa using hj)]
  by_cases e:i=j
  .omega
  .rw[if_neg e,aK,aR (by simpa using hj)];rfl
def sP{α:Type}(l:List α):Nat:=List.rec 0 (λ_ _ ih=>Nat.add ih 1) l
theorem oF{α:Type}:∀l:List α,sP l=l.length
 |[]=>rfl
 |a::l=>by show Nat.add (sP l) 1=_;rw[oF l];rfl
def Mc{α:Type}(l:List α)(x:α):List α:=List.rec [x] (λa _ ih=>a::ih) l
theorem zH{α:Type}:∀(l:List α) (x:α),Mc l x=l++[x]
 |[],x=>rfl
 |a::l,x=>by show a::Mc l x=_;rw[zH l x];rfl
def yj{α:Type}(l:List α):Nat->List α:=List.rec (λ_=>[]) (λa l ih n=>Nat.rec (a::l) (λm _=>ih m) n) l
theorem sV{α:Type}:∀(l:List α) (n:Nat),yj l n=l.drop n
 |[],n=>by simp[yj]
 |a::l,0=>rfl
 |a::l,n+1=>by show yj l n=_;rw[sV l n];rfl
def xZ{α:Type}(l:List α):Nat->List α:=List.rec (λ_=>[]) (λa _ ih n=>Nat.rec [] (λm _=>a::ih m) n) l
theorem rX{α:Type}:∀(l:List α) (n:Nat),xZ l n=l.take n
 |[],n=>by simp[xZ]
 |a::l,0=>rfl
 |a::l,n+1=>by show a::xZ l n=_;rw[rX l n];rfl
def Eb(l:List AV):Nat->AV:=List.rec (λ_=>.any) (λa _ ih n=>Nat.rec a (λm _=>ih m) n) l
theorem BF:∀(l:List AV) (n:Nat),Eb l n=l.getD n .any
 |[],n=>by simp[Eb]
 |a::l,0=>rfl
 |a::l,n+1=>by
  show Eb l n=_
  rw[BF l n];simp[List.getD]
def Tw(l:List AV):Nat->AV->List AV:=List.rec (λ_ _=>[]) (λa l ih n x=>Nat.rec (x::l) (λm _=>a::ih m x) n) l
theorem QD:∀(l:List AV) (n:Nat) (x:AV),Tw l n x=l.set n x
 |[],n,x=>rfl
 |a::l,0,x=>rfl
 |a::l,n+1,x=>by
  show a::Tw l n x=_
  rw[QD l n x];rfl
def Pw(l:List ay):Nat->Option ay:=List.rec (λ_=>none) (λa _ ih n=>Nat.rec (some a) (λm _=>ih m) n) l
theorem K8:∀(l:List ay) (n:Nat),Pw l n=l[n]?
 |[],n=>by simp[Pw]
 |a::l,0=>rfl
 |a::l,n+1=>by
  show Pw l n=_
  rw[K8 l n];simp
def Vg(l:List AV):Nat->Option AV:=List.rec (λ_=>none) (λa _ ih n=>Nat.rec (some a) (λm _=>ih m) n) l
theorem Rj:∀(l:List AV) (n:Nat),Vg l n=l[n]?
 |[],n=>by simp[Vg]
 |a::l,0=>rfl
 |a::l,n+1=>by
  show Vg l n=_
  rw[Rj l n];simp
def setH(l:List ay):Nat->ay->List ay:=List.rec (λ_ _=>[]) (λa l ih n x=>Nat.rec (x::l) (λm _=>a::ih m x) n) l
theorem QF:∀(l:List ay) (n:Nat) (x:ay),setH l n x=l.set n x
 |[],n,x=>rfl
 |a::l,0,x=>rfl
 |a::l,n+1,x=>by
  show a::setH l n x=_
  rw[QF l n x];rfl
def VOk(Gl:Nat->Option (List AV))(f:Opd->AV)(t:List AV):Prop:=∀h x,f x=St.val Gl ⟨t,h⟩ x
inductive FR where
 |no
 |val (a:AV) (h:List ay) (ids:List Nat)
 |pan (v:Value)
def FR.ir:FR->Option IR
 |.no=>none
 |.val a h ids=>some (.val a h ids)
 |.pan v=>some (.pan v)
def kNE:IntKind->Nat
 |.i8=>0|.i16=>1|.i32=>2|.i64=>3|.u8=>4|.u16=>5|.u32=>6|.u64=>7
def kB(a b:IntKind):Bool:=Nat.beq (kNE a) (kNE b)
theorem a3Q(a b:IntKind):(kB a b=true)↔a=b:=by cases a<;>cases b<;>simp[kB,kNE]
def avR(K:Value->FR)(a:AV):FR:=@AV.rec (λ_=>FR) (λ_=>FR) .no K (λ_ _ _=>.no) (λ_ _=>.no) (λ_ _ _ _ _=>.no) (λ_ _ _ _=>.no) (λ_ _=>.no) (λ_ _=>.no) .no (λ_ _ _ _=>.no) a
def viR(K:IntKind->Int->FR)(v:Value):FR:=@Value.rec (λ_=>FR) (λ_=>FR) (λ_=>FR) (λ_=>.no) K (λ_ _=>.no) (λ_ _ _=>.no) (λ_=>.no) (λ_=>.no) (λ_ _ _=>.no) (λ_=>.no) (λ_=>.no) (λ_ _ _ _ _=>.no) .no (λ_ _ _=>.no) .no (λ_ _=>.no) (λ_ _=>.no) (λ_ _=>.no) .no (λ_ _ _ _=>.no) v
def vbR(K:Bool->FR)(v:Value):FR:=@Value.rec (λ_=>FR) (λ_=>FR) (λ_=>FR) K (λ_ _=>.no) (λ_ _=>.no) (λ_ _ _=>.no) (λ_=>.no) (λ_=>.no) (λ_ _ _=>.no) (λ_=>.no) (λ_=>.no) (λ_ _ _ _ _=>.no) .no (λ_ _ _=>.no) .no (λ_ _=>.no) (λ_ _=>.no) (λ_ _=>.no) .no (λ_ _ _ _=>.no) v
def vsR(K:ByteArray->FR)(v:Value):FR:=@Value.rec (λ_=>FR) (λ_=>FR) (λ_=>FR) (λ_=>.no) (λ_ _=>.no) (λ_ _=>.no) (λ_ _ _=>.no) K (λ_=>.no) (λ_ _ _=>.no) (λ_=>.no) (λ_=>.no) (λ_ _ _ _ _=>.no) .no (λ_ _ _=>.no) .no (λ_ _=>.no) (λ_ _=>.no) (λ_ _=>.no) .no (λ_ _ _ _=>.no) v
def vsB(v:Value):Bool:=@Value.rec (λ_=>Bool) (λ_=>Bool) (λ_=>Bool) (λ_=>false) (λ_ _=>false) (λ_ _=>false) (λ_ _ _=>false) (λ_=>true) (λ_=>false) (λ_ _ _=>false) (λ_=>false) (λ_=>false) (λ_ _ _ _ _=>false) false (λ_ _ _=>false) false (λ_ _=>false) (λ_ _=>false) (λ_ _=>false) false (λ_ _ _ _=>false) v
def asInt(a:AV)(K:IntKind->Int->FR):FR:=avR (viR K) a
def asBool(a:AV)(K:Bool->FR):FR:=avR (vbR K) a
def rR(a:AV)(K:ByteArray->FR):FR:=avR (vsR K) a
def isStr(a:AV):Bool:=@AV.rec (λ_=>Bool) (λ_=>Bool) false vsB (λ_ _ _=>false) (λ_ _=>false) (λ_ _ _ _ _=>false) (λ_ _ _ _=>false) (λ_ _=>false) (λ_ _=>false) false (λ_ _ _ _=>false) a
def slow(Gl:Nat->Option (List AV))(t:List AV)(h:List ay)(i:I):FR:=match exS Gl ⟨t,h⟩ i with
 |some (a,h')=>.val a h' (tI Gl ⟨t,h⟩ i)
 |none=>.no
section
variable(f:Opd->AV)(h:List ay)
def O4(x:Opd):FR:=.val (f x) h []
def EK(c a b:Opd):FR:=asBool (f c) λq=>.val (Bool.rec (f b) (f a) q) h []
def bI(g:Int->Int->Int)(x y:Opd):FR:=asInt (f x) λk a=>asInt (f y) λk' b=>cond (kB k k') (.val (.v (.int k (xY k (g a b)))) h []) .no
def cI'(g:Int->Int->Bool)(x y:Opd):FR:=asInt (f x) λk a=>asInt (f y) λk' b=>cond (kB k k') (.val (.v (.bool (g a b))) h []) .no
def cS(g:Bool->Bool)(x y:Opd):FR:=rR (f x) λa=>rR (f y) λb=>.val (.v (.bool (g (zf a b)))) h []
def TK(x y:Opd):FR:=rR (f x) λa=>rR (f y) λb=>cond (Nat.ble (a.size+b.size) 9223372036854775807) (.val (.v (.string (a++b))) h []) .no
end
def V7(a b:Int):Int:=a+b
def UZ(a b:Int):Int:=a-b
def TI(op:BinOp)(x y:Opd):(Opd->AV)->List ay->FR->FR:=match op with
 |.add=>λf h _=>cond (isStr (f x)) (TK f h x y) (bI f h V7 x y)
 |.sub=>λf h _=>bI f h UZ x y
 |.eql=>λf h _=>cond (isStr (f x)) (cS f h id x y) (cI' f h eqI x y)
 |.neq=>λf h _=>cond (isStr (f x)) (cS f h not x y) (cI' f h (λa b=>not (eqI a b)) x y)
 |.lss=>λf h _=>cI' f h ltI x y
 |.gtr=>λf h _=>cI' f h (λa b=>ltI b a) x y
 |.leq=>λf h _=>cI' f h (λa b=>not (ltI b a)) x y
 |.geq=>λf h _=>cI' f h (λa b=>not (ltI a b)) x y
 |_=>λ_ _ sl=>sl
theorem a0I {Gl:Nat->Option (List AV)} {t:List AV} {f:Opd->AV} (hf:VOk Gl f t) (h:List ay) (op:BinOp) (x y:Opd):slow Gl t h (.bin op x y)=match f x,f y with
  |.v a,.v b=>match GL op a b with
   |some r=>FR.val (.v r) h []
   |none=>.no
  |_,_=>.no:=by
 rw[hf h x,hf h y]
 unfold slow
 simp only[exS,tI]
 generalize St.val Gl ⟨t,h⟩ x=a
 generalize St.val Gl ⟨t,h⟩ y=b
 cases a<;>cases b<;>try rfl
 rename_i u v
 cases hb:GL op u v<;>simp only[hb]
theorem a5a {Gl:Nat->Option (List AV)} {t:List AV} {f:Opd->AV} (hf:VOk Gl f t) (op:BinOp) (x y:Opd) (h:List ay):TI op x y f h (slow Gl t h (.bin op x y))=slow Gl t h (.bin op x y):=by
  have key:∀ (a b:AV),(∀ u,a ≠ .v u)\/(∀ u,b ≠ .v u)->(match a,b with
    | .v a,.v b=>match GL op a b with
      |some r=>FR.val (.v r) h []
      |none=>.no
    |_,_=>.no)=FR.no:=by
    intro a b hab
    cases a<;>cases b<;>first|rfl|(rcases hab with q|q<;>exact absurd rfl (q _))
  cases op <;> first
    |rfl
    | (rw [a0I hf]
       simp only[TI,cI',bI,cS,TK,isStr,asInt,rR,avR,viR,vsR,vsB]
       generalize f x=a
       generalize f y=b
       cases a <;> first
         |(cases b<;>rfl)
         | (rename_i u
            cases b <;> first
              |(cases u<;>rfl)
              | (rename_i v
                 cases u <;> cases v <;> first
                   |rfl
                   | (simp only [GL,V7,UZ,id,vsB,viR,vsR,vG,qO]
                      first
                        | (rename_i k m k' n
                           by_cases hk:k=k'
                           .rw[if_pos hk,(a3Q k k').2 hk];rfl
                           .rw[if_neg hk,show kB k k'=false from gY.2 λq=>hk ((a3Q k k').1 q)];rfl)
                        |rfl
                        |(rename_i u v;cases Nat.ble (u.size+v.size) 9223372036854775807<;>rfl)))))
def Ct(l:List UInt8):Nat:=List.rec 0 (λ_ _ ih=>Nat.add ih 1) l
theorem Bv:∀l:List UInt8,Ct l=l.length
 |[]=>rfl
 |a::l=>by show Nat.add (Ct l) 1=_;rw[Bv l];rfl
def J8{α:Type}(z:α)(K:UInt8->α)(l:List UInt8):Nat->α:=List.rec (λ_=>z) (λa _ ih n=>Nat.rec (K a) (λm _=>ih m) n) l
theorem Qc{α:Type}(z:α)(K:UInt8->α):∀(l:List UInt8) (n:Nat),J8 z K l n=match l[n]? with|some c=>K c|none=>z
 |[],n=>by simp[J8]
 |a::l,0=>rfl
 |a::l,n+1=>by
  show J8 z K l n=_
  rw[Qc z K l n];simp
section
variable(f:Opd->AV)(h:List ay)
def Me(k:IntKind)(x:Opd):FR:=asInt (f x) λ_ n=>.val (.v (.int k (xY k n))) h []
def TB(x:Opd):FR:=asBool (f x) λb=>.val (.v (.bool (not b))) h []
def TF(i:Nat)(x:Opd):FR:=match f x with
 |.tup vs=>match Vg vs i with
  |some a=>.val a h []
  |none=>.no
 |_=>.no
def Dn(off:Nat)(x:Opd):FR:=match f x with
 |.ptr id G i o=>.val (.ptr id G i (o+off)) h []
 |.fZ cs=>.val (.fZ (yj cs off)) h []
 |_=>.no
def TD(x:Opd):FR:=match f x with
 |.ptr id G i o=>.val (.ptr id G i o) h []
 |.fZ cs=>.val (.fZ cs) h []
 |_=>.no
def HZ(sz:Nat)(x i:Opd):FR:=match f x with
 |.list sz' xs=>asInt (f i) λ_ n=>cond (Nat.beq sz' sz) (cond (wu n xs.length) (.val (.fZ (Eb xs n.toNat).cells) h []) .no) .no
 |.row id G sz' off len=>asInt (f i) λ_ n=>cond (Nat.beq sz' sz) (cond (wu n len) (.val (.ptr id G (off+n.toNat) 0) h []) .no) .no
 |_=>.no
def a3M(sz:Nat)(ag:Bool)(G i o:Nat)(ob:ay):FR:=cond (Nat.beq (sP ob.es) G) (cond ag (cond (Nat.ble (o+sz) ob.sz&&Nat.blt i G) (.val (.agg (xZ (yj (Eb ob.es i).cells o) sz)) h []) .no) (cond (Nat.blt o ob.sz&&Nat.blt i G) (.val (Eb (Eb ob.es i).cells o) h []) .no)) .no
def Aj(sz:Nat)(ag:Bool)(x:Opd):FR:=match f x with
 |.fZ cs=>cond ag (cond (Nat.ble sz (sP cs)) (.val (.agg (xZ cs sz)) h []) .no) (match cs with
  |a::_=>.val a h []
  |[]=>.no)
 |.ptr id G i o=>match Pw h id with
  |some ob=>a3M h sz ag G i o ob
  |none=>.no
 |_=>.no
def Tx(e:AV)(o:Nat)(cs:List AV):AV:=match e with
 |.agg es=>.agg (xZ es o++cs++yj es (o+sP cs))
 |_=>cs.headD .any
theorem EH(e:AV)(o:Nat)(cs:List AV):Tx e o cs=setCells e o cs:=by
 cases e<;>first
  |rfl
  |(simp only[Tx,setCells,rX,sV,oF])
def Wx(sz id G i o:Nat)(y:AV)(sl:FR)(ob:ay):FR:=cond (Nat.beq (sP ob.es) G) (match gy ob.pr y with
 |some cs=>cond (Nat.beq (sP cs) sz) (cond (Nat.ble (o+sz) ob.sz&&Nat.blt i G&&Nat.ble ob.fz i) (.val .any (setH h id { ob with es:=Tw ob.es i (Tx (Eb ob.es i) o cs) }) (id::dJ y)) .no) .no
 |none=>sl) .no
def Dm(sl:FR)(sz:Nat)(x y:Opd):FR:=match f x with
 |.ptr id G i o=>match Pw h id with
  |some ob=>Wx h sz id G i o (f y) sl ob
  |none=>.no
 |_=>.no
def Md(x:Opd):FR:=match f x with
 |.list _ xs=>.val (.v (.int .i64 xs.length)) h []
 |.row _ _ _ _ len=>.val (.v (.int .i64 len)) h []
 |.v (.slice none 0 0)=>.val (.v (.int .i64 0)) h []
 |_=>.no
def HY(x:Opd):FR:=rR (f x) λs=>.val (.v (.int .i64 (.ofNat (Ct s.data.toList)))) h []
def Jz(x i:Opd):FR:=rR (f x) λs=>asInt (f i) λ_ n=>match n with
 |.ofNat m=>J8 (.no) (λc=>.val (.v (.int .u8 (.ofNat c.toNat))) h []) s.data.toList m
 |.negSucc _=>.no
def Ja(f:Opd->AV):List AV->List (Nat×Nat×Opd)->Option (List AV)
 |cs,[]=>some cs
 |cs,(off,sz,x)::r=>match gy false (f x) with
  |some vs=>cond (Nat.beq (sP vs) sz&&Nat.ble (off+sz) (sP cs)) (Ja f (xZ cs off++vs++yj cs (off+sz)) r) none
  |none=>none
def I6(z:List Value)(ps:List (Nat×Nat×Opd)):FR:=match Ja f (z.map .v) ps with
 |some cs=>.val (.agg cs) h []
 |none=>.no
def TH(ty sz:Nat)(x:Opd):FR:=match gy false (f x) with
 |some cs=>cond (Nat.beq (sP cs) sz) (.val (.ptr (sP h) 1 0 0) (Mc h ⟨ty,sz,0,false,[f x]⟩) []) .no
 |none=>.no
def I7(ty:Nat)(z:Value):FR:=.val (.ptr (sP h) 1 0 0) (Mc h ⟨ty,z.cells.size,0,false,[rG z]⟩) []
def TJ(ty sz bytes:Nat)(s x:Opd):FR:=match jl h sz (f x) with
 |some ys=>cond (appG h bytes (f s) ys.length ys.isEmpty) (match wG h ty sz bytes (f s) ys with
  |some (_,a,h')=>.val a h' (match f s with
   |.row id _ _ _ _=>[id]
   |_=>[])
  |none=>.no) .no
 |none=>.no
def EL(ty sz:Nat)(xs:List Opd):FR:=match dY h (xs.map f) with
 |some ys=>cond (ys.all λy=>y.cells.length==sz) (.val (.row h.length ys.length sz 0 ys.length) (freeze h ((xs.map f).flatMap dJ)++[⟨ty,sz,0,true,ys⟩]) ((xs.map f).flatMap dJ)) .no
 |none=>.no
end
section
variable{Gl:Nat->Option (List AV)}{t:List AV}{h:List ay}{f:Opd->AV}
theorem kM {i:I} (hi:(match i with | .bin ..=>false | .conv ..=>false | _=>true)=true):slow Gl t h i=match step Gl ⟨t,h⟩ i with
  |some (_,a,h')=>cond (gB Gl ⟨t,h⟩ i) (.val a h' (tI Gl ⟨t,h⟩ i)) .no
  |none=>.no:=by
 have e:exS Gl ⟨t,h⟩ i=match step Gl ⟨t,h⟩ i with
   |some (_,a,h')=>if gB Gl ⟨t,h⟩ i=true then some (a,h') else none
   |none=>none:=by cases i<;>first|rfl|cases hi
 unfold slow
 rw[e]
 cases step Gl ⟨t,h⟩ i with
 |none=>rfl
 |some q=>obtain⟨p,a,h'⟩:=q;simp only;cases gB Gl ⟨t,h⟩ i<;>rfl
theorem a4V(hf:VOk Gl f t)(x:Opd):O4 f h x=slow Gl t h (.mov x):=by
 unfold O4;rw[hf h x];rfl
theorem a0Y(hf:VOk Gl f t)(c a b:Opd):EK f h c a b=slow Gl t h (.pick c a b):=by
 unfold EK
 rw[kM rfl]
 simp only[step,gB,tI]
 rw[hf h c,hf h a,hf h b]
 generalize St.val Gl ⟨t,h⟩ c=v
 cases v<;>first
  |rfl
  | (rename_i u; cases u <;> first
    |rfl
    |(rename_i q;cases q<;>rfl))
theorem a0Z(hf:VOk Gl f t)(k:IntKind)(x:Opd):Me f h k x=slow Gl t h (.conv k x):=by
 unfold Me slow
 simp only[exS,tI]
 rw[hf h x]
 generalize St.val Gl ⟨t,h⟩ x=v
 cases v<;>first
  |rfl
  |(rename_i u;cases u<;>rfl)
theorem a4T(hf:VOk Gl f t)(x:Opd):TB f h x=slow Gl t h (.un .not x):=by
 unfold TB
 rw[kM rfl]
 simp only[step,gB,tI]
 rw[hf h x]
 generalize St.val Gl ⟨t,h⟩ x=v
 cases v<;>first
  |rfl
  |(rename_i u;cases u<;>rfl)
theorem a4Y (hf:VOk Gl f t) (i:Nat) (x:Opd):TF f h i x=slow Gl t h (.ext i x):=by
  unfold TF
  rw[kM rfl]
  simp only[step,gB,tI]
  rw[hf h x]
  generalize St.val Gl ⟨t,h⟩ x=v
  cases v <;> first
    |rfl
    | (rename_i cs
       simp only[Rj]
       cases cs[i]?<;>rfl)
theorem X4(hf:VOk Gl f t)(off:Nat)(x:Opd):Dn f h off x=slow Gl t h (.tQ off x):=by
 unfold Dn
 try simp only[oF,zH,sV,rX,EH]
 rw[kM rfl]
 simp only[step,gB,tI]
 rw[hf h x]
 generalize St.val Gl ⟨t,h⟩ x=v
 cases v<;>rfl
theorem a4U(hf:VOk Gl f t)(x:Opd):TD f h x=slow Gl t h (.nck x):=by
 unfold TD
 rw[kM rfl]
 simp only[step,gB,tI]
 rw[hf h x]
 generalize St.val Gl ⟨t,h⟩ x=v
 cases v<;>rfl
theorem Kv{a b:Nat}(h:¬a=b):Nat.beq a b=false:=gY.2 λq=>h (bM q)
theorem GN{a b:Nat}(h:a=b):Nat.beq a b=true:=by rw[h];exact sZ b
theorem X0 (hf:VOk Gl f t) (sz:Nat) (x i:Opd):HZ f h sz x i=slow Gl t h (.oK sz x i):=by
  unfold HZ
  rw[kM rfl]
  simp only[step,gB,tI]
  rw[hf h x,hf h i]
  generalize St.val Gl ⟨t,h⟩ x=v
  generalize St.val Gl ⟨t,h⟩ i=u
  cases v <;> first
    |(cases u<;>rfl)
    | (rename_i sz' xs
       cases u <;> first
         |rfl
         | (rename_i q; cases q <;> first
             |rfl
             | (rename_i k n
                simp only[asInt,avR,viR,BF]
                by_cases hz:sz'=sz
                .rw[if_pos hz,GN hz];cases hn:wu n xs.length<;>simp[hn]
                .rw[if_neg hz,Kv hz];rfl)))
    | (rename_i id G sz' off len
       cases u <;> first
         |rfl
         | (rename_i q; cases q <;> first
             |rfl
             | (rename_i k n
                simp only[asInt,avR,viR]
                by_cases hz:sz'=sz
                .rw[if_pos hz,GN hz];cases hn:wu n len<;>simp[hn]
                .rw[if_neg hz,Kv hz];rfl)))
theorem O5(hf:VOk Gl f t)(sz:Nat)(ag:Bool)(x:Opd):Aj f h sz ag x=slow Gl t h (.load sz ag x):=by
 unfold Aj
 try simp only[oF,zH,sV,rX,EH]
 rw[kM rfl]
 simp only[step,gB,tI]
 rw[hf h x]
 generalize St.val Gl ⟨t,h⟩ x=v
 cases v with
 |fZ cs =>
  cases ag
  .cases cs<;>rfl
  .simp only[cond,if_true]
   by_cases hl:sz<=cs.length
   .rw[if_pos hl,show Nat.ble sz cs.length=true from dU hl]
   .rw[if_neg hl,show Nat.ble sz cs.length=false from gY.2 λq=>hl (aZ q)]
 |ptr id G i o =>
  simp only[K8]
  cases ho:h[id]? with
  |none=>rfl
  |some ob =>
   simp only[a3M,oF,sV,rX]
   by_cases hG:ob.es.length=G
   .rw[if_pos hG,GN hG]
    cases ag
    .simp only[cond,cK,if_false,BF]
     try (cases hq:(Nat.blt o ob.sz&&Nat.blt i G)<;>simp[hq])
    .simp only[cond,if_true,BF]
     try (cases hq:(Nat.ble (o+sz) ob.sz&&Nat.blt i G)<;>simp[hq])
   .rw[if_neg hG,Kv hG];rfl
 |_=>rfl
theorem WZ(hf:VOk Gl f t)(sz:Nat)(x y:Opd):Dm f h (slow Gl t h (.store sz x y)) sz x y=slow Gl t h (.store sz x y):=by
 unfold Dm
 rw[hf h x,hf h y]
 rw[kM rfl]
 simp only[step,gB,tI]
 generalize hv:St.val Gl ⟨t,h⟩ x=v
 cases v with
 |ptr id G i o =>
  simp only[K8]
  cases ho:h[id]? with
  |none=>rfl
  |some ob =>
   simp only[Wx,oF,EH]
   by_cases hG:ob.es.length=G
   .rw[if_pos hG,GN hG]
    cases hs:gy ob.pr (St.val Gl ⟨t,h⟩ y) with
    |none=>rfl
    |some cs =>
     simp only[cond]
     by_cases hl:cs.length=sz
     .rw[if_pos hl,GN hl]
      simp only[QF,QD,BF]
      try (cases hq:(Nat.ble (o+sz) ob.sz&&Nat.blt i G&&Nat.ble ob.fz i)<;>simp[hq])
     .rw[if_neg hl,Kv hl]
   .rw[if_neg hG,Kv hG];rfl
 |_=>rfl
theorem a4W(hf:VOk Gl f t)(x:Opd):Md f h x=slow Gl t h (.len x):=by
 unfold Md
 rw[kM rfl]
 simp only[step,gB,tI]
 rw[hf h x]
 generalize St.val Gl ⟨t,h⟩ x=v
 split
 .rfl
 .rfl
 .rfl
 .rename_i n1 n2 n3
  split
  .rename_i p a h' hs
   exfalso
   split at hs
   .exact n1 _ _ rfl
   .exact n2 _ _ _ _ _ rfl
   .exact n3 rfl
   .cases hs
  .rfl
theorem a0X(hf:VOk Gl f t)(x:Opd):HY f h x=slow Gl t h (.wZ x):=by
 unfold HY
 rw[kM rfl]
 simp only[step,gB,tI]
 rw[hf h x]
 generalize St.val Gl ⟨t,h⟩ x=v
 cases v<;>first
  |rfl
  | (rename_i u; cases u <;> first
    |rfl
    |(rename_i s;simp only[rR,avR,vsR,Bv];rfl))
theorem a4X (hf:VOk Gl f t) (x i:Opd):Jz f h x i=slow Gl t h (.idx x i):=by
  unfold Jz
  rw[kM rfl]
  simp only[step,gB,tI]
  rw[hf h x,hf h i]
  generalize St.val Gl ⟨t,h⟩ x=v
  generalize St.val Gl ⟨t,h⟩ i=u
  cases v <;> first
    |(cases u<;>rfl)
    | (rename_i s
       cases s <;> first
         |(cases u<;>rfl)
         | (rename_i s
            cases u <;> first
              |rfl
              | (rename_i q; cases q <;> first
                  |rfl
                  | (rename_i k n
                     simp only[asInt,rR,avR,viR,vsR]
                     cases n with
                     |negSucc m=>rfl
                     | ofNat m =>
                       simp only[Qc]
                       by_cases hm:m<s.size
                       · have h1:s.data.toList[m]?=some s.data[m]:=by rw [qB]; exact aF hm
                         have h2:wu (Int.ofNat m) s.size=true:=dU hm
                         have h3:s.data.getD (Int.ofNat m).toNat 0=s.data[m]:=by
                           show s.data.getD m 0=_
                           simp[Array.getD,hm]
                         rw[h1,h2,h3];rfl
                       · have h1:s.data.toList[m]?=none:=by rw [qB]; exact Array.getElem?_eq_none (Nat.le_of_not_lt hm)
                         have h2:wu (Int.ofNat m) s.size=false:=gY.2 λq=>hm (nA q)
                         rw[h1,h2];rfl))))
theorem LU(hf:VOk Gl f t):∀(ps:List (Nat×Nat×Opd)) (cs:List AV),Ja f cs ps=ny Gl ⟨t,h⟩ cs ps
 |[],cs=>rfl
 |(off,sz,x)::ps,cs=>by
  simp only[Ja,ny,oF,sV,rX]
  rw[hf h x]
  cases hs:gy false (St.val Gl ⟨t,h⟩ x) with
  |none=>rfl
  |some vs =>
   simp only
   rw[LU hf ps]
   by_cases hc:vs.length=sz/\off+sz<=cs.length
   .rw[if_pos hc,GN hc.1,dU hc.2];rfl
   .rw[if_neg hc]
    have:(Nat.beq vs.length sz&&Nat.ble (off+sz) cs.length)=false:=gY.2 λq=>by
     rw[au]at q
     exact hc ⟨bM q.1,aZ q.2⟩
    rw[this];rfl
theorem X6(hf:VOk Gl f t)(z:List Value)(ps:List (Nat×Nat×Opd)):I6 f h z ps=slow Gl t h (.build z ps):=by
 unfold I6
 rw[kM rfl]
 simp only[step,gB,tI]
 rw[LU hf (h:=h)]
 cases ny Gl ⟨t,h⟩ (z.map .v) ps<;>rfl
theorem a4Z(hf:VOk Gl f t)(ty sz:Nat)(x:Opd):TH f h ty sz x=slow Gl t h (.box ty sz x):=by
 unfold TH
 try simp only[oF,zH,sV,rX,EH]
 rw[kM rfl]
 simp only[step,gB,tI]
 rw[hf h x]
 cases hs:gy false (St.val Gl ⟨t,h⟩ x) with
 |none=>rfl
 |some cs =>
  simp only[cond]
  by_cases hl:cs.length=sz
  .rw[if_pos hl,GN hl]
  .rw[if_neg hl,Kv hl]
theorem X7(ty:Nat)(z:Value):I7 h ty z=slow Gl t h (.alloc ty z):=by
 unfold I7;simp only[oF,zH];rfl
theorem a5b(hf:VOk Gl f t)(ty sz bytes:Nat)(s x:Opd):TJ f h ty sz bytes s x=slow Gl t h (.app ty sz bytes s x):=by
 unfold TJ
 rw[kM rfl]
 simp only[step,gB,tI]
 rw[hf h x,hf h s]
 cases hx:jl h sz (St.val Gl ⟨t,h⟩ x) with
 |none=>rfl
 |some ys =>
  simp only
  cases hy:wG h ty sz bytes (St.val Gl ⟨t,h⟩ s) ys with
  |none=>cases appG h bytes (St.val Gl ⟨t,h⟩ s) ys.length ys.isEmpty<;>rfl
  |some q =>
   obtain⟨p,a,h'⟩:=q
   cases hg:appG h bytes (St.val Gl ⟨t,h⟩ s) ys.length ys.isEmpty
   .rfl
   .simp only[cond]<;>cases St.val Gl ⟨t,h⟩ s<;>rfl
theorem TG(hf:VOk Gl f t)(ty sz:Nat)(xs:List Opd):EL f h ty sz xs=slow Gl t h (.mq ty sz xs):=by
 have hm:xs.map f=xs.map (St.val Gl ⟨t,h⟩):=gN λx _=>hf h x
 unfold EL
 rw[kM rfl]
 simp only[step,gB,tI,hm]
 cases hk:dY h (xs.map (St.val Gl ⟨t,h⟩)) with
 |none=>rfl
 |some ys=>simp only;cases(ys.all λy=>y.cells.length==sz)<;>simp
end
def fS:I->(Opd->AV)->List ay->FR->FR
 |.mov x=>λf h _=>O4 f h x
 |.pick c a b=>λf h _=>EK f h c a b
 |.bin op x y=>TI op x y
 |.conv k x=>λf h _=>Me f h k x
 |.ext i x=>λf h _=>TF f h i x
 |.tQ o x=>λf h _=>Dn f h o x
 |.nck x=>λf h _=>TD f h x
 |.oK z x i=>λf h _=>HZ f h z x i
 |.load z g x=>λf h _=>Aj f h z g x
 |.store z x y=>λf h sl=>Dm f h sl z x y
 |.len x=>λf h _=>Md f h x
 |.wZ x=>λf h _=>HY f h x
 |.idx x i=>λf h _=>Jz f h x i
 |.build z ps=>λf h _=>I6 f h z ps
 |.box y z x=>λf h _=>TH f h y z x
 |.alloc y z=>λ_ h _=>I7 h y z
 |.app y z b s x=>λf h _=>TJ f h y z b s x
 |.mq y z xs=>λf h _=>EL f h y z xs
 |.un .not x=>λf h _=>TB f h x
 |_=>λ_ _ sl=>sl
theorem b4H{Gl:Nat->Option (List AV)}{t:List AV}{f:Opd->AV}(hf:VOk Gl f t)(i:I)(h:List ay):fS i f h (slow Gl t h i)=slow Gl t h i:=by
 cases i with
 |mov x=>exact a4V hf x
 |pick c a b=>exact a0Y hf c a b
 |bin op x y=>exact a5a hf op x y h
 |conv k x=>exact a0Z hf k x
 |ext i x=>exact a4Y hf i x
 |tQ o x=>exact X4 hf o x
 |nck x=>exact a4U hf x
 |oK z x i=>exact X0 hf z x i
 |load z g x=>exact O5 hf z g x
 |store z x y=>exact WZ hf z x y
 |len x=>exact a4W hf x
 |wZ x=>exact a0X hf x
 |idx x i=>exact a4X hf x i
 |build z ps=>exact X6 hf z ps
 |box y z x=>exact a4Z hf y z x
 |alloc y z=>exact X7 y z
 |app y z b s x=>exact a5b hf y z b s x
 |mq y z xs=>exact TG hf y z xs
 |un op x=>cases op<;>first|exact a4T hf x|rfl
 |_=>rfl
end
noncomputable section
inductive FO where
 |no
 |nrm (e:Exit) (T:TT) (h:List ay) (U:List Nat)
 |pan (v:Value)
def FO.out(n:Nat):FO->Option Out
 |.no=>none
 |.nrm e T h U=>some (.nrm e ⟨slots n T,h⟩ U)
 |.pan v=>some (.pan v)
structure wN where
 h:Nat->Option (List AV->List ay->FR)
 p:Nat->Option (List AV->Option AV)
def wN.hand(hd:wN):Hand:=⟨λ_ _ f=>match hd.h f with|some g=>some λas h=>(g as h).ir|none=>none,λ_ _ f=>hd.p f⟩
abbrev CF:=Nat->List AV->List ay->FR
abbrev PF:=Nat->List AV->Option AV
def vT(n:Nat)(Gl:Nat->Option (List AV))(T:TT):Opd->AV
 |.t i=>cond (Nat.blt i n) (oC (way i) T) .any
 |.k x=>.v x
 |.g i=>match Gl i with
  |some cs=>.fZ cs
  |none=>.any
theorem Hr(n:Nat)(Gl:Nat->Option (List AV))(T:TT):VOk Gl (vT n Gl T) (slots n T):=by
 intro h x
 cases x with
 |t i =>
  show cond (Nat.blt i n) (oC (way i) T) .any=(slots n T).getD i .any
  rw[KP]
  by_cases hi:i<n
  .rw[if_pos hi,show Nat.blt i n=true from dU hi];rfl
  .rw[if_neg hi,show Nat.blt i n=false from gY.2 λq=>hi (nA q)];rfl
 |k x=>rfl
 |g i=>rfl
def CS(pf:PF)(f:Nat)(h:List ay)(as:List AV):FR:=match dY h as with
 |some bs=>match pf f bs with
  |some res=>cond (scalar res||Vh h (as.flatMap dJ)) (.val res h []) .no
  |none=>.no
 |none=>.no
def Fb(fo:Opd)(args:List Opd)(cf:CF)(pf:PF)(d:Bool)(f:Opd->AV)(h:List ay):FR:=match f fo with
 |.v v=>match fnV v with
  |some g=>Bool.rec (cf g (args.map f) h) (CS pf g h (args.map f)) d
  |none=>.no
 |_=>.no
inductive BI where
 |s (g:(Opd->AV)->List ay->FR->FR)
 |c (g:CF->PF->Bool->(Opd->AV)->List ay->FR)
def qD:I->BI
 |.call fo args=>.c (Fb fo args)
 |.mov x=>.s λf h _=>O4 f h x
 |.pick c a b=>.s λf h _=>EK f h c a b
 |.bin op x y=>.s (TI op x y)
 |.load z g x=>.s λf h _=>Aj f h z g x
 |.store z x y=>.s λf h sl=>Dm f h sl z x y
 |.tQ o x=>.s λf h _=>Dn f h o x
 |.idx x i=>.s λf h _=>Jz f h x i
 |i=>.s (fS i)
def qH(b:BI)(cf:CF)(pf:PF)(d:Bool)(f:Opd->AV)(h:List ay)(sl:FR):FR:=match b with
 |.s g=>g f h sl
 |.c g=>g cf pf d f h
inductive Box where
 |p (d:Nat) (i:BI) (o:Ins)
 |q (i:BI) (o:Ins)
 |g (d:Nat) (s:Nat) (w:Bool) (i:BI) (o:Ins)
 |u (s:Nat) (w:Bool) (i:BI) (o:Ins)
def mQ(o:Ins):Box:=match o.gd with
 |none=>match o.dst with
  |some d=>.p d (qD o.i) o
  |none=>.q (qD o.i) o
 |some (s,w)=>match o.dst with
  |some d=>.g d s w (qD o.i) o
  |none=>.u s w (qD o.i) o
def Box.ins:Box->Ins
 |.p _ _ o=>o
 |.q _ o=>o
 |.g _ _ _ _ o=>o
 |.u _ _ _ o=>o
def gdF(a:AV)(w:Bool)(h:List ay)(x:FR):FR:=match a with
 |.v v=>match v with
  |.bool b=>Bool.rec (Bool.rec x (.val und h []) b) (Bool.rec (.val und h []) x b) w
  |.tuple _=>.val und h []
  |_=>.no
 |_=>.no
def CO(b:Box)(cf:CF)(pf:PF)(d:Bool)(n:Nat)(Gl:Nat->Option (List AV))(T:TT)(h:List ay):FR:=match b with
 |.p _ i o=>qH i cf pf d (vT n Gl T) h (slow Gl (slots n T) h o.i)
 |.q i o=>qH i cf pf d (vT n Gl T) h (slow Gl (slots n T) h o.i)
 |.g _ s w i o=>gdF (cond (Nat.blt s n) (oC (way s) T) .any) w h (qH i cf pf d (vT n Gl T) h (slow Gl (slots n T) h o.i))
 |.u s w i o=>gdF (cond (Nat.blt s n) (oC (way s) T) .any) w h (qH i cf pf d (vT n Gl T) h (slow Gl (slots n T) h o.i))
def Ob(b:Box)(n:Nat)(T:TT)(a:AV):TT:=match b with
 |.p d _ _=>cond (Nat.blt d n) (kN a (way d) T) T
 |.q _ _=>T
 |.g d _ _ _ _=>cond (Nat.blt d n) (kN a (way d) T) T
 |.u _ _ _ _=>T
def KD(N:Nat)(ids:List Nat):List Nat->List Nat:=List.rec (λU=>U) (λi _ ih U=>cond (Nat.blt i N&&!(U.any (Nat.beq i))) (ih (i::U)) (ih U)) ids
theorem FE(N:Nat):∀(ids U:List Nat),KD N ids U=vk N ids U
 |[],U=>rfl
 |i::ids,U=>by
  show cond (Nat.blt i N&&!(U.any (Nat.beq i))) (KD N ids (i::U)) (KD N ids U)=_
  rw[FE N ids (i::U),FE N ids U]
  simp only[vk]
  cases(Nat.blt i N&&!(U.any (Nat.beq i)))<;>rfl
def xW(N:Nat)(ids U:List Nat){α:Type}(K:List Nat->α):α:=match ids with
 |[]=>K U
 |i::l=>K (KD N (i::l) U)
theorem FD{α:Type}(N:Nat)(ids U:List Nat)(K:List Nat->α):xW N ids U K=K (vk N ids U):=by
 cases ids with
 |nil=>rfl
 |cons i l=>show K (KD N (i::l) U)=_;rw[FE]
section
variable(cf:CF)(pf:PF)(Gl:Nat->Option (List AV))(n:Nat)
def Ot(d:Bool)(N:Nat)(b:Box)(ih:TT->List ay->List Nat->FO)(T:TT)(h:List ay)(U:List Nat):FO:=match CO b cf pf d n Gl T h with
 |.val a h' ids=>xW N ids U (ih (Ob b n T a) h')
 |.pan v=>cond (d||b.ins.gd.isSome) .no (.pan v)
 |.no=>.no
def Kh(d:Bool)(N:Nat)(l:List Box):TT->List ay->List Nat->FO :=
 List.rec (λT h U=>.nrm .normal T h U) (λb _ ih=>Ot cf pf Gl n d N b ih) l
end
inductive FQ where
 |mk (o:FO) (q:RW)
abbrev RK:=Bool->TT->List ay->RW->List Nat->FQ
section
variable(cf:CF)(pf:PF)(Gl:Nat->Option (List AV))(n:Nat)
def TR(N:Nat)(p:Nat×Ins)(b:Box)(ih:RK)(c:Bool)(T:TT)(h:List ay)(q:RW)(U:List Nat):FQ:=match CO b cf pf true n Gl T h with
 |.val a h' ids=>xW N ids U (ih (c&&calm p) (Ob b n T a) h' q)
 |_=>.mk .no q
def TQ(N:Nat)(p:Nat×Ins)(b:Box)(ih:RK)(c:Bool)(T:TT)(h:List ay)(q:RW)(U:List Nat):FQ:=match CO b cf pf true n Gl T h with
 |.val a h' ids=>xW N ids U (ih (c&&calm p) (Ob b n T a) h' ⟨(match gdB ⟨slots n T,h⟩ p.2 with|some true=>p.2.i.ids Gl ⟨slots n T,h⟩|_=>[])++q.rd,q.uw⟩)
 |_=>.mk .no q
def TP(M N:Nat)(p:Nat×Ins)(b:Box)(r:List (Nat×Ins))(ih:RK)(c:Bool)(T:TT)(h:List ay)(q:RW)(U:List Nat):FQ:=match CO b cf pf false n Gl T h with
 |.val a h' ids=>xW N ids U (ih false (Ob b n T a) h' ⟨q.rd,KD M ids q.uw⟩)
 |.pan v=>cond (c&&waits p r&&!(p.2.gd.isSome)) (.mk (.pan v) q) (.mk .no q)
 |.no=>.mk .no q
def b7g(M N:Nat)(p:Nat×Ins)(b:Box)(r:List (Nat×Ins))(ih:RK):RK:=Nat.rec (TR cf pf Gl n N p b ih) (λm _=>Nat.rec (TQ cf pf Gl n N p b ih) (λ_ _=>TP cf pf Gl n M N p b r ih) m) p.1
def fR(M N:Nat)(l:List (Nat×Ins)):RK :=
 List.rec (λ_ T h q U=>.mk (.nrm .normal T h U) q) (λp r ih=>b7g cf pf Gl n M N p (mQ p.2) r ih) l
end
def a81(M:Nat)(x:FQ):FO:=match x with
 |.mk o q=>cond (TM M q) o .no
def a3L(n:Nat)(T:TT)(h:List ay)(i sz:Nat)(ag:Bool)(K:AV->Option (List AV)):Option (List AV):=match Aj (λ_=>cond (Nat.blt i n) (oC (way i) T) .any) h sz ag (.t i) with
 |.val a _ _=>K a
 |_=>none
def resT(n:Nat)(T:TT)(h:List ay):List RV->Option (List AV)
 |[]=>some []
 |.t i::r=>match resT n T h r with
  |some l=>some (cond (Nat.blt i n) (oC (way i) T) .any::l)
  |none=>none
 |.c i sz ag::r=>a3L n T h i sz ag λa=>match resT n T h r with
  |some l=>some (a::l)
  |none=>none
def a4b(rs:List RV)(n:Nat)(T:TT)(h:List ay)(K:List AV->FR):FR:=match resT n T h rs with
 |some l=>K l
 |none=>.no
def b1F(rs:List RV)(n:Nat)(o:FO):FR:=match o with
 |.nrm e T h U=>cond (rP e) (a4b rs n T h λl=>.val (uV l) h U) .no
 |.pan v=>.pan v
 |.no=>.no
def endP(rs:List RV)(n:Nat)(o:FO):Option AV:=match o with
 |.nrm e T h _=>cond (rP e) (match resT n T h rs with
  |some l=>yg h (uV l)
  |none=>none) none
 |_=>none
def Et(as:List AV):Nat->TT->TT:=List.rec (λ_ T=>T) (λa _ ih i T=>ih (i+1) (kN a (way i) T)) as
abbrev EX:=Nat->Nat->C->TT->List ay->List Nat->FO
def a2K(tab:Nat->Option FnE)(ex:EX)(f:Nat)(as:List AV)(h:List ay):FR:=match tab f with
 |some e=>cond (Nat.ble (sP as) e.n&&Nat.ble e.n 65535) (b1F e.rs e.n (ex (sP h) e.n e.c (Et as 0 .e) h [])) .no
 |none=>.no
def Gf(tab:Nat->Option FnE)(ex:EX)(f:Nat)(as:List AV):Option AV:=match tab f with
 |some e=>cond (Nat.ble (sP as) e.n&&Nat.ble e.n 65535) (endP e.rs e.n (ex 0 e.n e.c (Et as 0 .e) [] [])) none
 |none=>none
def pfF(tab:Nat->Option FnE)(hd:wN)(ex:EX)(f:Nat)(as:List AV):Option AV:=match hd.p f with
 |some g=>g as
 |none=>Gf tab ex f as
def a3W(g:List AV->Option AV)(as:List AV)(h:List ay):FR:=match dY h as with
 |some bs=>match g bs with
  |some res=>cond (scalar res) (.val res h []) (.val res (freeze h (as.flatMap dJ)) (as.flatMap dJ))
  |none=>.no
 |none=>.no
def cfF(tab:Nat->Option FnE)(hd:wN)(ex:EX)(f:Nat)(as:List AV)(h:List ay):FR:=match hd.h f with
 |some g=>g as h
 |none=>match hd.p f with
  |some g=>a3W g as h
  |none=>a2K tab ex f as h
def AP(o:FO)(K:TT->List ay->List Nat->FO):FO:=match o with
 |.nrm e T h U=>match e with
  |.normal=>K T h U
  |e=>.nrm e T h U
 |.pan v=>.pan v
 |.no=>.no
def VG(id:Nat)(o:FO):FO:=match o with
 |.nrm e T h U=>match e with
  |.exit i=>cond (Nat.beq i id) (.nrm .normal T h U) (.nrm (.exit i) T h U)
  |e=>.nrm e T h U
 |.pan v=>.pan v
 |.no=>.no
def Q6(v:AV)(a b:FO):FO:=match v with
 |.v v=>match v with
  |.bool q=>Bool.rec b a q
  |_=>.no
 |_=>.no
section
variable(Gl:Nat->Option (List AV))(tab:Nat->Option FnE)(hd:wN)
def b8Q(d:Bool)(l:List Ins)(ih:EX)(N n:Nat)(T:TT)(h:List ay)(U:List Nat):FO:=Kh (cfF tab hd ih) (pfF tab hd ih) Gl n d N (l.map mQ) T h U
def MO(l:List (Nat×Ins))(ih:EX)(N n:Nat)(T:TT)(h:List ay)(U:List Nat):FO:=a81 (sP h) (fR (cfF tab hd ih) (pfF tab hd ih) Gl n (sP h) N l true T h ⟨[],[]⟩ U)
def b1L(a b:C)(ih:EX)(N n:Nat)(T:TT)(h:List ay)(U:List Nat):FO:=AP (ih N n a T h U) (ih N n b)
def a4k(x:Opd)(a b:C)(ih:EX)(N n:Nat)(T:TT)(h:List ay)(U:List Nat):FO:=Q6 (vT n Gl T x) (ih N n a T h U) (ih N n b T h U)
def b1M(id:Nat)(b:C)(ih:EX)(N n:Nat)(T:TT)(h:List ay)(U:List Nat):FO:=VG id (ih N n b T h U)
def a4j(b:C)(ih:EX)(N n:Nat)(T:TT)(h:List ay)(U:List Nat):FO:=AP (ih N n b T h U) (ih N n (.loop b))
def fC1:C->EX->Nat->Nat->TT->List ay->List Nat->FO
 |.skip=>λ_ _ _ T h U=>.nrm .normal T h U
 |.ops d l=>b8Q Gl tab hd d l
 |.qd l=>MO Gl tab hd l
 |.seq a b=>b1L a b
 |.cond x a b=>a4k Gl x a b
 |.block id b=>b1M id b
 |.loop b=>a4j b
 |.exit id=>λ_ _ _ T h U=>.nrm (.exit id) T h U
 |.ret=>λ_ _ _ T h U=>.nrm .ret T h U
def fC(k:Nat):EX:=Nat.rec (λ_ _ _ _ _ _=>.no) (λ_ ih N n c T h U=>fC1 Gl tab hd c ih N n T h U) k
end
section
variable{Gl:Nat->Option (List AV)}{tab:Nat->Option FnE}{hd:wN}
theorem a4H (t:List AV) (h:List ay) (i:I):(slow Gl t h i).ir=match exS Gl ⟨t,h⟩ i with
  |some (a,h')=>some (IR.val a h' (tI Gl ⟨t,h⟩ i))
  |none=>none:=by
 unfold slow
 cases exS Gl ⟨t,h⟩ i with
 |none=>rfl
 |some q=>rfl
def CfE(cf:CF)(cs:Nat->List AV->List ay->Option IR):Prop:=∀f as h r,(cf f as h).ir=some r->cs f as h=some r
def PfE(pf:PF)(ps:Nat->List AV->Option AV):Prop:=∀f as r,pf f as=some r->ps f as=some r
theorem JA{cf:CF}{cs:Nat->List AV->List ay->Option IR}(hc:CfE cf cs){pf:PF}{ps:Nat->List AV->Option AV}(hp:PfE pf ps)(d:Bool)(n:Nat)(T:TT)(h:List ay)(i:I){r:IR}(hr:(qH (qD i) cf pf d (vT n Gl T) h (slow Gl (slots n T) h i)).ir=some r):exI Gl cs ps d ⟨slots n T,h⟩ i=some r:=by
 have hf:=Hr n Gl T
 by_cases hn:i.iU=false
 .have e1:qH (qD i) cf pf d (vT n Gl T) h (slow Gl (slots n T) h i)=fS i (vT n Gl T) h (slow Gl (slots n T) h i):=by cases i<;>first|rfl|cases hn
  have e2:exI Gl cs ps d ⟨slots n T,h⟩ i=match exS Gl ⟨slots n T,h⟩ i with|some (a,h')=>some (IR.val a h' (tI Gl ⟨slots n T,h⟩ i))|none=>none:=by cases i<;>first|rfl|cases hn
  rw[e1,b4H hf,a4H]at hr
  rw[e2];exact hr
 ·obtain ⟨fo,args,rfl⟩:∃ fo args,i=.call fo args:=by
   cases i with
   |call fo args=>exact⟨_,_,rfl⟩
   |_=>exact absurd rfl hn
  have hr:(Fb fo args cf pf d (vT n Gl T) h).ir=some r:=hr
  unfold Fb at hr
  simp only[exI]
  have hm:args.map (vT n Gl T)=args.map (St.val Gl ⟨slots n T,h⟩):=gN λx _=>hf h x
  rw[hf h fo,hm]at hr
  generalize St.val Gl ⟨slots n T,h⟩ fo=a at hr ⊢
  cases a with
  |v v =>
   simp only at hr ⊢
   cases hfn:fnV v with
   |none=>rw[hfn]at hr;cases hr
   |some g =>
    rw[hfn]at hr
    cases d with
    |false=>exact hc _ _ _ _ hr
    |true =>
     simp only[CS,if_true]at hr ⊢
     cases hk:dY h (args.map (St.val Gl ⟨slots n T,h⟩)) with
     |none=>rw[hk]at hr;cases hr
     |some bs =>
      rw[hk]at hr
      simp only at hr ⊢
      cases hq:pf g bs with
      |none=>rw[hq]at hr;cases hr
      |some res =>
       rw[hq]at hr
       rw[hp _ _ _ hq]
       simp only at hr ⊢
       cases hz:(scalar res||Vh h ((args.map (St.val Gl ⟨slots n T,h⟩)).flatMap dJ)) with
       |true=>rw[hz]at hr;exact hr
       |false=>rw[hz]at hr;cases hr
  |_=>cases hr
theorem zB{cf:CF}{cs:Nat->List AV->List ay->Option IR}(hc:CfE cf cs){pf:PF}{ps:Nat->List AV->Option AV}(hp:PfE pf ps)(d:Bool)(n:Nat)(T:TT)(h:List ay)(o:Ins){r:IR}(hr:(CO (mQ o) cf pf d n Gl T h).ir=some r):wC Gl cs ps d ⟨slots n T,h⟩ o=some r:=by
 obtain⟨dst,gd,i⟩:=o
 have gds:∀(s:Nat) (w:Bool),(gdF (cond (Nat.blt s n) (oC (way s) T) .any) w h (qH (qD i) cf pf d (vT n Gl T) h (slow Gl (slots n T) h i))).ir=some r->wC Gl cs ps d ⟨slots n T,h⟩ ⟨dst,some (s,w),i⟩=some r:=λs w hr=>by
  have e:cond (Nat.blt s n) (oC (way s) T) .any=(slots n T).getD s .any:=by
   rw[KP]
   by_cases hi:s<n
   .rw[if_pos hi,show Nat.blt s n=true from dU hi];rfl
   .rw[if_neg hi,show Nat.blt s n=false from gY.2 λq=>hi (nA q)];rfl
  rw[e]at hr
  unfold wC gdB
  simp only
  generalize (slots n T).getD s .any=a at hr ⊢
  cases a with
  |v v =>
   cases v with
   |bool b =>
    cases w<;>cases b
    .exact JA hc hp d n T h i hr
    .exact hr
    .exact hr
    .exact JA hc hp d n T h i hr
   |tuple xs=>exact hr
   |_=>cases hr
  |_=>cases hr
 cases gd with
 |none=>cases dst<;>exact JA hc hp d n T h i hr
 |some q=>obtain⟨s,w⟩:=q;cases dst<;>exact gds s w hr
theorem EP{n:Nat}(hn:n<=65535)(o:Ins)(T:TT)(h:List ay)(a:AV):St.put ⟨slots n T,h⟩ o.dst a=⟨slots n (Ob (mQ o) n T a),h⟩:=by
 obtain⟨dst,gd,i⟩:=o
 have key:∀d,(⟨(slots n T).set d a,h⟩:St)=⟨slots n (cond (Nat.blt d n) (kN a (way d) T) T),h⟩:=λd=>by
  by_cases hd:d<n
  .rw[show Nat.blt d n=true from dU hd]
   show _=(⟨slots n (kN a (way d) T),h⟩:St)
   rw[rZ hn hd]
  .rw[show Nat.blt d n=false from gY.2 λq=>hd (nA q)]
   show _=(⟨slots n T,h⟩:St)
   rw[List.set_eq_of_length_le (by simp[slots];omega)]
 cases gd with
 |none=>cases dst with
  |none=>rfl
  |some d=>exact key d
 |some q=>obtain⟨s,w⟩:=q;cases dst with
  |none=>rfl
  |some d=>exact key d
theorem a6D(o:Ins):(mQ o).ins=o:=by
 obtain⟨dst,gd,i⟩:=o
 cases gd with
 |none=>cases dst<;>rfl
 |some q=>obtain⟨s,w⟩:=q;cases dst<;>rfl
theorem Ro{cf:CF}{cs:Nat->List AV->List ay->Option IR}(hc:CfE cf cs){pf:PF}{ps:Nat->List AV->Option AV}(hp:PfE pf ps){n:Nat}(hn:n<=65535)(d:Bool)(N:Nat):∀(l:List Ins) (T:TT) (h:List ay) (U:List Nat) (r:Out),(Kh cf pf Gl n d N (l.map mQ) T h U).out n=some r->pV Gl cs ps d N l ⟨slots n T,h⟩ U=some r
 |[],T,h,U,r,hr=>hr
 |i::l,T,h,U,r,hr=>by
  have hr:(Ot cf pf Gl n d N (mQ i) (Kh cf pf Gl n d N (l.map mQ)) T h U).out n=some r:=hr
  simp only[pV]
  unfold Ot at hr
  cases hb:CO (mQ i) cf pf d n Gl T h with
  |no=>rw[hb]at hr;cases hr
  |val a h' ids =>
   rw[hb]at hr
   simp only at hr
   rw[FD]at hr
   rw[zB hc hp d n T h i (r:=.val a h' ids) (by rw[hb];rfl)]
   simp only
   rw[EP hn]
   exact Ro hc hp hn d N l _ _ _ r hr
  |pan v =>
   rw[hb]at hr
   simp only[a6D]at hr
   rw[zB hc hp d n T h i (r:=.pan v) (by rw[hb];rfl)]
   simp only
   cases hq:(d||i.gd.isSome) with
   |true=>rw[hq]at hr;cases hr
   |false=>rw[hq]at hr;simp only[cK,if_false];exact hr
def FQ.out(n:Nat):FQ->Option (Out×RW)
 |.mk o q=>match o.out n with
  |some x=>some (x,q)
  |none=>none
theorem MK{cf:CF}{cs:Nat->List AV->List ay->Option IR}(hc:CfE cf cs){pf:PF}{ps:Nat->List AV->Option AV}(hp:PfE pf ps){n:Nat}(hn:n<=65535)(M N:Nat):∀(l:List (Nat×Ins)) (c:Bool) (T:TT) (h:List ay) (q:RW) (U:List Nat) (r:Out×RW),(fR cf pf Gl n M N l c T h q U).out n=some r->exR Gl cs ps M N c l ⟨slots n T,h⟩ q U=some r
 |[],c,T,h,q,U,r,hr=>hr
 |(0,i)::l,c,T,h,q,U,r,hr=>by
  have hr:(TR cf pf Gl n N (0,i) (mQ i) (fR cf pf Gl n M N l) c T h q U).out n=some r:=hr
  simp only[exR]
  unfold TR at hr
  cases hb:CO (mQ i) cf pf true n Gl T h with
  |val a h' ids =>
   rw[hb]at hr
   simp only at hr
   rw[FD]at hr
   rw[zB hc hp true n T h i (r:=.val a h' ids) (by rw[hb];rfl)]
   simp only
   rw[EP hn]
   exact MK hc hp hn M N l _ _ _ _ _ r hr
  |_=>rw[hb]at hr;cases hr
 |(1,i)::l,c,T,h,q,U,r,hr=>by
  have hr:(TQ cf pf Gl n N (1,i) (mQ i) (fR cf pf Gl n M N l) c T h q U).out n=some r:=hr
  simp only[exR]
  unfold TQ at hr
  cases hb:CO (mQ i) cf pf true n Gl T h with
  |val a h' ids =>
   rw[hb]at hr
   simp only at hr
   rw[FD]at hr
   rw[zB hc hp true n T h i (r:=.val a h' ids) (by rw[hb];rfl)]
   simp only
   rw[EP hn]
   exact MK hc hp hn M N l _ _ _ _ _ r hr
  |_=>rw[hb]at hr;cases hr
 |(m+2,i)::l,c,T,h,q,U,r,hr=>by
  have hr:(TP cf pf Gl n M N (m+2,i) (mQ i) l (fR cf pf Gl n M N l) c T h q U).out n=some r:=hr
  simp only[exR]
  unfold TP at hr
  cases hb:CO (mQ i) cf pf false n Gl T h with
  |val a h' ids =>
   rw[hb]at hr
   simp only at hr
   rw[FD,FE]at hr
   rw[zB hc hp false n T h i (r:=.val a h' ids) (by rw[hb];rfl)]
   simp only
   rw[EP hn]
   exact MK hc hp hn M N l _ _ _ _ _ r hr
  |pan v =>
   rw[hb]at hr
   simp only at hr
   rw[zB hc hp false n T h i (r:=.pan v) (by rw[hb];rfl)]
   simp only
   cases hq:(c&&waits (m+2,i) l&&!(i.gd.isSome)) with
   |true=>rw[hq]at hr;simp only[if_true];exact hr
   |false=>rw[hq]at hr;cases hr
  |no=>rw[hb]at hr;cases hr
theorem EN{n:Nat}{T:TT}{h:List ay}:∀(rs:List RV) (l:List AV),resT n T h rs=some l->um Gl ⟨slots n T,h⟩ rs=some l
 |[],l,hr=>hr
 |.t i::rs,l,hr=>by
  simp only[resT]at hr
  simp only[um]
  cases hq:resT n T h rs with
  |none=>rw[hq]at hr;cases hr
  |some l' =>
   rw[hq]at hr
   cases hr
   rw[EN rs l' hq]
   exact dO (λx=>some (x::l')) (Hr n Gl T h (.t i)).symm
 |.c i sz ag::rs,l,hr=>by
  simp only[resT,a3L]at hr
  simp only[um]
  have e:Aj (λ_=>cond (Nat.blt i n) (oC (way i) T) .any) h sz ag (.t i)=Aj (vT n Gl T) h sz ag (.t i):=rfl
  rw[e,O5 (Hr n Gl T)]at hr
  unfold slow at hr
  cases hs:exS Gl ⟨slots n T,h⟩ (.load sz ag (.t i)) with
  |none=>rw[hs]at hr;cases hr
  |some q =>
   obtain⟨a,h'⟩:=q
   rw[hs]at hr
   simp only at hr ⊢
   cases hq:resT n T h rs with
   |none=>rw[hq]at hr;cases hr
   |some l'=>rw[hq]at hr;cases hr;rw[EN rs l' hq]
def ExE(ex:EX)(es:Nat->C->St->List Nat->Option Out):Prop:=∀N n c T h U r,n<=65535->(ex N n c T h U).out n=some r->es N c ⟨slots n T,h⟩ U=some r
theorem RJ{n:Nat}(hn:n<=65535):∀(as:List AV) (i:Nat) (T:TT),i+as.length<=n->slots n (Et as i T)=(slots n T).take i++as++(slots n T).drop (i+as.length)
 |[],i,T,_=>by
  show slots n T=_
  simp[qy]
 |a::as,i,T,hl=>by
  show slots n (Et as (i+1) (kN a (way i) T))=_
  simp only[bf]at hl
  have hlen:(slots n T).length=n:=by simp[slots]
  rw[RJ hn as (i+1) _ (by omega),rZ hn (by omega)]
  have e:(slots n T).set i a=((slots n T).take i++[a])++(slots n T).drop (i+1):=by
   rw[List.set_eq_take_append_cons_drop,if_pos (by omega)]
   simp
  have h1:((slots n T).take i++[a]).length=i+1:=by simp;omega
  rw[e,List.take_left' h1,<- tZ,List.drop_left' h1,tZ,show i+1+as.length=i+(as.length+1) by omega]
  simp
theorem QB(n:Nat):slots n .e=List.replicate n .any:=by
 apply fA
 intro j
 unfold slots
 rw[aK,jo]
 split
 .rename_i h;rw[jO h];simp[zU]
 .rename_i h;rw[aR (by simpa using h)];rfl
theorem arg_eq{n:Nat}{as:List AV}(hl:as.length<=n)(hn:n<=65535):slots n (Et as 0 .e)=as++List.replicate (n-as.length) .any:=by
 rw[RJ hn as 0 .e (by omega),QB]
 simp
theorem a6y{ex:EX}{es:Nat->C->St->List Nat->Option Out}(he:ExE ex es):CfE (a2K tab ex) (cfB Gl tab es):=by
 intro f as h r hr
 unfold a2K at hr
 simp only[oF]at hr
 unfold cfB
 cases ht:tab f with
 |none=>rw[ht]at hr;cases hr
 |some e =>
  rw[ht]at hr
  simp only at hr ⊢
  cases hc:(Nat.ble as.length e.n&&Nat.ble e.n 65535) with
  |false=>rw[hc]at hr;cases hr
  |true =>
   rw[hc]at hr
   rw[au]at hc
   have h1:=aZ hc.1
   have h2:=aZ hc.2
   simp only[cond,b1F]at hr
   rw[<- arg_eq h1 h2]
   cases hx:ex h.length e.n e.c (Et as 0 .e) h []with
   |no=>rw[hx]at hr;cases hr
   |pan v =>
    rw[hx]at hr
    rw[he h.length e.n e.c _ h [] (.pan v) h2 (by rw[hx];rfl)]
    exact hr
   |nrm x T' h' U =>
    rw[hx]at hr
    rw[he h.length e.n e.c _ h [] (.nrm x ⟨slots e.n T',h'⟩ U) h2 (by rw[hx];rfl)]
    simp only at hr ⊢
    cases hq:rP x with
    |false=>rw[hq]at hr;cases hr
    |true =>
     rw[hq]at hr
     simp only[a4b]at hr
     simp only[if_true]
     cases hf:resT e.n T' h' e.rs with
     |none=>rw[hf]at hr;cases hr
     |some l=>rw[hf]at hr;rw[EN _ _ hf];exact hr
theorem QO{ex:EX}{es:Nat->C->St->List Nat->Option Out}(he:ExE ex es):PfE (Gf tab ex) (pfB Gl tab es):=by
 intro f as r hr
 unfold Gf at hr
 simp only[oF]at hr
 unfold pfB
 cases ht:tab f with
 |none=>rw[ht]at hr;cases hr
 |some e =>
  rw[ht]at hr
  simp only at hr ⊢
  cases hc:(Nat.ble as.length e.n&&Nat.ble e.n 65535) with
  |false=>rw[hc]at hr;cases hr
  |true =>
   rw[hc]at hr
   rw[au]at hc
   have h1:=aZ hc.1
   have h2:=aZ hc.2
   simp only[cond,endP]at hr
   rw[<- arg_eq h1 h2]
   cases hx:ex 0 e.n e.c (Et as 0 .e) [] []with
   |no=>rw[hx]at hr;cases hr
   |pan v=>rw[hx]at hr;cases hr
   |nrm x T' h' U =>
    rw[hx]at hr
    rw[he 0 e.n e.c _ [] [] (.nrm x ⟨slots e.n T',h'⟩ U) h2 (by rw[hx];rfl)]
    simp only at hr ⊢
    cases hq:rP x with
    |false=>rw[hq]at hr;cases hr
    |true =>
     rw[hq]at hr
     simp only at hr
     simp only[if_true]
     cases hf:resT e.n T' h' e.rs with
     |none=>rw[hf]at hr;cases hr
     |some l=>rw[hf]at hr;rw[EN _ _ hf];exact hr
theorem a9g{ex:EX}{es:Nat->C->St->List Nat->Option Out}(he:ExE ex es):PfE (pfF tab hd ex) (pfA Gl tab hd.hand es):=by
 intro f as r hr
 unfold pfF at hr
 unfold pfA
 show(match hd.p f with|some g=>g as|none=>_)=some r
 cases hh:hd.p f with
 |none=>rw[hh]at hr;exact QO he f as r hr
 |some g=>rw[hh]at hr;exact hr
theorem YN{ex:EX}{es:Nat->C->St->List Nat->Option Out}(he:ExE ex es):CfE (cfF tab hd ex) (cfA Gl tab hd.hand es):=by
 intro f as h r hr
 unfold cfF at hr
 unfold cfA
 simp only[wN.hand]
 cases hh:hd.h f with
 |some g=>rw[hh]at hr;exact hr
 |none =>
  rw[hh]at hr
  simp only at hr ⊢
  cases hq:hd.p f with
  |none=>rw[hq]at hr;exact a6y he f as h r hr
  |some g =>
   rw[hq]at hr
   simp only[a3W]at hr ⊢
   cases hk:dY h as with
   |none=>rw[hk]at hr;cases hr
   |some bs =>
    rw[hk]at hr
    simp only at hr ⊢
    cases hg:g bs with
    |none=>rw[hg]at hr;cases hr
    |some res=>rw[hg]at hr;simp only at hr ⊢;cases hs:scalar res<;>rw[hs]at hr<;>exact hr
theorem a4a(k:Nat):ExE (fC Gl tab hd k) (exC Gl tab hd.hand k):=by
 induction k with
 |zero=>intro N n c T h U r _ hr;cases hr
 |succ k ih =>
  intro N n c T h U r hn hr
  have hc:=YN (Gl:=Gl) (tab:=tab) (hd:=hd) ih
  have hp:=a9g (Gl:=Gl) (tab:=tab) (hd:=hd) ih
  have hr:(fC1 Gl tab hd c (fC Gl tab hd k) N n T h U).out n=some r:=hr
  cases c with
  |skip=>exact hr
  |ret=>exact hr
  |exit id=>exact hr
  |ops d l=>exact Ro hc hp hn d N l T h U r hr
  |qd l =>
   simp only[fC1,MO,oF]at hr
   simp only[exC]
   cases hx:fR (cfF tab hd (fC Gl tab hd k)) (pfF tab hd (fC Gl tab hd k)) Gl n h.length N l true T h ⟨[],[]⟩ U with
   |mk o q =>
    rw[hx]at hr
    simp only[a81]at hr
    cases hw:TM h.length q with
    |false=>rw[hw]at hr;cases hr
    |true =>
     rw[hw]at hr
     have hr:o.out n=some r:=hr
     rw[MK hc hp hn h.length N l true T h ⟨[],[]⟩ U (r,q) (by rw[hx];simp only[FQ.out];rw[hr])]
     simp only[hw,if_true]
  |seq a b =>
   simp only[fC1,b1L]at hr
   simp only[exC]
   cases hx:fC Gl tab hd k N n a T h U with
   |no=>rw[hx]at hr;cases hr
   |pan v =>
    rw[hx]at hr
    rw[ih N n a T h U (.pan v) hn (by rw[hx];rfl)]
    exact hr
   |nrm e T' h' U' =>
    rw[hx]at hr
    rw[ih N n a T h U (.nrm e ⟨slots n T',h'⟩ U') hn (by rw[hx];rfl)]
    cases e with
    |normal=>exact ih N n b T' h' U' r hn hr
    |_=>exact hr
  |cond x a b =>
   simp only[fC1,a4k]at hr
   simp only[exC]
   rw[Hr n Gl T h x]at hr
   generalize St.val Gl ⟨slots n T,h⟩ x=v at hr ⊢
   cases v with
   |v v =>
    cases v with
    |bool q=>cases q<;>exact ih _ _ _ _ _ _ _ hn hr
    |_=>cases hr
   |_=>cases hr
  |block id b =>
   simp only[fC1,b1M]at hr
   simp only[exC]
   cases hx:fC Gl tab hd k N n b T h U with
   |no=>rw[hx]at hr;cases hr
   |pan v =>
    rw[hx]at hr
    rw[ih N n b T h U (.pan v) hn (by rw[hx];rfl)]
    exact hr
   |nrm e T' h' U' =>
    rw[hx]at hr
    rw[ih N n b T h U (.nrm e ⟨slots n T',h'⟩ U') hn (by rw[hx];rfl)]
    cases e with
    |exit i =>
     simp only[VG]at hr
     simp only
     cases hq:Nat.beq i id with
     |true=>rw[hq]at hr;simp only[if_true];exact hr
     |false=>rw[hq]at hr;simp only[cK,if_false];exact hr
    |_=>exact hr
  |loop b =>
   simp only[fC1,a4j]at hr
   simp only[exC]
   cases hx:fC Gl tab hd k N n b T h U with
   |no=>rw[hx]at hr;cases hr
   |pan v =>
    rw[hx]at hr
    rw[ih N n b T h U (.pan v) hn (by rw[hx];rfl)]
    exact hr
   |nrm e T' h' U' =>
    rw[hx]at hr
    rw[ih N n b T h U (.nrm e ⟨slots n T',h'⟩ U') hn (by rw[hx];rfl)]
    cases e with
    |normal=>exact ih N n (.loop b) T' h' U' r hn hr
    |_=>exact hr
theorem Yv{P:Program}(hm:P.follows .mixedOrders=true){hl:List Nat}(hh:wM P Gl hd.hand)(k:Nat){f:Nat}{as:List AV}{res:AV}(h:Gf (fnE P hl) (fC Gl (fnE P hl) hd k) f as=some res):Pure P Gl f as res :=
 run_pure hm hh k (QO (a4a k) f as res h)
end
end
noncomputable section
inductive OV where
 |s (p:PB)
 |k (a:AV)
def vO(T:TT)(o:OV):AV:=OV.rec (λp=>oC p T) (λa=>a) o
def cO(n:Nat)(Gl:Nat->Option (List AV)):Opd->OV
 |.t i=>cond (Nat.blt i n) (.s (way i)) (.k .any)
 |.k x=>.k (.v x)
 |.g i=>match Gl i with
  |some cs=>.k (.fZ cs)
  |none=>.k .any
theorem Ma(n:Nat)(Gl:Nat->Option (List AV))(T:TT)(x:Opd):vO T (cO n Gl x)=vT n Gl T x:=by
 cases x with
 |t i=>simp only[cO,vT];cases Nat.blt i n<;>rfl
 |k x=>rfl
 |g i=>simp only[cO,vT];cases Gl i<;>rfl
def b7a(n:Int):Int:=Int.rec (λm=>Bool.rec (IntKind.wrap .i64 (.ofNat m)) (.ofNat m) (Nat.blt m 9223372036854775808)) (λm=>Bool.rec (IntKind.wrap .i64 (.negSucc m)) (.negSucc m) (Nat.blt m 9223372036854775808)) n
def wU8(n:Int):Int:=Int.rec (λm=>Bool.rec (IntKind.wrap .u8 (.ofNat m)) (.ofNat m) (Nat.blt m 256)) (λm=>IntKind.wrap .u8 (.negSucc m)) n
def a3d(k:IntKind):Int->Int:=IntKind.rec (IntKind.wrap .i8) (IntKind.wrap .i16) (IntKind.wrap .i32) b7a wU8 (IntKind.wrap .u16) (IntKind.wrap .u32) (IntKind.wrap .u64) k
theorem VD(b:Bool)(x y:Int):@Bool.rec (λ_=>Int) x y b=if b=true then y else x:=by cases b<;>rfl
theorem a0u(k:IntKind)(n:Int):a3d k n=xY k n:=by
 cases k<;>cases n<;>first
  |rfl
  |exact VD _ _ _
def ltF(a b:Int):Bool:=Int.rec (λa=>Int.rec (λb=>Nat.blt a b) (λ_=>false) b) (λa=>Int.rec (λ_=>true) (λb=>Nat.blt b a) b) a
def eqF(a b:Int):Bool:=Int.rec (λa=>Int.rec (λb=>Nat.beq a b) (λ_=>false) b) (λa=>Int.rec (λ_=>false) (λb=>Nat.beq a b) b) a
theorem Iz(a b:Int):ltF a b=ltI a b:=by cases a<;>cases b<;>rfl
theorem YA(a b:Int):eqF a b=eqI a b:=by cases a<;>cases b<;>rfl
def nB(b:Bool):Bool:=Bool.rec true false b
theorem Mh(b:Bool):nB b=not b:=by cases b<;>rfl
def a15(a b:Int):Bool:=nB (eqF a b)
def iGt(a b:Int):Bool:=ltF b a
def V4(a b:Int):Bool:=nB (ltF b a)
def iGe(a b:Int):Bool:=nB (ltF a b)
def Vw{α:Type}(l m:List α):List α:=List.rec m (λa _ ih=>a::ih) l
theorem RF{α:Type}:∀(l m:List α),Vw l m=l++m
 |[],m=>rfl
 |a::l,m=>by show a::Vw l m=_;rw[RF l m];rfl
theorem b8P(s t:ByteArray):(⟨⟨Vw s.data.toList t.data.toList⟩⟩:ByteArray)=s++t:=by
 rw[RF]
 apply ByteArray.ext
 rw[ByteArray.data_append]
 apply Array.ext'
 rw[Array.toList_append]
section
variable(h:List ay)
def aI(g:Int->Int->Int)(k:IntKind)(x:Int)(k':IntKind)(y:Int):FR:=Bool.rec .no (.val (.v (.int k (a3d k (g x y)))) h []) (kB k k')
def aC(g:Int->Int->Bool)(k:IntKind)(x:Int)(k':IntKind)(y:Int):FR:=Bool.rec .no (.val (.v (.bool (g x y))) h []) (kB k k')
def aA(s t:ByteArray):FR:=Bool.rec .no (.val (.v (.string ⟨⟨Vw s.data.toList t.data.toList⟩⟩)) h []) (Nat.ble (Nat.add (Ct s.data.toList) (Ct t.data.toList)) 9223372036854775807)
def aS(g:Bool->Bool)(s t:ByteArray):FR:=.val (.v (.bool (g (zf s t)))) h []
def iI(g:Int->Int->Int)(v:AV)(k:IntKind)(x:Int):FR:=avR (viR (aI h g k x)) v
def iC(g:Int->Int->Bool)(v:AV)(k:IntKind)(x:Int):FR:=avR (viR (aC h g k x)) v
def jA(v:AV)(s:ByteArray):FR:=avR (vsR (aA h s)) v
def jS(g:Bool->Bool)(v:AV)(s:ByteArray):FR:=avR (vsR (aS h g s)) v
end
def vmR(K:IntKind->Int->FR)(S:ByteArray->FR)(v:Value):FR:=@Value.rec (λ_=>FR) (λ_=>FR) (λ_=>FR) (λ_=>.no) K (λ_ _=>.no) (λ_ _ _=>.no) S (λ_=>.no) (λ_ _ _=>.no) (λ_=>.no) (λ_=>.no) (λ_ _ _ _ _=>.no) .no (λ_ _ _=>.no) .no (λ_ _=>.no) (λ_ _=>.no) (λ_ _=>.no) .no (λ_ _ _ _=>.no) v
def a1i(a b:OV)(T:TT)(h:List ay):FR:=avR (vmR (iI h Int.add (vO T b)) (jA h (vO T b))) (vO T a)
def a1e(a b:OV)(T:TT)(h:List ay):FR:=avR (viR (iI h Int.sub (vO T b))) (vO T a)
def a1h(a b:OV)(T:TT)(h:List ay):FR:=avR (vmR (iC h eqF (vO T b)) (jS h id (vO T b))) (vO T a)
def a1f(a b:OV)(T:TT)(h:List ay):FR:=avR (vmR (iC h a15 (vO T b)) (jS h nB (vO T b))) (vO T a)
def yP(g:Int->Int->Bool)(a b:OV)(T:TT)(h:List ay):FR:=avR (viR (iC h g (vO T b))) (vO T a)
theorem R9{k k':IntKind}{x:FR}:@Bool.rec (λ_=>FR) .no x (kB k k')=cond (kB k k') x .no:=by cases kB k k'<;>rfl
theorem Yj(h:List ay)(g g':Int->Int->Int)(hg:∀a b,g a b=g' a b)(f:Opd->AV)(x y:Opd):avR (viR (iI h g (f y))) (f x)=bI f h g' x y:=by
 unfold bI asInt iI aI
 congr 1;congr 1;funext k a;congr 1;congr 1;funext k' b
 rw[R9,a0u,hg]
theorem BD(h:List ay)(g g':Int->Int->Bool)(hg:∀a b,g a b=g' a b)(f:Opd->AV)(x y:Opd):avR (viR (iC h g (f y))) (f x)=cI' f h g' x y:=by
 unfold cI' asInt iC aC
 congr 1;congr 1;funext k a;congr 1;congr 1;funext k' b
 rw[R9,hg]
theorem Y9(h:List ay)(g g':Bool->Bool)(hg:∀a,g a=g' a)(f:Opd->AV)(x y:Opd):avR (vsR (jS h g (f y))) (f x)=cS f h g' x y:=by
 unfold cS rR jS aS
 congr 1;congr 1;funext s;congr 1;congr 1;funext s'
 rw[hg]
theorem b06(h:List ay)(f:Opd->AV)(x y:Opd):avR (vsR (jA h (f y))) (f x)=TK f h x y:=by
 unfold TK rR jA aA
 congr 1;congr 1;funext s;congr 1;congr 1;funext s'
 rw[b8P,Bv,Bv]
 show @Bool.rec (λ_=>FR) .no (FR.val (.v (.string (s++s'))) h []) (Nat.ble (s.size+s'.size) 9223372036854775807)=_
 cases Nat.ble (s.size+s'.size) 9223372036854775807<;>rfl
theorem Ju(K:IntKind->Int->FR)(S:ByteArray->FR)(a:AV):avR (vmR K S) a=cond (isStr a) (avR (vsR S) a) (avR (viR K) a):=by
 cases a<;>first
  |rfl
  |(rename_i v;cases v<;>rfl)
def U4(c a b:OV)(T:TT)(h:List ay):FR:=asBool (vO T c) λq=>.val (Bool.rec (vO T b) (vO T a) q) h []
def a1g(a i:OV)(T:TT)(h:List ay):FR:=rR (vO T a) λs=>asInt (vO T i) λ_ n=>match n with
 |.ofNat m=>J8 (.no) (λc=>.val (.v (.int .u8 (.ofNat c.toNat))) h []) s.data.toList m
 |.negSucc _=>.no
def U3(a:OV)(T:TT)(h:List ay):FR:=rR (vO T a) λs=>.val (.v (.int .i64 (.ofNat (Ct s.data.toList)))) h []
inductive B3 where
 |f (g:TT->List ay->FR)
 |o (g:(Opd->AV)->List ay->FR)
 |w (g:(Opd->AV)->List ay->FR->FR) (i:I)
 |l (i:I)
 |c (g:Nat) (args:List OV)
 |d (fo:Opd) (args:List Opd)
def b2w(op:BinOp)(a b:OV)(i:I):B3:=match op with
 |.add=>.f (a1i a b)
 |.sub=>.f (a1e a b)
 |.eql=>.f (a1h a b)
 |.neq=>.f (a1f a b)
 |.lss=>.f (yP ltF a b)
 |.gtr=>.f (yP iGt a b)
 |.leq=>.f (yP V4 a b)
 |.geq=>.f (yP iGe a b)
 |_=>.l i
def Vs(h:List ay)(s:ByteArray)(a b:Int):FR:=Int.rec (λl=>Int.rec (λm=>Bool.rec .no (.val (.v (.string ⟨⟨xZ (yj s.data.toList l) (m-l)⟩⟩)) h []) (Nat.ble l m&&Nat.ble m (Ct s.data.toList))) (λ_=>.no) b) (λ_=>.no) a
def a1F(x lo hi:Opd)(f:Opd->AV)(h:List ay):FR:=rR (f x) λs=>asInt (f lo) λ_ a=>asInt (f hi) λ_ b=>Vs h s a b
def b7n(x:Opd)(f:Opd->AV)(h:List ay):FR:=O4 f h x
def b3U(k:IntKind)(x:Opd)(f:Opd->AV)(h:List ay):FR:=Me f h k x
def b7p(i:Nat)(x:Opd)(f:Opd->AV)(h:List ay):FR:=TF f h i x
def b0A(o:Nat)(x:Opd)(f:Opd->AV)(h:List ay):FR:=Dn f h o x
def b7m(x:Opd)(f:Opd->AV)(h:List ay):FR:=TD f h x
def b0z(z:Nat)(x i:Opd)(f:Opd->AV)(h:List ay):FR:=HZ f h z x i
def b3T(z:Nat)(g:Bool)(x:Opd)(f:Opd->AV)(h:List ay):FR:=Aj f h z g x
def b0y(z:Nat)(x y:Opd)(f:Opd->AV)(h:List ay)(sl:FR):FR:=Dm f h sl z x y
def b7o(x:Opd)(f:Opd->AV)(h:List ay):FR:=Md f h x
def b0B(z:List Value)(ps:List (Nat×Nat×Opd))(f:Opd->AV)(h:List ay):FR:=I6 f h z ps
def b7q(y z:Nat)(x:Opd)(f:Opd->AV)(h:List ay):FR:=TH f h y z x
def b0C(y:Nat)(z:Value)(f:Opd->AV)(h:List ay):FR:=I7 h y z
def b7r(y z b:Nat)(s x:Opd)(f:Opd->AV)(h:List ay):FR:=TJ f h y z b s x
def a5G(y z:Nat)(xs:List Opd)(f:Opd->AV)(h:List ay):FR:=EL f h y z xs
def b7l(x:Opd)(f:Opd->AV)(h:List ay):FR:=TB f h x
def a8H(n:Nat)(Gl:Nat->Option (List AV))(fo:Opd)(args:List Opd):B3:=match fo with
 |.k v=>match fnV v with
  |some g=>.c g (args.map (cO n Gl))
  |none=>.d fo args
 |fo=>.d fo args
def rW(n:Nat)(Gl:Nat->Option (List AV)):I->B3
 |.call fo args=>a8H n Gl fo args
 |.mov x=>.o (b7n x)
 |.pick c a b=>.f (U4 (cO n Gl c) (cO n Gl a) (cO n Gl b))
 |.bin op x y=>b2w op (cO n Gl x) (cO n Gl y) (.bin op x y)
 |.idx x i=>.f (a1g (cO n Gl x) (cO n Gl i))
 |.wZ x=>.f (U3 (cO n Gl x))
 |.conv k x=>.o (b3U k x)
 |.ext i x=>.o (b7p i x)
 |.tQ o x=>.o (b0A o x)
 |.nck x=>.o (b7m x)
 |.oK z x i=>.o (b0z z x i)
 |.load z g x=>.o (b3T z g x)
 |.store z x y=>.w (b0y z x y) (.store z x y)
 |.len x=>.o (b7o x)
 |.build z ps=>.o (b0B z ps)
 |.box y z x=>.o (b7q y z x)
 |.alloc y z=>.o (b0C y z)
 |.app y z b s x=>.o (b7r y z b s x)
 |.mq y z xs=>.o (a5G y z xs)
 |.un .not x=>.o (b7l x)
 |.oI x (some lo) (some hi)=>.o (a1F x lo hi)
 |i=>.l i
section
variable(cf:CF)(pf:PF)(Gl:Nat->Option (List AV))(n:Nat)
def r3F(d:Bool)(T:TT)(h:List ay)(g:TT->List ay->FR):FR:=g T h
def r3O(d:Bool)(T:TT)(h:List ay)(g:(Opd->AV)->List ay->FR):FR:=g (vT n Gl T) h
def r3W(d:Bool)(T:TT)(h:List ay)(g:(Opd->AV)->List ay->FR->FR)(i:I):FR:=g (vT n Gl T) h (slow Gl (slots n T) h i)
def r3L(d:Bool)(T:TT)(h:List ay)(i:I):FR:=slow Gl (slots n T) h i
def r3C(d:Bool)(T:TT)(h:List ay)(g:Nat)(args:List OV):FR:=Bool.rec (cf g (args.map (vO T)) h) (CS pf g h (args.map (vO T))) d
def r3D(d:Bool)(T:TT)(h:List ay)(fo:Opd)(args:List Opd):FR:=Fb fo args cf pf d (vT n Gl T) h
def r3(b:B3)(d:Bool)(T:TT)(h:List ay):FR:=B3.rec (r3F d T h) (r3O Gl n d T h) (r3W Gl n d T h) (r3L Gl n d T h) (r3C cf pf d T h) (r3D cf pf Gl n d T h) b
end
theorem a5F{Gl:Nat->Option (List AV)}{t:List AV}{h:List ay}{f:Opd->AV}(hf:VOk Gl f t)(x lo hi:Opd):a1F x lo hi f h=slow Gl t h (.oI x (some lo) (some hi)):=by
 unfold a1F
 rw[kM rfl]
 simp only[step,gB,tI,aW]
 rw[hf h x,hf h lo,hf h hi]
 generalize St.val Gl ⟨t,h⟩ x=u
 generalize St.val Gl ⟨t,h⟩ lo=v
 generalize St.val Gl ⟨t,h⟩ hi=w
 cases u with
 |v u =>
  cases u with
  |string s =>
   show asInt v (λ_ a=>asInt w λ_ b=>Vs h s a b)=_
   cases v with
   |v v =>
    cases v with
    |int k a =>
     show asInt w (λ_ b=>Vs h s a b)=_
     cases w with
     |v w =>
      cases w with
      |int k' b =>
       show Vs h s a b=_
       simp only[nJ,El,asN,aW]
       cases a with
       |negSucc l=>rfl
       |ofNat l =>
        cases b with
        |negSucc m=>rfl
        |ofNat m =>
         show Bool.rec .no (FR.val (.v (.string ⟨⟨xZ (yj s.data.toList l) (m-l)⟩⟩)) h []) (Nat.ble l m&&Nat.ble m (Ct s.data.toList))=cond (not (ltI (Int.ofNat l) 0)&&not (ltI (Int.ofNat m) (Int.ofNat l))&&not (ltI (Int.ofNat s.size) (Int.ofNat m))) (FR.val (.v (.string (s.extract l m))) h []) .no
         have e1:(⟨⟨xZ (yj s.data.toList l) (m-l)⟩⟩:ByteArray)=s.extract l m:=by
          rw[rX,sV]
          apply ByteArray.ext
          rw[ByteArray.data_extract]
          apply Array.ext'
          rw[Array.toList_extract]
         have e2:Ct s.data.toList=s.size:=by rw[Bv];rfl
         have e3:ltI (Int.ofNat l) 0=false:=by
          show Nat.blt l 0=false
          exact gY.2 λq=>by have:=aZ q;omega
         have e4:∀a b:Nat,not (ltI (Int.ofNat b) (Int.ofNat a))=Nat.ble a b:=λa b=>by
          show not (Nat.ble (b+1) a)=Nat.ble a b
          by_cases q:a<=b
          .rw[dU q,show Nat.ble (b+1) a=false from gY.2 λr=>by have:=aZ r;omega];rfl
          .rw[show Nat.ble a b=false from gY.2 λr=>q (aZ r),dU (by omega)];rfl
         rw[e1,e2,e3,e4,e4]
         cases(Nat.ble l m)<;>cases(Nat.ble m s.size)<;>rfl
      |_=>rfl
     |_=>rfl
    |_=>cases w<;>first|rfl|(rename_i w;cases w<;>rfl)
   |_=>cases w<;>first|rfl|(rename_i w;cases w<;>rfl)
  |_=>rfl
 |_=>rfl
theorem b2H(cf:CF)(pf:PF)(Gl:Nat->Option (List AV))(n:Nat)(i:I)(d:Bool)(T:TT)(h:List ay):r3 cf pf Gl n (rW n Gl i) d T h=qH (qD i) cf pf d (vT n Gl T) h (slow Gl (slots n T) h i):=by
 have ev:=Ma n Gl T
 cases i with
 |call fo args =>
  have em:(args.map (cO n Gl)).map (vO T)=args.map (vT n Gl T):=by rw[gX];exact gN λx _=>ev x
  cases fo with
  |k v =>
   show r3 cf pf Gl n (match fnV v with|some g=>B3.c g (args.map (cO n Gl))|none=>.d (.k v) args) d T h=Fb (.k v) args cf pf d (vT n Gl T) h
   cases hf:fnV v with
   |none=>rfl
   |some g =>
    show r3C cf pf d T h g (args.map (cO n Gl))=_
    unfold r3C Fb
    rw[em]
    simp only[vT,hf]
  |_=>rfl
 |pick c a b=>show U4 _ _ _ T h=EK _ h c a b;unfold U4 EK;rw[ev,ev,ev]
 |idx x i=>show a1g _ _ T h=Jz _ h x i;unfold a1g Jz;rw[ev,ev]<;>rfl
 |wZ x=>show U3 _ T h=HY _ h x;unfold U3 HY;rw[ev]
 |bin op x y =>
  cases op<;>first
   |rfl
   |(show a1i _ _ T h=_;unfold a1i;rw[ev,ev,Ju,Yj h Int.add V7 (λ_ _=>rfl) (vT n Gl T) x y,b06 h (vT n Gl T) x y];rfl)
   |(show a1e _ _ T h=_;unfold a1e;rw[ev,ev,Yj h Int.sub UZ (λ_ _=>rfl) (vT n Gl T) x y];rfl)
   |(show a1h _ _ T h=_;unfold a1h;rw[ev,ev,Ju,BD h eqF eqI YA (vT n Gl T) x y,Y9 h id id (λ_=>rfl) (vT n Gl T) x y];rfl)
   |(show a1f _ _ T h=_;unfold a1f;rw[ev,ev,Ju,BD h a15 (λa b=>not (eqI a b)) (λa b=>by rw[a15,Mh,YA]) (vT n Gl T) x y,Y9 h nB not Mh (vT n Gl T) x y];rfl)
   |(show yP ltF _ _ T h=_;unfold yP;rw[ev,ev,BD h ltF ltI Iz (vT n Gl T) x y];rfl)
   |(show yP iGt _ _ T h=_;unfold yP;rw[ev,ev,BD h iGt (λa b=>ltI b a) (λa b=>Iz b a) (vT n Gl T) x y];rfl)
   |(show yP V4 _ _ T h=_;unfold yP;rw[ev,ev,BD h V4 (λa b=>not (ltI b a)) (λa b=>by rw[V4,Mh,Iz]) (vT n Gl T) x y];rfl)
   |(show yP iGe _ _ T h=_;unfold yP;rw[ev,ev,BD h iGe (λa b=>not (ltI a b)) (λa b=>by rw[iGe,Mh,Iz]) (vT n Gl T) x y];rfl)
 |un op x=>cases op<;>rfl
 |oI x lo hi =>
  cases lo with
  |none=>rfl
  |some lo =>
   cases hi with
   |none=>rfl
   |some hi=>exact a5F (Hr n Gl T) x lo hi
 |_=>rfl
inductive X3 where
 |m (w:PB) (x:OV)
 |p (w:PB) (b:B3)
 |q (b:B3)
 |g (w:PB) (s:OV) (v:Bool) (b:B3)
 |u (s:OV) (v:Bool) (b:B3)
def UW:I->Bool
 |.mov _=>true
 |_=>false
def b0J(n:Nat)(Gl:Nat->Option (List AV)):I->OV
 |.mov x=>cO n Gl x
 |_=>.k .any
def yJ(n:Nat)(Gl:Nat->Option (List AV))(o:Ins):X3:=match o.gd with
 |none=>match o.dst with
  |some d=>cond (Nat.blt d n) (cond (UW o.i) (.m (way d) (b0J n Gl o.i)) (.p (way d) (rW n Gl o.i))) (.q (rW n Gl o.i))
  |none=>.q (rW n Gl o.i)
 |some (s,v)=>match o.dst with
  |some d=>cond (Nat.blt d n) (.g (way d) (cO n Gl (.t s)) v (rW n Gl o.i)) (.u (cO n Gl (.t s)) v (rW n Gl o.i))
  |none=>.u (cO n Gl (.t s)) v (rW n Gl o.i)
section
variable(cf:CF)(pf:PF)(Gl:Nat->Option (List AV))(n:Nat)
def kP(d:Bool)(N:Nat)(ih:TT->List ay->List Nat->FO)(U:List Nat)(S:AV->TT)(x:FR):FO :=
 FR.rec .no (λa h' ids=>xW N ids U (ih (S a) h')) (λv=>cond d .no (.pan v)) x
def gK(a:AV)(w:Bool)(x y:FO):FO:=match a with
 |.v v=>match v with
  |.bool b=>Bool.rec (Bool.rec x y b) (Bool.rec y x b) w
  |.tuple _=>y
  |_=>.no
 |_=>.no
def oM(d:Bool)(N:Nat)(ih:TT->List ay->List Nat->FO)(T:TT)(h:List ay)(U:List Nat)(w:PB)(x:OV):FO:=ih (kN (vO T x) w T) h U
def oP(d:Bool)(N:Nat)(ih:TT->List ay->List Nat->FO)(T:TT)(h:List ay)(U:List Nat)(w:PB)(b:B3):FO:=kP d N ih U (λa=>kN a w T) (r3 cf pf Gl n b d T h)
def oQ(d:Bool)(N:Nat)(ih:TT->List ay->List Nat->FO)(T:TT)(h:List ay)(U:List Nat)(b:B3):FO:=kP d N ih U (λ_=>T) (r3 cf pf Gl n b d T h)
def oG(d:Bool)(N:Nat)(ih:TT->List ay->List Nat->FO)(T:TT)(h:List ay)(U:List Nat)(w:PB)(s:OV)(v:Bool)(b:B3):FO:=gK (vO T s) v (kP true N ih U (λa=>kN a w T) (r3 cf pf Gl n b d T h)) (ih (kN und w T) h U)
def oU(d:Bool)(N:Nat)(ih:TT->List ay->List Nat->FO)(T:TT)(h:List ay)(U:List Nat)(s:OV)(v:Bool)(b:B3):FO:=gK (vO T s) v (kP true N ih U (λ_=>T) (r3 cf pf Gl n b d T h)) (ih T h U)
def Am(d:Bool)(N:Nat)(b:X3)(ih:TT->List ay->List Nat->FO)(T:TT)(h:List ay)(U:List Nat):FO :=
 X3.rec (oM d N ih T h U) (oP cf pf Gl n d N ih T h U) (oQ cf pf Gl n d N ih T h U) (oG cf pf Gl n d N ih T h U) (oU cf pf Gl n d N ih T h U) b
def Gn(d:Bool)(N:Nat)(l:List X3):TT->List ay->List Nat->FO :=
 List.rec (λT h U=>.nrm .normal T h U) (λb _ ih=>Am cf pf Gl n d N b ih) l
end
theorem MH (d:Bool) (N:Nat) (ih:TT->List ay->List Nat->FO) (U:List Nat) (S:AV->TT) (x:FR):kP d N ih U S x=match x with
  |.val a h' ids=>xW N ids U (ih (S a) h')
  |.pan v=>cond d .no (.pan v)
  |.no=>.no:=by cases x<;>rfl
theorem a1p(cf:CF)(pf:PF)(Gl:Nat->Option (List AV))(n:Nat)(d:Bool)(N:Nat)(o:Ins)(ih:TT->List ay->List Nat->FO)(T:TT)(h:List ay)(U:List Nat):Am cf pf Gl n d N (yJ n Gl o) ih T h U=Ot cf pf Gl n d N (mQ o) ih T h U:=by
 obtain⟨dst,gd,i⟩:=o
 have e:=b2H cf pf Gl n i d T h
 have ev:∀s,vO T (cO n Gl (.t s))=cond (Nat.blt s n) (oC (way s) T) .any:=λs=>Ma n Gl T (.t s)
 have gds:∀ (a:AV) (v:Bool) (S:AV->TT) (x:FR),gK a v (kP true N ih U S x) (ih (S und) h U)=match gdF a v h x with
   |.val a h' ids=>xW N ids U (ih (S a) h')
   |.pan v=>cond true .no (.pan v)
   |.no=>.no:=λa v S x=>by
  unfold gK gdF
  cases a with
  |v y =>
   cases y with
   |bool b=>cases v<;>cases b<;>first|(exact MH true N ih U S x)|rfl
   |tuple xs=>rfl
   |_=>rfl
  |_=>rfl
 cases gd with
 |none =>
  cases dst with
  |none =>
   show kP d N ih U (λ_=>T) (r3 cf pf Gl n (rW n Gl i) d T h)=_
   rw[e,MH]
   show _=(match qH (qD i) cf pf d (vT n Gl T) h (slow Gl (slots n T) h i) with|.val a h' ids=>xW N ids U (ih T h')|.pan v=>cond (d||false) .no (.pan v)|.no=>.no)
   cases qH (qD i) cf pf d (vT n Gl T) h (slow Gl (slots n T) h i)<;>simp
  |some w =>
   show Am cf pf Gl n d N (cond (Nat.blt w n) (cond (UW i) (.m (way w) (b0J n Gl i)) (.p (way w) (rW n Gl i))) (.q (rW n Gl i))) ih T h U=(match qH (qD i) cf pf d (vT n Gl T) h (slow Gl (slots n T) h i) with|.val a h' ids=>xW N ids U (ih (cond (Nat.blt w n) (kN a (way w) T) T) h')|.pan v=>cond (d||false) .no (.pan v)|.no=>.no)
   cases hw:Nat.blt w n with
   |false =>
    show kP d N ih U (λ_=>T) (r3 cf pf Gl n (rW n Gl i) d T h)=_
    rw[e,MH]
    cases qH (qD i) cf pf d (vT n Gl T) h (slow Gl (slots n T) h i)<;>simp
   |true =>
    have gen:kP d N ih U (λa=>kN a (way w) T) (r3 cf pf Gl n (rW n Gl i) d T h)=(match qH (qD i) cf pf d (vT n Gl T) h (slow Gl (slots n T) h i) with|.val a h' ids=>xW N ids U (ih (cond true (kN a (way w) T) T) h')|.pan v=>cond (d||false) .no (.pan v)|.no=>.no):=by
     rw[e,MH]
     cases qH (qD i) cf pf d (vT n Gl T) h (slow Gl (slots n T) h i)<;>simp
    cases hm:UW i with
    |false=>exact gen
    |true =>
     cases i with
     |mov x =>
      show ih (kN (vO T (cO n Gl x)) (way w) T) h U=ih (kN (vT n Gl T x) (way w) T) h U
      rw[Ma]
     |_=>cases hm
 |some q =>
  obtain⟨s,v⟩:=q
  cases dst with
  |none =>
   show gK (vO T (cO n Gl (.t s))) v (kP true N ih U (λ_=>T) (r3 cf pf Gl n (rW n Gl i) d T h)) (ih T h U)=(match gdF (cond (Nat.blt s n) (oC (way s) T) .any) v h (qH (qD i) cf pf d (vT n Gl T) h (slow Gl (slots n T) h i)) with|.val a h' ids=>xW N ids U (ih T h')|.pan v=>cond (d||true) .no (.pan v)|.no=>.no)
   rw[ev,gds _ v (λ_=>T),e]
   cases gdF (cond (Nat.blt s n) (oC (way s) T) .any) v h (qH (qD i) cf pf d (vT n Gl T) h (slow Gl (slots n T) h i))<;>simp
  |some w =>
   show Am cf pf Gl n d N (cond (Nat.blt w n) (.g (way w) (cO n Gl (.t s)) v (rW n Gl i)) (.u (cO n Gl (.t s)) v (rW n Gl i))) ih T h U=(match gdF (cond (Nat.blt s n) (oC (way s) T) .any) v h (qH (qD i) cf pf d (vT n Gl T) h (slow Gl (slots n T) h i)) with|.val a h' ids=>xW N ids U (ih (cond (Nat.blt w n) (kN a (way w) T) T) h')|.pan v=>cond (d||true) .no (.pan v)|.no=>.no)
   cases hw:Nat.blt w n with
   |false =>
    show gK (vO T (cO n Gl (.t s))) v (kP true N ih U (λ_=>T) (r3 cf pf Gl n (rW n Gl i) d T h)) (ih T h U)=_
    rw[ev,gds _ v (λ_=>T),e]
    cases gdF (cond (Nat.blt s n) (oC (way s) T) .any) v h (qH (qD i) cf pf d (vT n Gl T) h (slow Gl (slots n T) h i))<;>simp
   |true =>
    show gK (vO T (cO n Gl (.t s))) v (kP true N ih U (λa=>kN a (way w) T) (r3 cf pf Gl n (rW n Gl i) d T h)) (ih (kN und (way w) T) h U)=_
    rw[ev,gds _ v (λa=>kN a (way w) T),e]
    cases gdF (cond (Nat.blt s n) (oC (way s) T) .any) v h (qH (qD i) cf pf d (vT n Gl T) h (slow Gl (slots n T) h i))<;>simp
theorem QS(cf:CF)(pf:PF)(Gl:Nat->Option (List AV))(n:Nat)(d:Bool)(N:Nat):∀(l:List Ins) (T:TT) (h:List ay) (U:List Nat),Gn cf pf Gl n d N (l.map (yJ n Gl)) T h U=Kh cf pf Gl n d N (l.map mQ) T h U
 |[],T,h,U=>rfl
 |o::l,T,h,U=>by
  show Am cf pf Gl n d N (yJ n Gl o) (Gn cf pf Gl n d N (l.map (yJ n Gl))) T h U=Ot cf pf Gl n d N (mQ o) (Kh cf pf Gl n d N (l.map mQ)) T h U
  rw[show Gn cf pf Gl n d N (l.map (yJ n Gl))=Kh cf pf Gl n d N (l.map mQ) from funext λT=>funext λh=>funext λU=>QS cf pf Gl n d N l T h U]
  exact a1p cf pf Gl n d N o _ T h U
structure PR where
 Gl:Nat->Option (List AV)
 tab:Nat->Option FnE
 hd:wN
def b4Q(p:PR)(ih:EX)(N n:Nat)(T:TT)(h:List ay)(U:List Nat)(d:Bool)(l:List Ins):FO:=Gn (cfF p.tab p.hd ih) (pfF p.tab p.hd ih) p.Gl n d N (l.map (yJ n p.Gl)) T h U
def b1N(p:PR)(ih:EX)(N n:Nat)(T:TT)(h:List ay)(U:List Nat)(l:List (Nat×Ins)):FO:=MO p.Gl p.tab p.hd l ih N n T h U
def b4P(ih:EX)(N n:Nat)(T:TT)(h:List ay)(U:List Nat)(a b:C):FO:=AP (ih N n a T h U) (ih N n b)
def b1P(p:PR)(ih:EX)(N n:Nat)(T:TT)(h:List ay)(U:List Nat)(x:Opd)(a b:C):FO:=Q6 (vO T (cO n p.Gl x)) (ih N n a T h U) (ih N n b T h U)
def b4R(ih:EX)(N n:Nat)(T:TT)(h:List ay)(U:List Nat)(id:Nat)(b:C):FO:=VG id (ih N n b T h U)
def b1O(ih:EX)(N n:Nat)(T:TT)(h:List ay)(U:List Nat)(b:C):FO:=AP (ih N n b T h U) (ih N n (.loop b))
def fC3(p:PR)(c:C)(ih:EX)(N n:Nat)(T:TT)(h:List ay)(U:List Nat):FO:=match c with
 |.skip=>.nrm .normal T h U
 |.ops d l=>b4Q p ih N n T h U d l
 |.qd l=>b1N p ih N n T h U l
 |.seq a b=>b4P ih N n T h U a b
 |.cond x a b=>b1P p ih N n T h U x a b
 |.block id b=>b4R ih N n T h U id b
 |.loop b=>b1O ih N n T h U b
 |.exit id=>.nrm (.exit id) T h U
 |.ret=>.nrm .ret T h U
def gC(p:PR)(k:Nat):EX:=Nat.rec (λ_ _ _ _ _ _=>.no) (λ_ ih N n c T h U=>fC3 p c ih N n T h U) k
theorem a3Y(p:PR)(k:Nat):gC p k=fC p.Gl p.tab p.hd k:=by
 induction k with
 |zero=>rfl
 |succ k ih =>
  funext N n c T h U
  show fC3 p c (gC p k) N n T h U=fC1 p.Gl p.tab p.hd c (fC p.Gl p.tab p.hd k) N n T h U
  rw[ih]
  cases c with
  |ops d l=>exact QS _ _ _ _ _ _ _ _ _ _
  |cond x a b =>
   show Q6 (vO T (cO n p.Gl x)) _ _=Q6 (vT n p.Gl T x) _ _
   rw[Ma]
  |_=>rfl
theorem b4G{P:Program}{Gl:Nat->Option (List AV)}{hd:wN}(hm:P.follows .mixedOrders=true){hl:List Nat}(hh:wM P Gl hd.hand)(k:Nat){f:Nat}{as:List AV}{res:AV}(h:Gf (fnE P hl) (gC ⟨Gl,fnE P hl,hd⟩ k) f as=some res):Pure P Gl f as res:=by
 rw[a3Y]at h
 exact Yv hm hh k h
end
end
end
end Abs
end Go.Proofs.YtnhgeocdffhkjaaGreatDoor
