/- Merged and trimmed by a program: XM XH XI XR XJ XK XL XP XQ. -/
import Derived.Test.YtnhgeocdffhkjaaGreatDoorZHC
import Derived.LoopN
set_option linter.unusedVariables false
set_option linter.unusedSimpArgs false
set_option linter.defProp false
namespace Go.Proofs.YtnhgeocdffhkjaaGreatDoor
namespace Abs
noncomputable section
section
open Go.RowKit
section
variable{Gl:Nat->Option (List AV)}{F:Addr->Option Value}{own own':List Ent}{B:Nat}{w0:W0}{σ:St}{act:Act}{w:World}
def Okc(F:Addr->Option Value)(own own':List Ent)(a:AV):Prop:=∀v,R F own v a->R F own' v a
def Cl(n:Nat)(a:AV):Prop:=∀(F:Addr->Option Value) (own own':List Ent),(∀i,i<n->own'[i]?=own[i]?)->Okc F own own' a
theorem b6I{x:Value}{a:AV}(h:RP F x a)(n:Nat):Cl n a:=by
 induction h with
 |any x=>exact λ_ _ _ _ v _=>.pure (.any v)
 |v x=>exact λF own own' _ v h=>by rw[h.dK];exact .pure (.v _)
 |nil sz=>exact λF own own' _ v h=>.pure h.jG
 |list ad n cap sz xs cv hn hc hz hF hR ih=>exact λF own own' _ v h=>.pure h.jG
 |iF ad cs cv hF hR ih=>exact λF own own' _ v h=>.pure h.pU
 |agg xs cs hl h1 hR ih =>
  intro F own own' hw v h
  obtain⟨ys,rfl,hl',h1',hR'⟩:=h.iX
  refine .agg ys cs hl' h1' λj y a p q=>?_
  have hj:j<xs.size:=by rw[hl];exact(aj.1 q).1
  exact ih j _ a (aF hj) q F own own' hw y (hR' j y a p q)
 |tup xs cs hl hR ih =>
  intro F own own' hw v h
  obtain⟨ys,rfl,hl',hR'⟩:=h.tQ
  refine .tup ys cs hl' λj y a p q=>?_
  have hj:j<xs.size:=by rw[hl];exact(aj.1 q).1
  exact ih j _ a (aF hj) q F own own' hw y (hR' j y a p q)
theorem a5Y{id G sz off len:Nat}(h:own'[id]?=own[id]?):Okc F own own' (.row id G sz off len):=λv hv=>by
 obtain⟨e,he,hG,hs,hx⟩:=hv.ny
 exact .row _ _ _ _ _ _ e (by rw[h];exact he) hG hs hx (hv.vZ he)
theorem a5Z{id G i off:Nat}(h:own'[id]?=own[id]?):Okc F own own' (.ptr id G i off):=λv hv=>by
 obtain⟨e,he,hG,hs,hx⟩:=hv.nR
 exact .ptr _ _ _ _ _ e (by rw[h];exact he) hG hs hx (hv.uN he)
theorem c08{n:Nat}{x:Value}{a:AV}(h:R F own x a)(hn:own.length<=n):Cl n a:=by
 have lt:∀{id:Nat} {e:Ent},own[id]?=some e->id<n:=λq=>ni (aj.1 q).1 hn
 induction h with
 |pure h=>exact b6I h n
 |row x id G sz off len e he hG hs hx hz=>exact λF own own' hw=>a5Y (hw id (lt he))
 |ptr x id G i off e he hG hs hx hz=>exact λF own own' hw=>a5Z (hw id (lt he))
 |agg xs cs hl h1 hR ih =>
  intro F own own' hw v h
  obtain⟨ys,rfl,hl',h1',hR'⟩:=h.iX
  refine .agg ys cs hl' h1' λj y a p q=>?_
  have hj:j<xs.size:=by rw[hl];exact(aj.1 q).1
  exact ih j _ a (aF hj) q F own own' hw y (hR' j y a p q)
 |tup xs cs hl hR ih =>
  intro F own own' hw v h
  obtain⟨ys,rfl,hl',hR'⟩:=h.tQ
  refine .tup ys cs hl' λj y a p q=>?_
  have hj:j<xs.size:=by rw[hl];exact(aj.1 q).1
  exact ih j _ a (aF hj) q F own own' hw y (hR' j y a p q)
def ClH(n:Nat)(H:List aH):Prop:=∀(j:Nat) (O:aH),H[j]?=some O->O.pr=false->∀(i k:Nat) (e a:AV),O.es[i]?=some e->e.cells[k]?=some a->Cl n a
theorem Inv.clH(h:Inv Gl F own B w0 σ act w):ClH σ.h.length σ.h:=by
 intro j O hO hpr i k e a hi hk
 obtain⟨en,hen,hOr⟩:=h.xE hO
 obtain⟨k1,k2,k3,k4,k5,k6,k7,k8⟩:=hOr
 cases hg:en.g with
 |none =>
  rw[hg]at k8
  have:O.es.length=0:=by have k8:en.cap=0:=k8;omega
  have:=(aj.1 hi).1
  omega
 |some g =>
  rw[hg]at k8
  obtain⟨cs,a1,a2,a3,a4⟩:=k8
  obtain⟨y,b1,b2,b3⟩:=a3 i k e a hi hk
  unfold RC at b3
  rw[if_neg (by rw[hpr];simp)]at b3
  exact c08 b3 (iY h.hl)
open Classical in
def off1(F:Addr->Option Value)(own own':List Ent)(a:AV):AV:=if Okc F own own' a then a else .any
def xD(F:Addr->Option Value)(own own':List Ent):AV->AV
 |.agg cs=>.agg (cs.map (off1 F own own'))
 |a=>off1 F own own' a
def Gm(F:Addr->Option Value)(own own':List Ent):AV->AV
 |.tup vs=>.tup (vs.map (xD F own own'))
 |a=>xD F own own' a
def Gn(F:Addr->Option Value)(own own':List Ent)(o:aH):aH:=if o.pr=true then o else{ o with es:=o.es.map (xD F own own') }
theorem a6i(a:AV):off1 F own own' a=a\/off1 F own own' a=.any:=by
 unfold off1;split
 .exact .inl rfl
 .exact .inr rfl
theorem R.off1{x:Value}{a:AV}(h:R F own x a):R F own' x (off1 F own own' a):=by
 unfold Abs.off1
 split
 .rename_i hk;exact hk x h
 .exact .pure (.any x)
theorem KX{a:AV}(h:∀cs,a≠.agg cs):xD F own own' a=Abs.off1 F own own' a:=by
 cases a<;>first|rfl|exact absurd rfl (h _)
theorem Yo{a:AV}(h:∀cs,a≠.tup cs):Gm F own own' a=xD F own own' a:=by
 cases a<;>first|rfl|exact absurd rfl (h _)
theorem R.xD{x:Value}{a:AV}(h:R F own x a):R F own' x (xD F own own' a):=by
 by_cases ha:∃cs,a=.agg cs
 .obtain⟨cs,rfl⟩:=ha
  obtain⟨xs,rfl,hl,h1,hR⟩:=h.iX
  refine .agg xs _ (by simp[hl]) h1 λj x a p q=>?_
  rw[aT]at q
  cases hc:cs[j]? with
  |none=>rw[hc]at q;cases q
  |some c=>rw[hc]at q;cases q;exact(hR j x c p hc).off1
 .rw[KX λcs q=>ha ⟨cs,q⟩];exact h.off1
theorem R.Gm{x:Value}{a:AV}(h:R F own x a):R F own' x (Gm F own own' a):=by
 by_cases ha:∃cs,a=.tup cs
 .obtain⟨cs,rfl⟩:=ha
  obtain⟨xs,rfl,hl,hR⟩:=h.tQ
  refine .tup xs _ (by simp[hl]) λj x a p q=>?_
  rw[aT]at q
  cases hc:cs[j]? with
  |none=>rw[hc]at q;cases q
  |some c=>rw[hc]at q;cases q;exact(hR j x c p hc).xD
 .rw[Yo λcs q=>ha ⟨cs,q⟩];exact h.xD
theorem Iw(a:AV):(xD F own own' a).cells=a.cells.map (off1 F own own'):=by
 by_cases ha:∃cs,a=.agg cs
 .obtain⟨cs,rfl⟩:=ha;rfl
 .rw[KX λcs q=>ha ⟨cs,q⟩]
  have hc:a.cells=[a]:=by cases a<;>first|rfl|exact absurd ⟨_,rfl⟩ ha
  rw[hc]
  rcases a6i (F:=F) (own:=own) (own':=own') a with q|q
  .rw[q,hc];simp[q]
  .rw[q];simp[q,AV.cells]
theorem Inv.off(h:Inv Gl F own B w0 σ act w){k:Nat}{e e':Ent}{ob':aH}(he:own[k]?=some e)(hN:w0.N<=k)(hg:e'.g=e.g)(hO':og F (own.set k e') w e' ob') :
  Inv Gl F (own.set k e') B w0 ⟨σ.t.map (Gm F own (own.set k e')),(σ.h.map (Gn F own (own.set k e'))).set k ob'⟩ act w:=by
 have hk:k<own.length:=(aj.1 he).1
 have hk':k<σ.h.length:=by rw[<- h.hl];exact hk
 have get:∀{id:Nat} {f:Ent},(own.set k e')[id]?=some f->(id=k/\f=e')\/(id≠k/\own[id]?=some f):=fun{id f} q=>by
  by_cases hi:k=id
  .subst hi;rw[aK hk]at q;cases q;exact .inl ⟨rfl,rfl⟩
  .rw[aC hi]at q;exact .inr ⟨λq=>hi q.symm,q⟩
 have Vh:∀{id:Nat} {f:Ent},(own.set k e')[id]?=some f->∃f0,own[id]?=some f0/\f0.g=f.g:=fun{id f} q=>by
  rcases get q with⟨rfl,rfl⟩|⟨_,q⟩
  .exact⟨e,he,hg.symm⟩
  .exact⟨f,q,rfl⟩
 refine{ tl:=by simp[h.tl],tr:=λi x a p q=>?_,defers:=h.defers,sub:=h.sub,hl:=by simp[h.hl],objs:=λid f o p q=>?_,inj:=λi j f f' g p q r s=>?_,below:=h.below,base:=λid f g p q=>?_,gl:=h.gl,gw:=h.gw,room:=h.room,ext:=h.ext,jI:=h.jI,nl:=by have:=h.nl;simpa using this,fr:=λq hq=>?_,pd:=EJ.turn h.pd (λ_ _ _=>rfl) (λ_ _ _ q=>.inl q) (λid f g p q=>by obtain⟨f0,q1,q2⟩:=Vh p;exact .inl λr=>r id f0 q1 (q2.trans q)) }
 .have q:(σ.t.map (Abs.Gm F own (own.set k e')))[i]?=some a:=q
  rw[aT]at q
  cases hc:σ.t[i]? with
  |none=>rw[hc]at q;cases q
  |some c=>rw[hc]at q;cases q;exact(h.tr i x c p hc).Gm
 .have q:((σ.h.map (Gn F own (own.set k e'))).set k ob')[id]?=some o:=q
  rcases get p with⟨rfl,rfl⟩|⟨hid,hf⟩
  .rw[aK (by simpa using hk')]at q
   cases q
   exact hO'
  .rw[aC (λq=>hid q.symm),aT]at q
   cases ho:σ.h[id]? with
   |none=>rw[ho]at q;cases q
   |some O =>
    rw[ho]at q;cases q
    obtain⟨k1,k2,k3,k4,k5,k6,k7,k8⟩:=h.objs id f O hf ho
    by_cases hpr:O.pr=true
    .have:Gn F own (own.set k e') O=O:=by simp[Gn,hpr]
     rw[this]
     refine⟨k1,k2,k3,k4,k5,k6,k7,?_⟩
     cases hg:f.g with
     |none=>rw[hg]at k8;exact k8
     |some g =>
      rw[hg]at k8
      obtain⟨cs,a1,a2,a3,a4⟩:=k8
      refine⟨cs,a1,a2,λi j x a r s=>?_,a4⟩
      obtain⟨y,b1,b2,b3⟩:=a3 i j x a r s
      refine⟨y,b1,b2,?_⟩
      unfold RC at b3 ⊢
      rw[if_pos hpr]at b3 ⊢
      exact b3
    .have e1:Gn F own (own.set k e') O={ O with es:=O.es.map (Abs.xD F own (own.set k e')) }:=by simp[Gn,hpr]
     rw[e1]
     have el:∀(i:Nat) (x:AV),(O.es.map (Abs.xD F own (own.set k e')))[i]?=some x->∃z,O.es[i]?=some z/\x=Abs.xD F own (own.set k e') z:=λi x q=>by
      rw[aT]at q
      cases hz:O.es[i]? with
      |none=>rw[hz]at q;cases q
      |some z=>rw[hz]at q;cases q;exact⟨z,rfl,rfl⟩
     refine⟨by simp[k1],k2,k3,k4,⟨k5.1,by simpa using k5.2⟩,by simpa using k6,λi x q=>?_,?_⟩
     .obtain⟨z,hz,rfl⟩:=el i x q
      rw[Iw,bA];exact k7 i z hz
     .cases hg:f.g with
      |none=>rw[hg]at k8;exact k8
      |some g =>
       rw[hg]at k8
       obtain⟨cs,a1,a2,a3,a4⟩:=k8
       obtain⟨fr,a1,af⟩:=a1
       refine⟨cs,⟨fr,a1,by rw[bA];exact af⟩,a2,λi j x a r s=>?_,a4⟩
       obtain⟨z,hz,rfl⟩:=el i x r
       rw[Iw,aT]at s
       cases hc:z.cells[j]? with
       |none=>rw[hc]at s;cases s
       |some c =>
        rw[hc]at s;cases s
        obtain⟨y,b1,b2,b3⟩:=a3 i j z c hz hc
        refine⟨y,b1,b2,?_⟩
        unfold RC at b3 ⊢
        rw[if_neg hpr]at b3 ⊢
        exact b3.off1
 .obtain⟨f0,q1,q2⟩:=Vh p
  obtain⟨f1,q3,q4⟩:=Vh q
  exact h.inj i j f0 f1 g q1 q3 (by rw[q2];exact r) (by rw[q4];exact s)
 .obtain⟨f0,q1,q2⟩:=Vh p
  exact h.base id f0 g q1 (by rw[q2];exact q)
 ·have:(own.set k e').take q.1=own.take q.1:=by
   apply gX
   intro j
   rw[bU,bU]
   split
   .rename_i hj
    have:=w0.hfr q hq
    rw[aC (by omega)]
   .rfl
  rw[this];exact h.fr q hq
theorem Inv.cut(h:Inv Gl F own B w0 σ act w){k s len:Nat}{ob:aH}{sz:Nat}(hob:σ.h[k]?=some ob)(hpr:ob.pr=true)(hfz:ob.fz=0)(hN:w0.N<=k)(hs:σ.t[s]?=some (.row k ob.es.length sz 0 len)) :
  ∃e',len<=ob.es.length/\Inv Gl F (own.set k e') B w0 ⟨(σ.t.map (Gm F own (own.set k e'))).set s (.row k len sz 0 len),(σ.h.map (Gn F own (own.set k e'))).set k { ob with es:=ob.es.take len }⟩ act w:=by
 obtain⟨e,he,hOr⟩:=h.xE hob
 have hk:k<own.length:=(aj.1 he).1
 have hlt:s<act.tmps.size:=by rw[h.tl];exact(aj.1 hs).1
 have hR:=h.tr s _ _ (aF hlt) hs
 obtain⟨k1,k2,k3,k4,k5,k6,k7,k8⟩:=hOr
 obtain⟨e2,he2,hG,hsl,hx⟩:=hR.ny
 rw[he]at he2
 cases he2
 obtain⟨x1,x2,x3⟩:=hx k1.symm
 obtain⟨cp,c1,c2⟩:=x3 (.inr rfl)
 have hle:len<=ob.es.length:=by omega
 have hO':og F (own.set k { e with G:=len }) w { e with G:=len } { ob with es:=ob.es.take len }:=by
  refine⟨by simp[hle],k2,k3,by show len<=e.cap;omega,⟨k5.1,λq=>by have q:ob.pr=false:=q;rw[hpr]at q;cases q⟩,by show ob.fz<=_;omega,λi x q=>?_,?_⟩
  .have q:(ob.es.take len)[i]?=some x:=q
   rw[bU]at q
   split at q
   .exact k7 i x q
   .cases q
  ·show match e.g with
    |none=>e.cap=0
    |some g=>_
   cases hg:e.g with
   |none=>rw[hg]at k8;exact k8
   |some g =>
    rw[hg]at k8
    obtain⟨cs,a1,a2,a3,a4⟩:=k8
    obtain⟨fr,a1,af⟩:=a1
    refine⟨cs,⟨fr,a1,af.imp id (λq=>by exfalso;omega)⟩,a2,λi j x a r s=>?_,a4⟩
    have r:(ob.es.take len)[i]?=some x:=r
    rw[bU]at r
    split at r
    .obtain⟨y,b1,b2,b3⟩:=a3 i j x a r s
     refine⟨y,b1,b2,?_⟩
     unfold RC at b3 ⊢
     rw[if_pos hpr]at b3
     rw[if_pos (show({ ob with es:=ob.es.take len }:aH).pr=true from hpr)]
     exact b3
    .cases r
 refine⟨{ e with G:=len },hle,?_⟩
 have hI:=h.off (e':={ e with G:=len }) he hN rfl hO'
 have hrow:R F (own.set k { e with G:=len }) act.tmps[s] (.row k len sz 0 len) :=
  .row _ _ _ _ _ _ { e with G:=len } (by rw[aK hk]) (aS _) hsl (λ_=>⟨x1,by omega,λ_=>⟨cp,c1,c2⟩⟩) (by show 0<e.sz;rw[k2];exact k3)
 have:=hI.put hrow (some s)
 have e1:act.put (some s) act.tmps[s]=act:=by
  have hs:act.tmps.setIfInBounds s act.tmps[s]=act.tmps:=by
   apply yG
   intro j
   rw[jc]
   split
   .rename_i hj
    subst hj
    rw[aF hlt]
   .rfl
  show({ act with tmps:=act.tmps.setIfInBounds s act.tmps[s] }:Act)=act
  rw[hs]
 rw[e1]at this
 exact this
def Ci(e:AV)(o:Nat)(a:AV):AV:=match e with
 |.agg us=>.agg (us.set o a)
 |_=>a
theorem Ch{e a b:AV}{o:Nat}(ha:a.cells=[a])(ho:e.cells[o]?=some b):(Ci e o a).cells=e.cells.set o a:=by
 by_cases h:∃us,e=.agg us
 .obtain⟨us,rfl⟩:=h;rfl
 .have hc:e.cells=[e]:=by cases e<;>first|rfl|exact absurd ⟨_,rfl⟩ h
  have hs:Ci e o a=a:=by cases e<;>first|rfl|exact absurd ⟨_,rfl⟩ h
  rw[hc]at ho ⊢
  have:o=0:=by
   have:=(aj.1 ho).1
   simp at this;exact this
  subst this
  rw[hs,ha];rfl
theorem Inv.Zm(h:Inv Gl F own B w0 σ act w){k o:Nat}{ob:aH}{e0 a0 a':AV}(hob:σ.h[k]?=some ob)(hes:ob.es=[e0])(hpr:ob.pr=false)(ho:e0.cells[o]?=some a0)(ha:∀(e:Ent) (g:Nat) (cs:Array Value) (fr:Nat×Nat) (y:Value),own[k]?=some e->e.g=some g->w.heap[g]?=some (.cells cs ob.ty fr)->cs[0*ob.sz+o]?=some y->R F own y a0->R F own y a')(hac:a'.cells=[a']) :
  Inv Gl F own B w0 ⟨σ.t,σ.h.set k { ob with es:=[Ci e0 o a'] }⟩ act w:=by
 have hk:k<σ.h.length:=(aj.1 hob).1
 refine h.turn (λ_ _ q=>q) (Le.refl _) h.sub (by simp[h.hl]) (λid e o' p q=>?_) h.inj h.below h.base
 have q:(σ.h.set k { ob with es:=[Ci e0 o a'] })[id]?=some o':=q
 by_cases hid:k=id
 .subst hid
  rw[aK hk]at q
  cases q
  obtain⟨k1,k2,k3,k4,k5,k6,k7,k8⟩:=h.objs k e ob p hob
  have hcl:=Ch hac ho
  refine⟨by rw[k1,hes];rfl,k2,k3,k4,⟨k5.1,λq r=>by rw[k5.2 q r,hes];rfl⟩,by rw[hes]at k6;exact k6,λi x q=>?_,?_⟩
  .have q:[Ci e0 o a'][i]?=some x:=q
   have hi:i=0:=by have:=(aj.1 q).1;simpa using this
   subst hi
   cases q
   rw[hcl,pE]
   exact k7 0 e0 (by rw[hes];rfl)
  .cases hg:e.g with
   |none=>rw[hg]at k8;exact k8
   |some g =>
    rw[hg]at k8
    obtain⟨cs,a1,a2,a3,a4⟩:=k8
    obtain⟨fr,a1,af⟩:=a1
    refine⟨cs,⟨fr,a1,by rw[hes]at af;exact af⟩,a2,λi j x a r s=>?_,a4⟩
    have r:[Ci e0 o a'][i]?=some x:=r
    have hi:i=0:=by have:=(aj.1 r).1;simpa using this
    subst hi
    cases r
    rw[hcl,dh]at s
    split at s
    .rename_i hj
     subst hj
     split at s
     .cases s
      obtain⟨y,b1,b2,b3⟩:=a3 0 o e0 _ (by rw[hes];rfl) ho
      refine⟨y,b1,b2,?_⟩
      unfold RC at b3 ⊢
      rw[if_neg (by rw[hpr];simp)]at b3
      rw[if_neg (by show ¬ob.pr=true;rw[hpr];simp)]
      exact ha e g cs fr y p hg a1 b1 b3
     .cases s
    .exact a3 0 j e0 a (by rw[hes];rfl) s
 .rw[aC hid]at q
  exact h.objs id e o' p q
theorem Inv.a7c(h:Inv Gl F own B w0 σ act w){k o:Nat}{ob:aH}{e0 a':AV}{v:Value}(hob:σ.h[k]?=some ob)(hes:ob.es=[e0])(hpr:ob.pr=false)(ho:e0.cells[o]?=some (.v v))(ha:R F own v a')(hac:a'.cells=[a']) :
  Inv Gl F own B w0 ⟨σ.t,σ.h.set k { ob with es:=[Ci e0 o a'] }⟩ act w:=h.Zm hob hes hpr ho (λe g cs fr y _ _ _ _ q=>by rw[q.dK];exact ha) hac
end
section
variable{S R:Type}{step:S->Option (S⊕R)}
theorem KN:∀{n m:Nat} {s:S} {r:R},xw step n s=some r->n<=m->xw step m s=some r:=by
 intro n
 induction n with
 |zero=>intro m s r h;cases h
 |succ n ih =>
  intro m s r h hm
  cases m with
  |zero=>omega
  |succ m =>
   simp only[xw]at h ⊢
   split at h
   .exact ih h (by omega)
   .exact h
   .cases h
theorem yX{s:S}{r:R}:bK step s=some r↔∃n,xw step n s=some r:=by
 constructor
 .intro h
  unfold bK at h
  split at h
  .rename_i hn;exact⟨_,h⟩
  .cases h
 .rintro⟨n,h⟩
  have hn:∃n r,xw step n s=some r:=⟨n,r,h⟩
  obtain⟨r',hr'⟩:=hn.choose_spec
  have e1:=KN hr' (Nat.le_max_left _ n)
  have e2:=KN h (Nat.le_max_right hn.choose n)
  rw[e1]at e2
  cases e2
  unfold bK
  rw[dif_pos hn]
  exact hr'
theorem Pw(step:S->Option (S⊕R))(s:S):bK step s=match step s with
  |some (.inl s')=>bK step s'
  |some (.inr r)=>some r
  |none=>none:=by
 apply Option.ext
 intro r
 rw[yX]
 constructor
 .rintro⟨n,h⟩
  cases n with
  |zero=>cases h
  |succ n =>
   simp only[xw]at h
   split at h
   .rename_i s' hs;rw[hs];exact yX.2 ⟨n,h⟩
   .rename_i r' hs;rw[hs];exact h
   .cases h
 .intro h
  split at h
  .rename_i s' hs
   obtain⟨n,hn⟩:=yX.1 h
   exact⟨n+1,by simp only[xw,hs];exact hn⟩
  .rename_i r' hs
   cases h
   exact⟨1,by simp only[xw,hs]⟩
  .cases h
end
section
variable{P:Program}{c:Cfg}{ρ:List Nat}{X:XS}{σ:St}{F:Addr->Option Value}{own:List Ent}{B:Nat}{w0:W0}{act:Act}{w:World}{H0:List aH}{ρ0:List Nat}{Gl:Nat->Option (List AV)}
theorem QH{i:Nat}(hlt:i<act.tmps.size):act.put (some i) act.tmps[i]=act:=by
 have hs:act.tmps.setIfInBounds i act.tmps[i]=act.tmps:=by
  apply yG
  intro j
  rw[jc]
  split
  .rename_i hj
   subst hj
   rw[aF hlt]
  .rfl
 show({ act with tmps:=act.tmps.setIfInBounds i act.tmps[i] }:Act)=act
 rw[hs]
theorem a1w(hI:Inv Gl F own B w0 σ act w)(hS:Sim ρ X σ)(hF:Frm H0 ρ0 ρ σ.h){id o ty ty':Nat}{T:Ty}{cs:List XV}(he:X.h[id]?=some (.box ty' cs))(ho:cs[o]?=some (.k (.slice none 0 0)))(hz:0<T.size) :
  ∃F' own' σ' ρ',Inv Gl F' own' B w0 σ' act w/\Sim ρ' ⟨X.t,(X.h++[XO.row ty T false []]).set id (.box ty' (cs.set o (.row X.h.length)))⟩ σ'/\Frm H0 ρ0 ρ' σ'.h:=by
 have zV:id<X.h.length:=(aj.1 he).1
 obtain⟨O,hO,o1,o2,o3,o4,e,o5,hc⟩:=hS.h.hr id _ he
 have hkH:ρ.getD id 0<σ.h.length:=hS.h.lt zV
 have hI1:=hI.Ea ty T.size true hz
 obtain⟨a,ha,hva⟩:=hc.lq ho
 have hva:a=.v (.slice none 0 0):=hva
 subst hva
 have hrow:R F (own++[⟨none,0,T.size,0⟩]) (.slice none 0 0) (.row σ.h.length 0 T.size 0 0):=by
  rw[<- hI.hl]
  exact .row _ _ _ _ _ _ _ pQ (by simp) ⟨_,_,rfl,by simp,λq=>by simp at q⟩ (λ_=>⟨rfl,by simp,λ_=>⟨_,dD _,by simp⟩⟩) (by first|assumption|(show 0<T.size;omega)|(show 0<_;assumption))
 have hO1:(σ.h++[(⟨ty,T.size,0,true,[]⟩:aH)])[ρ.getD id 0]?=some O:=by rw[au hkH];exact hO
 have hI2:=hI1.a7c hO1 o5 o3 ha hrow rfl
 obtain⟨u1,u2⟩:=ug (ty:=ty) (ys:=([]:List T.den)) (as:=[]) hS.h rfl .nil
 have he1:(X.h++[XO.row ty T false []])[id]?=some (.box ty' cs):=by rw[au zV];exact he
 have hg:(ρ++[σ.h.length]).getD id 0=ρ.getD id 0:=lG (by rw[hS.h.rl];exact zV)
 have hcl:=Ch (e:=e) (a:=.row σ.h.length 0 T.size 0 0) rfl ha
 have hob:wM (ρ++[σ.h.length]) (X.h++[XO.row ty T false []]) (.box ty' (cs.set o (.row X.h.length))) { O with es:=[Ci e o (.row σ.h.length 0 T.size 0 0)] }:=by
  refine⟨o1,by simpa using o2,o3,o4,_,rfl,?_⟩
  rw[hcl]
  refine bn.set ?_ u2 o
  have:=u1.tr.cells hc
  rw[wu]at this
  exact this
 have u3:=Upd.set u1.hs he1 (o':=.box ty' (cs.set o (.row X.h.length))) trivial hob
 have u4:=u1.trans u3 hS.h.rl
 rw[hg]at u4
 refine⟨F,_,_,ρ++[σ.h.length],hI2,?_,hF.upd hS.h.rl u4⟩
 exact qx (X:=X) (kl:=[]) hS.t u4 (v:=.any) (a:=.any) trivial none
theorem a1x(hI:Inv Gl F own B w0 σ act w)(hS:Sim ρ X σ)(hF:Frm H0 ρ0 ρ σ.h){s o ty:Nat}{T:Ty}{cs:List XV}(hk:X.t.getD s .any=.agg cs)(ho:cs[o]?=some (.k (.slice none 0 0)))(hz:0<T.size) :
  ∃F' own' σ' ρ',Inv Gl F' own' B w0 σ' act w/\Sim ρ' ⟨X.t.set s (.agg (cs.set o (.row X.h.length))),X.h++[XO.row ty T false []]⟩ σ'/\Frm H0 ρ0 ρ' σ'.h:=by
 have hsl:s<X.t.length:=by
  rcases bI s X.t.length with q|q
  .exact q
  .simp[List.getD,aX q]at hk
 have CQ:s<σ.t.length:=by rw[<- hS.t.1];exact hsl
 have hst:s<act.tmps.size:=by rw[hI.tl];exact CQ
 have hv:=rP hS.t s
 rw[hk]at hv
 obtain⟨as,has,hc⟩:=hv
 have hs?:σ.t[s]?=some (.agg as):=by
  rw[ah CQ]
  simp only[List.getD,ah CQ,gF]at has
  rw[has]
 obtain⟨a,ha,hva⟩:=hc.lq ho
 have hva:a=.v (.slice none 0 0):=hva
 subst hva
 have hI1:=hI.Ea ty T.size true hz
 have hrow:R F (own++[⟨none,0,T.size,0⟩]) (.slice none 0 0) (.row σ.h.length 0 T.size 0 0):=by
  rw[<- hI.hl]
  exact .row _ _ _ _ _ _ _ pQ (by simp) ⟨_,_,rfl,by simp,λq=>by simp at q⟩ (λ_=>⟨rfl,by simp,λ_=>⟨_,dD _,by simp⟩⟩) (by first|assumption|(show 0<T.size;omega)|(show 0<_;assumption))
 have hR:=hI1.tr s _ _ (aF hst) hs?
 have hag:R F (own++[⟨none,0,T.size,0⟩]) act.tmps[s] (.agg (as.set o (.row σ.h.length 0 T.size 0 0))):=by
  obtain⟨xs,hxs,hl,h1,hRc⟩:=hR.iX
  rw[hxs]
  refine .agg xs _ (by simp[hl]) h1 λj x b p q=>?_
  rw[dh]at q
  split at q
  .rename_i hj
   subst hj
   split at q
   .cases q
    have:=(hRc o x _ p ha).dK
    subst this
    exact hrow
   .cases q
  .exact hRc j x b p q
 obtain⟨u1,u2⟩:=ug (ty:=ty) (ys:=([]:List T.den)) (as:=[]) hS.h rfl .nil
 have hI2:=hI1.put hag (some s)
 rw[QH hst]at hI2
 refine⟨F,_,_,ρ++[σ.h.length],hI2,?_,hF.upd hS.h.rl u1⟩
 refine qx (X:=X) (kl:=[]) hS.t u1 (v:=.agg (cs.set o (.row X.h.length))) (a:=.agg (as.set o (.row σ.h.length 0 T.size 0 0))) ⟨_,rfl,?_⟩ (some s)
 refine bn.set ?_ u2 o
 have:=u1.tr.cells hc
 rw[wu]at this
 exact this
theorem Wd{T:Ty}{b:AV}{x:T.den}(h:Wp b (Ty.enc T x))(hT:T.oq=false):b.cells=[b]:=by
 have hs:=RZ T x
 generalize Ty.enc T x=e at h hs
 cases h with
 |agg=>simp only[shp]at hs;rw[hT]at hs;cases hs
 |refl =>
  cases b with
  |agg cs=>simp only[shp]at hs;rw[hT]at hs;cases hs
  |_=>rfl
 |_=>rfl
theorem a1y(hI:Inv Gl F own B w0 σ act w)(hS:Sim ρ X σ)(hF:Frm H0 ρ0 ρ σ.h){id o ty':Nat}{T:Ty}{cs:List XV}{c:XV}{x:T.den}(he:X.h[id]?=some (.box ty' cs))(ho:cs[o]?=some c)(hx:toD X.h T c=some x)(hT:T.oq=false) :
  ∃F' own' σ' ρ',Inv Gl F' own' B w0 σ' act w/\Sim ρ' ⟨X.t,(ko X.h (fE c)).set id (.box ty' (cs.set o (.d T x)))⟩ σ'/\Frm H0 ρ0 ρ' σ'.h:=by
 have zV:id<X.h.length:=(aj.1 he).1
 obtain⟨O,hO,o1,o2,o3,o4,e,o5,hc⟩:=hS.h.hr id _ he
 have hkH:ρ.getD id 0<σ.h.length:=hS.h.lt zV
 obtain⟨a,ha,hva⟩:=hc.lq ho
 obtain⟨b,k1,k2,k3,k4⟩:=wW hS.h hx (VA.of1 hva)
 obtain⟨F1,hF1,hI1,hkp⟩:=hI.um (dU a)
 have hu:=Upd.frz _ hS.h k4
 rw[<- k3]at hu
 have hni:∀j∈fE c,j≠id:=λj hj q=>by
  obtain⟨ty,T',fz,es,e'⟩:=k4 j hj
  rw[q,he]at e';cases e'
 have he1:(ko X.h (fE c))[id]?=some (.box ty' cs):=by
  have key:∀(ids:List Nat) (g:List XO),(∀j∈ids,j≠id)->(ko g ids)[id]?=g[id]?:=by
   intro ids
   induction ids with
   |nil=>intro g _;rfl
   |cons j ids ih =>
    intro g hn
    simp only[ko,eX]
    have:=λg=>ih g λi hi=>hn i (by simp[hi])
    simp only[ko]at this
    rw[this]
    cases hg:g[j]? with
    |none=>rfl
    |some o=>exact aC (hn j (by simp))
  rw[key _ _ hni];exact he
 have hO1:(freeze σ.h (dU a))[ρ.getD id 0]?=some O:=by
  rw[hu.fr _ hkH (λj hj hjl q=>hni j hj (hS.h.inj hjl zV q))];exact hO
 have hbc:=Wd k2 hT
 have hI2:=hI1.Zm hO1 o5 o3 ha (a':=b) (λen g cs' fr y p1 p2 p3 p4 p5=>by
  obtain⟨q1,q2,q3,q4,q5,q6,q7,q8⟩:=hI.objs _ en O p1 hO
  rw[p2]at q8
  obtain⟨cs2,⟨fr2,r1,_⟩,r2,r3,r4⟩:=q8
  rw[p3]at r1
  cases r1
  obtain⟨y',s1,s2,s3⟩:=r3 0 o e a (by rw[o5];rfl) ha
  rw[p4]at s1
  cases s1
  unfold RC at s3
  rw[if_neg (by rw[o3];simp)]at s3
  exact .pure (nQ hI hF1 s3 k1 hkp).1) hbc
 have hcl:=Ch (e:=e) (a:=b) hbc ha
 have hob:wM ρ (ko X.h (fE c)) (.box ty' (cs.set o (.d T x))) { O with es:=[Ci e o b] }:=by
  refine⟨o1,by simpa using o2,o3,o4,_,rfl,?_⟩
  rw[hcl]
  refine bn.set ?_ (show V1 ρ (ko X.h (fE c)) (.d T x) b from k2) o
  have:=hu.tr.cells hc
  rw[wu]at this
  exact this
 have u3:=Upd.set hu.hs he1 (o':=.box ty' (cs.set o (.d T x))) trivial hob
 have u4:=hu.trans u3 hS.h.rl
 refine⟨F1,_,_,ρ,hI2,?_,hF.upd hS.h.rl u4⟩
 exact qx (X:=X) (kl:=[]) hS.t u4 (v:=.any) (a:=.any) trivial none
theorem a5w{nf:Nat}(hnf:nf=ρ0.length)(hN:w0.N<=H0.length)(hcl:ClH H0.length H0)(hI:Inv Gl F own B w0 σ act w)(hS:Sim ρ X σ)(hF:Frm H0 ρ0 ρ σ.h)(p:Pre):∃F' own' σ' ρ',Inv Gl F' own' B w0 σ' act w/\Sim ρ' (Ct nf X p) σ'/\Frm H0 ρ0 ρ' σ'.h:=by
 cases p with
 |gh s ty T =>
  simp only[Ct]
  split
  .rename_i hk
   split
   .rename_i hz
    have hz:=wG hz
    have hsl:s<X.t.length:=by
     rcases bI s X.t.length with q|q
     .exact q
     .simp[List.getD,aX q]at hk
    have CQ:s<σ.t.length:=by rw[<- hS.t.1];exact hsl
    have hv:=rP hS.t s
    rw[hk]at hv
    have ha:=Ga hv
    have hs?:σ.t[s]?=some (.v (.slice none 0 0)):=by
     rw[ah CQ]
     simp only[List.getD,ah CQ,gF]at ha
     rw[ha]
    obtain⟨own',hI'⟩:=hI.YW (s,ty,T.size)
    have hgh:ghost σ (s,ty,T.size)=⟨σ.t.set s (.row σ.h.length 0 T.size 0 0),σ.h++[⟨ty,T.size,0,true,[]⟩]⟩:=by
     simp only[ghost,hs?,hz,if_true]
    rw[hgh]at hI'
    obtain⟨u1,u2⟩:=ug (ty:=ty) (ys:=([]:List T.den)) (as:=[]) hS.h rfl .nil
    refine⟨F,own',_,ρ++[σ.h.length],hI',?_,?_⟩
    .exact qx (X:=X) (kl:=[]) hS.t u1 (VT.of1 u2) (some s)
    .exact hF.upd hS.h.rl u1
   .exact⟨F,own,σ,ρ,hI,hS,hF⟩
  .exact⟨F,own,σ,ρ,hI,hS,hF⟩
 |fz s T =>
  simp only[Ct]
  split
  .rename_i x hx
   have hsl:s<X.t.length:=by
    rcases bI s X.t.length with q|q
    .exact q
    .rw[show X.t.getD s .any=.any by simp[List.getD,aX q]]at hx
     cases T<;>simp[toD,lst]at hx
   have CQ:s<σ.t.length:=by rw[<- hS.t.1];exact hsl
   have hst:s<act.tmps.size:=by rw[hI.tl];exact CQ
   have hv:=rP hS.t s
   have hnt:∀us,X.t.getD s .any≠.tup us:=λus q=>by
    rw[q]at hx
    cases T<;>simp[toD,lst]at hx
   obtain⟨b,k1,k2,k3,k4⟩:=wW hS.h hx (hv.wm hnt)
   obtain⟨F1,hF1,hI1,hkp⟩:=hI.um (dU (σ.t.getD s .any))
   have hsg:σ.t[s]?=some (σ.t.getD s .any):=by simp[List.getD,ah CQ]
   have hR:=hI.tr s _ _ (aF hst) hsg
   obtain⟨r1,_,_⟩:=nQ hI hF1 hR k1 hkp
   have hI2:=hI1.put (.pure r1) (some s)
   rw[QH hst]at hI2
   have hu:=Upd.frz _ hS.h k4
   rw[<- k3]at hu
   refine⟨F1,own,_,ρ,hI2,?_,?_⟩
   .exact qx (X:=X) (kl:=[]) hS.t hu (Dx k2) (some s)
   .exact hF.upd hS.h.rl hu
  .exact⟨F,own,σ,ρ,hI,hS,hF⟩
 |ghc s o ty T =>
  simp only[Ct]
  split
  case h_2=>exact⟨F,own,σ,ρ,hI,hS,hF⟩
  split
  case h_2=>exact⟨F,own,σ,ρ,hI,hS,hF⟩
  rename_i he
  split
  case h_2=>exact⟨F,own,σ,ρ,hI,hS,hF⟩
  rename_i ho
  split
  .rename_i hz
   exact a1w hI hS hF he ho (wG hz)
  .exact⟨F,own,σ,ρ,hI,hS,hF⟩
 |gha s o ty T =>
  simp only[Ct]
  split
  case h_2=>exact⟨F,own,σ,ρ,hI,hS,hF⟩
  rename_i hk
  split
  case h_2=>exact⟨F,own,σ,ρ,hI,hS,hF⟩
  rename_i ho
  split
  .rename_i hz
   exact a1x hI hS hF hk ho (wG hz)
  .exact⟨F,own,σ,ρ,hI,hS,hF⟩
 |fzc s o T =>
  simp only[Ct]
  split
  case h_2=>exact⟨F,own,σ,ρ,hI,hS,hF⟩
  split
  case h_2=>exact⟨F,own,σ,ρ,hI,hS,hF⟩
  rename_i he
  split
  case h_2=>exact⟨F,own,σ,ρ,hI,hS,hF⟩
  rename_i ho
  split
  case h_2=>exact⟨F,own,σ,ρ,hI,hS,hF⟩
  rename_i hx
  split
  .exact⟨F,own,σ,ρ,hI,hS,hF⟩
  .rename_i hT
   exact a1y hI hS hF he ho hx (by simpa using hT)
theorem OA{nf:Nat}(hnf:nf=ρ0.length)(hN:w0.N<=H0.length)(hcl:ClH H0.length H0)(pre:List Pre):∀{X:XS} {F:Addr->Option Value} {own:List Ent} {σ:St} {ρ:List Nat},Inv Gl F own B w0 σ act w->Sim ρ X σ->Frm H0 ρ0 ρ σ.h->∃F' own' σ' ρ',Inv Gl F' own' B w0 σ' act w/\Sim ρ' (xB nf pre X) σ'/\Frm H0 ρ0 ρ' σ'.h:=by
 induction pre with
 |nil=>intro X F own σ ρ hI hS hF;exact⟨F,own,σ,ρ,hI,hS,hF⟩
 |cons p pre ih =>
  intro X F own σ ρ hI hS hF
  obtain⟨F',own',σ',ρ',a,b,d⟩:=a5w hnf hN hcl hI hS hF p
  exact ih a b d
theorem TN:∀(n j:Nat) (l:List Nat),vK n j l=true->∃r,l=List.range' j n++r:=by
 intro n
 induction n with
 |zero=>intro j l _;exact⟨l,by simp⟩
 |succ n ih =>
  intro j l h
  cases l with
  |nil=>simp[vK]at h
  |cons a l =>
   simp only[vK,aB]at h
   have:=beq_eq h.1
   subst this
   obtain⟨r,rfl⟩:=ih (a+1) l h.2
   exact⟨r,by simp[oh]⟩
theorem Ke{H:List aH}{foc:List Nat}{nf:Nat}{h:List XO}(hs:HS ρ h H)(hF:Frm H0 ρ0 ρ H)(hnf:nf=ρ0.length)(hst:vK nf 0 foc=true)(hnd:foc.Nodup)(hlt:∀id∈foc,id<h.length):Frm H0 ρ0 (foc.map λid=>ρ.getD id 0) H:=by
 subst hnf
 obtain⟨r,rfl⟩:=TN _ _ _ hst
 obtain⟨l,hl,hq⟩:=hF.pre
 refine⟨⟨r.map λid=>ρ.getD id 0,?_,λx hx=>?_⟩,hF.ge,hF.fr⟩
 .rw[aU]
  congr 1
  apply List.ext_getElem
  .simp
  .intro i h1 h2
   simp only[bA,List.length_range']at h1
   simp only[List.getElem_map,List.getElem_range',dD,gN]
   rw[hl,lG h1]
   simp[List.getD,ah h1]
 .obtain⟨id,hid,rfl⟩:=bX.1 hx
  have hge:ρ0.length<=id:=by
   rcases bI id ρ0.length with q|q
   .exfalso
    rw[dN]at hnd
    exact hnd.2.2 id (by simp[List.mem_range'_1,q]) id hid rfl
   .exact q
  have zV:id<ρ.length:=by rw[hs.rl];exact hlt id (by simp[hid])
  rw[hl]at zV ⊢
  simp only[ak]at zV
  have:(ρ0++l).getD id 0=l[id-ρ0.length]'(by omega):=by
   simp only[List.getD]
   rw[aO hge,ah (by omega)];rfl
  rw[this]
  exact hq _ (jA _)
theorem Kk{nf:Nat}(hN:w0.N<=H0.length)(hcl:ClH H0.length H0){pre:List Pre}{sh:Sh}{s:Ty.bO sh.tys}(hI:Inv Gl F own B w0 σ act w)(hS:Sim ρ X σ)(hF:Frm H0 ρ0 ρ σ.h)(hnf:nf=ρ0.length)(hx:zX nf pre sh X=some s):∃F' own' σ' ρ',Inv Gl F' own' B w0 σ' act w/\Sim ρ' (emb sh s) σ'/\Frm H0 ρ0 ρ' σ'.h:=by
 obtain⟨F',own',σ',ρ',hI',hS',hF'⟩:=OA hnf hN hcl pre hI hS hF
 unfold zX at hx
 split at hx
 .rename_i foc x he
  split at hx
  .rename_i hb
   cases hx
   simp only[aB]at hb
   have hn:(xB nf pre X).t.length=sh.n:=by
    have h1:=beq_eq hb.2
    rw[<- h1,hS'.t.1,hS.t.1,<- hI'.tl,<- hI.tl]
   obtain⟨e1,e2,e3,e4⟩:=BH hS'.t hS'.h hn he
   exact⟨F',own',σ',_,hI',e1,Ke hS'.h hF' hnf hb.1 e4 e2⟩
  .cases hx
 .cases hx
def Std{β:Type}(H0:List aH)(ρ0:List Nat)(K:Exit->XS->Option β)(r:β)(e:Exit)(τ:St):Prop:=∃ρ' X',Sim ρ' X' τ/\Frm H0 ρ0 ρ' τ.h/\K e X'=some r
theorem Tz(hc:pF P c)(hm:P.follows .mixedOrders=true){hl0:List Nat}{N nf:Nat}(hN:w0.N=N)(hN0:w0.N<=H0.length)(hcl:ClH H0.length H0)(hnf:nf=ρ0.length):∀(code:Code) (xc:XC),cC P hl0 code=some xc.er->∀(β:Type) (K:Exit->XS->Option β) (r:β) (X:XS) (ρ:List Nat) (σ:St) (F:Addr->Option Value) (own:List Ent) (act:Act) (w:World),
  xwp c nf xc β K X=some r->Sim ρ X σ->Frm H0 ρ0 ρ σ.h->Inv (gx c.GX) F own B w0 σ act w->code.wp P (λe a w=>NG e/\lY (gx c.GX) B w0 (Std H0 ρ0 K r e) a w) act w:=by
 intro code
 induction code with
 |skip =>
  intro xc hcc β K r X ρ σ F own act w hx hS hF hI
  cases xc<;>simp only[cC,XC.er,dW,reduceCtorEq]at hcc
  exact wp_skip ⟨mY,F,own,σ,hI,ρ,X,hS,hF,hx⟩
 |region id ops draw =>
  intro xc hcc β K r X ρ σ F own act w hx hS hF hI
  refine mP hm hN _ _ hcc _ σ F own act w ?_ hI
  have hsp:SpR ρ X.h σ []:=λq hq=>by simp at hq
  cases xc with
  |ops d l=>exact a4P hc l X [] ρ σ hS hsp hF hx
  |pO U l =>
   refine⟨(U.filter λj=>Nat.blt j X.h.length).map λj=>ρ.getD j 0,a0T (m:=X.h.length) (N:=σ.h.length) (U:=U) hc l X [] ρ σ hS hsp hF (λi hi hi'=>⟨hS.h.lt hi,λq=>?_,λq=>bX.2 ⟨i,gL.2 ⟨q,Nat.ble_eq_true_of_le hi⟩,rfl⟩⟩) (λi hi hi'=>by rw[hS.h.rl]at hi';omega) (aS _) (aS _) hx⟩
   obtain⟨j,hj,he⟩:=bX.1 q
   obtain⟨h1,h2⟩:=gL.1 hj
   have:=getD_inj hS.h.nd (by rw[hS.h.rl];exact wG h2) hi' he
   subst this;exact h1
  |_ =>
   exfalso
   cases draw with
   |false =>
    simp only[cC,XC.er]at hcc
    rw[fB]at hcc
    obtain⟨_,_,q⟩:=hcc
    cases q
   |true =>
    simp only[cC,XC.er]at hcc
    repeat' (split at hcc)
    all_goals cases hcc
 |seq a b iha ihb =>
  intro xc hcc β K r X ρ σ F own act w hx hS hF hI
  simp only[cC]at hcc
  split at hcc
  .rename_i x y hxa hyb
   cases xc<;>simp only[XC.er,dW,reduceCtorEq,C.seq.injEq]at hcc
   case seq xa xb =>
    obtain⟨rfl,rfl⟩:=hcc
    refine wp_seq (wp_mono (iha xa hxa β _ r X ρ σ F own act w hx hS hF hI) ?_)
    rintro e a1 w1 ⟨ng,F1,dO,τ,hI1,ρ1,X1,hS1,hF1,hK⟩
    cases e with
    |normal=>exact ihb xb hyb β K r X1 ρ1 τ F1 dO a1 w1 hK hS1 hF1 hI1
    |_=>exact⟨ng,F1,dO,τ,hI1,ρ1,X1,hS1,hF1,hK⟩
   case TU pre sh xa xb =>
    obtain⟨rfl,rfl⟩:=hcc
    simp only[xwp]at hx
    generalize hA:xwp c nf xa (Ty.bO sh.tys⊕β) (λe Y=>match e with
     |.normal=>match zX nf pre sh Y with
      |some s'=>some (.inl s')
      |none=>none
     |e=>Option.map Sum.inr (K e Y)) X=oA at hx
    unfold lV at hx
    split at hx
    .rename_i s0
     refine wp_seq (wp_mono (iha xa hxa _ _ _ X ρ σ F own act w hA hS hF hI) ?_)
     rintro e a1 w1 ⟨ng,F1,dO,τ,hI1,ρ1,X1,hS1,hF1,hK⟩
     cases e with
     |normal =>
      simp only at hK
      split at hK
      .rename_i s2 hs2
       cases hK
       obtain⟨F2,zL,σ2,ρ2,hI2,hS2,hF2⟩:=Kk hN0 hcl hI1 hS1 hF1 hnf hs2
       exact ihb xb hyb β K r _ ρ2 σ2 F2 zL a1 w1 hx hS2 hF2 hI2
      .cases hK
     |_ =>
      simp only[fB]at hK
      obtain⟨_,_,q⟩:=hK
      cases q
    .rename_i r0
     cases hx
     refine wp_seq (wp_mono (iha xa hxa _ _ _ X ρ σ F own act w hA hS hF hI) ?_)
     rintro e a1 w1 ⟨ng,F1,dO,τ,hI1,ρ1,X1,hS1,hF1,hK⟩
     cases e with
     |normal =>
      simp only at hK
      split at hK<;>cases hK
     |_ =>
      simp only[fB]at hK
      obtain⟨r2,hr2,q⟩:=hK
      cases q
      exact⟨ng,F1,dO,τ,hI1,ρ1,X1,hS1,hF1,hr2⟩
    .cases hx
  .cases hcc
 |cond c0 a b iha ihb =>
  intro xc hcc β K r X ρ σ F own act w hx hS hF hI
  simp only[cC]at hcc
  split at hcc
  .rename_i x y hxa hyb
   cases xc<;>simp only[XC.er,dW,reduceCtorEq,C.cond.injEq]at hcc
   rename_i o xa xb
   obtain⟨rfl,rfl,rfl⟩:=hcc
   simp only[xwp]at hx
   have hv:=Bv (c:=c) hS (bH c0)
   split at hx
   case h_2=>cases hx
   rename_i t ht
   rw[ht]at hv
   have hva:=tO hv
   have he:=hI.ev c0
   rw[hva]at he
   refine wp_cond he.dK ?_
   have lit:∀v:Bool,St.val (gx c.GX) σ (bH c0)=.v (.bool v)->Sim ρ (K3 (bH c0) v X) σ:=by
    intro v hv
    unfold K3
    split
    .rename_i i hi
     rw[hi]at hv
     exact⟨Ob hS.t hv,hS.h⟩
    .exact hS
   have key:∀v:Bool,St.val (gx c.GX) σ (bH c0)=.v (.bool v)->cond v (xwp c nf xa β K (K3 (bH c0) true X)) (xwp c nf xb β K (K3 (bH c0) false X))=some r->Code.wp P (if v=true then a else b) (λe a w=>NG e/\lY (gx c.GX) B w0 (Std H0 ρ0 K r e) a w) act w:=by
    intro v hv hx
    cases v with
    |true=>simp only[if_true];exact iha xa hxa β K r _ ρ σ F own act w hx (lit true hv) hF hI
    |false=>simp only[dH,if_false];exact ihb xb hyb β K r _ ρ σ F own act w hx (lit false hv) hF hI
   exact key t hva hx
  .cases hcc
 |block id b ih =>
  intro xc hcc β K r X ρ σ F own act w hx hS hF hI
  simp only[cC]at hcc
  cases hb:cC P hl0 b with
  |none=>rw[hb]at hcc;cases hcc
  |some x =>
   rw[hb]at hcc
   cases xc<;>simp only[XC.er,bq,dW,reduceCtorEq,C.block.injEq]at hcc
   rename_i id' xb
   obtain⟨rfl,rfl⟩:=hcc
   refine wp_block (wp_mono (ih xb hb β _ r X ρ σ F own act w hx hS hF hI) ?_)
   rintro e a1 w1 ⟨ng,F1,dO,τ,hI1,ρ1,X1,hS1,hF1,hK⟩
   cases e with
   |exit i =>
    simp only at hK
    simp only[Exit.inBlock]
    by_cases hi:i=id
    .rw[if_pos (by rw[hi];simp)]at hK
     rw[if_pos hi]
     exact⟨mY,F1,dO,τ,hI1,ρ1,X1,hS1,hF1,hK⟩
    .rw[if_neg (λq=>hi (beq_eq q))]at hK
     rw[if_neg hi]
     exact⟨Bz _,F1,dO,τ,hI1,ρ1,X1,hS1,hF1,hK⟩
   |_=>exact⟨ng,F1,dO,τ,hI1,ρ1,X1,hS1,hF1,hK⟩
 |loop b ih =>
  intro xc hcc β K r X ρ σ F own act w hx hS hF hI
  simp only[cC]at hcc
  cases hb:cC P hl0 b with
  |none=>rw[hb]at hcc;cases hcc
  |some x =>
   rw[hb]at hcc
   cases xc<;>simp only[XC.er,bq,dW,reduceCtorEq,C.loop.injEq]at hcc
   case loop pre sh xb =>
    subst hcc
    simp only[xwp]at hx
    split at hx
    case h_2=>cases hx
    rename_i s0 hs0
    obtain⟨F0,AY,σ0,ρ0',hI0,hS0,hF0⟩:=Kk hN0 hcl hI hS hF hnf hs0
    obtain⟨n,hn⟩:=yX.1 hx
    have key:∀ (n:Nat) (s:Ty.bO sh.tys) (ρ:List Nat) (σ:St) (F:Addr->Option Value) (own:List Ent) (act:Act) (w:World),xw (fun s=>xwp c nf xb (Ty.bO sh.tys ⊕ β) (fun e Y=>match e with
      |.normal=>match zX nf pre sh Y with
       |some s'=>some (.inl s')
       |none=>none
      |e=>Option.map Sum.inr (K e Y)) (emb sh s)) n s=some r->Sim ρ (emb sh s) σ->Frm H0 ρ0 ρ σ.h->Inv (gx c.GX) F own B w0 σ act w->Code.rounds P b (λe a w=>NG e/\lY (gx c.GX) B w0 (Std H0 ρ0 K r e) a w) n act w:=by
     intro n
     induction n with
     |zero=>intro s ρ σ F own act w hr;cases hr
     |succ n ihn =>
      intro s ρ σ F own act w hr hS hF hI
      simp only[xw]at hr
      rw[rounds_succ]
      split at hr
      .rename_i s' hs'
       refine wp_mono (ih xb hb _ _ _ _ ρ σ F own act w hs' hS hF hI) ?_
       rintro e a1 w1 ⟨ng,F1,dO,τ,hI1,ρ1,X1,hS1,hF1,hK⟩
       cases e with
       |normal =>
        simp only at hK
        split at hK
        .rename_i s2 hs2
         cases hK
         obtain⟨F2,zL,σ2,ρ2,hI2,hS2,hF2⟩:=Kk hN0 hcl hI1 hS1 hF1 hnf hs2
         exact ihn s' ρ2 σ2 F2 zL a1 w1 hr hS2 hF2 hI2
        .cases hK
       |_ =>
        simp only[fB]at hK
        obtain⟨_,_,q⟩:=hK
        cases q
      .rename_i r' hs'
       cases hr
       refine wp_mono (ih xb hb _ _ _ _ ρ σ F own act w hs' hS hF hI) ?_
       rintro e a1 w1 ⟨ng,F1,dO,τ,hI1,ρ1,X1,hS1,hF1,hK⟩
       cases e with
       |normal =>
        simp only at hK
        split at hK<;>cases hK
       |_ =>
        simp only[fB]at hK
        obtain⟨r2,hr2,q⟩:=hK
        cases q
        exact⟨ng,F1,dO,τ,hI1,ρ1,X1,hS1,hF1,hr2⟩
      .cases hr
    exact wp_loop_rounds n (key n s0 ρ0' σ0 F0 AY act w hn hS0 hF0 hI0)
 |exit id =>
  intro xc hcc β K r X ρ σ F own act w hx hS hF hI
  cases xc<;>simp only[cC,XC.er,dW,reduceCtorEq,C.exit.injEq]at hcc
  subst hcc
  exact wp_exit ⟨Bz _,F,own,σ,hI,ρ,X,hS,hF,hx⟩
 |ret =>
  intro xc hcc β K r X ρ σ F own act w hx hS hF hI
  cases xc<;>simp only[cC,XC.er,dW,reduceCtorEq]at hcc
  exact wp_ret ⟨Yp,F,own,σ,hI,ρ,X,hS,hF,hx⟩
 |label l =>
  intro xc hcc β K r X ρ σ F own act w hx hS hF hI
  cases xc<;>simp only[cC,XC.er,dW,reduceCtorEq]at hcc
  exact wp_label ⟨mY,F,own,σ,hI,ρ,X,hS,hF,hx⟩
 |scope b ih =>
  intro xc hcc β K r X ρ σ F own act w hx hS hF hI
  refine wp_scope_straight (wp_mono (ih xc hcc β K r X ρ σ F own act w hx hS hF hI) ?_)
  rintro e a1 w1 ⟨ng,hK⟩
  cases e with
  |goto l=>exact absurd rfl (ng l)
  |_=>exact⟨ng,hK⟩
 |_=>intro xc hcc;cases hcc
theorem Dp(hc:pF P c)(hm:P.follows .mixedOrders=true){hl0:List Nat}{N nf:Nat}(hN:w0.N=N)(hN0:w0.N<=H0.length)(hcl:ClH H0.length H0)(hnf:nf=ρ0.length):∀(code:Code) (xc:XC),cC P hl0 code=some xc.er->∀(β:Type) (K:Exit->XS->Option β) (r:β) (X:XS) (ρ:List Nat) (σ:St) (F:Addr->Option Value) (own:List Ent) (act:Act) (w:World),
  xwp c nf xc β K X=some r->Sim ρ X σ->Frm H0 ρ0 ρ σ.h->Inv (gx c.GX) F own B w0 σ act w->code.wp P (λe a w=>lY (gx c.GX) B w0 (Std H0 ρ0 K r e) a w) act w:=by
 intro code xc hcc β K r X ρ σ F own act w hx hS hF hI
 exact wp_mono (Tz hc hm hN hN0 hcl hnf code xc hcc β K r X ρ σ F own act w hx hS hF hI) λe a w h=>h.2
end
section
variable{P:Program}{c:Cfg}{ρ:List Nat}{X:XS}{σ:St}
theorem G7(hS:Sim ρ X σ):∀(rv:List RV) (vs:List XV),xU c X rv=some vs->∃p l,nY (gx c.GX) σ rv=some (p,l)/\p/\bn (VT ρ X.h) vs l:=by
 intro rv
 induction rv with
 |nil=>intro vs h;cases h;exact⟨True,[],rfl,trivial,.nil⟩
 |cons v rv ih =>
  intro vs h
  cases v with
  |t i =>
   simp only[xU]at h
   split at h
   .rename_i l hl
    cases h
    obtain⟨p,m,h1,h2,h3⟩:=ih l hl
    exact⟨p,_,by simp only[nY,h1,bq],h2,.cons (rP hS.t i) h3⟩
   .cases h
  |c i sz ag =>
   simp only[xU]at h
   split at h
   .rename_i v1 kl h' l hst hl
    cases h
    obtain⟨p,m,h1,h2,h3⟩:=ih l hl
    obtain⟨q,a,H',ρ',tch,e1,e2,e3,e4,e5⟩:=Dq (.load sz ag (.t i)) hS.h (Bv hS) _ _ _ _ hst rfl
    obtain⟨c1,c2⟩:=Dr (i:=.load sz ag (.t i)) (by simp[I.cls]) hst
    subst c1 c2
    have hρ:=Kv e3 hS.h.rl rfl
    subst hρ
    exact⟨q/\p,a::m,by simp only[nY,e1,h1],⟨e2,h2⟩,.cons e4 h3⟩
   .cases h
theorem a2J:∀(ps:List Ty) (x:Ty.bO ps),(encs ps x).length=ps.length:=by
 intro ps
 induction ps with
 |nil=>intro x;rfl
 |cons T ps ih=>intro x;simp only[encs,aL,ih]
theorem Kw(ρ:List Nat)(h:List XO)(n:Nat):bn (VT ρ h) (List.replicate n .any) (List.replicate n AV.any) :=
 ⟨by simp,λi x a p q=>by
  have:=gI (bP p)
  subst this;trivial⟩
theorem Og{Gl:Nat->Option (List AV)}{rv:List RV}{p:Prop}{l:List AV}(e1:nY Gl σ rv=some (p,l))(hone:¬∃a,l=[a]):rZ Gl σ rv=some (p,.tup l):=by
 unfold rZ
 rw[e1]
 match l,hone with
 |[],_=>rfl
 |[a],h=>exact absurd ⟨a,rfl⟩ h
 |a::b::l,_=>rfl
theorem a6Q{rv:List RV}{rs:List Ty}{y:Ty.bO rs}{e:Exit}(hS:Sim ρ X σ)(hK:TB c rv rs e X=some y):Ends (gx c.GX) rv (jX (encs rs y)) e σ:=by
 have key:∀vs,xU c X rv=some vs->zk X.h rs vs=some y->∃p a b,rZ (gx c.GX) σ rv=some (p,a)/\p/\CG σ.h a=some b/\Wk b (jX (encs rs y)):=by
  intro vs h1 h2
  obtain⟨p,l,e1,e2,e3⟩:=G7 hS rv vs h1
  obtain⟨bs,k1,k2,k3,k4⟩:=QA hS.h rs vs y l h2 e3
  by_cases hone:∃a,l=[a]
  .obtain⟨a,rfl⟩:=hone
   obtain⟨v,vs',rfl,hv,hvs⟩:=e3.cons_right
   have:=hvs.L6
   subst this
   simp only[dV]at k1
   split at k1
   .rename_i b l' hb hl'
    cases hl'
    cases k1
    obtain⟨en,r,he,hw,ht⟩:=k2.cZ
    have hr:=ht.gT
    subst hr
    refine⟨p,a,b,by simp only[rZ,e1],e2,?_,?_⟩
    ·have hnt:∀ us,a ≠ .tup us:=fun us q=>by
      subst q
      simp[gW,jY]at hb
     cases a<;>first|exact hb|exact absurd rfl (hnt _)
    .rw[he];exact hw.wk
   .cases k1
  .refine⟨p,.tup l,.tup bs,?_,e2,by simp only[CG,k1,bq],?_⟩
   .exact Og e1 hone
   ·have hlen:l.length=(encs rs y).length:=by
     have h3:=k2.1
     have:∀{as bs:List AV},dV σ.h as=some bs->as.length=bs.length:=by
      intro as
      induction as with
      |nil=>intro bs q;cases q;rfl
      |cons a as ih =>
       intro bs q
       simp only[dV]at q
       split at q
       .rename_i b m _ hm;cases q;simp[ih hm]
       .cases q
     rw[this k1,h3]
    have hot:jX (encs rs y)=.tup (encs rs y):=by
     unfold jX
     split
     .rename_i a ha
      exfalso
      rw[ha]at hlen
      match l,hlen with
      |[x],_=>exact hone ⟨x,rfl⟩
     .rfl
    rw[hot]
    exact Wk.tup k2.1 λj a b p q=>(k2.2 j a b p q).wk
 unfold TB at hK
 cases e with
 |normal =>
  simp only at hK
  split at hK
  .rename_i vs h1;exact⟨trivial,key vs h1 hK⟩
  .cases hK
 |ret =>
  simp only at hK
  split at hK
  .rename_i vs h1;exact⟨trivial,key vs h1 hK⟩
  .cases hK
 |_=>cases hK
theorem pok(hm:P.follows .mixedOrders=true)(hc:pF P c){f n:Nat}{xc:XC}{rv:List RV}{ps rs:List Ty}{run:Ty.bO ps->Option (Ty.bO rs)}(hf:Fn P f n xc.er rv)(hrun:∀x,a8N c xc n rv ps rs x=run x):POk P (gx c.GX) ⟨f,ps,rs,run⟩:=by
 refine⟨hf.callable,?_⟩
 intro x y hy
 have hy:run x=some y:=hy
 rw[<- hrun]at hy
 obtain⟨fn,hl,h1,h2,h3,rfl,_⟩:=hf
 cases hb:fn.body with
 |none=>rw[hb]at h2;cases h2
 |some code =>
  rw[hb]at h2
  refine Pure.ofW h1 hb h3 ?_
  intro F own B w0 act w hN hI
  have hS:Sim [] ⟨Fq ps x++List.replicate (fn.ntmps-ps.length) .any,[]⟩ ⟨encs ps x++List.replicate (fn.ntmps-(encs ps x).length) .any,[]⟩:=by
   refine⟨?_,rfl,uq,λi o q=>by simp at q⟩
   rw[a2J]
   exact((Py ps x).mono λ_ _ q=>VT.ofA q).append (Kw _ _ _)
  refine wp_mono (Dp (H0:=[]) (ρ0:=[]) hc hm hN (iY hN) (λj O q=>by simp at q) rfl code xc h2 _ (TB c rv rs) y _ [] _ F own act w hy hS (Frm.refl [] []) hI) ?_
  rintro e a1 w1 ⟨F1,dO,τ,hI1,ρ1,X1,hS1,hF1,hK⟩
  exact⟨F1,dO,τ,hI1,a6Q hS1 hK⟩
theorem Sb{ρ:List Nat}{sh:Sh}{x:Ty.bO sh.tys}{as:List AV}{H:List aH}(hS:Sim ρ (emb sh x) ⟨as,H⟩):as.length=sh.n:=by
 have h1:=hS.t.1
 rw[<- h1]
 have hv:∀(vs:List (Nat×Ty)) (r:List Ty) (x:Ty.bO (zD vs r)) (b:List XV),(xO vs r x b).1.length=b.length:=by
  intro vs
  induction vs with
  |nil=>intro r x b;rfl
  |cons p vs ih=>intro r x b;obtain⟨s,T⟩:=p;simp only[xO];rw[ih];simp
 have hr:∀(refs:List (Nat×SR)) (r:List Ty) (x:Ty.bO (iE refs r)) (b:List XV),(nK refs r x b).1.length=b.length:=by
  intro refs
  induction refs with
  |nil=>intro r x b;rfl
  |cons p refs ih =>
   intro r x b
   obtain⟨s,sr⟩:=p
   cases sr with
   |row j=>exact(ih r x _).trans (by simp)
   |ptr j i o=>exact(ih r x _).trans (by simp)
   |nil=>exact(ih r x _).trans (by simp)
   |sub j o n=>exact(ih r x _).trans (by simp)
   |agg cs=>exact(ih r _ _).trans (by simp)
 refine(hr sh.refs (SO.tys sh.objs) _ _).trans ?_
 refine(hv sh.vars _ x _).trans ?_
 simp
theorem hok(hm:P.follows .mixedOrders=true)(hc:pF P c){f n:Nat}{xc:XC}{rv:List RV}{pre:List Pre}{ish osh:Sh}{run:Ty.bO ish.tys->Option (Ty.bO osh.tys)}{kp:List Nat}(hf:Fn P f n xc.er rv)(hrun:∀x,a3F c xc n rv pre ish osh x=run x):HOk P (gx c.GX) ⟨f,ish,osh,run,kp⟩:=by
 refine⟨hf.callable,?_⟩
 intro x y hy H ρ as hS0
 have hS0:Sim ρ (emb ish x) ⟨as,H⟩:=hS0
 have hy:run x=some y:=hy
 rw[<- hrun]at hy
 obtain⟨fn,hl,h1,h2,h3,rfl,_⟩:=hf
 cases hb:fn.body with
 |none=>rw[hb]at h2;cases h2
 |some code =>
  rw[hb]at h2
  refine fJ.ofW h1 hb h3 ?_
  intro F own B w0 act w hN hI
  have hlen:=Sb hS0
  have hS:Sim ρ ⟨(emb ish x).t++List.replicate (fn.ntmps-ish.n) .any,(emb ish x).h⟩ ⟨as++List.replicate (fn.ntmps-as.length) .any,H⟩:=by
   refine⟨?_,hS0.h⟩
   rw[hlen]
   exact hS0.t.append (Kw _ _ _)
  have hrl:ish.objs.length=ρ.length:=by
   rw[hS0.h.rl]
   have:=dn List.length (yx ish.objs (zY ish x).2)
   simp only[bA]at this
   exact this.symm
  refine wp_mono (Dp (H0:=H) (ρ0:=ρ) hc hm hN (iY hN) hI.clH hrl code xc h2 _ _ y _ ρ _ F own act w hy hS (Frm.refl H ρ) hI) ?_
  rintro e a1 w1 ⟨F1,dO,τ,hI1,ρ1,X1,hS1,hF1,hK⟩
  obtain⟨F2,zL,σ2,ρ2,hI2,hS2,hF2⟩:=OA hrl (iY hN) hI.clH pre hI1 hS1 hF1
  simp only at hK
  split at hK
  case h_2=>cases hK
  rename_i vs he hvs
  obtain⟨p,l,e1,e2,e3⟩:=G7 hS2 rv vs hvs
  have hext:∃foc,ext ish.objs.length osh ⟨vs,(xB ish.objs.length pre X1).h⟩=some (foc,y)/\vK ish.objs.length 0 foc=true/\vs.length=osh.n:=by
   unfold zX at hK
   split at hK
   .rename_i foc x' hx'
    split at hK
    .rename_i hb'
     cases hK
     simp only[aB]at hb'
     exact⟨foc,hx',hb'.1,beq_eq hb'.2⟩
    .cases hK
   .cases hK
  obtain⟨foc,hx1,hx2,hx3⟩:=hext
  obtain⟨q1,q2,q3,q4⟩:=BH (X:=⟨vs,(xB ish.objs.length pre X1).h⟩) e3 hS2.h hx3 hx1
  have hfr:=Ke hS2.h hF2 hrl hx2 q4 q2
  refine⟨F2,zL,σ2,hI2,?_,?_⟩
  .cases e<;>first|trivial|cases he
  .by_cases hone:∃a,l=[a]
   .obtain⟨a,rfl⟩:=hone
    exact⟨p,a,by simp only[rZ,e1],e2,_,[a],q1,rfl,hfr⟩
   .refine⟨p,.tup l,Og e1 hone,e2,_,l,q1,?_,hfr⟩
    unfold jX
    split
    .rename_i a;exact absurd ⟨_,rfl⟩ hone
    .rfl
theorem fJ.kz{Gl:Nat->Option (List AV)}{f:FuncId}{h0:List aH}{as:List AV}{Q0 Q:AV->List aH->Prop}(h:fJ P Gl f h0 as Q0)(hq:∀res h',Q0 res h'->∃b,gW h' res=some b/\Q b (freeze h' (dU res))):fJ P Gl f h0 as Q:=by
 intro F own B w0 t act w xs hI hxs
 refine(h F own B w0 t act w xs hI hxs).mono ?_
 rintro e w' ⟨v,res,h',F',own',rfl,hI',hR,hQ⟩
 obtain⟨b,k1,k2⟩:=hq res h' hQ
 obtain⟨F1,hF1,hI1,hkp⟩:=hI'.um (dU res)
 obtain⟨r1,_,_⟩:=nQ hI' hF1 hR k1 hkp
 exact⟨v,b,_,F1,own',rfl,hI1,.pure r1,k2⟩
theorem c0s(hm:P.follows .mixedOrders=true)(hc:pF P c){f n:Nat}{xc:XC}{rv:List RV}{pre:List Pre}{T:Ty}{ish osh:Sh}{run:Ty.bO ish.tys->Option (Ty.bO osh.tys)}{kp:List Nat}(hf:Fn P f n xc.er rv)(hrun:∀x,VX c xc n rv pre T ish osh x=run x):HOk P (gx c.GX) ⟨f,ish,osh,run,kp⟩:=by
 refine⟨hf.callable,?_⟩
 intro x y hy H ρ as hS0
 have hS0:Sim ρ (emb ish x) ⟨as,H⟩:=hS0
 have hy:run x=some y:=hy
 rw[<- hrun]at hy
 obtain⟨fn,hl,h1,h2,h3,rfl,_⟩:=hf
 refine fJ.kz (Q:=λb h=>∃ρ' rs,Sim ρ' (emb osh y) ⟨rs,h⟩/\jX rs=b/\Frm H ρ ρ' h) (Q0:=λres h'=>∃b,gW h' res=some b/\(∃ρ' rs,Sim ρ' (emb osh y) ⟨rs,freeze h' (dU res)⟩/\jX rs=b/\Frm H ρ ρ' (freeze h' (dU res)))) ?_ (λres h' q=>q)
 cases hb:fn.body with
 |none=>rw[hb]at h2;cases h2
 |some code =>
  rw[hb]at h2
  refine fJ.ofW h1 hb h3 ?_
  intro F own B w0 act w hN hI
  have hlen:=Sb hS0
  have hS:Sim ρ ⟨(emb ish x).t++List.replicate (fn.ntmps-ish.n) .any,(emb ish x).h⟩ ⟨as++List.replicate (fn.ntmps-as.length) .any,H⟩:=by
   refine⟨?_,hS0.h⟩
   rw[hlen]
   exact hS0.t.append (Kw _ _ _)
  have hrl:ish.objs.length=ρ.length:=by
   rw[hS0.h.rl]
   have:=dn List.length (yx ish.objs (zY ish x).2)
   simp only[bA]at this
   exact this.symm
  refine wp_mono (Dp (H0:=H) (ρ0:=ρ) hc hm hN (iY hN) hI.clH hrl code xc h2 _ _ y _ ρ _ F own act w hy hS (Frm.refl H ρ) hI) ?_
  rintro e a1 w1 ⟨F1,dO,τ,hI1,ρ1,X1,hS1,hF1,hK⟩
  obtain⟨F2,zL,σ2,ρ2,hI2,hS2,hF2⟩:=OA hrl (iY hN) hI.clH pre hI1 hS1 hF1
  simp only at hK
  split at hK
  case h_2=>cases hK
  rename_i v he hvs
  split at hK
  case h_2=>cases hK
  rename_i z hz
  obtain⟨p,l,e1,e2,e3⟩:=G7 hS2 rv [v] hvs
  obtain⟨a,r,rfl,hva,hr⟩:=e3.cZ
  obtain rfl:=hr.gT
  have hnt:∀us,v≠.tup us:=λus q=>by
   subst q
   cases T<;>simp[toD,lst]at hz
  obtain⟨b,k1,k2,k3,k4⟩:=wW hS2.h hz (hva.wm hnt)
  have hu:=Upd.frz _ hS2.h k4
  rw[<- k3]at hu
  have hF3:=hF2.upd hS2.h.rl hu
  have e4:bn (VT ρ2 (ko (xB ish.objs.length pre X1).h (fE v))) [.d T z] [b]:=.cons (Dx k2) .nil
  have hext:∃foc,ext ish.objs.length osh ⟨[.d T z],ko (xB ish.objs.length pre X1).h (fE v)⟩=some (foc,y)/\vK ish.objs.length 0 foc=true/\([.d T z]:List XV).length=osh.n:=by
   unfold zX at hK
   split at hK
   .rename_i foc x' hx'
    split at hK
    .rename_i hb'
     cases hK
     simp only[aB]at hb'
     exact⟨foc,hx',hb'.1,beq_eq hb'.2⟩
    .cases hK
   .cases hK
  obtain⟨foc,hx1,hx2,hx3⟩:=hext
  obtain⟨q1,q2,q3,q4⟩:=BH (X:=⟨[.d T z],ko (xB ish.objs.length pre X1).h (fE v)⟩) e4 hu.hs hx3 hx1
  have hfr:=Ke hu.hs hF3 hrl hx2 q4 q2
  refine⟨F2,zL,σ2,hI2,?_,?_⟩
  .cases e<;>first|trivial|cases he
  .exact⟨p,a,by simp only[rZ,e1],e2,b,k1,_,[b],q1,rfl,hfr⟩
theorem a7b(tt:Nat->Option Ty)(GX:GXT):pF P ⟨tt,GX,[],[]⟩:=⟨by simp,by simp⟩
theorem b6J{tt:Nat->Option Ty}{GX:GXT}{p:PI}{pis:List PI}{his:List HI}(h:POk P (gx GX) p)(hc:pF P ⟨tt,GX,pis,his⟩):pF P ⟨tt,GX,p::pis,his⟩:=⟨λq hq=>by
 rcases bD.1 hq with rfl|hq
 .exact h
 .exact hc.pis q hq,hc.his⟩
theorem b6K{tt:Nat->Option Ty}{GX:GXT}{p:HI}{pis:List PI}{his:List HI}(h:HOk P (gx GX) p)(hc:pF P ⟨tt,GX,pis,his⟩):pF P ⟨tt,GX,pis,p::his⟩:=⟨hc.pis,λq hq=>by
 rcases bD.1 hq with rfl|hq
 .exact h
 .exact hc.his q hq⟩
end
end
def eH{α β:Type}(F:(α->Option β)->α->Option β):Nat->α->Option β
 |0,_=>none
 |n+1,x=>F (eH F n) x
open Classical in
def Kg{α β:Type}(F:(α->Option β)->α->Option β)(x:α):Option β:=if h:∃v,∃N,∀n,N<=n->eH F n x=some v then some h.choose else none
section
variable{α β:Type}{F:(α->Option β)->α->Option β}
theorem Z5{x:α}{v:β}(h:Kg F x=some v):∃n,eH F n x=some v:=by
 unfold Kg at h
 split at h
 .rename_i hx
  have he:=aI h
  obtain⟨N,hN⟩:=hx.choose_spec
  exact⟨N,by rw[hN N (aS _),he]⟩
 .cases h
theorem a6M{x:α}{v:β}(N:Nat)(h:∀n,N<=n->eH F n x=some v):Kg F x=some v:=by
 have hx:∃v,∃N,∀n,N<=n->eH F n x=some v:=⟨v,N,h⟩
 unfold Kg
 rw[dif_pos hx]
 obtain⟨M,hM⟩:=hx.choose_spec
 have h1:=hM (max M N) (Nat.le_max_left _ _)
 rw[h _ (Nat.le_max_right _ _)]at h1
 exact h1.symm
variable{P:Program}{Gl:Nat->Option (List AV)}
theorem a5x{f:Nat}{ps rs:List Ty}{G:(Ty.bO ps->Option (Ty.bO rs))->Ty.bO ps->Option (Ty.bO rs)}(hc:callable P f=true)(h:∀run,POk P Gl ⟨f,ps,rs,run⟩->POk P Gl ⟨f,ps,rs,G run⟩):POk P Gl ⟨f,ps,rs,Kg G⟩:=by
 have key:∀n,POk P Gl ⟨f,ps,rs,eH G n⟩:=by
  intro n
  induction n with
  |zero=>exact⟨hc,λx y q=>by cases q⟩
  |succ n ih=>exact h _ ih
 refine⟨hc,λx y q=>?_⟩
 obtain⟨n,hn⟩:=Z5 q
 exact(key n).2 x y hn
theorem nZ{f:Nat}{ps rs:List Ty}{G:(Ty.bO ps->Option (Ty.bO rs))->Ty.bO ps->Option (Ty.bO rs)}(n:Nat)(hc:callable P f=true)(h:∀run,POk P Gl ⟨f,ps,rs,run⟩->POk P Gl ⟨f,ps,rs,G run⟩):POk P Gl ⟨f,ps,rs,eH G n⟩:=by
 induction n with
 |zero=>exact⟨hc,λx y q=>by cases q⟩
 |succ n ih=>exact h _ ih
theorem rC{f:Nat}{ish osh:Sh}{kp:List Nat}{G:(Ty.bO ish.tys->Option (Ty.bO osh.tys))->Ty.bO ish.tys->Option (Ty.bO osh.tys)}(n:Nat)(hc:callable P f=true)(h:∀run,HOk P Gl ⟨f,ish,osh,run,kp⟩->HOk P Gl ⟨f,ish,osh,G run,kp⟩):HOk P Gl ⟨f,ish,osh,eH G n,kp⟩:=by
 induction n with
 |zero=>exact⟨hc,λx y q=>by cases q⟩
 |succ n ih=>exact h _ ih
theorem a6D{f ty:Nat}{T E:Ty}{osh:Sh}{kp kp':List Nat}(hz:0<E.size){run:Ty.bO (Sh.tys ⟨2,[(1,T)],[(0,.row 0)],[.row ty E false]⟩)->Option (Ty.bO osh.tys)}(h:HOk P Gl ⟨f,⟨2,[(1,T)],[(0,.row 0)],[.row ty E false]⟩,osh,run,kp⟩):HOk P Gl ⟨f,⟨2,[(1,T)],[(0,.nil)],[]⟩,osh,λx=>run (x.1,([]:List E.den),()),kp'⟩:=by
 refine⟨h.1,λx y hy H ρ as hS=>?_⟩
 obtain⟨u1,u2⟩:=ug (ty:=ty) (ys:=([]:List E.den)) (as:=[]) hS.h rfl .nil
 have hS':=qx (kl:=[]) hS.t u1 (VT.of1 u2) (some 0)
 have hρ:ρ=[]:=bC.1 hS.h.rl
 subst hρ
 have h0:as.getD 0 .any=.v (.slice none 0 0):=Ga (rP hS.t 0)
 have hl:as.length=2:=hS.t.1.symm
 intro F own B w0 t act w xs hI hxs
 have hI':=hI.Ea ty E.size true hz
 refine(h.2 (x.1,([]:List E.den),()) y hy _ _ _ hS' F _ B w0 t act w xs hI' ⟨by rw[hxs.1];show _=(as.set 0 _).length;rw[pE],λj z a p q=>?_⟩).mono ?_
 .have q2:(as.set 0 (.row H.length 0 E.size 0 0))[j]?=some a:=q
  rw[dh]at q2
  split at q2
  .rename_i hj
   subst hj
   have hv:=(hxs.2 0 z _ p (by rw[ah (by omega)])).mono (λ_ _ r=>r) (Le.refl own)
   have e:as[0]'(by omega)=.v (.slice none 0 0):=by rw[<- h0,bB,ah (by omega)];rfl
   rw[e]at hv
   rw[if_pos (by omega)]at q2
   cases q2
   rw[hv.dK,<- hI.hl]
   exact .row _ _ _ _ _ _ _ pQ (by simp) ⟨_,_,rfl,by simp,λq=>by simp at q⟩ (λ_=>⟨rfl,by simp,λ_=>⟨_,dD _,by simp⟩⟩) hz
  .exact(hxs.2 j z a p q2).mono (λ_ _ r=>r) (Le.snoc _ _)
 .rintro e w' ⟨v,res,h',F',b4z,e1,e2,e3,ρ',rs,s1,s2,s3⟩
  refine⟨v,res,h',F',b4z,e1,e2,e3,ρ',rs,s1,s2,⟨ρ',rfl,λj hj=>?_⟩,bF (by simp) s3.ge,λj hj _=>?_⟩
  .obtain⟨l,g1,g2⟩:=s3.pre
   rw[g1]at hj
   rcases aG.1 hj with q|q
   .rw[fF,aV]at q;rw[q];exact aS _
   .have:=g2 j q;simp at this;exact Nat.le_of_succ_le this
  .rw[s3.fr j (by simp;omega) (by simp;omega),au hj]
end
inductive AT where
 |o
 |u (l:List Nat)
 |s (a b:AT)
 |d (n:Nat) (a:AT)
 |j (pre:List Pre) (sh:Sh) (a b:AT)
 |c (a b:AT)
 |b (a:AT)
 |l (pre:List Pre) (sh:Sh) (a:AT)
def sG:C->XC
 |.skip=>.skip
 |.ops d l=>.ops d l
 |.pO l=>.pO [] l
 |.seq a b=>.seq (sG a) (sG b)
 |.cond c a b=>.cond c (sG a) (sG b)
 |.block i b=>.block i (sG b)
 |.loop b=>.loop [] ⟨0,[],[],[]⟩ (sG b)
 |.exit i=>.exit i
 |.ret=>.ret
def MU(f:C->XC):Nat->C->XC
 |0,c=>f c
 |n+1,.seq a b=>.seq (sG a) (MU f n b)
 |_,c=>sG c
def toX:AT->C->XC
 |.u l,.pO r=>.pO l r
 |.s a b,.seq x y=>.seq (toX a x) (toX b y)
 |.d n a,c=>MU (toX a) n c
 |.j pre sh a b,.seq x y=>.TU pre sh (toX a x) (toX b y)
 |.c a b,.cond o x y=>.cond o (toX a x) (toX b y)
 |.b a,.block i x=>.block i (toX a x)
 |.l pre sh a,.loop x=>.loop pre sh (toX a x)
 |_,c=>sG c
theorem rF:∀c,(sG c).er=c:=by
 intro c
 induction c with
 |seq a b h1 h2=>simp only[sG,XC.er,h1,h2]
 |cond c a b h1 h2=>simp only[sG,XC.er,h1,h2]
 |block i b h=>simp only[sG,XC.er,h]
 |loop b h=>simp only[sG,XC.er,h]
 |_=>rfl
theorem a2P{f:C->XC}(h:∀c,(f c).er=c):∀(n:Nat) (c:C),(MU f n c).er=c:=by
 intro n
 induction n with
 |zero=>intro c;exact h c
 |succ n ih =>
  intro c
  cases c with
  |seq a b=>simp only[MU,XC.er,rF,ih]
  |_=>exact rF _
theorem a9e:∀(a:AT) (c:C),(toX a c).er=c:=by
 intro a
 induction a with
 |d n a ih=>intro c;cases c<;>exact a2P ih n _
 |s a b h1 h2=>intro c;cases c<;>first|(simp only[toX,XC.er,h1,h2];done)|exact rF _
 |j pre sh a b h1 h2=>intro c;cases c<;>first|(simp only[toX,XC.er,h1,h2];done)|exact rF _
 |c a b h1 h2=>intro c;cases c<;>first|(simp only[toX,XC.er,h1,h2];done)|exact rF _
 |b a ih=>intro c;cases c<;>first|(simp only[toX,XC.er,ih];done)|exact rF _
 |l pre sh a ih=>intro c;cases c<;>first|(simp only[toX,XC.er,ih];done)|exact rF _
 |u l=>intro c;cases c<;>first|rfl|exact rF _
 |o=>intro c;cases c<;>exact rF _
def xo(P:Program)(hc:List Nat)(f:Func)(a:AT):XC:=match f.body.bind (cC P hc) with
 |some c=>toX a c
 |none=>.skip
theorem b4c{P:Program}{hc:List Nat}{f:Func}{a:AT}(h:(f.body.bind (cC P hc)).isSome=true):f.body.bind (cC P hc)=some (xo P hc f a).er:=by
 unfold xo
 cases e:f.body.bind (cC P hc) with
 |none=>rw[e]at h;cases h
 |some c=>rw[a9e]
theorem bf{a b:Int}(h1:-9223372036854775808<=a+b)(h2:a+b<=9223372036854775807):aR .i64 a b=a+b:=wrap64 h1 h2
theorem dG{a b:Int}(h1:-9223372036854775808<=a-b)(h2:a-b<=9223372036854775807):dQ .i64 a b=a-b:=wrap64 h1 h2
theorem IY{a b:Int}(h1:-9223372036854775808<=a*b)(h2:a*b<=9223372036854775807):vE .i64 a b=a*b:=wrap64 h1 h2
theorem aW{α:Type}(xs:List α):aA xs=(xs.length:Int):=rfl
section
variable{S R:Type}{step:S->Option (S⊕R)}
theorem JZ{s s':S}(h:step s=some (.inl s')):bK step s=bK step s':=by rw[Pw,h]
theorem vD{s:S}{r:R}(h:step s=some (.inr r)):bK step s=some r:=by rw[Pw,h]
end
section
open Go.RowKit
mutual
def OkZ(Z:Nat->Nat->AV->Prop):(T:Ty)->T.den->Prop
 |.int k,n=>(Lit.int k n).wf=true
 |.bool,_=>True
 |.str,s=>ByteArray.size s<=maxLen
 |.list e,xs=>List.length (α:=e.den) xs<=maxLen/\∀x,x∈(show List e.den from xs)->OkZ Z e x
 |.tup fs,x=>a3w Z fs x
 |.fnc _,_=>True
 |.iP _,_=>True
 |.rl ty sz,xs=>Z ty sz (.list sz xs)
def a3w(Z:Nat->Nat->AV->Prop):(fs:List Ty)->Ty.bO fs->Prop
 |[],_=>True
 |t::ts,x=>OkZ Z t x.1/\a3w Z ts x.2
end
abbrev OkT(T:Ty)(x:T.den):Prop:=OkZ ZA T x
theorem OG{T:Ty}(x:T.den):pack T (Ty.enc T x).cells=Ty.enc T x:=by
 rcases qA (x:=x) with⟨ht,cs,he⟩|⟨ht,hp⟩
 .unfold pack;rw[if_pos ht,he];rfl
 .unfold pack;rw[ht,hp.cells];rfl
theorem a6A(Z:Nat->Nat->AV->Prop)(T:Ty):∀l:List AV,IsZ Z T l->∃x:T.den,OkZ Z T x/\l=(Ty.enc T x).cells:=by
 refine Ty.rec (motive_1:=λT=>∀l:List AV,IsZ Z T l->∃x:T.den,OkZ Z T x/\l=(Ty.enc T x).cells) (motive_2:=λfs=>∀l:List AV,rM Z fs l->∃x:Ty.bO fs,a3w Z fs x/\l=Ty.iW fs x) ?_ ?_ ?_ ?_ ?_ ?_ ?_ ?_ ?_ ?_ T
 .intro k l h;simp only[IsZ]at h;obtain⟨n,rfl,hw⟩:=h;exact⟨n,hw,rfl⟩
 .intro l h;simp only[IsZ]at h;obtain⟨b,rfl⟩:=h;exact⟨b,trivial,rfl⟩
 .intro l h;simp only[IsZ]at h;obtain⟨s,rfl,hs⟩:=h;exact⟨s,hs,rfl⟩
 .intro e ih l h
  simp only[IsZ]at h
  obtain⟨xss,rfl,hl,hx⟩:=h
  have key:∀xss:List (List AV),(∀xs∈xss,IsZ Z e xs)->∃ys:List e.den,(∀y∈ys,OkZ Z e y)/\xss.map (pack e)=ys.map (Ty.enc e):=by
   intro xss
   induction xss with
   |nil=>intro _;exact⟨[],by simp,rfl⟩
   |cons a xss ihx =>
    intro h
    obtain⟨ys,h1,h2⟩:=ihx λxs hxs=>h xs (by simp[hxs])
    obtain⟨y,hy,rfl⟩:=ih a (h a (by simp))
    refine⟨y::ys,λz hz=>?_,by rw[bg,bg,OG,h2]⟩
    rcases bD.1 hz with rfl|hz
    .exact hy
    .exact h1 z hz
  obtain⟨ys,h1,h2⟩:=key xss hx
  refine⟨ys,⟨?_,h1⟩,by show _=[AV.list e.size (List.map (Ty.enc e) ys)];rw[h2]⟩
  have:=dn List.length h2
  simp only[bA]at this
  show List.length ys<=maxLen
  omega
 .intro fs ih l h;simp only[IsZ]at h;exact ih l h
 .intro f l h;simp only[IsZ]at h;exact⟨(),trivial,h⟩
 .intro e _ l h;simp only[IsZ]at h;exact⟨none,trivial,h⟩
 .intro ty sz l h;simp only[IsZ]at h;obtain⟨xs,rfl,hz⟩:=h;exact⟨xs,hz,rfl⟩
 .intro l h;simp only[rM]at h;exact⟨(),trivial,h⟩
 .intro t ts h1 h2 l h
  simp only[rM]at h
  obtain⟨a,b,rfl,ha,hb⟩:=h
  obtain⟨x,ox,rfl⟩:=h1 a ha
  obtain⟨y,oy,rfl⟩:=h2 b hb
  exact⟨(x,y),⟨ox,oy⟩,rfl⟩
theorem b2v(T:Ty)(l:List AV)(h:Is T l):∃x:T.den,OkT T x/\l=(Ty.enc T x).cells:=a6A ZA T l h
theorem a6B{T:Ty}{a:AV}(h:IsV T a):∃x:T.den,OkT T x/\a=Ty.enc T x:=by
 obtain⟨l,hl,rfl⟩:=h
 obtain⟨x,ox,rfl⟩:=b2v T l hl
 exact⟨x,ox,OG x⟩
theorem a6d{e:Ty}{xs:List e.den}(h:OkT (.list e) xs):xs.length<=maxLen/\∀x∈xs,OkT e x:=h
end
section
variable{S R A α:Type}{step:S->Option (S⊕R)}
theorem a6p(J:S->Prop)(μ:S->Nat)(Q:R->Prop)(h:∀s,J s->(∃s',step s=some (.inl s')/\J s'/\μ s'<μ s)\/∃r,step s=some (.inr r)/\Q r):∀s,J s->∃r,bK step s=some r/\Q r:=by
 have key:∀n s,μ s<=n->J s->∃r,bK step s=some r/\Q r:=by
  intro n
  induction n with
  |zero =>
   intro s hm hJ
   rcases h s hJ with⟨s',h1,h2,h3⟩|⟨r,h1,h2⟩
   .omega
   .exact⟨r,vD h1,h2⟩
  |succ n ih =>
   intro s hm hJ
   rcases h s hJ with⟨s',h1,h2,h3⟩|⟨r,h1,h2⟩
   .rw[JZ h1];exact ih s' (by omega) h2
   .exact⟨r,vD h1,h2⟩
 intro s hJ
 exact key _ s (aS _) hJ
end
theorem a2w{α:Type}{xs:List α}{k:Nat}(z:α)(h:k<xs.length):xs.getD k z=xs[k]:=by
 simp[List.getD,ah h]
theorem b2y{a:Int}(h1:-9223372036854775808<=-a)(h2:-a<=9223372036854775807):Gz .i64 a=-a:=by
 show IntKind.wrap .i64 (0-a)=-a
 rw[wrap64 (by omega) (by omega)];omega
def T{α:Type}(o:Option α)(Q:α->Prop):Prop:=∃v,o=some v/\Q v
def LQ{S R:Type}(J:S->Prop)(μ:S->Nat)(m:Nat)(Q:R->Prop):S⊕R->Prop
 |.inl s=>J s/\μ s<m
 |.inr r=>Q r
def JQ{S R:Type}(M:S->Prop)(Q:R->Prop):S⊕R->Prop
 |.inl s=>M s
 |.inr r=>Q r
section
variable{α β S R:Type}
theorem T.ret{v:α}{Q:α->Prop}(h:Q v):T (some v) Q:=⟨v,rfl,h⟩
theorem T.eq{o:Option α}{v:α}(h:T o λx=>x=v):o=some v:=by obtain⟨x,h1,h2⟩:=h;rw[h1,h2]
theorem T.of{o:Option α}{v:α}{Q:α->Prop}(h:o=some v)(q:Q v):T o Q:=⟨v,h,q⟩
theorem T.mono{o:Option α}{Q Q':α->Prop}(h:T o Q)(q:∀v,Q v->Q' v):T o Q':=by obtain⟨v,h1,h2⟩:=h;exact⟨v,h1,q v h2⟩
theorem T.bind{o:Option α}{f:α->Option β}{Q:β->Prop}(h:T o λv=>T (f v) Q):T (o.bind f) Q:=by obtain⟨v,h1,h2⟩:=h;rw[h1];exact h2
theorem T.call{o:Option α}{f:α->Option β}{P:α->Prop}{Q:β->Prop}(h:T o P)(q:∀v,P v->T (f v) Q):T (o.bind f) Q:=T.bind (h.mono q)
theorem T.aN{o:Option α}{v:α}{f:α->Option β}{Q:β->Prop}(h:o=some v)(q:T (f v) Q):T (o.bind f) Q:=by rw[h];exact q
theorem T.grd{c:Bool}{x:Option α}{Q:α->Prop}(h:c=true)(q:T x Q):T (cond c x none) Q:=by rw[h];exact q
theorem T.cnd{c:Bool}{x y:Option α}{Q:α->Prop}(h:c=true->T x Q)(q:c=false->T y Q):T (cond c x y) Q:=by cases c;exact q rfl;exact h rfl
theorem T.ct{c:Bool}{x y:Option α}{Q:α->Prop}(h:c=true)(q:T x Q):T (cond c x y) Q:=by rw[h];exact q
theorem T.cf{c:Bool}{x y:Option α}{Q:α->Prop}(h:c=false)(q:T y Q):T (cond c x y) Q:=by rw[h];exact q
theorem T.map{o:Option α}{f:α->β}{Q:β->Prop}(h:T o λv=>Q (f v)):T (o.map f) Q:=by obtain⟨v,h1,h2⟩:=h;rw[h1];exact⟨_,rfl,h2⟩
theorem T.kW{J:S->Prop}{μ:S->Nat}{m:Nat}{o:Option R}{Q:R->Prop}(h:T o Q):T (o.map (Sum.inr (α:=S))) (LQ J μ m Q):=T.map h
theorem T.sZ{M:S->Prop}{o:Option R}{Q:R->Prop}(h:T o Q):T (o.map (Sum.inr (α:=S))) (JQ M Q):=T.map h
theorem T.loop{step:S->Option (S⊕R)}{s0:S}{Q:R->Prop}(J:S->Prop)(μ:S->Nat)(h0:J s0)(h:∀s,J s->T (step s) (LQ J μ (μ s) Q)):T (bK step s0) Q:=by
 refine a6p J μ Q (λs hs=>?_) s0 h0
 obtain⟨r,h1,h2⟩:=h s hs
 cases r with
 |inl s'=>exact .inl ⟨s',h1,h2.1,h2.2⟩
 |inr r=>exact .inr ⟨r,h1,h2⟩
theorem T.go{J:S->Prop}{μ:S->Nat}{m:Nat}{Q:R->Prop}{s:S}(h:J s)(h2:μ s<m):T (some (Sum.inl (β:=R) s)) (LQ J μ m Q):=⟨_,rfl,h,h2⟩
theorem T.out{J:S->Prop}{μ:S->Nat}{m:Nat}{Q:R->Prop}{r:R}(h:Q r):T (some (Sum.inr (α:=S) r)) (LQ J μ m Q):=⟨_,rfl,h⟩
theorem T.jgo{M:S->Prop}{Q:R->Prop}{s:S}(h:M s):T (some (Sum.inl (β:=R) s)) (JQ M Q):=⟨_,rfl,h⟩
theorem T.pV{M:S->Prop}{Q:R->Prop}{r:R}(h:Q r):T (some (Sum.inr (α:=S) r)) (JQ M Q):=⟨_,rfl,h⟩
theorem T.join{o:Option (S⊕R)}{f:S->Option R}{Q:R->Prop}(M:S->Prop)(h:T o (JQ M Q))(h2:∀s,M s->T (f s) Q):T (lV o f) Q:=by
 obtain⟨r,h1,h3⟩:=h
 rw[h1]
 cases r with
 |inl s=>exact h2 s h3
 |inr r=>exact⟨r,rfl,h3⟩
theorem T.along{step:S->Option (S⊕R)}{Q:R->Prop}(n:Nat)(mk:Nat->S)(h:∀k,k<n->T (step (mk k)) (LQ (λs=>s=mk (k+1)) (λ_=>0) 1 Q))(he:T (step (mk n)) (LQ (λ_=>False) (λ_=>0) 0 Q)):T (bK step (mk 0)) Q:=by
 have key:∀d k,k+d=n->T (bK step (mk k)) Q:=by
  intro d
  induction d with
  |zero =>
   intro k hk
   have:k=n:=by omega
   subst this
   obtain⟨r,h1,h2⟩:=he
   cases r with
   |inl s=>exact absurd h2.1 id
   |inr r=>exact⟨r,vD h1,h2⟩
  |succ d ih =>
   intro k hk
   obtain⟨r,h1,h2⟩:=h k (by omega)
   cases r with
   |inl s=>rw[JZ h1,show s=mk (k+1) from h2.1];exact ih (k+1) (by omega)
   |inr r=>exact⟨r,vD h1,h2⟩
 exact key n 0 (by omega)
end
theorem bS{a b:Int}:(iLt a b=true)=(a<b):=by simp[iLt]
theorem cO{a b:Int}:(iLt a b=false)=(b<=a):=by simp[iLt]
theorem eG{a b:Int}:(iLe a b=true)=(a<=b):=by simp[iLe]
theorem jZ{a b:Int}:(iLe a b=false)=(b<a):=by simp[iLe]
theorem kg{a b:Int}:(iEq a b=true)=(a=b):=by simp[iEq]
theorem dI{a b:Int}:(iEq a b=false)=(¬a=b):=by simp[iEq]
theorem mM{a b:Int}:(iNe a b=true)=(¬a=b):=by simp[iNe]
theorem uh{a b:Int}:(iNe a b=false)=(a=b):=by simp[iNe]
theorem bT{a b:Int}:(bnd a b=true)=(0<=a/\a<b):=by simp[bnd]
theorem b6M{a b:Int}:(bnd a b=false)=(a<0\/b<=a):=by simp[bnd];constructor<;>intro h<;>omega
theorem y8{α:Type}{i:Nat}{xs:List α}:(inB i xs=true)=(i<xs.length):=by simp[inB]
theorem b6f{α:Type}{i:Nat}{xs:List α}:(inB i xs=false)=(xs.length<=i):=by simp[inB]
theorem jD{n b:Nat}:(fits n b=true)=(n*b<=140737488355328/\n<=4611686018427387904):=by
 rw[eq_iff_iff];constructor
 .intro h;unfold fits lU at h;rw[aB]at h;exact⟨of_decide_eq_true h.1,of_decide_eq_true h.2⟩
 .rintro⟨h1,h2⟩;unfold fits lU;rw[bW h1,bW h2];rfl
theorem Kh{n:Int}{b:Nat}:(ze n b=true)=(0<=n/\n*b<=140737488355328/\n<=4611686018427387904):=by
 rw[eq_iff_iff];constructor
 .intro h;unfold ze lU at h;rw[aB,aB]at h;exact⟨of_decide_eq_true h.1.1,of_decide_eq_true h.1.2,of_decide_eq_true h.2⟩
 .rintro⟨h1,h2,h3⟩;unfold ze lU;rw[bW h1,bW h3];simp only[iD,uX];exact bW h2
theorem nS{l u:Int}{n:Nat}:(nL l u n=true)=(0<=l/\l<=u/\u<=(n:Int)):=by simp[nL,and_assoc]
theorem a5c{α:Type}{xs:List α}:(someE xs=true)=(0<xs.length):=by cases xs<;>simp[someE]
theorem a5d{α:Type}{xs:List α}:(someE xs=false)=(xs.length=0):=by cases xs<;>simp[someE]
theorem b5N{α:Type}{n:Nat}{xs:List α}:(leN n xs=true)=(n<=xs.length):=by simp[leN]
theorem gJ{b:Bool}:(Bool.not b=true)=(b=false):=by cases b<;>simp
theorem sD{b:Bool}:(Bool.not b=false)=(b=true):=by cases b<;>simp
theorem dx{a b:Bool}:(and a b=true)=(a=true/\b=true):=by cases a<;>simp
theorem qj{a b:Bool}:(and a b=false)=(a=false\/b=false):=by cases a<;>simp
theorem lg{a b:Bool}:(or a b=true)=(a=true\/b=true):=by cases a<;>simp
theorem b0j{a b:Bool}:(or a b=false)=(a=false/\b=false):=by cases a<;>simp
theorem qE{a b:Bool}:(cond a b false=true)=(a=true/\b=true):=by cases a<;>simp
theorem rT{a b:Bool}:(cond a b false=false)=(a=false\/b=false):=by cases a<;>simp
theorem mE{a b:Bool}:(cond a true b=true)=(a=true\/b=true):=by cases a<;>simp
theorem lH{a b:Bool}:(cond a true b=false)=(a=false/\b=false):=by cases a<;>simp
theorem b3r{a:Bool}:(bEq a true=true)=(a=true):=by cases a<;>simp[bEq]
theorem Qy{a:Bool}:(bEq a true=false)=(a=false):=by cases a<;>simp[bEq]
theorem b3s{a:Bool}:(bEq a false=true)=(a=false):=by cases a<;>simp[bEq]
theorem b3t{a:Bool}:(bEq a false=false)=(a=true):=by cases a<;>simp[bEq]
theorem vX{a b:ByteArray}:(sEq a b=true)=(a=b):=by
 simp only[sEq,rE,eq_iff_iff]
 constructor
 .intro h
  exact(show ∀x y:ByteArray,x.toList=y.toList->x=y from λx y q=>by
   have hx:∀z:ByteArray,z.toList=z.data.toList:=λz=>ByteArray.toList_eq z
   rw[hx,hx]at q
   cases x;cases y
   simp at q;rw[q]) a b h
 .intro h;rw[h]
theorem EX{a b:ByteArray}:(sEq a b=false)=(¬a=b):=by
 rw[<- vI,vX]
section
open Go.RowKit
theorem R9{P:Program}{Gl:Nat->Option (List AV)}{w:World}{f:Nat}{xs:Array Value}{l:List AV}(hP:Pure P Gl f l (.v (.bool true)))(hg:KD Gl (snap w))(hw:GlW Gl w.heap.size w)(hxs:RPL (snap w) xs l):Calls P f xs w λe w'=>e=.returned (.bool true)/\Below w.heap.size w w':=by
 refine(hP w (snap w) xs (λ_ _ h=>h) hg hw hxs).mono ?_
 rintro e w' ⟨v,F',rfl,_,_,_,hR,hb⟩
 cases hR
 exact⟨rfl,hb⟩
end
end
end Abs
end Go.Proofs.YtnhgeocdffhkjaaGreatDoor
