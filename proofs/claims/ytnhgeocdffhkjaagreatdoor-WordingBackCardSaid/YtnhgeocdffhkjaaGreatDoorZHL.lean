/- Merged and trimmed by a program: V6 V7 LB EXW. -/
import Derived.Test.YtnhgeocdffhkjaaGreatDoorZHK
import Derived.Lib.LaidTab
import Derived.LaidSub
set_option linter.unusedVariables false
set_option linter.unusedSimpArgs false
set_option linter.defProp false
namespace Go.Proofs.YtnhgeocdffhkjaaGreatDoor
namespace Abs
noncomputable section
def qH{α:Type}(z:α)(p:α->α->Bool)(l m:List α):Bool:=decide (l.length=m.length)&&(List.range l.length).all λk=>p (atI l (k:Int) z) (atI m (k:Int) z)
section
variable{α:Type}{z:α}{p:α->α->Bool}{l m:List α}
theorem BO(h:¬l.length=m.length):qH z p l m=false:=by unfold qH;rw[dM h];rfl
theorem BN{k:Int}(h0:0<=k)(h1:k<(l.length:Int))(h:p (atI l k z) (atI m k z)=false):qH z p l m=false:=by
 cases q:qH z p l m with
 |false=>rfl
 |true =>
  have:=aD.1 (dx.mp q).2 k.toNat (bL.2 (by omega))
  rw[gQ h0,h]at this;cases this
theorem xR(hl:l.length=m.length)(h:∀k:Int,0<=k->k<(l.length:Int)->p (atI l k z) (atI m k z)=true):qH z p l m=true:=by
 unfold qH
 rw[bW hl,iD]
 exact aD.2 λk hk=>h k (by omega) (by have:=bL.1 hk;omega)
theorem vQ(h:∀x∈l,p x x=true):qH z p l l=true:=xR rfl λk h0 h1=>h _ (at_mem z h0 h1)
theorem Eb{α β:Type}{l:List α}{m:List β}:iNe (aA l) (aA m)=!decide (l.length=m.length):=by rw[dz,mM,gJ,jm,aW,aW];omega
end
theorem RY(l m:List ByteArray)(h:l.length<=9223372036854775807):m36 l m=some (qH ByteArray.empty sEq l m,()):=by
 refine T.eq ?_
 unfold m36
 have hl:=aW l
 rw[Eb]
 by_cases hn:l.length=m.length
 case neg=>rw[dM hn,BO hn];exact T.ret rfl
 rw[bW hn]
 refine T.cf rfl (T.pass (l.length:Int) (λk=>sEq (atI l k ByteArray.empty) (atI m k ByteArray.empty)=true) (λk=>(l,m,k,())) (by omega) (λk h0 h1 _=>?_) (λhp=>?_))
 .dsimp only
  refine T.ct (by rw[bS];omega) (T.grd (by rw[bT];omega) (T.grd (by rw[bT,aW];omega) (T.round ?_ id (λq=>?_))))
  .rw[bf (by omega) (by omega)]
  .rw[BN h0 h1 q]
 .dsimp only
  exact T.cf (by rw[cO];omega) (T.out (by rw[xR hn hp]))
theorem wY(s:ByteArray):sEq s s=true:=vX.mpr rfl
theorem vF(n:Int):iEq n n=true:=kg.mpr rfl
def oo:Nat->DS0->DS0->Bool
 |0,_,_=>false
 |k+1,e,f=>(iEq e.1 f.1&&sEq e.2.1 f.2.1)&&(qH ByteArray.empty sEq e.2.2.1 f.2.2.1&&((iEq e.2.2.2.1 f.2.2.2.1&&iEq e.2.2.2.2.1 f.2.2.2.2.1)&&qH AV.any (λa b=>oo k (aQ a) (aQ b)) e.2.2.2.2.2.1 f.2.2.2.2.2.1))
theorem Cm:∀{k:Nat} {e:DS0},WE k e->oo k e e=true
 |0,_,h=>h.elim
 |k+1,e,h=>by
  unfold oo
  rw[vF,wY,vF,vF,vQ λx _=>wY x,vQ (z:=AV.any) (p:=λa b=>oo k (aQ a) (aQ b)) (l:=e.2.2.2.2.2.1) λx hx=>Cm (h.2.2 x hx).2];rfl
def SP(F:Nat)(x:DS0×DS0×Unit):Prop:=WE F x.1/\XX x.2.1
theorem a9A{F:Nat}{x:DS0×DS0×Unit}(h:SP F x):T (eH (λself (x:DS0×DS0×Unit)=>Ul self x.1 x.2.1) F x) (λy:Bool×Unit=>y=(oo F x.1 x.2.1,())):=by
 refine T.iter SP (λF x (y:Bool×Unit)=>y=(oo F x.1 x.2.1,())) (λF x h self hs=>?_) (λx h=>h.1.elim) F x h
 obtain⟨⟨o1,n1,w1,a1,b1,l,⟨⟩⟩,⟨o2,n2,w2,a2,b2,m,⟨⟩⟩,⟨⟩⟩:=x
 obtain⟨⟨e1,e2,e3⟩,hx⟩:=h
 obtain⟨_,hA⟩:=hx.out
 dsimp only at e1 e2 e3 hA ⊢
 have hl:=aW l
 unfold Ul oo
 dsimp only
 rw[show iNe o1 o2=!iEq o1 o2 by rw[dz,mM,gJ,dI],show iNe a1 a2=!iEq a1 a2 by rw[dz,mM,gJ,dI],show iNe b1 b2=!iEq b1 b2 by rw[dz,mM,gJ,dI]]
 have hw:∀b:Bool,(b&&false)=false:=λb=>by cases b<;>rfl
 cases iEq o1 o2<;>cases sEq n1 n2<;>cases iEq a1 a2<;>cases iEq b1 b2<;>first|exact T.ret (by simp)|skip
 refine T.cf rfl (T.aN (RY w1 w2 (by omega)) ?_)
 dsimp only
 cases qH ByteArray.empty sEq w1 w2
 .exact T.ret rfl
 rw[Eb]
 by_cases hn:l.length=m.length
 case neg=>rw[dM hn,BO hn];exact T.ret rfl
 rw[bW hn]
 refine T.cf rfl (T.pass (l.length:Int) (λk=>oo F (aQ (atI l k AV.any)) (aQ (atI m k AV.any))=true) (λk=>(k,o1,n1,w1,a1,b1,l,o2,n2,w2,a2,b2,m,())) (by omega) (λk h0 h1 _=>?_) (λhp=>?_))
 .dsimp only
  have hk:=e3 _ (at_mem AV.any h0 h1)
  refine T.ct (by rw[bS];omega) (T.grd (dx.mpr ⟨by rw[bT,hl];omega,hk.1⟩) (T.grd (hA.g h0 (by omega)) (T.call (hs (aQ (atI l k AV.any),aQ (atI m k AV.any),()) ⟨hk.2,(hA.2 _ (at_mem AV.any h0 (by omega))).2⟩) (λy hy=>?_))))
  rw[hy]
  refine T.round (by rw[bf (by omega) (by omega)]) id (λq=>?_)
  rw[BN (p:=λa b=>oo F (aQ a) (aQ b)) h0 h1 q];rfl
 .dsimp only
  exact T.cf (by rw[cO];omega) (T.out (by rw[xR (p:=λa b=>oo F (aQ a) (aQ b)) hn hp];rfl))
theorem X6(e f:DS0)(h:WE 10 e)(hf:XX f):m62 e f=some (oo 10000 e f,()):=T.eq (a9A (x:=(e,f,())) ⟨h.to (by omega),hf⟩)
def vW:Nat->List AV->List AV->Bool
 |0,_,_=>false
 |k+1,l,m=>qH AV.any (λa b=>sEq (aM a).1 (aM b).1&&(oo 10000 (aM a).2.1 (aM b).2.1&&vW k (aM a).2.2.1 (aM b).2.2.1)) l m
theorem Ie:∀{k:Nat} {l:List AV},WB k l->vW k l l=true
 |0,_,h=>h.elim
 |k+1,l,h=>by
  unfold vW
  refine vQ λa ha=>?_
  rw[wY,Cm ((h.2 a ha).2.1.to (by omega)),Ie (h.2 a ha).2.2];rfl
theorem a7f{F:Nat}{x:List AV×List AV×Unit}(h:WB F x.1/\BB x.2.1):T (eH (λself (x:List AV×List AV×Unit)=>Uk self x.1 x.2.1) F x) (λy:Bool×Unit=>y=(vW F x.1 x.2.1,())):=by
 refine T.iter (λF (x:List AV×List AV×Unit)=>WB F x.1/\BB x.2.1) (λF x (y:Bool×Unit)=>y=(vW F x.1 x.2.1,())) (λF x h self hs=>?_) (λx h=>h.1.elim) F x h
 obtain⟨l,m,⟨⟩⟩:=x
 obtain⟨⟨e1,e3⟩,hx⟩:=h
 have hA:=hx.out
 dsimp only at e1 e3 hA ⊢
 have hl:=aW l
 unfold Uk vW
 generalize hp:(λa b=>sEq (aM a).1 (aM b).1&&(oo 10000 (aM a).2.1 (aM b).2.1&&vW F (aM a).2.2.1 (aM b).2.2.1))=p
 have hk:∀a b,p a b=(sEq (aM a).1 (aM b).1&&(oo 10000 (aM a).2.1 (aM b).2.1&&vW F (aM a).2.2.1 (aM b).2.2.1)):=λa b=>by rw[<- hp]
 rw[Eb]
 by_cases hn:l.length=m.length
 case neg=>rw[dM hn,BO hn];exact T.ret rfl
 rw[bW hn]
 refine T.cf rfl (T.pass (l.length:Int) (λk=>p (atI l k AV.any) (atI m k AV.any)=true) (λk=>(l,m,k,())) (by omega) (λk h0 h1 _=>?_) (λhp=>?_))
 .dsimp only
  have ha:=e3 _ (at_mem AV.any h0 h1)
  have hb:=hA.2 _ (at_mem AV.any h0 (show k<(m.length:Int) by omega))
  have hk:=hk (atI l k AV.any) (atI m k AV.any)
  have g1:and (bnd k (aA l)) (lN (atI l k AV.any))=true:=dx.mpr ⟨by rw[bT,hl];omega,ha.1⟩
  have g2:and (bnd k (aA m)) (lN (atI m k AV.any))=true:=okg (λa ha=>(hA.2 a ha).1) h0 (by omega)
  have no:p (atI l k AV.any) (atI m k AV.any)=false->((false,()):Bool×Unit)=(qH AV.any p l m,()):=λq=>by rw[BN h0 h1 q]
  rw[g1,g2]
  refine T.ct (by rw[bS];omega) (T.grd rfl (T.grd rfl (T.grd rfl (T.grd rfl ?_))))
  cases q1:sEq (aM (atI l k AV.any)).1 (aM (atI m k AV.any)).1
  .exact T.ct rfl (T.grd rfl (T.grd rfl (T.out (no (by rw[hk,q1];rfl)))))
  rw[q1]at hk
  refine T.cf rfl (T.aN (X6 _ _ ha.2.1 hb.2.1) (T.grd rfl (T.grd rfl ?_)))
  cases q2:oo 10000 (aM (atI l k AV.any)).2.1 (aM (atI m k AV.any)).2.1
  .exact T.ct rfl (T.out (no (by rw[hk,q2];rfl)))
  rw[q2]at hk
  refine T.cf rfl (T.call (hs ((aM (atI l k AV.any)).2.2.1,(aM (atI m k AV.any)).2.2.1,()) ⟨ha.2.2,hb.2.2⟩) (λy hy=>?_))
  rw[hy]
  exact T.round (by rw[bf (by omega) (by omega)]) (λq=>hk.trans q) (λq=>no (hk.trans q))
 .dsimp only
  exact T.cf (by rw[cO];omega) (T.out (by rw[xR hn hp]))
theorem nn{a b:Int}:iNe a b=!iEq a b:=by rw[dz,mM,gJ,dI]
def Co(c d:DS1):Bool:=((iEq c.1 d.1&&sEq c.2.1 d.2.1)&&iEq c.2.2.2.2.1 d.2.2.2.2.1)&&(oo 10000 c.2.2.1 d.2.2.1&&vW 10000 c.2.2.2.1 d.2.2.2.1)
theorem TY{c:DS1}(h:WC c):Co c c=true:=by
 unfold Co
 rw[vF,wY,vF,Cm (h.1.to (by omega)),Ie (h.2.to (by omega))];rfl
theorem b3q(l m:List AV)(h:WB 10 l)(hm:BB m):m63 l m=some (vW 10000 l m,()):=T.eq (a7f (x:=(l,m,())) ⟨h.to (by omega),hm⟩)
def su(l m:List DS1):Bool:=qH zS1 Co l m
theorem Lv(l m:List DS1)(hb:l.length<=1000)(h:∀c∈l,WC c)(hm:∀c∈m,XCl c):m35 l m=some (su l m,()):=by
 refine T.eq ?_
 unfold m35 su
 have hl:=aW l
 rw[Eb]
 by_cases hn:l.length=m.length
 case neg=>rw[dM hn,BO hn];exact T.ret rfl
 rw[bW hn]
 refine T.cf rfl (T.pass (l.length:Int) (λk=>Co (atI l k zS1) (atI m k zS1)=true) (λk=>(l,m,k,())) (by omega) (λk h0 h1 _=>?_) (λhp=>?_))
 .dsimp only
  have hc:=h _ (at_mem zS1 h0 h1)
  have hd:=hm _ (at_mem zS1 h0 (show k<(m.length:Int) by omega))
  have g1:bnd k (aA l)=true:=by rw[bT];omega
  have g2:bnd k (aA m)=true:=by rw[bT,aW];omega
  have no:Co (atI l k zS1) (atI m k zS1)=false->((false,()):Bool×Unit)=(qH zS1 Co l m,()):=λq=>by rw[BN h0 h1 q]
  have hs:Co (atI l k zS1) (atI m k zS1)=(((iEq (atI l k zS1).1 (atI m k zS1).1&&sEq (atI l k zS1).2.1 (atI m k zS1).2.1)&&iEq (atI l k zS1).2.2.2.2.1 (atI m k zS1).2.2.2.2.1)&&(oo 10000 (atI l k zS1).2.2.1 (atI m k zS1).2.2.1&&vW 10000 (atI l k zS1).2.2.2.1 (atI m k zS1).2.2.2.1)):=rfl
  generalize atI l k zS1=c at hc hs no ⊢
  generalize atI m k zS1=d at hd hs no ⊢
  obtain⟨k1,n1,e1,b1,a1,⟨⟩⟩:=c
  obtain⟨k2,n2,e2,b2,a2,⟨⟩⟩:=d
  dsimp only at hs ⊢
  rw[g1,g2,nn,nn]
  refine T.ct (by rw[bS];omega) (T.grd rfl (T.grd rfl (T.grd rfl (T.grd rfl (T.grd rfl (T.grd rfl (T.grd rfl (T.grd rfl ?_))))))))
  cases q:(iEq k1 k2&&sEq n1 n2)&&iEq a1 a2
  .have e:cond (cond (!iEq k1 k2) true (!sEq n1 n2)) true (!iEq a1 a2)=true:=by revert q;cases iEq k1 k2<;>cases sEq n1 n2<;>cases iEq a1 a2<;>simp
   rw[q]at hs
   exact T.ct e (T.grd rfl (T.grd rfl (T.out (no hs))))
  have e:cond (cond (!iEq k1 k2) true (!sEq n1 n2)) true (!iEq a1 a2)=false:=by revert q;cases iEq k1 k2<;>cases sEq n1 n2<;>cases iEq a1 a2<;>simp
  rw[q]at hs
  refine T.cf e (T.aN (X6 e1 e2 hc.1 hd.1) (T.grd rfl (T.grd rfl ?_)))
  cases q2:oo 10000 e1 e2
  .rw[q2]at hs;exact T.ct rfl (T.out (no hs))
  rw[q2]at hs
  refine T.cf rfl (T.aN (b3q b1 b2 hc.2 hd.2) (T.round (by rw[bf (by omega) (by omega)]) (λq=>hs.trans q) (λq=>no (hs.trans q))))
 .dsimp only
  exact T.cf (by rw[cO];omega) (T.out (by rw[xR hn hp]))
def Ck(x y:DS3):Bool:=and (iEq x.1.1 y.1.1) (and (iEq x.1.2.1 y.1.2.1) true)&&(qH ByteArray.empty sEq x.2.1 y.2.1&&su x.2.2.1 y.2.2.1)
theorem Ic{l:List DS1}(h:∀c∈l,WC c):su l l=true:=vQ λc hc=>TY (h c hc)
theorem TW{x:DS3}(h:EW x):Ck x x=true:=by
 unfold Ck
 rw[vF,vF,vQ λx _=>wY x,Ic h.2.2];rfl
def Ib(a b:DS4):Bool:=su a.1 b.1&&qH zS3 Ck a.2.1 b.2.1
theorem QV{a:DS4}(h:WW a):Ib a a=true:=by
 unfold Ib
 rw[Ic h.1.2,vQ λx hx=>TW (h.2.2 x hx)];rfl
theorem a5r(a b:DS4)(h:WW a)(hb:XW b):m18 a b=some (Ib a b,()):=by
 obtain⟨c1,l,⟨⟩⟩:=a
 obtain⟨c2,m,⟨⟩⟩:=b
 obtain⟨h1,h2,h3⟩:=h
 obtain⟨b1,b2⟩:=hb
 dsimp only at h1 h2 h3 b1 b2
 refine T.eq ?_
 unfold m18 Ib
 refine T.aN (Lv c1 c2 (by have:=h1.1;omega) h1.2 b1) ?_
 dsimp only
 have hl:=aW l
 cases su c1 c2
 .exact T.ret rfl
 rw[Eb]
 by_cases hn:l.length=m.length
 case neg=>rw[dM hn,BO hn];exact T.ret rfl
 rw[bW hn]
 refine T.cf rfl (T.pass (l.length:Int) (λk=>Ck (atI l k zS3) (atI m k zS3)=true) (λk=>(k,c1,l,c2,m,())) (by omega) (λk k0 k1 _=>?_) (λhp=>?_))
 .dsimp only
  have hx:=h3 _ (at_mem zS3 k0 k1)
  have hy:=b2 _ (at_mem zS3 k0 (show k<(m.length:Int) by omega))
  have no:Ck (atI l k zS3) (atI m k zS3)=false->((false,()):Bool×Unit)=(true&&qH zS3 Ck l m,()):=λq=>by rw[BN k0 k1 q];rfl
  have hs:Ck (atI l k zS3) (atI m k zS3)=(and (iEq (atI l k zS3).1.1 (atI m k zS3).1.1) (and (iEq (atI l k zS3).1.2.1 (atI m k zS3).1.2.1) true)&&(qH ByteArray.empty sEq (atI l k zS3).2.1 (atI m k zS3).2.1&&su (atI l k zS3).2.2.1 (atI m k zS3).2.2.1)):=rfl
  refine T.ct (by rw[bS];omega) (T.grd (by rw[bT];omega) (T.grd (by rw[bT,aW];omega) ?_))
  generalize atI l k zS3=x at hx hs no ⊢
  generalize atI m k zS3=y at hy hs no ⊢
  obtain⟨⟨f1,t1,⟨⟩⟩,r1,x1,⟨⟩⟩:=x
  obtain⟨⟨f2,t2,⟨⟩⟩,r2,x2,⟨⟩⟩:=y
  obtain⟨e1,e2,e3⟩:=hx
  obtain⟨y1,y2⟩:=hy
  dsimp only at e1 e2 e3 y1 y2 hs ⊢
  cases q1:and (iEq f1 f2) (and (iEq t1 t2) true)
  .rw[q1]at hs;exact T.ct rfl (T.out (no hs))
  rw[q1]at hs
  refine T.cf rfl (T.aN (RY r1 r2 (by omega)) ?_)
  cases q2:qH ByteArray.empty sEq r1 r2
  .rw[q2]at hs;exact T.ct rfl (T.out (no hs))
  rw[q2]at hs
  refine T.cf rfl (T.aN (Lv x1 x2 (by omega) e3 y2) (T.round (by rw[bf (by omega) (by omega)]) (λq=>hs.trans q) (λq=>no (hs.trans q))))
 .dsimp only
  exact T.cf (by rw[cO];omega) (T.out (by rw[xR hn hp];rfl))
set_option maxRecDepth 100000
theorem Zu{w:DS4}{s:ByteArray}(hw:l8 w=true)(hc:∀c∈(show List DS1 from w.1),CC c)(he:∀x∈(show List DS3 from w.2.1),∀c∈(show List DS1 from x.2.2.1),CC c){l:List ay}(hl:l.map strip=stW w)(h:Sc (aY s) l)(h1:l.length<=4000)(h2:s.size<=16384)(hn:sEq s txB=false):m21 s=some (w,0,0,()):=by
 obtain⟨toks,h3,_,hR⟩:=Rn h h1 h2
 rw[hl]at hR
 unfold m21
 rw[hn,mO,h3,iL]
 dsimp only
 rw[show iEq 0 0=true from rfl,qR,Wm hw hc he hR]
 rfl
def txA:ByteArray:=bs [99,111,118,101,114,32,97,108,108,58,32,116,114,117,101,59,32,101,120,99,108,117,100,101,32,119,97,114,58,32,112,101,114,105,108,32,105,110,32,40,119,97,114,41,32,117,110,108,101,115,115,32,40,109,101,100,105,99,58,32,114,111,108,101,32,105,110,32,40,109,101,100,105,99,41,41,59,32,101,110,100,111,114,115,101,32,64,50,48,51,49,45,48,49,45,48,49,32,116,111,32,64,50,48,51,50,45,48,49,45,48,49,58,32,114,101,109,111,118,101,32,119,97,114,59,32,101,110,100,59]
def hA:Int:=271752
def hB2:Int:=280512
theorem c0C:aY (hrB hA)=aY (bs [50,48,51,49,45,48,49,45,48,49]):=by
 obtain⟨_,h⟩:=a2m (n:=hA) (y:=2031) (m:=1) (d:=1) (by decide) (by decide) (by unfold Cal.yc;decide)
 rw[h];kernel_rfl
theorem c0B:aY (hrB hB2)=aY (bs [50,48,51,50,45,48,49,45,48,49]):=by
 obtain⟨_,h⟩:=a2m (n:=hB2) (y:=2032) (m:=1) (d:=1) (by decide) (by decide) (by unfold Cal.yc;decide)
 rw[h];kernel_rfl
theorem a1N{n:Int}(h:0<=n/\n<=876599):iw (hrT n):=.inr (.inr (.inl ⟨rfl,rfl,h.1,h.2⟩))
theorem a9r{n:Int}(h:0<=n/\n<=876599):aY (tT (hrT n))=64::aY (hrB n):=by
 have e:tT (hrT n)=iJ (bs [64]) (hrB n):=by rcases(wU (a1N h)).2 with⟨q,_⟩|⟨_,q⟩|⟨q,_⟩;cases q;exact q;rcases q with q|q<;>cases q
 rw[e,EC];rfl
def TK:List ay:=[nmT (bs [99,111,118,101,114]),nmT (bs [97,108,108]),mkT (bs [58]),nmT (bs [116,114,117,101]),mkT (bs [59]),nmT (bs [101,120,99,108,117,100,101]),nmT (bs [119,97,114]),mkT (bs [58]),nmT (bs [112,101,114,105,108]),nmT (bs [105,110]),mkT (bs [40]),nmT (bs [119,97,114]),mkT (bs [41]),nmT (bs [117,110,108,101,115,115]),mkT (bs [40]),nmT (bs [109,101,100,105,99]),mkT (bs [58]),nmT (bs [114,111,108,101]),nmT (bs [105,110]),mkT (bs [40]),nmT (bs [109,101,100,105,99]),mkT (bs [41]),mkT (bs [41]),mkT (bs [59]),nmT (bs [101,110,100,111,114,115,101]),hrT hA,nmT (bs [116,111]),hrT hB2,mkT (bs [58]),nmT (bs [114,101,109,111,118,101]),nmT (bs [119,97,114]),mkT (bs [59]),nmT (bs [101,110,100]),mkT (bs [59])]
theorem a9a:Sc (aY txA) TK:=by
 have e:aY txA=(aY (bs [99,111,118,101,114])++(32::(aY (bs [97,108,108])++(aY (bs [58])++(32::(aY (bs [116,114,117,101])++(aY (bs [59])++(32::(aY (bs [101,120,99,108,117,100,101])++(32::(aY (bs [119,97,114])++(aY (bs [58])++(32::(aY (bs [112,101,114,105,108])++(32::(aY (bs [105,110])++(32::(aY (bs [40])++(aY (bs [119,97,114])++(aY (bs [41])++(32::(aY (bs [117,110,108,101,115,115])++(32::(aY (bs [40])++(aY (bs [109,101,100,105,99])++(aY (bs [58])++(32::(aY (bs [114,111,108,101])++(32::(aY (bs [105,110])++(32::(aY (bs [40])++(aY (bs [109,101,100,105,99])++(aY (bs [41])++(aY (bs [41])++(aY (bs [59])++(32::(aY (bs [101,110,100,111,114,115,101])++(32::(aY (tT (hrT hA))++(32::(aY (bs [116,111])++(32::(aY (tT (hrT hB2))++(aY (bs [58])++(32::(aY (bs [114,101,109,111,118,101])++(32::(aY (bs [119,97,114])++(aY (bs [59])++(32::(aY (bs [101,110,100])++(aY (bs [59])++[]))))))))))))))))))))))))))))))))))))))))))))))))))))):=by
  rw[a9r (by decide),a9r (by decide),c0C,c0B]
  kernel_rfl
 rw[e]
 exact(pI (by kernel_rfl) (oG (by kernel_rfl) (by kernel_rfl)) (.sp (.inl rfl) (pI (by kernel_rfl) (oG (by kernel_rfl) (by kernel_rfl)) (vk (by simp[mkL]) (.sp (.inl rfl) (pI (by kernel_rfl) (oG (by kernel_rfl) (by kernel_rfl)) (vk (by simp[mkL]) (.sp (.inl rfl) (pI (by kernel_rfl) (oG (by kernel_rfl) (by kernel_rfl)) (.sp (.inl rfl) (pI (by kernel_rfl) (oG (by kernel_rfl) (by kernel_rfl)) (vk (by simp[mkL]) (.sp (.inl rfl) (pI (by kernel_rfl) (oG (by kernel_rfl) (by kernel_rfl)) (.sp (.inl rfl) (pI (by kernel_rfl) (oG (by kernel_rfl) (by kernel_rfl)) (.sp (.inl rfl) (vk (by simp[mkL]) (pI (by kernel_rfl) (oG (by kernel_rfl) (by kernel_rfl)) (vk (by simp[mkL]) (.sp (.inl rfl) (pI (by kernel_rfl) (oG (by kernel_rfl) (by kernel_rfl)) (.sp (.inl rfl) (vk (by simp[mkL]) (pI (by kernel_rfl) (oG (by kernel_rfl) (by kernel_rfl)) (vk (by simp[mkL]) (.sp (.inl rfl) (pI (by kernel_rfl) (oG (by kernel_rfl) (by kernel_rfl)) (.sp (.inl rfl) (pI (by kernel_rfl) (oG (by kernel_rfl) (by kernel_rfl)) (.sp (.inl rfl) (vk (by simp[mkL]) (pI (by kernel_rfl) (oG (by kernel_rfl) (by kernel_rfl)) (vk (by simp[mkL]) (vk (by simp[mkL]) (vk (by simp[mkL]) (.sp (.inl rfl) (pI (by kernel_rfl) (oG (by kernel_rfl) (by kernel_rfl)) (.sp (.inl rfl) (.tk (a1N (by decide)) (.inr (oG (by kernel_rfl) (by kernel_rfl))) (.sp (.inl rfl) (pI (by kernel_rfl) (oG (by kernel_rfl) (by kernel_rfl)) (.sp (.inl rfl) (.tk (a1N (by decide)) (.inr (oG (by kernel_rfl) (by kernel_rfl))) (vk (by simp[mkL]) (.sp (.inl rfl) (pI (by kernel_rfl) (oG (by kernel_rfl) (by kernel_rfl)) (.sp (.inl rfl) (pI (by kernel_rfl) (oG (by kernel_rfl) (by kernel_rfl)) (vk (by simp[mkL]) (.sp (.inl rfl) (pI (by kernel_rfl) (oG (by kernel_rfl) (by kernel_rfl)) (vk (by simp[mkL]) .nil)))))))))))))))))))))))))))))))))))))))))))))))))))))
def exT:DS0:=(1,bs [],[],0,0,[],())
def exI(a b:ByteArray):DS0:=(4,a,[b],0,0,[],())
def clA:List DS1:=[(2,bs [97,108,108],exT,[],0,()),(3,bs [119,97,114],exI (bs [112,101,114,105,108]) (bs [119,97,114]),nA [(bs [109,101,100,105,99],exI (bs [114,111,108,101]) (bs [109,101,100,105,99]),[],())],0,())]
def enA:List DS3:=[((hA,hB2,()),[bs [119,97,114]],[],())]
def wA:DS4:=(clA,enA,())
theorem b9i:l8 wA=true:=by kernel_rfl
theorem b9j:TK.map strip=stW wA:=by kernel_rfl
theorem UN{e:DS0}(h:List.length (α:=AV) e.2.2.2.2.2.1=0):Cn 16 e:=λa ha=>by rw[bC.1 h]at ha;cases ha
theorem b9k:∀c∈clA,CC c:=λc hc=>by
 rcases bD.1 hc with rfl|hc
 .exact⟨UN rfl,λa ha=>by cases ha⟩
 .rw[aV.1 hc]
  refine⟨UN rfl,λa ha=>?_⟩
  obtain⟨x,hx,rfl⟩:=bX.1 ha
  rw[aV.1 hx]
  have e:=Vq (bs [109,101,100,105,99],exI (bs [114,111,108,101]) (bs [109,101,100,105,99]),([]:List AV),())
  exact⟨dn (Ty.enc tS7) e,Eq.mpr (dn (λz:DS7=>Cn 16 z.2.1/\CBk 15 z.2.2.1) e) ⟨UN rfl,λa ha=>by cases ha⟩⟩
theorem a7n:m7=some (true,()):=by
 have h1:m21 txA=some (wA,0,0,()):=Zu b9i b9k (λx hx c hc=>by rw[aV.1 hx]at hc;cases hc) b9j a9a (by unfold TK;decide) (by decide) (by kernel_rfl)
 have h2:m21 txB=some (([],[],()),15,5,()):=by unfold m21;rw[show sEq txB txB=true from wY _];rfl
 refine T.eq ?_
 unfold m7
 refine T.aN h1 (T.aN h2 ?_)
 exact T.grd (by kernel_rfl) (T.grd (by kernel_rfl) (T.ret (by kernel_rfl)))
theorem a2f(L:List Int)(h:L.length<=9223372036854775807):m6 L=some (true,()):=by
 refine T.eq ?_
 unfold m6
 refine T.call (b1K L h) (λy ⟨h1,h2,h3,h4⟩=>?_)
 obtain⟨⟨cl,en,⟨⟩⟩,y2⟩:=y
 dsimp only at h1 h2 h3 h4 ⊢
 have ok:=a2e h3
 have hb:=c09 h3 h4
 obtain⟨s1,s2⟩:=a9z _ ok
 have hf:fold (o7 (cl,en,()))=some (txL (o7 (cl,en,())),(o7 (cl,en,())).flatten.length):=by
  have:=Z0 _ [] 0 ok hb (by omega) (by simp)
  rw[fF,dD]at this
  exact this
 have hbs:=Jc s2
 have hz:(bsI (txL (o7 (cl,en,())))).size<=16384:=by
  rw[<- iH,hbs]
  exact bF (Ws _ ok) hb.2
 have hn:sEq (bsI (txL (o7 (cl,en,())))) txB=false:=by
  rw[EX]
  intro q
  have hne:¬o7 (cl,en,())=[]:=λq=>by
   unfold o7 at q
   have:=dn List.length q
   rw[ak,bA]at this
   have this:List.length (α:=DS1) cl+(List.map enL (show List DS3 from en)).flatten.length=0:=this
   have h2:1<=List.length (α:=DS1) cl:=h2
   omega
  obtain⟨a,ha⟩:=Rj _ hne
  have e:=dn aY q
  rw[hbs,ha]at e
  have e:=dn List.getLast? e
  rw[List.getLast?_concat]at e
  rw[show(aY txB).getLast?=some 101 by kernel_rfl]at e
  exact absurd e (by decide)
 rw[<- hbs]at s1
 refine T.aN (a2D (w:=(cl,en,())) h1.x) ?_
 rw[h3,qR,hf]
 refine T.aN (Zu h3 (λc hc=>(h4.1.1 c hc).2.cc) (λx hx c hc=>((h4.2.2.2 x hx).1.1 c hc).2.cc) rfl s1 hb.1 hz hn) (T.ct rfl ?_)
 refine T.aN (a5r (cl,en,()) (cl,en,()) h1 h1.x) ?_
 rw[QV h1]
 exact T.ct rfl (T.aN a7n (T.ret rfl))
section
open Go.RowKit
def Iu:Nat->List (Nat×List Value)->Option (List Value)
 |_,[]=>some []
 | o,(p,vs) :: r=>if p=o then match Iu (o + vs.length) r with
   |some ws=>some (vs++ws)
   |none=>none
  else none
theorem Cv(cs:List Value):∀(l:List (Nat×List Value)) (o:Nat) (vs:List Value),Iu o l=some vs->(∀q∈l,(cs.drop q.1).take q.2.length=q.2)->(cs.drop o).take vs.length=vs
 |[],o,vs,h,_=>by cases h;simp
 |(p,ws)::r,o,vs,h,hq=>by
  simp only[Iu]at h
  split at h
  .rename_i hp
   subst hp
   split at h
   .rename_i us hu
    cases h
    have h1:=hq (p,ws) (by simp)
    have h2:=Cv cs r (p+ws.length) us hu λq hq'=>hq q (bG _ hq')
    simp only at h1
    rw[ak,List.take_add,h1,List.drop_drop,h2]
   .cases h
  .cases h
def cellsD(P:Program):Nat->TypeId->DataW Unit->Option (List Value)
 |0,_,_=>none
 |n+1,t,D=>match P.underlying t with
  |some .bool=>match D with
   |.lit (.bool b)=>some [.bool b]
   |_=>none
  |some (.int k)=>match D with
   |.lit (.int k' z)=>if k'=k then some [.int k z] else none
   |_=>none
  |some .string=>match D with
   |.lit (.string bs)=>some [.string ⟨⟨bs⟩⟩]
   |_=>none
  |some (.struct fs)=>match D with
   | .agg ds=>if fs.toList.length=ds.length then match (fs.toList.zip ds).mapM (fun q=>match cellsD P n q.1.type q.2 with | some vs=>if vs.length=P.cellsOf q.1.type then some (q.1.offset,vs) else none | none=>none) with
     |some l=>match Iu 0 l with
      |some vs=>if vs.length=P.cellsOf t then some vs else none
      |none=>none
     |none=>none
    else none
   |_=>none
  |some (.array m e)=>match D with
   | .agg ds=>if m=ds.length then match ((List.range m).zip ds).mapM (fun q=>match cellsD P n e q.2 with | some vs=>if vs.length=P.cellsOf e then some (q.1 * P.cellsOf e,vs) else none | none=>none) with
     |some l=>match Iu 0 l with
      |some vs=>if vs.length=P.cellsOf t then some vs else none
      |none=>none
     |none=>none
    else none
   |_=>none
  |_=>none
theorem mapM_mem{α β:Type}{f:α->Option β}:∀{l:List α} {r:List β},l.mapM f=some r->∀b∈r,∃(i:Nat) (a:α),l[i]?=some a/\f a=some b
 |[],r,h,b,hb=>by simp at h;subst h;simp at hb
 |x::l,r,h,b,hb=>by
  simp only[uw,Option.bind_eq_bind,gV,Option.pure_def,dW]at h
  obtain⟨c,hc,r',hr',rfl⟩:=h
  rcases bD.1 hb with rfl|hb
  .exact⟨0,x,rfl,hc⟩
  .obtain⟨i,a,h1,h2⟩:=mapM_mem hr' b hb
   exact⟨i+1,a,by simpa using h1,h2⟩
theorem Lx{P:Program}{w:World}{base:Nat}{sp:Nat->Bool}{held:Bool}{enc:TypeId×Value->Unit}:∀(n:Nat) (t:TypeId) (D:DataW Unit) (vs:List Value) (fuel:Nat) (cs:List Value) (p:List MemPlace),
  cellsD P n t D=some vs->DataW.trod enc P w base sp held fuel t cs=some (D,p)->cs=vs
 |0,t,D,vs,fuel,cs,p,h,_=>by cases h
 |n+1,t,D,vs,0,cs,p,h,ht=>by cases ht
 |n+1,t,D,vs,fuel+1,cs,p,h,ht=>by
  have ih:=Lx (P:=P) (w:=w) (base:=base) (sp:=sp) (held:=held) (enc:=enc) n
  simp only[cellsD]at h
  split at h
  .rename_i hu
   split at h
   .rename_i b
    cases h
    simp only[DataW.trod,hu]at ht
    split at ht<;>first
     |(simp only[dW,nH,DataW.lit.injEq,Lit.bool.injEq]at ht;obtain⟨rfl,_⟩:=ht;rfl)
     |simp_all
   .cases h
  .rename_i k hu
   split at h
   .rename_i k' z
    split at h
    .rename_i hk
     subst hk
     cases h
     obtain⟨z',hc,he,_⟩:=DataW.trod_int hu ht
     have e:=(aP he).1
     simp only[DataW.lit.injEq,Lit.int.injEq,true_and]at e
     rw[hc,e]
    .cases h
   .cases h
  .rename_i hu
   split at h
   .rename_i bs
    cases h
    simp only[DataW.trod,hu]at ht
    split at ht<;>first
     | (split at ht <;> first
       |(simp only[dW,nH,DataW.lit.injEq,Lit.string.injEq]at ht;obtain⟨rfl,_⟩:=ht;rfl)
       |cases ht)
     |simp_all
   .cases h
  .rename_i fs hu
   split at h
   .rename_i ds
    split at h
    .rename_i hlen
     split at h
     .rename_i l hl
      split at h
      .rename_i us hus
       split at h
       .rename_i hsz
        cases h
        simp only[DataW.trod,hu]at ht
        split at ht
        .rename_i hcl
         obtain⟨xs,hm,hx⟩:=fB.1 ht
         simp only[nH,DataW.agg.injEq]at hx
         have hxs:=hx.1
         have:=Cv cs l 0 vs hus λq hq=>by
          obtain⟨i,a,h1,h2⟩:=mapM_mem hl q hq
          obtain⟨f,d⟩:=a
          obtain⟨g1,g2⟩:=List.getElem?_zip_eq_some.1 h1
          simp only at h2
          split at h2
          .rename_i ws hws
           split at h2
           .rename_i hwl
            cases h2
            obtain⟨b,hb,hf⟩:=Lib.mapM_at hm i f g1
            have hbd:b.1=d:=by
             have:(xs.map (·.1))[i]?=some b.1:=by simp[hb]
             rw[hxs,g2]at this
             exact(aI this).symm
            obtain⟨b1,b2⟩:=b
            simp only at hbd
            subst hbd
            have:=ih f.type b1 ws fuel _ _ hws hf
            simp only
            rw[hwl];exact this
           .cases h2
          .cases h2
         rw[ku,eF (by omega)]at this
         exact this
        .cases ht
       .cases h
      .cases h
     .cases h
    .cases h
   .cases h
  .rename_i m e hu
   split at h
   .rename_i ds
    split at h
    .rename_i hlen
     split at h
     .rename_i l hl
      split at h
      .rename_i us hus
       split at h
       .rename_i hsz
        cases h
        simp only[DataW.trod,hu]at ht
        split at ht
        .rename_i hcl
         obtain⟨xs,hm,hx⟩:=fB.1 ht
         simp only[nH,DataW.agg.injEq]at hx
         have hxs:=hx.1
         have:=Cv cs l 0 vs hus λq hq=>by
          obtain⟨i,a,h1,h2⟩:=mapM_mem hl q hq
          obtain⟨f,d⟩:=a
          obtain⟨g1,g2⟩:=List.getElem?_zip_eq_some.1 h1
          simp only at h2
          split at h2
          .rename_i ws hws
           split at h2
           .rename_i hwl
            cases h2
            obtain⟨b,hb,hf⟩:=Lib.mapM_at hm i f g1
            have hbd:b.1=d:=by
             have:(xs.map (·.1))[i]?=some b.1:=by simp[hb]
             rw[hxs,g2]at this
             exact(aI this).symm
            obtain⟨b1,b2⟩:=b
            simp only at hbd
            subst hbd
            have:=ih e b1 ws fuel _ _ hws hf
            simp only
            rw[hwl];exact this
           .cases h2
          .cases h2
         rw[ku,eF (by omega)]at this
         exact this
        .cases ht
       .cases h
      .cases h
     .cases h
    .cases h
   .cases h
  .cases h
theorem AP{P:Program}{W:World}{name:String}{D:DataW Unit}{rest:List (String×DataW Unit)}{g n:Nat}{t:TypeId}{vs:List Value}(hg:P.globalNamed name=some g)(hty:(P.globals[g]?).map (·.type)=some t)(hc:cellsD P n t D=some vs)(h:laidMet P ((name,D)::rest) W):W.var? P name=some vs.toArray:=by
 obtain⟨ps,⟨g',t',cs,fuel,p,q,hg',ht',hvar,hd,_,_⟩,_⟩:=h
 obtain rfl:=aI (hg.symm.trans hg')
 obtain rfl:=aI (hty.symm.trans ht')
 rw[hvar,<- Lx n t D vs fuel cs.toList p hc hd]
theorem Bh{P:Program}{W:World}{name:String}{g:Nat}{vs:List Value}(hg:P.globalNamed name=some g)(hv:W.var? P name=some vs.toArray)(h1:vs.all (·.oneCell')=true):RP (snap W) (.pointer (some ⟨g,0,none⟩)) (.iF (vs.map .v)):=by
 have cell:∀i (x:Value),vs[i]?=some x->snap W ⟨g,i,none⟩=some x:=λi x hx=>by
  have:=World.var?_cell hg hv i
  show W.cell? ⟨g,i,none⟩=some x
  rw[this];simpa using hx
 refine RP.iF _ _ (λj=>vs.getD j undef) (λj a hj=>?_) (λj a hj=>?_)
 .rw[aT]at hj
  rcases q:vs[j]? with _|z
  .rw[q]at hj;cases hj
  .have e:vs.getD j undef=z:=by rw[bB,q];rfl
   refine⟨?_,?_⟩
   .have:(Addr.add ⟨g,0,none⟩ j:Addr)=⟨g,j,none⟩:=by simp[Addr.add];intro h;exact h.symm
    rw[this,e];exact cell j z q
   .rw[e];exact aD.1 h1 z (bP q)
 .rw[aT]at hj
  rcases q:vs[j]? with _|z
  .rw[q]at hj;cases hj
  .rw[q]at hj
   simp only[bq,dW]at hj
   subst hj
   have e:vs.getD j undef=z:=by rw[bB,q];rfl
   rw[e];exact .v _
theorem CX{P:Program}{W:World}{name:String}{g:Nat}{vs:List Value}(hg:P.globalNamed name=some g)(hv:W.var? P name=some vs.toArray)(h0:0<vs.length):g<W.heap.size/\∃us ty fr,W.heap[g]?=some (.cells us ty fr)/\us.size=vs.length:=by
 have c:=World.var?_cell hg hv 0
 have hlt:g<W.heap.size:=by
  have:vs.toArray[0]?=some vs[0]:=by simp[h0]
  rw[this]at c
  exact World.block_lt_of_cell? W _ c
 refine⟨hlt,?_⟩
 unfold World.var? at hv
 rw[hg]at hv
 simp only[iL]at hv
 split at hv
 .rename_i us ty fr hb
  obtain rfl:=aI hv
  exact⟨_,ty,fr,hb,by simp⟩
 .cases hv
end
end
end Abs
end Go.Proofs.YtnhgeocdffhkjaaGreatDoor
