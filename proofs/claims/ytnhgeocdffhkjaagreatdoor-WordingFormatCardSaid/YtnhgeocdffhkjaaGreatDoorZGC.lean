/- Merged and trimmed by a program: X4 X5 X6 X7 X8 X9 XA XB XD XE XF XG XM. -/
import Derived.Test.YtnhgeocdffhkjaaGreatDoorZGB
set_option linter.unusedVariables false
set_option linter.unusedSimpArgs false
set_option linter.defProp false
namespace Go.Proofs.YtnhgeocdffhkjaaGreatDoor
namespace Abs
noncomputable section
section
open Go.RowKit
def rM:XO->XO->Prop
 |.row ty T _ es,.row ty' T' _ es'=>ty=ty'/\T=T'/\es.length=es'.length
 |.box _ _,.box _ _=>True
 |.box _ _,.row _ _ _ es=>es.length=1
 |_,_=>False
theorem rM.refl(o:XO):rM o o:=by cases o<;>simp[rM]
theorem rM.len{o o':XO}(h:rM o o'):o'.len=o.len:=by
 cases o<;>cases o'<;>simp[rM]at h
 .simp only[XO.len];exact h.2.2.symm
 .simp only[XO.len];exact h
 .rfl
def hit(kl:List Nat):XV->Bool
 |.row j=>kl.contains j
 |.sub j _ _=>kl.contains j
 |.me j=>kl.contains j
 |.ptr j _ _=>kl.contains j
 |_=>false
def nk(kl:List Nat)(x:XV):XV:=kl.foldl (λx id=>wh id x) x
def uM(kl:List Nat)(x:XV):XV:=kl.foldl (λx id=>zl id x) x
def uL(kl:List Nat)(x:XV):XV:=kl.foldl (λx id=>zk id x) x
theorem UL(kl:List Nat):nk kl .any=.any:=by
 induction kl with
 |nil=>rfl
 |cons k kl ih=>exact ih
theorem Gt(id:Nat)(x:XV):wh id x=if hit [id] x=true then .any else x:=by
 have key:∀j,(Nat.beq j id=true)↔([id].contains j=true):=λj=>by simp
 cases x<;>simp only[wh,hit,key]<;>rfl
theorem Li(kl:List Nat):∀x,nk kl x=if hit kl x=true then .any else x:=by
 induction kl with
 |nil=>intro x;cases x<;>rfl
 |cons k kl ih =>
  intro x
  show nk kl (wh k x)=_
  rw[Gt]
  have hc:hit (k::kl) x=(hit [k] x||hit kl x):=by
   cases x<;>simp[hit,List.contains_cons]
  rw[hc]
  by_cases h1:hit [k] x=true
  .rw[if_pos h1,UL,h1];rfl
  .rw[if_neg h1,ih]
   simp only[qW]at h1
   rw[h1];rfl
theorem IG(kl:List Nat):∀cs,uM kl (.agg cs)=.agg (cs.map (nk kl)):=by
 induction kl with
 |nil=>intro cs;show XV.agg cs=.agg (cs.map λx=>x);simp
 |cons k kl ih =>
  intro cs
  show uM kl (.agg (cs.map (wh k)))=_
  rw[ih,gX];rfl
theorem FK(kl:List Nat):∀x,(∀cs,x≠.agg cs)->uM kl x=nk kl x:=by
 induction kl with
 |nil=>intro x _;rfl
 |cons k kl ih =>
  intro x hx
  have e:zl k x=wh k x:=by cases x<;>first|rfl|exact absurd rfl (hx _)
  show uM kl (zl k x)=nk kl (wh k x)
  rw[e]
  refine ih _ λcs q=>?_
  rw[Gt]at q
  split at q
  .cases q
  .exact hx cs q
theorem IE(kl:List Nat):∀vs,uL kl (.tup vs)=.tup (vs.map (uM kl)):=by
 induction kl with
 |nil=>intro cs;show XV.tup cs=.tup (cs.map λx=>x);simp
 |cons k kl ih =>
  intro cs
  show uL kl (.tup (cs.map (zl k)))=_
  rw[ih,gX];rfl
theorem FJ(kl:List Nat):∀x,(∀vs,x≠.tup vs)->uL kl x=uM kl x:=by
 induction kl with
 |nil=>intro x _;rfl
 |cons k kl ih =>
  intro x hx
  have e:zk k x=zl k x:=by cases x<;>first|rfl|exact absurd rfl (hx _)
  show uL kl (zk k x)=uM kl (zl k x)
  rw[e]
  refine ih _ λvs q=>?_
  by_cases ha:∃cs,x=.agg cs
  .obtain⟨cs,rfl⟩:=ha;cases q
  .have e2:zl k x=wh k x:=by cases x<;>first|rfl|exact absurd ⟨_,rfl⟩ ha
   rw[e2,Gt]at q
   split at q
   .cases q
   .exact hx vs q
theorem Lh(kl:List Nat):∀t,Fa kl t=t.map (uL kl):=by
 induction kl with
 |nil=>intro t;show t=t.map λx=>x;simp
 |cons k kl ih =>
  intro t
  show Fa kl (t.map (zk k))=_
  rw[ih,gX];rfl
section
variable{ρ ρ' ρ'':List Nat}{h h' h'':List XO}{H H' H'':List ay}
theorem VA.of1{x:XV}{a:AV}(hv:V1 ρ h x a):VA ρ h x a:=by
 cases x<;>first|exact hv|exact hv.elim
theorem VT.ofA{x:XV}{a:AV}(hv:VA ρ h x a):VT ρ h x a:=by
 cases x<;>first|exact hv|exact hv.elim
theorem VT.of1{x:XV}{a:AV}(hv:V1 ρ h x a):VT ρ h x a:=VT.ofA (VA.of1 hv)
def Trn(ρ:List Nat)(h:List XO)(ρ':List Nat)(h':List XO)(kl:List Nat):Prop:=∀x a,V1 ρ h x a->V1 ρ' h' (nk kl x) a
theorem Trn.A{kl:List Nat}(ht:Trn ρ h ρ' h' kl){x:XV}{a:AV}(hv:VA ρ h x a):VA ρ' h' (uM kl x) a:=by
 by_cases ha:∃cs,x=.agg cs
 .obtain⟨cs,rfl⟩:=ha
  obtain⟨as,rfl,hc⟩:=hv
  rw[IG]
  refine⟨as,rfl,by simp[hc.1],λi y b p q=>?_⟩
  rw[aK]at p
  cases hy:cs[i]? with
  |none=>rw[hy]at p;cases p
  |some z=>rw[hy]at p;cases p;exact ht z b (hc.2 i z b hy q)
 .rw[FK kl x λcs q=>ha ⟨cs,q⟩]
  exact VA.of1 (ht x a (by cases x<;>first|exact hv|exact absurd ⟨_,rfl⟩ ha))
theorem Trn.T{kl:List Nat}(ht:Trn ρ h ρ' h' kl){x:XV}{a:AV}(hv:VT ρ h x a):VT ρ' h' (uL kl x) a:=by
 by_cases ha:∃cs,x=.tup cs
 .obtain⟨cs,rfl⟩:=ha
  obtain⟨as,rfl,hc⟩:=hv
  rw[IE]
  refine⟨as,rfl,by simp[hc.1],λi y b p q=>?_⟩
  rw[aK]at p
  cases hy:cs[i]? with
  |none=>rw[hy]at p;cases p
  |some z=>rw[hy]at p;cases p;exact ht.A (hc.2 i z b hy q)
 .rw[FJ kl x λcs q=>ha ⟨cs,q⟩]
  exact VT.ofA (ht.A (by cases x<;>first|exact hv|exact absurd ⟨_,rfl⟩ ha))
theorem Trn.trans{kl kl':List Nat}(h1:Trn ρ h ρ' h' kl)(h2:Trn ρ' h' ρ'' h'' kl'):Trn ρ h ρ'' h'' (kl++kl'):=λx a hv=>by
 have:nk (kl++kl') x=nk kl' (nk kl x):=by simp[nk,iX]
 rw[this];exact h2 _ _ (h1 x a hv)
theorem Trn.mk{kl:List Nat}(hh:∀id o,h[id]?=some o->id∉kl->∃o',h'[id]?=some o'/\rM o o')(hr:∀id,id<h.length->ρ'.getD id 0=ρ.getD id 0):Trn ρ h ρ' h' kl:=λx a hv=>by
 rw[Li]
 split
 .trivial
 .rename_i hh1
  have lt:∀{id:Nat} {o:XO},h[id]?=some o->id<h.length:=λq=>(aj.1 q).1
  cases x with
  |row id =>
   obtain⟨ty,T,fz,es,e1,rfl⟩:=hv
   obtain⟨o',e2,hs⟩:=hh id _ e1 (by simpa[hit]using hh1)
   cases o' with
   |box ty' cs=>exact hs.elim
   |row ty' T' fz' es' =>
    obtain⟨rfl,rfl,hl⟩:=hs
    exact⟨_,_,_,es',e2,by rw[hr id (lt e1),hl]⟩
  |sub id off len =>
   obtain⟨ty,T,fz,es,e1,rfl⟩:=hv
   obtain⟨o',e2,hs⟩:=hh id _ e1 (by simpa[hit]using hh1)
   cases o' with
   |box ty' cs=>exact hs.elim
   |row ty' T' fz' es' =>
    obtain⟨rfl,rfl,hl⟩:=hs
    exact⟨_,_,_,es',e2,by rw[hr id (lt e1),hl]⟩
  |me id =>
   rcases hv with hv|⟨o,e1,rfl⟩
   .exact .inl hv
   .obtain⟨o',e2,hs⟩:=hh id _ e1 (by simpa[hit]using hh1)
    exact .inr ⟨o',e2,by rw[hr id (lt e1),hs.len]⟩
  |ptr id i off =>
   obtain⟨o,e1,rfl⟩:=hv
   obtain⟨o',e2,hs⟩:=hh id _ e1 (by simpa[hit]using hh1)
   exact⟨o',e2,by rw[hr id (lt e1),hs.len]⟩
  |_=>exact hv
theorem vY(cs:List XV):cs.map (nk [])=cs:=by show cs.map (λx=>x)=cs;simp
theorem Trn.cells{kl:List Nat}(ht:Trn ρ h ρ' h' kl){cs:List XV}{as:List AV}(hc:bB (V1 ρ h) cs as):bB (V1 ρ' h') (cs.map (nk kl)) as :=
 ⟨by simp[hc.1],λi y b p q=>by
  rw[aK]at p
  cases hy:cs[i]? with
  |none=>rw[hy]at p;cases p
  |some z=>rw[hy]at p;cases p;exact ht z b (hc.2 i z b hy q)⟩
def lI(kl:List Nat):XO->XO
 |.box ty cs=>.box ty (cs.map (nk kl))
 |o=>o
theorem Trn.obj{kl:List Nat}(ht:Trn ρ h ρ' h' kl){o:XO}{O:ay}(ho:vo ρ h o O):vo ρ' h' (lI kl o) O:=by
 cases o with
 |row ty T fz es=>exact ho
 |box ty cs =>
  obtain⟨a,b,c,d,e,he,hc⟩:=ho
  exact⟨a,by simpa using b,c,d,e,he,ht.cells hc⟩
theorem w9(o:XO):lI [] o=o:=by
 cases o with
 |row=>rfl
 |box ty cs=>simp only[lI,vY]
theorem sQ(kl:List Nat):∀h,qL kl h=h.map (lI kl):=by
 induction kl with
 |nil=>intro h;show h=h.map (lI []);rw[show lI []=λo=>o from funext w9];simp
 |cons k kl ih =>
  intro h
  show qL kl (h.map (F9 k))=_
  rw[ih,gX]
  congr 1
  funext o
  cases o with
  |row=>rfl
  |box ty cs=>simp only[Function.comp,F9,lI,gX];rfl
theorem HS.lt(hs:HS ρ h H){i:Nat}(hi:i<h.length):ρ.getD i 0<H.length:=by
 obtain⟨O,hO,_⟩:=hs.hr i h[i] (ah hi)
 exact(aj.1 hO).1
theorem HS.XU(hs:HS ρ h H){x:Nat}(hx:x∈ρ):x<H.length:=by
 obtain⟨i,hi⟩:=dI.1 hx
 have hl:i<ρ.length:=(aj.1 hi).1
 have:=hs.lt (i:=i) (by rw[<- hs.rl];exact hl)
 simpa[List.getD,hi]using this
theorem HS.inj(hs:HS ρ h H){i j:Nat}(hi:i<h.length)(hj:j<h.length)(he:ρ.getD i 0=ρ.getD j 0):i=j:=by
 have hi':i<ρ.length:=by rw[hs.rl];exact hi
 have hj':j<ρ.length:=by rw[hs.rl];exact hj
 simp only[List.getD,ah hi',ah hj',eu]at he
 have hp:=List.pairwise_iff_getElem.1 hs.nd
 rcases uD i j with q|q|q
 .exact absurd he (hp i j hi' hj' q)
 .exact q
 .exact absurd he.symm (hp j i hj' hi' q)
structure Upd (ρ:List Nat) (h:List XO) (H:List ay) (ρ':List Nat) (h':List XO) (H':List ay) (kl tch:List Nat):Prop where
 hs:HS ρ' h' H'
 tr:Trn ρ h ρ' h' kl
 ge:H.length<=H'.length
 fr:∀j,j<H.length->(∀id∈tch,id<h.length->ρ.getD id 0≠j)->H'[j]?=H[j]?
 ap:∃news,ρ'=ρ++news/\∀x∈news,H.length<=x
 hl:h.length<=h'.length
theorem Upd.same(hs:HS ρ h H):Upd ρ h H ρ h H [] []:=⟨hs,λx a hv=>hv,bq _,λ_ _ _=>rfl,⟨[],by simp,by simp⟩,bq _⟩
theorem kZ{l l':List Nat}{i:Nat}(hi:i<l.length):(l++l').getD i 0=l.getD i 0:=by simp[List.getD,aL hi]
theorem Upd.new(hs:HS ρ h H){o:XO}{O:ay}(ho:vo ρ h o O):Upd ρ h H (ρ++[H.length]) (h++[o]) (H++[O]) [] []:=by
 have ht:Trn ρ h (ρ++[H.length]) (h++[o]) []:=Trn.mk (λid o' e _=>⟨o',by rw[aL (aj.1 e).1];exact e,rM.refl _⟩) (λid hid=>kZ (by rw[hs.rl];exact hid))
 refine⟨⟨by simp[hs.rl],?_,λi o' e=>?_⟩,ht,by simp,λj hj _=>aL hj,⟨[H.length],rfl,by simp⟩,by simp⟩
 .rw[nC]
  refine⟨hs.nd,by simp,λa ha b hb=>?_⟩
  simp at hb
  have:=hs.XU ha
  omega
 .rcases bK i h.length with hi|hi
  .rw[aL hi]at e
   obtain⟨O',hO',hR⟩:=hs.hr i o' e
   refine⟨O',by rw[kZ (by rw[hs.rl];exact hi),aL (hs.lt hi)];exact hO',?_⟩
   have:=ht.obj hR
   rw[w9]at this;exact this
  .have hi':i=h.length:=by have:=(aj.1 e).1;simp at this;omega
   subst hi'
   rw[aO (bq _)]at e
   simp at e
   subst e
   refine⟨O,by rw[<- hs.rl];simp[List.getD],?_⟩
   have:=ht.obj ho
   rw[w9]at this;exact this
theorem Upd.set(hs:HS ρ h H){id:Nat}{o o':XO}{O':ay}(he:h[id]?=some o)(hs2:rM o o')(ho:vo ρ h o' O'):Upd ρ h H ρ (h.set id o') (H.set (ρ.getD id 0) O') [] [id]:=by
 have hid:id<h.length:=(aj.1 he).1
 have ht:Trn ρ h ρ (h.set id o') []:=Trn.mk (λj oj e _=>by
  by_cases hj:id=j
  .subst hj;rw[he]at e;cases e;exact⟨o',by rw[bg hid],hs2⟩
  .exact⟨oj,by rw[aP hj];exact e,rM.refl _⟩) (λ_ _=>rfl)
 refine⟨⟨by simp[hs.rl],hs.nd,λi oi e=>?_⟩,ht,by simp,λj hj hn=>?_,⟨[],by simp,by simp⟩,by simp⟩
 .by_cases hi:id=i
  .subst hi
   rw[bg hid]at e
   cases e
   refine⟨O',by rw[bg (hs.lt hid)],?_⟩
   have:=ht.obj ho
   rw[w9]at this;exact this
  .rw[aP hi]at e
   have hil:=(aj.1 e).1
   obtain⟨O1,hO1,hR⟩:=hs.hr i oi e
   refine⟨O1,by rw[aP (λq=>hi (hs.inj hid hil q))];exact hO1,?_⟩
   have:=ht.obj hR
   rw[w9]at this;exact this
 .rw[aP (hn id (by simp) hid)]
theorem Upd.app(hs:HS ρ h H){id ty:Nat}{T:Ty}{fz fz':Bool}{es es':List T.den}{O':ay}(he:h[id]?=some (.row ty T fz es))(ho:vo ρ h (.row ty T fz' es') O'):Upd ρ h H ρ (qL [id] (h.set id (.row ty T fz' es'))) (H.set (ρ.getD id 0) O') [id] [id]:=by
 have hid:id<h.length:=(aj.1 he).1
 rw[sQ]
 have ht:Trn ρ h ρ ((h.set id (.row ty T fz' es')).map (lI [id])) [id]:=Trn.mk (λj oj e hj=>by
  refine⟨lI [id] oj,by rw[aK,aP (by simpa using λq=>hj (by simp[q])),e];rfl,?_⟩
  cases oj<;>simp[rM,lI]) (λ_ _=>rfl)
 refine⟨⟨by simp[hs.rl],hs.nd,λi oi e=>?_⟩,ht,by simp,λj hj hn=>?_,⟨[],by simp,by simp⟩,by simp⟩
 .rw[aK]at e
  by_cases hi:id=i
  .subst hi
   rw[bg hid]at e
   cases e
   exact⟨O',by rw[bg (hs.lt hid)],ho⟩
  .rw[aP hi]at e
   cases hx:h[i]? with
   |none=>rw[hx]at e;cases e
   |some ox =>
    rw[hx]at e;cases e
    have hil:=(aj.1 hx).1
    obtain⟨O1,hO1,hR⟩:=hs.hr i ox hx
    exact⟨O1,by rw[aP (λq=>hi (hs.inj hid hil q))];exact hO1,ht.obj hR⟩
 .rw[aP (hn id (by simp) hid)]
theorem Upd.trans{kl kl' tch a8J:List Nat}(h1:Upd ρ h H ρ' h' H' kl tch)(h2:Upd ρ' h' H' ρ'' h'' H'' kl' a8J)(hρ:ρ.length=h.length):Upd ρ h H ρ'' h'' H'' (kl++kl') (tch++a8J):=by
 obtain⟨n1,e1,q1⟩:=h1.ap
 obtain⟨n2,e2,q2⟩:=h2.ap
 refine⟨h2.hs,h1.tr.trans h2.tr,bD h1.ge h2.ge,λj hj hn=>?_,⟨n1++n2,by rw[e2,e1,aQ],λx hx=>?_⟩,bD h1.hl h2.hl⟩
 .rw[h2.fr j (jk hj h1.ge) (λid hid hlt=>?_),h1.fr j hj (λid hid=>hn id (by simp[hid]))]
  rcases bK id h.length with hl|hl
  .rw[e1,kZ (by rw[hρ];exact hl)];exact hn id (by simp[hid]) hl
  .intro hq
   have hl':id<ρ'.length:=by rw[h1.hs.rl];exact hlt
   have:ρ'.getD id 0∈n1:=by
    rw[e1]at hl' ⊢
    simp only[ak]at hl'
    have:(ρ++n1).getD id 0=n1[id-ρ.length]'(by omega):=by
     simp only[List.getD]
     rw[aO (by omega),ah (by omega)];rfl
    rw[this];exact jF _
   have:=q1 _ this
   omega
 .rcases aH.1 hx with hx|hx
  .exact q1 x hx
  .exact bD h1.ge (q2 x hx)
def isRow(h:List XO)(id:Nat):Prop:=∃ty T fz es,h[id]?=some (.row ty T fz es)
theorem Upd.frz:∀(ids:List Nat) {h:List XO} {H:List ay},HS ρ h H->(∀id∈ids,isRow h id)->Upd ρ h H ρ (kg h ids) (freeze H (ids.map λid=>ρ.getD id 0)) [] ids:=by
 intro ids
 induction ids with
 |nil=>intro h H hs _;exact Upd.same hs
 |cons id ids ih =>
  intro h H hs hr
  obtain⟨ty,T,fz,es,e⟩:=hr id (by simp)
  obtain⟨O,hO,o1,o2,o3,o4,o5⟩:=hs.hr id _ e
  have hlen:O.es.length=es.length:=by have:=o5.1;simpa using this
  have u1:Upd ρ h H ρ (h.set id (.row ty T true es)) (H.set (ρ.getD id 0) { O with fz:=O.es.length }) [] [id] :=
   Upd.set hs e ⟨rfl,rfl,rfl⟩ ⟨o1,o2,o3,by simp[hlen],o5⟩
  have u2:=ih u1.hs (λj hj=>by
   obtain⟨ty',T',fz',es',e'⟩:=hr j (by simp[hj])
   by_cases hij:id=j
   .subst hij;exact⟨ty,T,true,es,by rw[bg (aj.1 e).1]⟩
   .exact⟨ty',T',fz',es',by rw[aP hij];exact e'⟩)
  have e1:kg h (id::ids)=kg (h.set id (.row ty T true es)) ids:=by simp only[kg,fu,e];rfl
  have e2:freeze H ((id::ids).map λid=>ρ.getD id 0)=freeze (H.set (ρ.getD id 0) { O with fz:=O.es.length }) (ids.map λid=>ρ.getD id 0):=by simp only[freeze,bL,fu,hO]
  rw[e1,e2]
  exact u1.trans u2 hs.rl
end
section
variable{ρ:List Nat}{h:List XO}{H:List ay}
def yD(ρ:List Nat)(h:List XO)(H:List ay)(x:XV)(a e:AV):Prop :=
 ∃b,jT H a=some b/\Wp b e/\dJ a=(eZ x).map (λid=>ρ.getD id 0)/\∀id∈eZ x,isRow h id
theorem b0Y{x:XV}{a:AV}(hv:V1 ρ h x a):V1 ρ h (lst x) a:=by
 unfold lst
 split
 .rename_i e o
  cases o with
  |none=>have:=Wp.dN hv;subst this;exact Wp.nil _
  |some xs=>exact hv
 .exact hv
theorem OY{x:XV}{a:AV}(hv:VA ρ h x a):VA ρ h (lst x) a:=by
 by_cases ha:∃cs,x=.agg cs
 .obtain⟨cs,rfl⟩:=ha;exact hv
 .exact VA.of1 (b0Y (by cases x<;>first|exact hv|exact absurd ⟨_,rfl⟩ ha))
theorem IB{x:XV}{a:AV}(hv:VT ρ h x a):VT ρ h (lst x) a:=by
 by_cases ha:∃cs,x=.tup cs
 .obtain⟨cs,rfl⟩:=ha;exact hv
 .exact VT.ofA (OY (by cases x<;>first|exact hv|exact absurd ⟨_,rfl⟩ ha))
theorem a1U(x:XV):eZ (lst x)=eZ x:=by
 unfold lst
 split<;>rfl
def DLs(ρ:List Nat)(h:List XO)(H:List ay)(fs:List Ty):Prop :=
 ∀(cs:List XV) (as:List AV) (z:Ty.bP fs) (r:List XV),bB (V1 ρ h) cs as->vM h fs cs=some (z,r)->
  ∃cs1 as1 as2 bs,cs=cs1++r/\as=as1++as2/\bB (V1 ρ h) r as2/\lZ H as1=some bs/\bB Wp bs (Ty.iY fs z)/\as1.flatMap nY=(cs1.flatMap kD).map (λid=>ρ.getD id 0)/\∀id∈cs1.flatMap kD,isRow h id
theorem UO:∀{l m l' m':List AV},lZ H l=some l'->lZ H m=some m'->lZ H (l++m)=some (l'++m'):=by
 intro l
 induction l with
 |nil=>intro m l' m' h1 h2;cases h1;exact h2
 |cons a l ih =>
  intro m l' m' h1 h2
  simp only[lZ]at h1
  split at h1
  .rename_i b n hb hn
   cases h1
   simp only[Af,lZ,hb,ih hn h2]
  .cases h1
theorem Bw{T T':Ty}{y:T'.den}{z:T.den}{a:AV}(hc:fP y=some z)(hv:VA ρ h (.d T' y) a):yD ρ h H (.d T' y) a (Ty.enc T z):=by
 obtain⟨rfl,rfl⟩:=kY hc
 obtain⟨k1,k2⟩:=EC (x:=z) hv H
 exact⟨a,k1,hv,k2,by simp[eZ,kD]⟩
theorem KL {t:Ty} (ht:¬ ∃ gs,t=.tup gs) (ts:List Ty) (cs:List XV):vM h (t :: ts) cs=match cs with
  |[]=>none
  |c::r=>match toD h t c with
   |some x=>match vM h ts r with
    |some (y,r')=>some ((x,y),r')
    |none=>none
   |none=>none:=by
 cases t<;>first|exact absurd ⟨_,rfl⟩ ht|(cases cs<;>rfl)
theorem xJ(hs:HS ρ h H){id off len ty:Nat}{T:Ty}{fz:Bool}{es:List T.den}(he:h[id]?=some (.row ty T fz es)):nE H (.row (ρ.getD id 0) es.length T.size off len)=some (.list T.size ((((H[ρ.getD id 0]?).map (·.es)).getD []).drop off |>.take len))/\Wp (.list T.size ((((H[ρ.getD id 0]?).map (·.es)).getD []).drop off |>.take len)) (Ty.enc (.list T) ((es.drop off).take len)):=by
 obtain⟨O,hO,o1,o2,o3,o4,o5⟩:=hs.hr id _ he
 have hlen:O.es.length=es.length:=by have:=o5.1;simpa using this
 refine⟨by simp only[nE,hO,hlen,o2,o3,true_and,and_self,if_true,aW,eu],?_⟩
 simp only[hO,aW,eu]
 have:=(o5.drop off).take len
 show Wp _ (.list T.size (((es.drop off).take len).map (Ty.enc T)))
 rw[uP,yX]
 exact .list _ _ _ this.1 this.2
theorem Ww{e:Ty}{v:Value}{z:Ty.den (.iR e)}(hx:toD h (.iR e) (.k v)=some z):v=.slice none 0 0/\z=none:=by
 cases v with
 |slice ad n c =>
  cases ad with
  |some _=>cases hx
  |none =>
   cases n with
   |succ n=>cases hx
   |zero =>
    cases c with
    |succ c=>cases hx
    |zero=>exact⟨rfl,(aJ hx).symm⟩
 |_=>cases hx
theorem Wv{ty sz:Nat}{v:Value}{z:Ty.den (.rl ty sz)}(hx:toD h (.rl ty sz) (.k v)=some z):v=.slice none 0 0/\z=[]:=by
 cases v with
 |slice ad n c =>
  cases ad with
  |some _=>cases hx
  |none =>
   cases n with
   |succ n=>cases hx
   |zero =>
    cases c with
    |succ c=>cases hx
    |zero=>exact⟨rfl,(aJ hx).symm⟩
 |_=>cases hx
theorem Wu(hs:HS ρ h H)(T:Ty):(∀(x:XV) (z:T.den) (a:AV),toD h T x=some z->VA ρ h x a->yD ρ h H x a (Ty.enc T z))/\∀gs,T=.tup gs->DLs ρ h H gs:=by
 have Cg:∀(T:Ty),(∀x,toD h T x=match(generalizing:=false) x with|.d T' x=>fP x|_=>none)->∀(x:XV) (z:T.den) (a:AV),toD h T x=some z->VA ρ h x a->yD ρ h H x a (Ty.enc T z):=by
  intro T hT x z a hz hv
  rw[hT]at hz
  cases x with
  |d T' y=>exact Bw hz hv
  |_=>cases hz
 refine Ty.rec (motive_1:=λT=>(∀(x:XV) (z:T.den) (a:AV),toD h T x=some z->VA ρ h x a->yD ρ h H x a (Ty.enc T z))/\∀gs,T=.tup gs->DLs ρ h H gs)
  (motive_2:=λfs=>DLs ρ h H fs) ?_ ?_ ?_ ?_ ?_ ?_ ?_ ?_ ?_ ?_ T
 .intro k;exact⟨Cg (.int k) (λx=>by cases x<;>simp only[toD]),λgs q=>by cases q⟩
 .exact⟨Cg .bool (λx=>by cases x<;>simp only[toD]),λgs q=>by cases q⟩
 .exact⟨Cg .str (λx=>by cases x<;>simp only[toD]),λgs q=>by cases q⟩
 .intro e _
  refine⟨λx z a hz hv=>?_,λgs q=>by cases q⟩
  simp only[toD]at hz
  have hv:=OY hv
  unfold yD
  rw[<- a1U x]
  show yD ρ h H (lst x) a _
  generalize lst x=x at hz hv
  cases x with
  |d T' y=>exact Bw hz hv
  |k v =>
   split at hz
   all_goals first|(cases ‹_=_›;done)|skip
   all_goals try (rename_i q;cases q)
   all_goals first
    |(cases hz;done)
    |(cases hz;have hv:a=.v (.slice none 0 0):=hv;subst hv;exact⟨_,rfl,Wp.nil _,rfl,by simp[eZ,kD]⟩)
  |row id =>
   obtain⟨ty,T,fz,es,he,rfl⟩:=hv
   simp only[he]at hz
   obtain⟨q,rfl⟩:=kY hz
   cases q
   obtain⟨k1,k2⟩:=xJ hs (off:=0) (len:=es.length) he
   refine⟨_,k1,?_,rfl,?_⟩
   .simpa using k2
   .simp[eZ,kD];exact⟨_,_,_,_,he⟩
  |sub id off len =>
   obtain⟨ty,T,fz,es,he,rfl⟩:=hv
   simp only[he]at hz
   obtain⟨q,rfl⟩:=kY hz
   cases q
   obtain⟨k1,k2⟩:=xJ hs (off:=off) (len:=len) he
   refine⟨_,k1,k2,rfl,?_⟩
   simp[eZ,kD];exact⟨_,_,_,_,he⟩
  |_=>simp at hz
 .intro fs ih
  refine⟨λx z a hz hv=>?_,λgs q=>by cases q;exact ih⟩
  cases x with
  |d T' y=>simp only[toD]at hz;exact Bw hz hv
  |agg cs =>
   simp only[toD]at hz
   split at hz
   .rename_i z' hz'
    have hzz:z'=z:=aJ hz
    subst hzz
    obtain⟨as,rfl,hc⟩:=hv
    obtain⟨cs1,as1,as2,bs,rfl,rfl,h2,hk,hw,hrows,hval⟩:=ih cs as z' [] hc hz'
    have:=h2.lH
    subst this
    simp only[cu]
    refine⟨.agg bs,by simp[jT,hk],.agg _ _ hw.1 hw.2,hrows,hval⟩
   .cases hz
  |_=>simp[toD]at hz
 .intro f;exact⟨Cg (.fnc f) (λx=>by cases x<;>simp only[toD]),λgs q=>by cases q⟩
 .intro e _
  refine⟨λx z a hz hv=>?_,λgs q=>by cases q⟩
  cases x with
  |d T' y =>
   simp only[toD]at hz
   split at hz
   .rename_i o ho;cases hz;exact Bw ho hv
   .split at hz
    .rename_i xs hxs
     cases hz
     exact(show yD ρ h H (.d T' y) a (Ty.enc (.list e) xs) from Bw hxs hv)
    .cases hz
  |k v =>
   obtain⟨rfl,rfl⟩:=Ww hz
   have hv:a=.v (.slice none 0 0):=hv
   subst hv
   exact⟨_,rfl,Wp.refl _,rfl,by simp[eZ,kD]⟩
  |row id =>
   obtain⟨ty,T,fz,es,he,rfl⟩:=hv
   simp only[toD,he]at hz
   split at hz
   .rename_i xs hxs
    cases hz
    obtain⟨q,rfl⟩:=kY hxs
    cases q
    obtain⟨k1,k2⟩:=xJ hs (off:=0) (len:=es.length) he
    refine⟨_,k1,?_,rfl,?_⟩
    .show Wp _ (Ty.enc (.list e) es)
     simpa using k2
    .simp[eZ,kD];exact⟨_,_,_,_,he⟩
   .cases hz
  |sub id off len =>
   obtain⟨ty,T,fz,es,he,rfl⟩:=hv
   simp only[toD,he]at hz
   split at hz
   .rename_i xs hxs
    cases hz
    obtain⟨q,rfl⟩:=kY hxs
    cases q
    obtain⟨k1,k2⟩:=xJ hs (off:=off) (len:=len) he
    refine⟨_,k1,k2,rfl,?_⟩
    simp[eZ,kD];exact⟨_,_,_,_,he⟩
   .cases hz
  |_=>simp[toD]at hz
 .intro ty sz
  refine⟨λx z a hz hv=>?_,λgs q=>by cases q⟩
  cases x with
  |d T' y=>simp only[toD]at hz;exact Bw hz hv
  |k v =>
   obtain⟨rfl,rfl⟩:=Wv hz
   have hv:a=.v (.slice none 0 0):=hv
   subst hv
   exact⟨_,rfl,Wp.nil _,rfl,by simp[eZ,kD]⟩
  |row id =>
   obtain⟨ty',T,fz,es,he,rfl⟩:=hv
   simp only[toD,he]at hz
   split at hz
   .rename_i hq
    simp only[au]at hq
    have h2:=bM hq.2
    subst h2
    cases hz
    obtain⟨k1,k2⟩:=xJ hs (off:=0) (len:=es.length) he
    refine⟨_,k1,?_,rfl,?_⟩
    .have k2':Wp _ (.list T.size (List.map (Ty.enc T) ((es.drop 0).take es.length))):=k2
     have e0:(es.drop 0).take es.length=es:=by rw[kC,List.take_length]
     rw[e0]at k2'
     exact k2'
    .simp[eZ,kD];exact⟨_,_,_,_,he⟩
   .cases hz
  |sub id off len =>
   obtain⟨ty',T,fz,es,he,rfl⟩:=hv
   simp only[toD,he]at hz
   split at hz
   .rename_i hq
    simp only[au]at hq
    have h2:=bM hq.2
    subst h2
    cases hz
    obtain⟨k1,k2⟩:=xJ hs (off:=off) (len:=len) he
    refine⟨_,k1,k2,rfl,?_⟩
    simp[eZ,kD];exact⟨_,_,_,_,he⟩
   .cases hz
  |_=>simp[toD]at hz
 .intro cs as z r hc hz
  simp only[vM]at hz
  cases hz
  exact⟨[],[],as,[],rfl,rfl,hc,rfl,.nil,rfl,by simp⟩
 .intro t ts h1 h2 cs as z r hc hz
  by_cases ht:∃gs,t=.tup gs
  .obtain⟨gs,rfl⟩:=ht
   simp only[vM]at hz
   split at hz
   .rename_i x r1 hx
    split at hz
    .rename_i y r2 hy
     cases hz
     obtain⟨cs1,as1,as2,bs,rfl,rfl,q2,hk,hw,hrows,hval⟩:=h1.2 gs rfl cs as x r1 hc hx
     obtain⟨cs3,as3,as4,bs',rfl,rfl,q2',hk',hw',Po,hval'⟩:=h2 _ _ y r q2 hy
     refine⟨cs1++cs3,as1++as3,as4,bs++bs',by simp,by simp,q2',UO hk hk',?_,by simp[hrows,Po],λid hid=>?_⟩
     .simp only[Ty.iY];exact hw.append hw'
     .simp only[List.flatMap_append,aH]at hid
      rcases hid with q|q
      .exact hval id q
      .exact hval' id q
    .cases hz
   .cases hz
  .rw[KL ht]at hz
   cases cs with
   |nil=>cases hz
   |cons c cr =>
    simp only at hz
    split at hz
    .rename_i x hx
     split at hz
     .rename_i y r2 hy
      cases hz
      obtain⟨a,as',rfl,hv,hc'⟩:=hc.iW
      obtain⟨b,kb,wb,rb,vb⟩:=h1.1 c x a hx (VA.of1 hv)
      obtain⟨cs3,as3,as4,bs',rfl,rfl,q2',hk',hw',Po,hval'⟩:=h2 _ _ y r hc' hy
      have Va:t.nZ=false:=by cases t<;>first|rfl|exact absurd ⟨_,rfl⟩ ht
      have hpb:Pl1 b:=by
       rcases ql (T:=t) (x:=x) with⟨q,_⟩|⟨_,q⟩
       .rw[Va]at q;cases q
       .exact q.of_wp wb
      have hna:∀us,a≠.agg us:=λus q=>by
       subst q
       simp only[jT,dK]at kb
       obtain⟨_,_,q⟩:=kb
       subst q
       rcases hpb with⟨_,q,_⟩|⟨_,_,q⟩<;>cases q
      have kb1:nE H a=some b:=by cases a<;>first|exact kb|exact absurd rfl (hna _)
      have rb1:nY a=dJ a:=by cases a<;>first|rfl|exact absurd rfl (hna _)
      have rx1:kD c=eZ c:=by cases c<;>first|rfl|exact hv.elim
      refine⟨c::cs3,a::as3,as4,b::bs',by simp,by simp,q2',by simp only[lZ,kb1,hk'],?_,by simp[Po,rb1,rb,rx1],λid hid=>?_⟩
      ·have a2e:(Ty.enc t x).cells=[Ty.enc t x]:=by
        rcases ql (T:=t) (x:=x) with⟨q,_⟩|⟨_,q⟩
        .rw[Va]at q;cases q
        .exact q.cells
       show bB Wp (b::bs') ((Ty.enc t x).cells++Ty.iY ts y)
       rw[a2e]
       exact .cons wb hw'
      .simp only[dw,aH]at hid
       rcases hid with q|q
       .exact vb id (rx1▸q)
       .exact hval' id q
     .cases hz
    .cases hz
theorem wX(hs:HS ρ h H){T:Ty}{x:XV}{z:T.den}{a:AV}(hz:toD h T x=some z)(hv:VA ρ h x a):yD ρ h H x a (Ty.enc T z):=(Wu hs T).1 x z a hz hv
theorem Wt(T:Ty):(∀(x:XV) (z:T.den) (a:AV),toD [] T x=some z->VA ρ h x a->Wp a (Ty.enc T z))/\∀gs,T=.tup gs->∀(cs:List XV) (as:List AV) (z:Ty.bP gs) (r:List XV),bB (V1 ρ h) cs as->vM [] gs cs=some (z,r)->∃as1 as2,as=as1++as2/\bB (V1 ρ h) r as2/\bB Wp as1 (Ty.iY gs z):=by
 have dd:∀(T T':Ty) (y:T'.den) (z:T.den) (a:AV),fP y=some z->VA ρ h (.d T' y) a->Wp a (Ty.enc T z):=by
  intro T T' y z a hc hv
  obtain⟨rfl,rfl⟩:=kY hc
  exact hv
 have Cg:∀(T:Ty),(∀x,toD [] T x=match(generalizing:=false) x with|.d T' x=>fP x|_=>none)->∀(x:XV) (z:T.den) (a:AV),toD [] T x=some z->VA ρ h x a->Wp a (Ty.enc T z):=by
  intro T hT x z a hz hv
  rw[hT]at hz
  cases x with
  |d T' y=>exact dd _ _ _ _ _ hz hv
  |_=>cases hz
 refine Ty.rec (motive_1:=λT=>(∀(x:XV) (z:T.den) (a:AV),toD [] T x=some z->VA ρ h x a->Wp a (Ty.enc T z))/\∀gs,T=.tup gs->∀(cs:List XV) (as:List AV) (z:Ty.bP gs) (r:List XV),bB (V1 ρ h) cs as->vM [] gs cs=some (z,r)->∃as1 as2,as=as1++as2/\bB (V1 ρ h) r as2/\bB Wp as1 (Ty.iY gs z))
  (motive_2:=λgs=>∀(cs:List XV) (as:List AV) (z:Ty.bP gs) (r:List XV),bB (V1 ρ h) cs as->vM [] gs cs=some (z,r)->∃as1 as2,as=as1++as2/\bB (V1 ρ h) r as2/\bB Wp as1 (Ty.iY gs z)) ?_ ?_ ?_ ?_ ?_ ?_ ?_ ?_ ?_ ?_ T
 .intro k;exact⟨Cg (.int k) (λx=>by cases x<;>simp only[toD]),λgs q=>by cases q⟩
 .exact⟨Cg .bool (λx=>by cases x<;>simp only[toD]),λgs q=>by cases q⟩
 .exact⟨Cg .str (λx=>by cases x<;>simp only[toD]),λgs q=>by cases q⟩
 .intro e _
  refine⟨λx z a hz hv=>?_,λgs q=>by cases q⟩
  simp only[toD]at hz
  have hv:=OY hv
  generalize lst x=x at hz hv
  cases x with
  |d T' y=>exact dd _ _ _ _ _ hz hv
  |k v =>
   split at hz
   all_goals first|(cases ‹_=_›;done)|skip
   all_goals try (rename_i q;cases q)
   all_goals first
    |(cases hz;done)
    |(cases hz;have hv:a=.v (.slice none 0 0):=hv;subst hv;exact Wp.nil _)
  |_=>simp at hz
 .intro fs ih
  refine⟨λx z a hz hv=>?_,λgs q=>by cases q;exact ih⟩
  cases x with
  |d T' y=>simp only[toD]at hz;exact dd _ _ _ _ _ hz hv
  |agg cs =>
   simp only[toD]at hz
   split at hz
   .rename_i z' hz'
    have hzz:z'=z:=aJ hz
    subst hzz
    obtain⟨as,rfl,hc⟩:=hv
    obtain⟨as1,as2,rfl,h2,hw⟩:=ih cs as z' [] hc hz'
    have:=h2.lH
    subst this
    rw[cu]
    exact .agg _ _ hw.1 hw.2
   .cases hz
  |_=>simp[toD]at hz
 .intro f;exact⟨Cg (.fnc f) (λx=>by cases x<;>simp only[toD]),λgs q=>by cases q⟩
 .intro e _
  refine⟨λx z a hz hv=>?_,λgs q=>by cases q⟩
  cases x with
  |d T' y =>
   simp only[toD]at hz
   split at hz
   .rename_i o ho;cases hz;exact dd _ _ _ _ _ ho hv
   .split at hz
    .rename_i xs hxs
     cases hz
     exact(show Wp a (Ty.enc (.list e) xs) from dd _ _ _ _ _ hxs hv)
    .cases hz
  |k v =>
   obtain⟨rfl,rfl⟩:=Ww hz
   have hv:a=.v (.slice none 0 0):=hv
   subst hv
   exact Wp.refl _
  |_=>simp[toD]at hz
 .intro ty sz
  refine⟨λx z a hz hv=>?_,λgs q=>by cases q⟩
  cases x with
  |d T' y=>simp only[toD]at hz;exact dd _ _ _ _ _ hz hv
  |k v =>
   obtain⟨rfl,rfl⟩:=Wv hz
   have hv:a=.v (.slice none 0 0):=hv
   subst hv
   exact Wp.nil _
  |_=>simp[toD]at hz
 .intro cs as z r hc hz
  simp only[vM]at hz
  cases hz
  exact⟨[],as,rfl,hc,.nil⟩
 .intro t ts h1 h2 cs as z r hc hz
  by_cases ht:∃gs,t=.tup gs
  .obtain⟨gs,rfl⟩:=ht
   simp only[vM]at hz
   split at hz
   .rename_i x r1 hx
    split at hz
    .rename_i y r2 hy
     cases hz
     obtain⟨as1,as2,rfl,q2,hw⟩:=h1.2 gs rfl cs as x r1 hc hx
     obtain⟨as3,as4,rfl,q2',hw'⟩:=h2 _ _ y r q2 hy
     refine⟨as1++as3,as4,by simp,q2',?_⟩
     simp only[Ty.iY];exact hw.append hw'
    .cases hz
   .cases hz
  .rw[KL ht]at hz
   cases cs with
   |nil=>cases hz
   |cons c cr =>
    simp only at hz
    split at hz
    .rename_i x hx
     split at hz
     .rename_i y r2 hy
      cases hz
      obtain⟨a,as',rfl,hv,hc'⟩:=hc.iW
      have wb:=h1.1 c x a hx (VA.of1 hv)
      obtain⟨as3,as4,rfl,q2',hw'⟩:=h2 _ _ y r hc' hy
      have Va:t.nZ=false:=by cases t<;>first|rfl|exact absurd ⟨_,rfl⟩ ht
      refine⟨a::as3,as4,by simp,q2',?_⟩
      have a2e:(Ty.enc t x).cells=[Ty.enc t x]:=by
       rcases ql (T:=t) (x:=x) with⟨q,_⟩|⟨_,q⟩
       .rw[Va]at q;cases q
       .exact q.cells
      show bB Wp (a::as3) ((Ty.enc t x).cells++Ty.iY ts y)
      rw[a2e]
      exact .cons wb hw'
     .cases hz
    .cases hz
theorem wW{T:Ty}{x:XV}{z:T.den}{a:AV}(hz:toD [] T x=some z)(hv:VA ρ h x a):Wp a (Ty.enc T z):=(Wt T).1 x z a hz hv
end
section
variable{ρ:List Nat}{h:List XO}{H:List ay}{σ:St}{Gl:Nat->Option (List AV)}{rd:Opd->XV}{tt:Nat->Option Ty}
theorem mM{k:IntKind}{n:Int}{a:AV}(hv:VT ρ h (.d (.int k) n) a):a=.v (.int k n):=Wp.dN hv
theorem tC{b:Bool}{a:AV}(hv:VT ρ h (.d .bool b) a):a=.v (.bool b):=Wp.dN hv
theorem Bl{s:ByteArray}{a:AV}(hv:VT ρ h (.d .str s) a):a=.v (.string s):=Wp.dN hv
theorem a8C{f:FuncId}{u:Unit}{a:AV}(hv:VT ρ h (.d (.fnc f) u) a):a=.v (.func (.func f) #[] #[]):=Wp.dN hv
theorem G6{v:Value}{a:AV}(hv:VT ρ h (.k v) a):a=.v v:=hv
theorem VT.vW{x:XV}{a:AV}(hv:VT ρ h x a)(hx:∀vs,x≠.tup vs):VA ρ h x a:=by
 cases x<;>first|exact hv|exact absurd rfl (hx _)
theorem a0w{T:Ty}{x:T.den}{a:AV}(hw:Wp a (Ty.enc T x)):VT ρ h (.d T x) a:=hw
theorem Yi{a b:Int}(h:iLe a b=true):a<=b:=of_decide_eq_true h
theorem a0s {k:IntKind} {a b:Int} {op:BinOp} {p:Bool} {v:XV} (hx:Tc k a b op=some (p,v)) (hp:p=true):∃ q r,rF op (.int k a) (.int k b)=some (q,r)/\q/\VT ρ h v (.v r):=by
  subst hp
  cases op<;>simp only[Tc,dM,mZ,reduceCtorEq]at hx
  all_goals first
    |(exact hx.elim;done)
    | (obtain ⟨hp,rfl⟩:=hx
       refine⟨_,_,by simp only[rF,if_true];rfl,?_,Wp.refl _⟩
       first|trivial|(simp[iNe]at hp;exact hp))
theorem a0r {a b:ByteArray} {op:BinOp} {p:Bool} {v:XV} (hx:Ta a b op=some (p,v)) (hp:p=true):∃ q r,rF op (.string a) (.string b)=some (q,r)/\q/\VT ρ h v (.v r):=by
  subst hp
  cases op<;>simp only[Ta,dM,mZ,reduceCtorEq]at hx
  all_goals first
    |(exact hx.elim;done)
    | (obtain ⟨hp,rfl⟩:=hx
       refine⟨_,_,by simp only[rF];rfl,?_,Wp.refl _⟩
       first|trivial|(exact of_decide_eq_true hp))
theorem a4t{op:BinOp}{x y v:XV}{p:Bool}{a b:AV}(hx:a0t op x y=some (p,v))(hp:p=true)(ha:VT ρ h x a)(hb:VT ρ h y b):∃va vb q r,a=.v va/\b=.v vb/\rF op va vb=some (q,r)/\q/\VT ρ h v (.v r):=by
 unfold a0t at hx
 split at hx
 .rename_i k m k' n
  have ea:=mM ha
  have eb:=mM hb
  split at hx
  .cases hx;exact⟨_,_,_,_,ea,eb,rfl,Yi hp,Wp.refl _⟩
  .cases hx;exact⟨_,_,_,_,ea,eb,rfl,Yi hp,Wp.refl _⟩
  .split at hx
   .rename_i hk
    subst hk
    obtain⟨q,r,h1,h2,h3⟩:=a0s (ρ:=ρ) (h:=h) hx hp
    exact⟨_,_,q,r,ea,eb,h1,h2,h3⟩
   .cases hx
 .have ea:=Bl ha
  have eb:=Bl hb
  obtain⟨q,r,h1,h2,h3⟩:=a0r (ρ:=ρ) (h:=h) hx hp
  exact⟨_,_,q,r,ea,eb,h1,h2,h3⟩
 .cases hx
theorem EA{x:XV}{n:Int}{a:AV}(hx:Jo x=some n)(ha:VT ρ h x a):asN a=some n:=by
 unfold Jo at hx
 split at hx
 .cases hx;rw[mM ha];rfl
 .cases hx
theorem Ej{l u:Int}{n:Nat}(h:nI l u n=true):0<=l/\l<=u/\u<=n:=by
 simp only[nI,au,dV]at h
 exact⟨h.1.1,h.1.2,h.2⟩
theorem wT{n:Nat}{lo hi:Option Opd}{p:Bool}{l u:Int}(hrd:∀o,VT ρ h (rd o) (σ.val Gl o))(hx:wU n (lo.map rd) (hi.map rd)=some (p,l,u))(hp:p=true):nJ n (lo.map (σ.val Gl)) (hi.map (σ.val Gl))=some (0<=l/\l<=u/\u<=n,l,u)/\(0<=l/\l<=u/\u<=n):=by
 cases lo with
 |none =>
  cases hi with
  |none=>cases hx;exact⟨rfl,by omega⟩
  |some b =>
   simp only[wU,wJ,aW]at hx
   split at hx
   .rename_i m hm
    cases hx
    exact⟨by simp only[nJ,wJ,aW,EA hm (hrd b)],Ej hp⟩
   .cases hx
 |some a =>
  cases hi with
  |none =>
   simp only[wU,wJ,aW]at hx
   split at hx
   .rename_i m hm
    cases hx
    exact⟨by simp only[nJ,wJ,aW,EA hm (hrd a)],Ej hp⟩
   .cases hx
  |some b =>
   simp only[wU,aW]at hx
   split at hx
   .rename_i m m' hm hm'
    cases hx
    exact⟨by simp only[nJ,aW,EA hm (hrd a),EA hm' (hrd b)],Ej hp⟩
   .cases hx
theorem Tg(v:Value):V1 ρ h (vx1 v) (.v v):=by
 cases v with
 |int k n=>exact Wp.refl _
 |bool b=>exact Wp.refl _
 |string s=>exact Wp.refl _
 |func fn a b =>
  cases fn with
  |func f =>
   simp only[vx1]
   split
   .rename_i h1 h2
    have e1:a=#[]:=by simpa using h1
    have e2:b=#[]:=by simpa using h2
    subst e1 e2
    exact Wp.refl _
   .rfl
  |_=>rfl
 |_=>rfl
theorem a3h{x:XV}{a:AV}(hv:V1 ρ h x a)(hx:okX x=true):st1 false a=true/\a.cells=[a]:=by
 cases x with
 |d T y =>
  rcases ql (x:=y) with⟨q,_⟩|⟨_,q⟩
  .simp[okX,q]at hx
  .exact⟨(q.of_wp hv).st false,(q.of_wp hv).cells⟩
 |k v=>have hv:a=.v v:=hv;subst hv;exact⟨hx,rfl⟩
 |row id=>obtain⟨_,_,_,_,_,rfl⟩:=hv;exact⟨rfl,rfl⟩
 |sub id o l=>obtain⟨_,_,_,_,_,rfl⟩:=hv;exact⟨rfl,rfl⟩
 |ptr id i o=>obtain⟨_,_,rfl⟩:=hv;exact⟨rfl,rfl⟩
 |_=>cases hx
theorem cells_ok{x:XV}{cs:List XV}{a:AV}(hx:zZ x=some cs)(hv:VT ρ h x a):bB (V1 ρ h) cs a.cells/\gy false a=some a.cells:=by
 have one:∀x,okX x=true->V1 ρ h x a->cs=[x]->bB (V1 ρ h) cs a.cells/\gy false a=some a.cells:=by
  intro x ho hv hc
  obtain⟨s1,s2⟩:=a3h hv ho
  subst hc
  rw[s2]
  refine⟨.cons hv .nil,?_⟩
  cases a<;>first|(cases s1;done)|(simp only[gy,s1,if_true];done)
 cases x with
 |d T y =>
  cases hx
  exact⟨b1E hv,Hq hv false⟩
 |agg cs' =>
  simp only[zZ]at hx
  split at hx
  .rename_i hall
   cases hx
   obtain⟨as,rfl,hc⟩:=hv
   refine⟨hc,?_⟩
   have:as.all (st1 false)=true:=aG.2 λa ha=>by
    obtain⟨i,hi⟩:=dI.1 ha
    obtain⟨x,hx,hv⟩:=hc.oL hi
    exact(a3h hv (aG.1 hall x (bO hx))).1
   simp only[gy,this,if_true,AV.cells]
  .cases hx
 |k v =>
  simp only[zZ]at hx
  split at hx
  .rename_i ho;cases hx;exact one (.k v) ho hv rfl
  .cases hx
 |row id=>cases hx;exact one (.row id) rfl hv rfl
 |sub id o l=>cases hx;exact one (.sub id o l) rfl hv rfl
 |ptr id i o=>cases hx;exact one (.ptr id i o) rfl hv rfl
 |_=>cases hx
end
def dF(Gl:Nat->Option (List AV))(ρ:List Nat)(h:List XO)(σ:St)(rd:Opd->XV)(i:I)(v:XV)(kl:List Nat)(h':List XO):Prop :=
 ∃q a H' ρ' tch,step Gl σ i=some (q,a,H')/\q/\Upd ρ h σ.h ρ' (qL kl h') H' kl tch/\VT ρ' (qL kl h') v a/\∀ok:Nat->Bool,leaves ok rd i=true->∀id∈tch,ok id=true
section
variable{ρ:List Nat}{h:List XO}{H:List ay}{σ:St}{Gl:Nat->Option (List AV)}{rd:Opd->XV}{tt:Nat->Option Ty}
theorem dF.pure(hs:HS ρ h σ.h){i:I}{v:XV}{q:Prop}{a:AV}(h1:step Gl σ i=some (q,a,σ.h))(h2:q)(h3:VT ρ h v a):dF Gl ρ h σ rd i v [] h :=
 ⟨q,a,σ.h,ρ,[],h1,h2,Upd.same hs,h3,λ_ _ _ q=>by simp at q⟩
theorem vH{n m:Int}(h:bnd n m=true):0<=n/\n<m:=by
 simpa[bnd]using h
theorem LY{T:Ty}{x:T.den}{o sz:Nat}{ag:Bool}{v:XV}{cs:List AV}(hx:atT T x o sz ag=some v)(hc:bB Wp cs (Ty.enc T x).cells):if ag=true then o+sz<=cs.length/\VT ρ h v (.agg ((cs.drop o).take sz)) else ∃c,cs[o]?=some c/\VT ρ h v c:=by
 obtain⟨T',x',rfl,hq⟩:=RI _ _ _ _ _ _ hx
 cases ag with
 |true =>
  simp only[if_true]at hq ⊢
  refine⟨by rw[hc.1];exact hq.1,?_⟩
  have:=(hc.drop o).take sz
  show Wp _ _
  rw[hq.2]
  exact .agg _ _ this.1 this.2
 |false =>
  simp only[cK,if_false]at hq ⊢
  obtain⟨c,h1,h2⟩:=hc.oL hq
  exact⟨c,h1,h2⟩
theorem wz{T:Ty}(es:List T.den){i:Nat}(hi:i<es.length)(u:AV):(es.map (Ty.enc T)).getD i u=Ty.enc T (es.getD i T.dflt):=by
 simp[List.getD,ah hi]
theorem Dz (hs:HS ρ h σ.h) {sz id ty off:Nat} {T:Ty} {fz:Bool} {es:List T.den} {x i:Opd} {k:IntKind} {n:Int} {len:Nat} (he:h[id]?=some (.row ty T fz es)) (hz:T.size=sz)
  (hx:σ.val Gl x=.row (ρ.getD id 0) es.length T.size off len) (hi:σ.val Gl i=.v (.int k n)) (hb:0<=n/\n<len):dF Gl ρ h σ rd (.oK sz x i) (.ptr id (off+n.toNat) 0) [] h:=by
 refine dF.pure hs (q:=0<=n/\n<len) (a:=.ptr (ρ.getD id 0) es.length (off+n.toNat) 0) ?_ hb ⟨_,he,rfl⟩
 simp only[step,hx,hi,hz,if_true]
theorem WU{T:Ty}{es:List T.den}{O:List AV}{i o:Nat}{z:T.den}{U:Ty}{y:U.den}{a:AV}(hO:bB Wp O (es.map (Ty.enc T)))(hi:i<es.length)(hw:Wp a (Ty.enc U y))(hz:Dj y T (es.getD i T.dflt) o=some z):o+U.size<=T.size/\bB Wp (O.set i (setCells (O.getD i .any) o a.cells)) ((es.set i z).map (Ty.enc T)):=by
 obtain⟨s1,s2,s3⟩:=a0S y T _ o z hz
 refine⟨s1,?_⟩
 rw[List.map_set]
 refine hO.set ?_ i
 have he:Wp (O.getD i .any) (Ty.enc T (es.getD i T.dflt)):=by
  have:=hO.getD (n:=i) (by simpa using hi) .any .any
  rw[wz es hi]at this;exact this
 have hc:=hw.cells
 have hlen:a.cells.length=U.size:=by rw[hc.1,jL]
 rcases ql (x:=z) with⟨ht,cs,hcs⟩|⟨ht,hp⟩
 .cases T with
  |tup fs =>
   obtain⟨us,hu,hus⟩:=Wp.ku (show Wp (O.getD i .any) (.agg (Ty.iY fs (es.getD i (Ty.dflt (.tup fs))))) from he)
   rw[hu]
   have s2:Ty.iY fs z=(Ty.iY fs (es.getD i (Ty.dflt (.tup fs)))).take o++(Ty.enc U y).cells++(Ty.iY fs (es.getD i (Ty.dflt (.tup fs)))).drop (o+U.size):=s2
   show Wp (.agg (us.take o++a.cells++us.drop (o+a.cells.length))) (.agg (Ty.iY fs z))
   rw[s2,hlen]
   have:=((hus.take o).append hc).append (hus.drop (o+U.size))
   exact .agg _ _ this.1 this.2
  |_=>cases ht
 .obtain⟨rfl,hu1⟩:=s3 ht
  have hna:∀us,O.getD i .any≠.agg us:=λus q=>by
   rw[q]at he
   rcases ql (x:=es.getD i T.dflt) with⟨q',_⟩|⟨_,q'⟩
   .rw[ht]at q';cases q'
   .rcases q'.of_wp he with⟨_,q',_⟩|⟨_,_,q'⟩<;>cases q'
  have hsc:setCells (O.getD i .any) 0 a.cells=a.cells.headD .any:=by
   cases hg:O.getD i .any<;>first|rfl|exact absurd hg (hna _)
  rw[hsc]
  have hz1:(Ty.enc T z).cells=[Ty.enc T z]:=hp.cells
  have ht1:T.size=1:=by rw[<- jL T z,hz1];rfl
  rw[hz1,qx,fq,iQ (by rw[jL];omega),cu]at s2
  rw[<- s2]at hc
  obtain⟨c,r,e1,e2,e3⟩:=hc.cons_right
  rw[e1];exact e2
theorem NA{T:Ty}{es:List T.den}{O:List AV}{i:Nat}{z:T.den}{a:AV}(hO:bB Wp O (es.map (Ty.enc T)))(hi:i<es.length)(hw:Wp a (Ty.enc T z)):bB Wp (O.set i (setCells (O.getD i .any) 0 a.cells)) ((es.set i z).map (Ty.enc T)):=by
 rw[List.map_set]
 refine hO.set ?_ i
 have he:Wp (O.getD i .any) (Ty.enc T (es.getD i T.dflt)):=by
  have:=hO.getD (n:=i) (by simpa using hi) .any .any
  rw[wz es hi]at this;exact this
 have hl1:(O.getD i .any).cells.length=T.size:=by rw[he.cells.1,jL]
 have hl2:a.cells.length=T.size:=by rw[hw.cells.1,jL]
 rcases ql (x:=z) with⟨ht,cs,hcs⟩|⟨ht,hp⟩
 .cases T with
  |tup fs =>
   obtain⟨us,hu,hus⟩:=Wp.ku (show Wp (O.getD i .any) (.agg (Ty.iY fs (es.getD i (Ty.dflt (.tup fs))))) from he)
   obtain⟨as,rfl,has⟩:=Wp.ku (show Wp a (.agg (Ty.iY fs z)) from hw)
   rw[hu]at hl1 ⊢
   simp only[AV.cells]at hl1 hl2
   have:setCells (.agg us) 0 (AV.agg as).cells=.agg as:=by
    simp only[setCells,AV.cells,qx,fq,dD,iQ (show us.length<=as.length by omega),cu]
   rw[this];exact hw
  |_=>cases ht
 ·have hna:∀ us,O.getD i .any ≠ .agg us:=fun us q=>by
   rw[q]at he
   rcases ql (x:=es.getD i T.dflt) with⟨q',_⟩|⟨_,q'⟩
   .rw[ht]at q';cases q'
   .rcases q'.of_wp he with⟨_,q',_⟩|⟨_,_,q'⟩<;>cases q'
  have hsc:setCells (O.getD i .any) 0 a.cells=a.cells.headD .any:=by
   cases hg:O.getD i .any<;>first|rfl|exact absurd hg (hna _)
  rw[hsc,(hp.of_wp hw).cells];exact hw
theorem a2z{T:Ty}{v:Value}{ys:List T.den}(hx:Km h T (.k v)=some ys):v=.slice none 0 0/\ys=[]:=by
 cases v with
 |slice ad n c =>
  cases ad with
  |some _=>cases hx
  |none =>
   cases n with
   |succ n=>cases hx
   |zero =>
    cases c with
    |succ c=>cases hx
    |zero=>exact⟨rfl,(aJ hx).symm⟩
 |_=>cases hx
theorem YD(hs:HS ρ h σ.h){T:Ty}{x:XV}{ys:List T.den}{a:AV}{sz:Nat}(hz:T.size=sz)(hx:Km h T x=some ys)(hv:VT ρ h x a):∃as,jl σ.h sz a=some as/\bB Wp as (ys.map (Ty.enc T)):=by
 subst hz
 cases x with
 |d T' y =>
  have hx:fP (b:=.list T) y=some ys:=hx
  obtain⟨q,rfl⟩:=kY hx
  cases q
  rcases Wp.jB hv with⟨rfl,hn⟩|⟨as,rfl,hc⟩
  ·exact ⟨[],rfl,by
    show bB Wp [] (List.map (Ty.enc T) y)
    rw[hn];exact .nil⟩
  .exact⟨as,by simp[jl],hc⟩
 |k v =>
  obtain⟨rfl,rfl⟩:=a2z hx
  have hv:a=.v (.slice none 0 0):=hv
  subst hv
  exact⟨[],rfl,.nil⟩
 |row id =>
  obtain⟨ty,T',fz,es,he,rfl⟩:=hv
  have hx:fP (a:=.list T') (b:=.list T) es=some ys:=by rw[<- hx];show _=(match h[id]? with|some (.row _ T' _ es)=>fP (a:=.list T') (b:=.list T) es|_=>none);rw[he]
  obtain⟨q,rfl⟩:=kY hx
  cases q
  obtain⟨O,hO,o1,o2,o3,o4,o5⟩:=hs.hr _ _ he
  have hlen:O.es.length=es.length:=by have:=o5.1;simpa using this
  refine⟨(O.es.drop 0).take es.length,by simp only[jl,hO,hlen,o2,o3,and_self,if_true],?_⟩
  rw[kC,gq (by omega)]
  exact o5
 |sub id off len =>
  obtain⟨ty,T',fz,es,he,rfl⟩:=hv
  have hx:fP (a:=.list T') (b:=.list T) ((List.drop off es).take len)=some ys:=by rw[<- hx];show _=(match h[id]? with|some (.row _ T' _ es)=>fP (a:=.list T') (b:=.list T) ((List.drop off es).take len)|_=>none);rw[he]
  obtain⟨q,rfl⟩:=kY hx
  cases q
  obtain⟨O,hO,o1,o2,o3,o4,o5⟩:=hs.hr _ _ he
  have hlen:O.es.length=es.length:=by have:=o5.1;simpa using this
  refine⟨(O.es.drop off).take len,by simp only[jl,hO,hlen,o2,o3,and_self,if_true],?_⟩
  show bB Wp _ (List.map (Ty.enc _) _)
  rw[uP,yX]
  exact(o5.drop _).take _
 |_=>cases hx
theorem PO(hs:HS ρ h σ.h){T:Ty}{x:XV}{ys:List T.den}{a:AV}{sz:Nat}(hz:T.size=sz)(hx:PS h T x=some ys)(hv:VT ρ h x a):∃as,jl σ.h sz a=some as/\bB Wp as (ys.map (Ty.enc T)):=YD hs hz hx (IB hv)
theorem a4B(hs:HS ρ h H){T:Ty}:∀{xs:List XV} {ys:List T.den} {as:List AV},Dh h T xs=some ys->bB (VT ρ h) xs as->∃bs,dY H as=some bs/\bB Wp bs (ys.map (Ty.enc T))/\as.flatMap dJ=(xs.flatMap eZ).map (λid=>ρ.getD id 0)/\∀id∈xs.flatMap eZ,isRow h id:=by
 intro xs
 induction xs with
 |nil =>
  intro ys as hx hv
  cases hx
  have:=hv.lH
  subst this
  exact⟨[],rfl,.nil,rfl,by simp⟩
 |cons x xs ih =>
  intro ys as hx hv
  simp only[Dh]at hx
  split at hx
  .rename_i z l hz hl
   cases hx
   obtain⟨a,as',rfl,hv1,hv2⟩:=hv.iW
   have hnt:∀vs,x≠.tup vs:=λvs q=>by
    subst q
    cases T<;>simp[toD,lst]at hz
   obtain⟨b,k1,k2,k3,k4⟩:=wX hs hz (hv1.vW hnt)
   obtain⟨bs,i1,i2,i3,i4⟩:=ih hl hv2
   refine⟨b::bs,by simp only[dY,k1,i1],.cons k2 i2,by simp[k3,i3],λid hid=>?_⟩
   simp only[dw,aH]at hid
   rcases hid with q|q
   .exact k4 id q
   .exact i4 id q
  .cases hx
theorem DN{xs:List Opd}(hrd:∀o,VT ρ h (rd o) (σ.val Gl o)):bB (VT ρ h) (xs.map rd) (xs.map (σ.val Gl)) :=
 ⟨by simp,λi x a p q=>by
  rw[aK]at p q
  cases ho:xs[i]? with
  |none=>rw[ho]at p;cases p
  |some o=>rw[ho]at p q;cases p;cases q;exact hrd o⟩
theorem R6{T:Ty}{bs:List AV}{ys:List T.den}{sz:Nat}(hz:T.size=sz)(hc:bB Wp bs (ys.map (Ty.enc T))):bs.all (λy=>y.cells.length==sz)=true:=by
 refine aG.2 λb hb=>?_
 obtain⟨i,hi⟩:=dI.1 hb
 obtain⟨e,he,hw⟩:=hc.mF hi
 rw[aK]at he
 cases hy:ys[i]? with
 |none=>rw[hy]at he;cases he
 |some y=>rw[hy]at he;cases he;rw[hw.cells.1,jL,hz];simp
end
section
variable{ρ:List Nat}{h:List XO}{H:List ay}{σ:St}{Gl:Nat->Option (List AV)}{rd:Opd->XV}{tt:Nat->Option Ty}
theorem Jt{e:Ty}{xs:List e.den}{a:AV}(hv:VT ρ h (.d (.list e) xs) a):(a=.v (.slice none 0 0)/\xs=[])\/∃as,a=.list e.size as/\as.length=xs.length/\bB Wp as (xs.map (Ty.enc e)):=by
 rcases Wp.jB hv with⟨ha,hn⟩|⟨as,ha,hc⟩
 .exact .inl ⟨ha,List.map_eq_nil_iff.1 hn⟩
 .exact .inr ⟨as,ha,by rw[hc.1,bN],hc⟩
theorem M9{ty sz:Nat}{xs:List AV}{a:AV}(hv:VT ρ h (.d (.rl ty sz) xs) a):(a=.v (.slice none 0 0)/\xs=[])\/∃as,a=.list sz as/\as.length=xs.length/\bB Wp as xs:=by
 rcases Wp.jB hv with⟨ha,hn⟩|⟨as,ha,hc⟩
 .exact .inl ⟨ha,hn⟩
 .exact .inr ⟨as,ha,hc.1,hc⟩
abbrev lC(Gl:Nat->Option (List AV))(ρ:List Nat)(h:List XO)(σ:St)(rd:Opd->XV)(tt:Nat->Option Ty)(i:I):Prop :=
 HS ρ h σ.h->(∀o,VT ρ h (rd o) (σ.val Gl o))->∀(p:Bool) (v:XV) (kl:Option Nat) (h':List XO),iy tt h rd i=some (p,v,kl,h')->p=true->dF Gl ρ h σ rd i v kl.toList h'
theorem a4K(x:Opd):lC Gl ρ h σ rd tt (.len x):=by
 intro hs hrd p v kl h' hx hp
 simp only[iy]at hx
 have hv:=IB (hrd x)
 split at hx
 .rename_i e xs hr
  rw[hr]at hv
  cases hx
  rcases Jt hv with⟨ha,rfl⟩|⟨as,ha,hl,hc⟩
  .exact dF.pure hs (by simp only[step,ha]<;>rfl) trivial (Wp.refl _)
  .refine dF.pure hs (by simp only[step,ha]<;>rfl) trivial ?_
   rw[hl]
   exact Wp.refl _
 .rename_i ty sz xs hr
  rw[hr]at hv
  cases hx
  rcases M9 hv with⟨ha,rfl⟩|⟨as,ha,hl,hc⟩
  .exact dF.pure hs (by simp only[step,ha]<;>rfl) trivial (Wp.refl _)
  .refine dF.pure hs (by simp only[step,ha]<;>rfl) trivial ?_
   rw[hl]
   exact Wp.refl _
 .rename_i id hr
  rw[hr]at hv
  obtain⟨ty,T,fz,es,he,ha⟩:=hv
  rw[he]at hx
  cases hx
  exact dF.pure hs (by simp only[step,ha]<;>rfl) trivial (Wp.refl _)
 .rename_i id off len hr
  rw[hr]at hv
  obtain⟨ty,T,fz,es,he,ha⟩:=hv
  cases hx
  exact dF.pure hs (by simp only[step,ha]<;>rfl) trivial (Wp.refl _)
 .rename_i hr
  rw[hr]at hv
  cases hx
  have ha:=G6 hv
  exact dF.pure hs (by simp only[step,ha]<;>rfl) trivial (Wp.refl _)
 .cases hx
theorem a4J(x:Opd):lC Gl ρ h σ rd tt (.mov x):=by
 intro hs hrd p v kl h' hx hp
 simp only[iy]at hx
 cases hx
 exact dF.pure hs rfl trivial (hrd x)
theorem a0L(c a b:Opd):lC Gl ρ h σ rd tt (.pick c a b):=by
 intro hs hrd p v kl h' hx hp
 simp only[iy]at hx
 split at hx
 .rename_i t T x T' y h1 h2 h3
  split at hx
  .rename_i y' hy
   cases hx
   have hc:=hrd c;have ha:=hrd a;have hb:=hrd b
   rw[h1]at hc;rw[h2]at ha;rw[h3]at hb
   have ec:=tC hc
   obtain⟨rfl,rfl⟩:=kY hy
   refine dF.pure hs (by simp only[step,ec]<;>rfl) trivial ?_
   cases t
   .exact hb
   .exact ha
  .cases hx
 .cases hx
theorem a4P(op:BinOp)(x y:Opd):lC Gl ρ h σ rd tt (.bin op x y):=by
 intro hs hrd p v kl h' hx hp
 simp only[iy]at hx
 split at hx
 .rename_i p' v' hb
  cases hx
  obtain⟨va,vb,q,r,ea,eb,hq,hqq,hv⟩:=a4t hb hp (hrd x) (hrd y)
  exact dF.pure hs (by simp only[step,ea,eb,hq,aW]) hqq hv
 .cases hx
theorem a8T(op:UnOp)(x:Opd):lC Gl ρ h σ rd tt (.un op x):=by
 intro hs hrd p v kl h' hx hp
 simp only[iy]at hx
 have hv:=hrd x
 split at hx
 .rename_i k n h1
  rw[h1]at hv
  cases hx
  exact dF.pure hs (by simp only[step,mM hv,unV,aW]<;>rfl) trivial (Wp.refl _)
 .rename_i b h1
  rw[h1]at hv
  cases hx
  exact dF.pure hs (by simp only[step,tC hv,unV,aW]<;>rfl) trivial (Wp.refl _)
 .cases hx
theorem a0P(k:IntKind)(x:Opd):lC Gl ρ h σ rd tt (.conv k x):=by
 intro hs hrd p v kl h' hx hp
 simp only[iy]at hx
 have hv:=hrd x
 split at hx
 .rename_i k' n h1
  rw[h1]at hv
  cases hx
  exact dF.pure hs (by simp only[step,mM hv]<;>rfl) trivial (Wp.refl _)
 .cases hx
theorem a4M(i:Nat)(x:Opd):lC Gl ρ h σ rd tt (.ext i x):=by
 intro hs hrd p v kl h' hx hp
 simp only[iy]at hx
 have hv:=hrd x
 split at hx
 .rename_i vs h1
  rw[h1]at hv
  obtain⟨as,ha,hc⟩:=hv
  split at hx
  .rename_i w hw
   cases hx
   obtain⟨a,h2,h3⟩:=hc.mF hw
   exact dF.pure hs (by simp only[step,ha,h2,aW]<;>rfl) trivial (VT.ofA h3)
  .cases hx
 .cases hx
theorem WM(off:Nat)(x:Opd):lC Gl ρ h σ rd tt (.tQ off x):=by
 intro hs hrd p v kl h' hx hp
 simp only[iy]at hx
 have hv:=hrd x
 split at hx
 .rename_i id i o h1
  rw[h1]at hv
  obtain⟨ob,he,ha⟩:=hv
  cases hx
  exact dF.pure hs (by simp only[step,ha]<;>rfl) trivial ⟨ob,he,rfl⟩
 .rename_i T y o h1
  rw[h1]at hv
  obtain⟨cs,ha,hc⟩:=hv
  cases hx
  refine dF.pure hs (by simp only[step,ha]<;>rfl) trivial ⟨_,rfl,?_⟩
  have:=hc.drop off
  rw[tZ]at this
  exact this
 .cases hx
theorem a4I(x:Opd):lC Gl ρ h σ rd tt (.nck x):=by
 intro hs hrd p v kl h' hx hp
 simp only[iy]at hx
 have hv:=hrd x
 split at hx
 .rename_i id i o h1
  rw[h1]at hv
  obtain⟨ob,he,ha⟩:=hv
  cases hx
  exact dF.pure hs (by simp only[step,ha]<;>rfl) trivial ⟨ob,he,rfl⟩
 .rename_i T y o h1
  rw[h1]at hv
  obtain⟨cs,ha,hc⟩:=hv
  cases hx
  exact dF.pure hs (by simp only[step,ha]<;>rfl) trivial ⟨_,rfl,hc⟩
 .cases hx
theorem beq_eq{a b:Nat}(h:Nat.beq a b=true):a=b:=bM h
theorem LZ(hs:HS ρ h σ.h){e:Ty}{xs:List e.den}{k:IntKind}{n:Int}{x i:Opd}{sz:Nat}(hv:VT ρ h (.d (.list e) xs) (σ.val Gl x))(ei:σ.val Gl i=.v (.int k n))(hz:e.size=sz)(hb:bnd n (aD xs)=true):dF Gl ρ h σ rd (.oK sz x i) (.lp e (atI xs n e.dflt) 0) [] h:=by
 have hb:=vH hb
 rcases Jt hv with⟨ha,rfl⟩|⟨as,ha,hl,hc⟩
 .simp[aD]at hb;omega
 .have hlt:n.toNat<xs.length:=by have:=hb.2;simp only[aD]at this;omega
  refine dF.pure hs (q:=0<=n/\n<as.length) (a:=.fZ (as.getD n.toNat .any).cells) (by simp only[step,ha,ei,hz,if_true]) ⟨hb.1,by rw[hl];exact hb.2⟩ ⟨_,rfl,?_⟩
  rw[kC]
  have:=hc.getD (n:=n.toNat) (by rw[bN];exact hlt) .any .any
  rw[wz _ hlt]at this
  exact this.cells
theorem Qq(hs:HS ρ h σ.h){ty sz':Nat}{T:Ty}{xs:List AV}{k:IntKind}{n:Int}{x i:Opd}{sz:Nat}(hv:VT ρ h (.d (.rl ty sz') xs) (σ.val Gl x))(ei:σ.val Gl i=.v (.int k n))(hz:sz'=sz)(hb:bnd n (aD xs)=true)(hd:okD T (atI xs n .any)=true):dF Gl ρ h σ rd (.oK sz x i) (.lp T (Kq T (atI xs n .any)) 0) [] h:=by
 have hb:=vH hb
 rcases M9 hv with⟨ha,rfl⟩|⟨as,ha,hl,hc⟩
 .simp[aD]at hb;omega
 .have hlt:n.toNat<xs.length:=by have:=hb.2;simp only[aD]at this;omega
  refine dF.pure hs (q:=0<=n/\n<as.length) (a:=.fZ (as.getD n.toNat .any).cells) (by simp only[step,ha,ei,hz,if_true]) ⟨hb.1,by rw[hl];exact hb.2⟩ ⟨_,rfl,?_⟩
  rw[kC]
  exact((hc.getD (n:=n.toNat) hlt .any .any).trans (Ry hd)).cells
theorem WK(sz:Nat)(x i:Opd):lC Gl ρ h σ rd tt (.oK sz x i):=by
 intro hs hrd p v kl h' hx hp
 simp only[iy]at hx
 have hv:=IB (hrd x)
 have hi:=hrd i
 split at hx
 .rename_i e xs k n h1 h2
  rw[h1]at hv;rw[h2]at hi
  have ei:=mM hi
  split at hx
  .rename_i hz
   cases hx
   exact LZ hs hv ei (beq_eq hz) hp
  .cases hx
 .rename_i ty sz' xs k n h1 h2
  rw[h1]at hv;rw[h2]at hi
  have ei:=mM hi
  split at hx
  .rename_i T hT
   split at hx
   .rename_i hz
    cases hx
    simp only[au]at hz hp
    exact Qq hs hv ei (beq_eq hz.2) hp.1 hp.2
   .cases hx
  .cases hx
 .rename_i id k n h1 h2
  rw[h1]at hv;rw[h2]at hi
  have ei:=mM hi
  obtain⟨ty,T,fz,es,he,ha⟩:=hv
  rw[he]at hx
  simp only at hx
  split at hx
  .rename_i hz
   cases hx
   have:=Dz (Gl:=Gl) (rd:=rd) hs he (beq_eq hz) ha ei (vH hp)
   rw[dD]at this;exact this
  .cases hx
 .rename_i id off len k n h1 h2
  rw[h1]at hv;rw[h2]at hi
  have ei:=mM hi
  obtain⟨ty,T,fz,es,he,ha⟩:=hv
  rw[he]at hx
  simp only at hx
  split at hx
  .rename_i hz
   cases hx
   exact Dz (Gl:=Gl) (rd:=rd) hs he (beq_eq hz) ha ei (vH hp)
  .cases hx
 .cases hx
theorem a0O(sz:Nat)(ag:Bool)(x:Opd):lC Gl ρ h σ rd tt (.load sz ag x):=by
 intro hs hrd p v kl h' hx hp
 simp only[iy]at hx
 have hv:=hrd x
 split at hx
 .rename_i T y o h1
  rw[h1]at hv
  obtain⟨cs,ha,hc⟩:=hv
  split at hx
  .rename_i w hw
   cases hx
   obtain⟨T',x',rfl,hq⟩:=RI _ _ _ _ _ _ hw
   cases ag with
   |true =>
    simp only[if_true]at hq
    have hl:sz<=cs.length:=by rw[hc.1,qU];omega
    refine dF.pure hs (by simp only[step,ha,hl,if_true]<;>rfl) trivial ?_
    show Wp _ _
    rw[hq.2]
    have:=hc.take sz
    exact .agg _ _ this.1 this.2
   |false =>
    simp only[cK,if_false]at hq
    have:((Ty.enc T y).cells.drop o)[0]?=some (Ty.enc T' x'):=by rw[fJ,jW];exact hq
    obtain⟨c,h2,h3⟩:=hc.oL this
    have hh:cs.head?=some c:=by rw[List.head?_eq_getElem?];exact h2
    exact dF.pure hs (by simp only[step,ha,hh,cK,if_false,aW]<;>rfl) trivial h3
  .cases hx
 .rename_i id i o h1
  rw[h1]at hv
  obtain⟨ob,he,ha⟩:=hv
  rw[he]at hx
  obtain⟨O,hO,hR⟩:=hs.hr id ob he
  cases ob with
  |row ty T fz es =>
   simp only at hx
   split at hx
   .rename_i w hw
    cases hx
    obtain⟨o1,o2,o3,o4,o5⟩:=hR
    have hlen:O.es.length=es.length:=by have:=o5.1;simpa using this
    have hlt:i<es.length:=of_decide_eq_true hp
    have hcell:bB Wp (O.es.getD i .any).cells (Ty.enc T (es.getD i T.dflt)).cells:=by
     have:=o5.getD (n:=i) (by rw[bN];exact hlt) .any .any
     rw[wz _ hlt]at this
     exact this.cells
    have hq:=LY (ρ:=ρ) (h:=h) hw hcell
    have hsz:(O.es.getD i .any).cells.length=T.size:=by rw[hcell.1,jL]
    cases ag with
    |true =>
     simp only[if_true]at hq
     exact dF.pure hs (q:=o+sz<=O.sz/\i<es.length) (by simp only[step,ha,hO,XO.len,hlen,if_true]<;>rfl) ⟨by rw[o2];omega,hlt⟩ hq.2
    |false =>
     simp only[cK,if_false]at hq
     obtain⟨c,hc,hv⟩:=hq
     have hol:o<(O.es.getD i .any).cells.length:=(aj.1 hc).1
     refine dF.pure hs (q:=o<O.sz/\i<es.length) (by simp only[step,ha,hO,XO.len,hlen,if_true,cK,if_false]<;>rfl) ⟨by rw[o2];omega,hlt⟩ ?_
     have:(O.es.getD i .any).cells.getD o .any=c:=by simp only[List.getD]at hc ⊢;rw[hc];rfl
     rw[this];exact hv
   .cases hx
  |box ty cs =>
   obtain⟨o1,o2,o3,o4,e,o5,hc⟩:=hR
   have hlen:O.es.length=1:=by rw[o5];rfl
   simp only at hx
   cases ag with
   |true =>
    simp only[if_true]at hx
    split at hx
    .rename_i hb
     cases hx
     simp only[au]at hb
     have hi:=beq_eq hb.1
     have hl:=aZ hb.2
     subst hi
     refine dF.pure hs (q:=o+sz<=O.sz/\0<1) (by simp only[step,ha,hO,XO.len,hlen,if_true]<;>rfl) ⟨by rw[o2];exact hl,by omega⟩ ?_
     rw[o5]
     exact⟨_,rfl,(hc.drop o).take sz⟩
    .cases hx
   |false =>
    simp only[cK,if_false]at hx
    split at hx
    .rename_i hb
     have hi:=beq_eq hb
     subst hi
     split at hx
     .rename_i w hw
      cases hx
      obtain⟨c,h2,h3⟩:=hc.mF hw
      have hol:o<cs.length:=(aj.1 hw).1
      refine dF.pure hs (q:=o<O.sz/\0<1) (by simp only[step,ha,hO,XO.len,hlen,if_true,cK,if_false]<;>rfl) ⟨by rw[o2];exact hol,by omega⟩ ?_
      rw[o5]
      have:([e].getD 0 AV.any).cells.getD o .any=c:=by simp only[List.getD_cons_zero];simp only[List.getD,h2];rfl
      rw[this];exact VT.of1 h3
     .cases hx
    .cases hx
 .cases hx
end
section
variable{ρ:List Nat}{h:List XO}{H:List ay}{σ:St}{Gl:Nat->Option (List AV)}{rd:Opd->XV}{tt:Nat->Option Ty}
theorem a0G{a:AV}(hs:gy false a=some a.cells):∀c∈a.cells,c.cells=[c]:=by
 intro c hc
 have hst:st1 false c=true:=by
  cases a with
  |agg as =>
   simp only[gy]at hs
   split at hs
   .rename_i hall;exact aG.1 hall c hc
   .cases hs
  |_ =>
   simp only[gy]at hs
   split at hs
   .rename_i h1
    simp only[AV.cells,aY]at hc
    subst hc;exact h1
   .cases hs
 cases c<;>first|rfl|(cases hst;done)
theorem WI(sz:Nat)(x y:Opd):lC Gl ρ h σ rd tt (.store sz x y):=by
 intro hs hrd p v kl h' hx hp
 simp only[iy]at hx
 have hv:=hrd x
 have hvy:=hrd y
 split at hx
 case h_2=>cases hx
 rename_i id i o h1
 rw[h1]at hv
 obtain⟨ob,he,ha⟩:=hv
 rw[he]at hx
 obtain⟨O,hO,hR⟩:=hs.hr id ob he
 have hleave:∀ok:Nat->Bool,leaves ok rd (.store sz x y)=true->∀id'∈[id],ok id'=true:=by
  intro m hm id' hid
  simp only[leaves,h1,au]at hm
  simp only[aY]at hid
  subst hid
  exact hm.1
 cases ob with
 |row ty T fz es =>
  obtain⟨o1,o2,o3,o4,o5⟩:=hR
  have hlen:O.es.length=es.length:=by have:=o5.1;simpa using this
  simp only at hx
  split at hx
  .rename_i T' w h2
   rw[h2]at hvy
   split at hx
   .rename_i hz
    have hz:=beq_eq hz
    split at hx
    .rename_i z hset
     cases hx
     have hlt:i<es.length:=of_decide_eq_true hp
     have hst:=Hq (x:=w) hvy O.pr
     have hcl:(σ.val Gl y).cells.length=sz:=by rw[(Wp.cells hvy).1,jL,hz]
     obtain⟨s1,s2⟩:=WU o5 hlt hvy hset
     refine⟨o+sz<=O.sz/\i<es.length/\O.fz<=i,.any,_,ρ,[id],by simp only[step,ha,hO,XO.len,hlen,if_true,hst,hcl]<;>rfl,⟨by rw[o2];omega,hlt,by rw[o4];simp⟩,?_,trivial,hleave⟩
     exact Upd.set hs he ⟨rfl,rfl,by simp⟩ ⟨o1,o2,o3,by simpa using o4,s2⟩
    .cases hx
   .cases hx
  .rename_i cs h2
   rw[h2]at hvy
   split at hx
   .rename_i ho
    have ho:=beq_eq ho
    subst ho
    split at hx
    .rename_i z hz
     split at hx
     .rename_i hsz
      have hsz:=beq_eq hsz
      cases hx
      have hlt:i<es.length:=of_decide_eq_true hp
      have hw:=wW hz (VT.vW hvy (λvs q=>by cases q))
      have hst:=Hq (x:=z) hw O.pr
      have hcl:(σ.val Gl y).cells.length=sz:=by rw[(Wp.cells hw).1,jL,hsz]
      have s2:=NA o5 hlt hw
      refine⟨0+sz<=O.sz/\i<es.length/\O.fz<=i,.any,_,ρ,[id],by simp only[step,ha,hO,XO.len,hlen,if_true,hst,hcl]<;>rfl,⟨by rw[o2];omega,hlt,by rw[o4];simp⟩,?_,trivial,hleave⟩
      exact Upd.set hs he ⟨rfl,rfl,by simp⟩ ⟨o1,o2,o3,by simpa using o4,s2⟩
     .cases hx
    .split at hx
     case h_2=>cases hx
     rename_i z hz
     split at hx
     case isFalse=>cases hx
     rename_i hb
     cases hx
     simp only[au,fH]at hb
     obtain⟨⟨hb1,hb2⟩,hb3⟩:=hb
     have hsz:=beq_eq hb1
     have hlt:i<es.length:=of_decide_eq_true hp
     obtain⟨b,k1,k2,k3,k4⟩:=wX hs hz (VT.vW hvy (λvs q=>by cases q))
     have hnone:gy O.pr (σ.val Gl y)=none:=by
      obtain⟨as,ha2,hl⟩:=hvy
      obtain⟨c,hc,hcr⟩:=gT.1 hb2
      obtain⟨j,hj⟩:=dI.1 hc
      obtain⟨d,hd,hv1⟩:=hl.mF hj
      have hst:st1 true d=false:=by
       cases c with
       |row j=>obtain⟨_,_,_,_,_,rfl⟩:=hv1;rfl
       |sub j o l=>obtain⟨_,_,_,_,_,rfl⟩:=hv1;rfl
       |_=>simp[kD]at hcr
      have hall:as.all (st1 true)=false:=by
       rcases q:as.all (st1 true) with _|_
       .rfl
       .have:=aG.1 q d (bO hd);rw[hst]at this;cases this
      rw[ha2,o3]
      simp[gy,hall]
     have u1:=Upd.frz _ hs k4
     have he2:(kg h (eZ (.agg cs)))[id]?=some (.row ty T false es):=by
      have hid:id∉eZ (.agg cs):=λq=>by
       have:(eZ (.agg cs)).any (Nat.beq id)=true:=gT.2 ⟨id,q,sZ id⟩
       rw[this]at hb3;cases hb3
      have key:∀(ids:List Nat) (g:List XO),id∉ids->(kg g ids)[id]?=g[id]?:=by
       intro ids
       induction ids with
       |nil=>intro g _;rfl
       |cons j ids ih =>
        intro g hn
        have hj:j≠id:=λq=>hn (by simp[q])
        have hi:id∉ids:=λq=>hn (by simp[q])
        simp only[kg,fu]
        have:=λg=>ih g hi
        simp only[kg]at this
        rw[this]
        cases hg:g[j]? with
        |none=>rfl
        |some o=>exact aP hj
      rw[key _ _ hid];exact he
     obtain⟨O',hO',p1,p2,p3,p4,p5⟩:=u1.hs.hr id _ he2
     have hst:=Hq k2 O'.pr
     have hcl:b.cells.length=sz:=by rw[(Wp.cells k2).1,jL,hsz]
     have s2:=NA p5 hlt k2
     rw[<- k3]at hO' u1
     refine⟨0+sz<=O'.sz/\i<es.length/\O'.fz<=i,.any,_,ρ,eZ (.agg cs)++[id],by simp only[step,ha,hO,XO.len,hlen,if_true,hnone,k1,hO',hst,hcl]<;>rfl,⟨by rw[p2];omega,hlt,by rw[p4];simp⟩,?_,trivial,λok hok id' hid=>?_⟩
     .exact u1.trans (Upd.set u1.hs he2 ⟨rfl,rfl,by simp⟩ ⟨p1,p2,p3,by simpa using p4,s2⟩) hs.rl
     .simp only[leaves,h1,h2,au]at hok
      rcases aH.1 hid with q|q
      .exact aG.1 hok.2 id' q
      .exact hleave ok (by simp only[leaves,h1,h2,au];exact hok) id' q
   .split at hx
    case h_2=>cases hx
    rename_i T' _
    split at hx
    case h_2=>cases hx
    rename_i v hz
    split at hx
    case h_2=>cases hx
    rename_i z hset
    split at hx
    case isFalse=>cases hx
    rename_i hsz
    have hsz:=beq_eq hsz
    cases hx
    have hlt:i<es.length:=of_decide_eq_true hp
    have hw:=wW hz (VT.vW hvy (λvs q=>by cases q))
    have hst:=Hq (x:=v) hw O.pr
    have hcl:(σ.val Gl y).cells.length=sz:=by rw[(Wp.cells hw).1,jL,hsz]
    obtain⟨s1,s2⟩:=WU o5 hlt hw hset
    refine⟨o+sz<=O.sz/\i<es.length/\O.fz<=i,.any,_,ρ,[id],by simp only[step,ha,hO,XO.len,hlen,if_true,hst,hcl]<;>rfl,⟨by rw[o2];omega,hlt,by rw[o4];simp⟩,?_,trivial,hleave⟩
    exact Upd.set hs he ⟨rfl,rfl,by simp⟩ ⟨o1,o2,o3,by simpa using o4,s2⟩
  .cases hx
 |box ty cs =>
  obtain⟨o1,o2,o3,o4,e,o5,hc⟩:=hR
  have hlen:O.es.length=1:=by rw[o5];rfl
  simp only at hx
  split at hx
  .rename_i vs hvs
   split at hx
   .rename_i hb
    cases hx
    simp only[au]at hb
    have hi:=beq_eq hb.1.1.1
    have hsz:=beq_eq hb.1.1.2
    have hl:=aZ hb.1.2
    have h0:=wE hb.2
    subst hi
    obtain⟨c1,c2⟩:=cells_ok hvs hvy
    have hcl:(σ.val Gl y).cells.length=sz:=by rw[<- c1.1,hsz]
    have hst:gy O.pr (σ.val Gl y)=some (σ.val Gl y).cells:=by rw[o3];exact c2
    refine⟨o+sz<=O.sz/\0<1/\O.fz<=0,.any,_,ρ,[id],by simp only[step,ha,hO,XO.len,hlen,if_true,hst,hcl]<;>rfl,⟨by rw[o2];exact hl,by omega,by rw[o4];simp⟩,?_,trivial,hleave⟩
    refine Upd.set hs he trivial ⟨o1,?_,o3,o4,setCells e o (σ.val Gl y).cells,by simp only[o5,List.set_cons_zero,List.getD_cons_zero],?_⟩
    .simp only[ak,jE,qU];rw[o2];omega
    .cases e with
     |agg us =>
      have hc:bB (V1 ρ h) cs us:=hc
      show bB (V1 ρ h) _ (us.take o++(σ.val Gl y).cells++us.drop (o+(σ.val Gl y).cells.length))
      rw[hcl,<- hsz]
      have:=((hc.take o).append c1).append (hc.drop (o+vs.length))
      exact this
     |_ =>
      have a2d:cs.length=1:=by rw[hc.1];rfl
      have ho:o=0:=by omega
      have hs1:vs.length=1:=by omega
      subst ho
      have hcs:(σ.val Gl y).cells.length=1:=by omega
      match hcc:(σ.val Gl y).cells,hcs with
      |[c],_ =>
       rw[hcc]at c1
       have hc1:=a0G c2 c (by rw[hcc];simp)
       show bB (V1 ρ h) _ c.cells
       rw[hc1,qx,fq,iQ (by omega),cu]
       exact c1
   .cases hx
  .cases hx
theorem a2H{e:Ty}{l u:Int}{xs:List e.den}{as:List AV}(hc:bB Wp as (xs.map (Ty.enc e))):bB Wp ((as.take u.toNat).drop l.toNat) ((qM l u xs).map (Ty.enc e)):=by
 simp only[qM,yX,uP]
 exact(hc.take _).drop _
theorem LX(hs:HS ρ h σ.h)(hrd:∀o,VT ρ h (rd o) (σ.val Gl o)){e:Ty}{xs:List e.den}{x:Opd}{lo hi:Option Opd}{sz:Nat}{p:Bool}{l u:Int}(hv:VT ρ h (.d (.list e) xs) (σ.val Gl x))(hz:e.size=sz)(hcut:wU xs.length (lo.map rd) (hi.map rd)=some (p,l,u))(hp:p=true):dF Gl ρ h σ rd (.slice sz x lo hi) (.d (.list e) (qM l u xs)) [] h:=by
 rcases Jt hv with⟨ha,rfl⟩|⟨as,ha,hl,hc⟩
 .obtain⟨h1,h2⟩:=wT hrd hcut hp
  refine dF.pure hs (by simp only[step,ha];simp only[fF]at h1;rw[h1]<;>rfl) h2 ?_
  have:qM l u ([]:List e.den)=[]:=by simp[qM]
  rw[this]
  exact Wp.nil _
 .obtain⟨h1,h2⟩:=wT hrd hcut hp
  rw[<- hl]at h1 h2
  refine dF.pure hs (by simp only[step,ha,hz,if_true,h1,aW]<;>rfl) h2 ?_
  have:=a2H (l:=l) (u:=u) hc
  rw[<- hz]
  exact .list _ _ _ this.1 this.2
theorem Dy (hs:HS ρ h σ.h) (hrd:∀ o,VT ρ h (rd o) (σ.val Gl o)) {id ty off len:Nat} {T:Ty} {fz:Bool} {es:List T.den} {x:Opd} {lo hi:Option Opd} {sz:Nat} {p:Bool} {l u:Int} (he:h[id]?=some (.row ty T fz es)) (ha:σ.val Gl x=.row (ρ.getD id 0) es.length T.size off len) (hz:T.size=sz)
  (hcut:wU len (lo.map rd) (hi.map rd)=some (p,l,u)) (hp:p=true):dF Gl ρ h σ rd (.slice sz x lo hi) (.sub id (off+l.toNat) (u-l).toNat) [] h:=by
 obtain⟨h1,h2⟩:=wT hrd hcut hp
 exact dF.pure hs (q:=0<=l/\l<=u/\u<=(len:Int)) (by simp only[step,ha,hz,if_true,h1,aW]<;>rfl) h2 ⟨_,_,_,_,he,by rw[hz]⟩
theorem Qp(hs:HS ρ h σ.h)(hrd:∀o,VT ρ h (rd o) (σ.val Gl o)){ty sz':Nat}{xs:List AV}{x:Opd}{lo hi:Option Opd}{sz:Nat}{p:Bool}{l u:Int}(hv:VT ρ h (.d (.rl ty sz') xs) (σ.val Gl x))(hz:sz'=sz)(hcut:wU xs.length (lo.map rd) (hi.map rd)=some (p,l,u))(hp:p=true):dF Gl ρ h σ rd (.slice sz x lo hi) (.d (.rl ty sz') (qM l u xs)) [] h:=by
 rcases M9 hv with⟨ha,rfl⟩|⟨as,ha,hl,hc⟩
 .obtain⟨h1,h2⟩:=wT hrd hcut hp
  refine dF.pure hs (by simp only[step,ha];simp only[fF]at h1;rw[h1]<;>rfl) h2 ?_
  have:qM l u ([]:List AV)=[]:=by simp[qM]
  rw[this]
  exact Wp.nil _
 .obtain⟨h1,h2⟩:=wT hrd hcut hp
  rw[<- hl]at h1 h2
  refine dF.pure hs (by simp only[step,ha,hz,if_true,h1,aW]<;>rfl) h2 ?_
  have:=(hc.take u.toNat).drop l.toNat
  rw[<- hz]
  exact .list _ _ _ this.1 this.2
theorem WJ(sz:Nat)(x:Opd)(lo hi:Option Opd):lC Gl ρ h σ rd tt (.slice sz x lo hi):=by
 intro hs hrd p v kl h' hx hp
 simp only[iy]at hx
 have hv:=IB (hrd x)
 split at hx
 .rename_i e xs h1
  rw[h1]at hv
  split at hx
  .rename_i hz
   split at hx
   .rename_i p' l u hc
    cases hx
    exact LX hs hrd hv (beq_eq hz) hc hp
   .cases hx
  .cases hx
 .rename_i ty sz' xs h1
  rw[h1]at hv
  split at hx
  .rename_i hz
   split at hx
   .rename_i p' l u hc
    cases hx
    exact Qp hs hrd hv (beq_eq hz) hc hp
   .cases hx
  .cases hx
 .rename_i h1
  rw[h1]at hv
  split at hx
  .rename_i p' l u hc
   cases hx
   obtain⟨q1,q2⟩:=wT hrd hc hp
   exact dF.pure hs (by simp only[step,G6 hv];rw[q1]<;>rfl) q2 rfl
  .cases hx
 .rename_i id h1
  rw[h1]at hv
  obtain⟨ty,T,fz,es,he,ha⟩:=hv
  rw[he]at hx
  simp only at hx
  split at hx
  .rename_i hz
   split at hx
   .rename_i p' l u hc
    cases hx
    have:=Dy hs hrd he ha (beq_eq hz) hc hp
    rw[dD]at this
    exact this
   .cases hx
  .cases hx
 .rename_i id off len h1
  rw[h1]at hv
  obtain⟨ty,T,fz,es,he,ha⟩:=hv
  rw[he]at hx
  simp only at hx
  split at hx
  .rename_i hz
   split at hx
   .rename_i p' l u hc
    cases hx
    exact Dy hs hrd he ha (beq_eq hz) hc hp
   .cases hx
  .cases hx
 .cases hx
theorem Tq(x:Opd)(lo hi:Option Opd):lC Gl ρ h σ rd tt (.oI x lo hi):=by
 intro hs hrd p v kl h' hx hp
 simp only[iy]at hx
 have hv:=hrd x
 split at hx
 .rename_i s h1
  rw[h1]at hv
  split at hx
  .rename_i p' l u hc
   cases hx
   obtain⟨q1,q2⟩:=wT hrd hc hp
   exact dF.pure hs (by simp only[step,Bl hv];rw[q1]<;>rfl) q2 (Wp.refl _)
  .cases hx
 .cases hx
theorem a0K(x:Opd):lC Gl ρ h σ rd tt (.wZ x):=by
 intro hs hrd p v kl h' hx hp
 simp only[iy]at hx
 have hv:=hrd x
 split at hx
 .rename_i s h1
  rw[h1]at hv
  cases hx
  exact dF.pure hs (by simp only[step,Bl hv]<;>rfl) trivial (Wp.refl _)
 .cases hx
theorem a4L(x i:Opd):lC Gl ρ h σ rd tt (.idx x i):=by
 intro hs hrd p v kl h' hx hp
 simp only[iy]at hx
 have hv:=hrd x;have hi:=hrd i
 split at hx
 .rename_i s k n h1 h2
  rw[h1]at hv;rw[h2]at hi
  cases hx
  exact dF.pure hs (by simp only[step,Bl hv,mM hi]<;>rfl) (vH hp) (Wp.refl _)
 .cases hx
theorem a0M(x y:Opd):lC Gl ρ h σ rd tt (.min2 x y):=by
 intro hs hrd p v kl h' hx hp
 simp only[iy]at hx
 have hv:=hrd x;have hi:=hrd y
 split at hx
 .rename_i k a k' b h1 h2
  rw[h1]at hv;rw[h2]at hi
  cases hx
  exact dF.pure hs (by simp only[step,mM hv,mM hi]<;>rfl) trivial (Wp.refl _)
 .cases hx
theorem a0N(x y:Opd):lC Gl ρ h σ rd tt (.max2 x y):=by
 intro hs hrd p v kl h' hx hp
 simp only[iy]at hx
 have hv:=hrd x;have hi:=hrd y
 split at hx
 .rename_i k a k' b h1 h2
  rw[h1]at hv;rw[h2]at hi
  cases hx
  exact dF.pure hs (by simp only[step,mM hv,mM hi]<;>rfl) trivial (Wp.refl _)
 .cases hx
theorem Lu{l:List Nat}{a:Nat}:(l++[a]).getD l.length 0=a:=by simp[List.getD]
theorem tN(hs:HS ρ h H){ty sz:Nat}{T:Ty}{ys:List T.den}{as:List AV}(hz:T.size=sz)(hc:bB Wp as (ys.map (Ty.enc T))):Upd ρ h H (ρ++[H.length]) (h++[.row ty T false ys]) (H++[⟨ty,sz,0,true,as⟩]) [] []/\V1 (ρ++[H.length]) (h++[.row ty T false ys]) (.row h.length) (.row H.length as.length sz 0 as.length):=by
 refine⟨Upd.new hs ⟨rfl,hz.symm,rfl,by simp,hc⟩,ty,T,false,ys,by simp,?_⟩
 have:as.length=ys.length:=by rw[hc.1,bN]
 rw[this,<- hs.rl,Lu,hz]
theorem CJ{n b:Nat}(h:fits n b=true):n*b<=nD/\n<=4611686018427387904:=by simpa[fits]using h
theorem LC(hs:HS ρ h σ.h){ty:Nat}{T:Ty}{x:XV}{q:Bool}{ys:List T.den}{a:AV}{sz:Nat}(hz:T.size=sz)(hx:PV h ty T x=some (q,ys))(hq:q=true)(hv:VT ρ h x a):∃as,jl σ.h sz a=some as/\bB Wp as (ys.map (Ty.enc T)):=by
 unfold PV at hx
 split at hx
 .rename_i ty' sz' xs
  split at hx
  .rename_i hc
   simp only[au]at hc
   have hs':=beq_eq hc.2
   cases hx
   rw[hz]at hs'
   subst hs'
   rcases M9 hv with⟨rfl,rfl⟩|⟨as,rfl,hl,hw⟩
   .exact⟨[],rfl,.nil⟩
   .exact⟨as,by simp[jl],VN hw (a2F hq)⟩
  .cases hx
 .split at hx
  .rename_i zs hzs
   cases hx
   exact PO hs hz hzs hv
  .cases hx
theorem a4R(ty sz bytes:Nat)(s x:Opd):lC Gl ρ h σ rd tt (.app ty sz bytes s x):=by
 intro hs hrd p v kl h' hx hp
 simp only[iy]at hx
 have hv:=hrd s
 split at hx
 case h_2=>cases hx
 rename_i T hT
 split at hx
 case isFalse=>cases hx
 rename_i hz
 have hz:=beq_eq hz
 split at hx
 case h_2=>cases hx
 rename_i q0 ys hys
 split at hx
 .rename_i h1
  rw[h1]at hv
  cases hx
  rw[au]at hp
  obtain⟨as,ha,hc⟩:=LC hs hz hys hp.1 (hrd x)
  have hal:as.length=ys.length:=by rw[hc.1,bN]
  have hp:=hp.2
  obtain⟨u1,u2⟩:=tN (ty:=ty) hs hz hc
  have hf:=CJ hp
  refine⟨as.length*bytes<=nD/\as.length<=4611686018427387904,_,_,_,[],by simp only[step,ha,G6 hv,wG]<;>rfl,by rw[hal];exact hf,u1,VT.of1 u2,by simp⟩
 .rename_i id h1
  rw[h1]at hv
  obtain⟨ty',T',fz',es',he,hav⟩:=hv
  rw[he]at hx
  simp only at hx
  split at hx
  case h_2=>cases hx
  rename_i ys' hcast
  split at hx
  case isFalse=>cases hx
  rename_i hty
  have hty:=beq_eq hty
  cases hx
  rw[au]at hp
  obtain⟨as,ha,hc⟩:=LC hs hz hys hp.1 (hrd x)
  have hal:as.length=ys.length:=by rw[hc.1,bN]
  have hp:=hp.2
  obtain⟨q,rfl⟩:=kY hcast
  cases q
  subst hty
  obtain⟨O,hO,o1,o2,o3,o4,o5⟩:=hs.hr id _ he
  have hlen:O.es.length=es'.length:=by have:=o5.1;simpa using this
  have hf:=CJ hp
  have o4':O.fz=0:=by simpa using o4
  have Cv:vo ρ h (.row ty T false (es'++ys)) { O with es:=O.es++as }:=⟨o1,o2,o3,by simpa using o4,by rw[bJ];exact o5.append hc⟩
  have hu:=Upd.app hs he Cv
  refine⟨es'.length=es'.length/\(es'.length+as.length)*bytes<=nD/\es'.length+as.length<=4611686018427387904,.row (ρ.getD id 0) (es'.length+as.length) sz 0 (es'.length+as.length),_,ρ,[id],?_,⟨rfl,by rw[hal];exact hf.1,by rw[hal];exact hf.2⟩,hu,?_,?_⟩
  .simp only[step,ha,hav,wG,hO,hlen,hz,o1,o2,o3,o4',and_self,if_true]
  .refine VT.of1 ⟨ty,T,false,es'++ys,?_,?_⟩
   .show(qL [id] (h.set id (.row ty T false (es'++ys))))[id]?=_
    rw[sQ,aK,bg (aj.1 he).1];rfl
   .rw[ak,hal,hz]
  .intro m hm id' hid
   simp only[leaves,h1]at hm
   simp only[aY]at hid
   subst hid
   exact hm
 .cases hx
theorem YQ(b:ByteArray):bB Wp (jm b) ((qp b).map (Ty.enc (.int .u8))):=by
 have:(qp b).map (Ty.enc (.int .u8))=jm b:=by
  unfold qp jm
  rw[gX];rfl
 rw[this];exact bB.rfl' Wp.refl _
theorem Vy(b:ByteArray):(qp b).length=(jm b).length:=by unfold qp jm;rw[bN,bN]
theorem a0Q(ty bytes:Nat)(s x:Opd):lC Gl ρ h σ rd tt (.apps ty bytes s x):=by
 intro hs hrd p v kl h' hx hp
 simp only[iy]at hx
 have hv:=hrd s
 have hw:=hrd x
 split at hx
 case h_2=>cases hx
 rename_i b hT h2
 rw[h2]at hw
 have ew:=Bl hw
 have hc:=YQ b
 have hal:(jm b).length=(qp b).length:=(Vy b).symm
 have hz:Ty.size (.int .u8)=1:=rfl
 split at hx
 .rename_i h1
  rw[h1]at hv
  cases hx
  obtain⟨u1,u2⟩:=tN (ty:=ty) hs hz hc
  have hf:=CJ hp
  refine⟨(jm b).length*bytes<=nD/\(jm b).length<=4611686018427387904,_,_,_,[],by simp only[step,ew,G6 hv,wG]<;>rfl,by rw[hal];exact hf,u1,VT.of1 u2,by simp⟩
 .rename_i id h1
  rw[h1]at hv
  obtain⟨ty',T',fz',es',he,hav⟩:=hv
  rw[he]at hx
  split at hx
  case h_2=>cases hx
  rename_i ty2 es2 hq
  cases hq
  split at hx
  case isFalse=>cases hx
  rename_i hty
  have hty:=beq_eq hty
  cases hx
  subst hty
  obtain⟨O,hO,o1,o2,o3,o4,o5⟩:=hs.hr id _ he
  have hlen:O.es.length=es2.length:=by have:=o5.1;rw[bN]at this;exact this
  have hf:=CJ hp
  have Cv:vo ρ h (.row ty (.int .u8) false (es2++qp b)) { O with es:=O.es++jm b }:=⟨o1,o2,o3,by simpa using o4,by rw[bJ];exact o5.append hc⟩
  have hu:=Upd.app hs he Cv
  have hap:step Gl σ (.apps ty bytes s x)=some (es2.length=es2.length/\(es2.length+(jm b).length)*bytes<=nD/\es2.length+(jm b).length<=4611686018427387904,.row (ρ.getD id 0) (es2.length+(jm b).length) 1 0 (es2.length+(jm b).length),σ.h.set (ρ.getD id 0) { O with es:=O.es++jm b }):=by
   have ew':σ.val Gl x=.v (.string b):=ew
   simp only[step,ew',hav,wG,hO]
   exact if_pos ⟨hlen,rfl,o1,o2,trivial,o3,by simpa using o4⟩
  refine⟨_,_,_,_,[id],hap,⟨rfl,by rw[hal];exact hf⟩,hu,?_,?_⟩
  .refine VT.of1 ⟨ty,.int .u8,false,es2++qp b,?_,?_⟩
   .show(qL [id] (h.set id (.row ty (.int .u8) false (es2++qp b))))[id]?=_
    rw[sQ,aK,bg (aj.1 he).1];rfl
   .rw[ak,hal,hz]
  .intro m hm id' hid
   simp only[leaves,h1]at hm
   simp only[aY]at hid
   subst hid
   exact hm
 .cases hx
theorem Qy:∀(xs:List Int) (as:List AV),bB Wp as (xs.map (Ty.enc (.int .u8)))->bytesOf as=some (xs.map λn=>UInt8.ofNat n.toNat):=by
 intro xs
 induction xs with
 |nil=>intro as h;rw[h.Lb];rfl
 |cons x xs ih =>
  intro as h
  obtain⟨a,as',rfl,h1,h2⟩:=h.cons_right
  have e:a=.v (.int .u8 x):=h1.dN
  subst e
  simp only[bytesOf,byteOf,ih as' h2,bL]
theorem a4Q(x:Opd):lC Gl ρ h σ rd tt (.b2s x):=by
 intro hs hrd p v kl h' hx hp
 simp only[iy]at hx
 split at hx
 .rename_i xs hxs
  cases hx
  obtain⟨as,ha,hc⟩:=PO hs (T:=.int .u8) (sz:=1) rfl hxs (hrd x)
  exact dF.pure hs (by simp only[step,ha,Qy xs as hc,aW]<;>rfl) trivial (Wp.refl _)
 .cases hx
theorem Vi:∀(ids:List Nat) (H:List ay),(freeze H ids).length=H.length:=by
 intro ids
 induction ids with
 |nil=>intro H;rfl
 |cons id ids ih =>
  intro H
  cases he:H[id]? with
  |none =>
   have e:freeze H (id::ids)=freeze H ids:=by simp only[freeze,fu,he]
   rw[e];exact ih H
  |some o =>
   have e:freeze H (id::ids)=freeze (H.set id { o with fz:=o.es.length }) ids:=by simp only[freeze,fu,he]
   rw[e,ih];simp
theorem a2l:∀(ids:List Nat) (h:List XO),(kg h ids).length=h.length:=by
 intro ids
 induction ids with
 |nil=>intro H;rfl
 |cons id ids ih =>
  intro H
  cases he:H[id]? with
  |none =>
   have e:kg H (id::ids)=kg H ids:=by simp only[kg,fu,he]
   rw[e];exact ih H
  |some o =>
   have e:kg H (id::ids)=kg (H.set id (Px o)) ids:=by simp only[kg,fu,he]
   rw[e,ih];simp
theorem Tt(ty sz:Nat)(xs:List Opd):lC Gl ρ h σ rd tt (.mq ty sz xs):=by
 intro hs hrd p v kl h' hx hp
 simp only[iy]at hx
 split at hx
 case h_2=>cases hx
 rename_i T hT
 split at hx
 case isFalse=>cases hx
 rename_i hz
 have hz:=beq_eq hz
 split at hx
 case h_2=>cases hx
 rename_i ys hys
 cases hx
 obtain⟨bs,k1,k2,k3,k4⟩:=a4B hs hys (DN (Gl:=Gl) (σ:=σ) hrd)
 have u1:=Upd.frz _ hs k4
 obtain⟨u2,u3⟩:=tN (ty:=ty) u1.hs hz k2
 have u:=u1.trans u2 hs.rl
 have hfl:(freeze σ.h (((xs.map rd).flatMap eZ).map λid=>ρ.getD id 0)).length=σ.h.length:=Vi _ _
 rw[hfl,a2l]at u3
 rw[hfl,<- k3]at u
 refine⟨True,_,_,_,_,by simp only[step,k1,R6 hz k2,if_true]<;>rfl,trivial,u,VT.of1 u3,?_⟩
 intro m hm id hid
 simp only[leaves]at hm
 simp only[cu]at hid
 exact aG.1 hm id hid
theorem KU{T:Ty}:∀{xs:List XV} {ys:List T.den} {as:List AV},Dh [] T xs=some ys->bB (VT ρ h) xs as->dY H as=some as/\bB Wp as (ys.map (Ty.enc T))/\∀a∈as,dJ a=[]:=by
 intro xs
 induction xs with
 |nil =>
  intro ys as hx hv
  cases hx
  have:=hv.lH
  subst this
  exact⟨rfl,.nil,by simp⟩
 |cons x xs ih =>
  intro ys as hx hv
  simp only[Dh]at hx
  split at hx
  .rename_i z l hz hl
   cases hx
   obtain⟨a,as',rfl,hv1,hv2⟩:=hv.iW
   have hnt:∀vs,x≠.tup vs:=λvs q=>by
    subst q
    cases T<;>simp[toD,lst]at hz
   have hw:=wW hz (hv1.vW hnt)
   obtain⟨k1,k2⟩:=EC hw H
   obtain⟨i1,i2,i3⟩:=ih hl hv2
   refine⟨by simp only[dY,k1,i1],.cons hw i2,λb hb=>?_⟩
   rcases bE.1 hb with rfl|hb
   .exact k2
   .exact i3 b hb
  .cases hx
theorem WQ(ty sz:Nat)(xs:List Opd):lC Gl ρ h σ rd tt (.zo ty sz xs):=by
 intro hs hrd p v kl h' hx hp
 simp only[iy]at hx
 split at hx
 case h_2=>cases hx
 rename_i T hT
 split at hx
 case isFalse=>cases hx
 rename_i hz
 have hz:=beq_eq hz
 split at hx
 case h_2=>cases hx
 rename_i ys hys
 cases hx
 obtain⟨k1,k2,k3⟩:=KU (H:=σ.h) hys (DN (Gl:=Gl) (σ:=σ) hrd)
 have hr:(xs.map (σ.val Gl)).all (λa=>(dJ a).isEmpty)=true:=aG.2 λa ha=>by rw[k3 a ha];rfl
 refine dF.pure hs (by simp only[step,k1,R6 hz k2,hr,Bool.and_self,if_true]<;>rfl) trivial ?_
 rw[<- hz]
 exact .list _ _ _ k2.1 k2.2
theorem a2N(hrd:∀o,VT ρ h (rd o) (σ.val Gl o)):∀(ps:List (Nat×Nat×Opd)) (cs:List XV) (as:List AV) (cs':List XV),bB (V1 ρ h) cs as->J9 rd cs ps=some cs'->∃as',ny Gl σ as ps=some as'/\bB (V1 ρ h) cs' as':=by
 intro ps
 induction ps with
 |nil=>intro cs as cs' hc hb;cases hb;exact⟨as,rfl,hc⟩
 |cons p ps ih =>
  intro cs as cs' hc hb
  obtain⟨off,sz,x⟩:=p
  simp only[J9]at hb
  split at hb
  .rename_i vs hvs
   split at hb
   .rename_i hq
    simp only[au]at hq
    have h1:=beq_eq hq.1
    have h2:=aZ hq.2
    obtain⟨c1,c2⟩:=cells_ok hvs (hrd x)
    obtain⟨as',e1,e2⟩:=ih _ _ cs' (((hc.take off).append c1).append (hc.drop (off+sz))) hb
    refine⟨as',?_,e2⟩
    have hl:(σ.val Gl x).cells.length=sz:=by rw[<- c1.1,h1]
    simp only[ny,c2,hl,true_and,show off+sz<=as.length from by rw[<- hc.1];exact h2,if_true]
    exact e1
   .cases hb
  .cases hb
theorem Qz(l:List Value):bB (V1 ρ h) (l.map vx1) (l.map .v) :=
 ⟨by simp,λi x a p q=>by
  rw[aK]at p q
  cases hv:l[i]? with
  |none=>rw[hv]at p;cases p
  |some v=>rw[hv]at p q;cases p;cases q;exact Tg v⟩
theorem WO(zero:List Value)(ps:List (Nat×Nat×Opd)):lC Gl ρ h σ rd tt (.build zero ps):=by
 intro hs hrd p v kl h' hx hp
 simp only[iy]at hx
 split at hx
 .rename_i cs hb
  cases hx
  obtain⟨as,e1,e2⟩:=a2N hrd ps _ _ cs (Qz zero) hb
  exact dF.pure hs (by simp only[step,e1,aW]<;>rfl) trivial ⟨as,rfl,e2⟩
 .cases hx
theorem QY(hs:HS ρ h H){ty:Nat}{cs:List XV}{e:AV}{sz:Nat}(hz:cs.length=sz)(hc:bB (V1 ρ h) cs e.cells):Upd ρ h H (ρ++[H.length]) (h++[.box ty cs]) (H++[⟨ty,sz,0,false,[e]⟩]) [] []/\V1 (ρ++[H.length]) (h++[.box ty cs]) (.ptr h.length 0 0) (.ptr H.length 1 0 0):=by
 refine⟨Upd.new hs ⟨rfl,hz.symm,rfl,rfl,e,rfl,hc⟩,.box ty cs,by simp,?_⟩
 rw[<- hs.rl,Lu];rfl
theorem a4O(ty sz:Nat)(x:Opd):lC Gl ρ h σ rd tt (.box ty sz x):=by
 intro hs hrd p v kl h' hx hp
 simp only[iy]at hx
 split at hx
 .rename_i cs hcs
  split at hx
  .rename_i hz
   have hz:=beq_eq hz
   cases hx
   obtain⟨c1,c2⟩:=cells_ok hcs (hrd x)
   have hl:(σ.val Gl x).cells.length=sz:=by rw[<- c1.1,hz]
   obtain⟨u1,u2⟩:=QY (ty:=ty) hs hz c1
   exact⟨True,_,_,_,[],by simp only[step,c2,hl,if_true]<;>rfl,trivial,u1,VT.of1 u2,by simp⟩
  .cases hx
 .cases hx
theorem a3g(v:Value):VT ρ h (vx v) (rG v):=by
 by_cases ha:∃cs,v=.agg cs
 .obtain⟨cs,rfl⟩:=ha;exact⟨_,rfl,Qz cs.toList⟩
 .have e1:vx v=vx1 v:=by cases v<;>first|rfl|exact absurd ⟨_,rfl⟩ ha
  have e2:rG v=.v v:=by cases v<;>first|rfl|exact absurd ⟨_,rfl⟩ ha
  rw[e1,e2];exact VT.of1 (Tg v)
theorem YW(v:Value):(rG v).cells.length=v.cells.size:=by
 cases v with
 |agg cs=>simp[rG,AV.cells,Value.cells]
 |_=>rfl
theorem WR(ty:Nat)(zero:Value):lC Gl ρ h σ rd tt (.alloc ty zero):=by
 intro hs hrd p v kl h' hx hp
 simp only[iy]at hx
 split at hx
 .rename_i cs hcs
  cases hx
  obtain⟨c1,c2⟩:=cells_ok hcs (a3g (ρ:=ρ) (h:=h) zero)
  obtain⟨u1,u2⟩:=QY (ty:=ty) (sz:=zero.cells.size) hs (by rw[c1.1,YW]) c1
  exact⟨True,_,_,_,[],by simp only[step]<;>rfl,trivial,u1,VT.of1 u2,by simp⟩
 .cases hx
theorem Yt{n:Int}{b:Nat}(h:Aq n b=true):0<=n/\n*b<=nD/\n<=4611686018427387904:=by
 simp only[Aq,au,dV]at h
 exact⟨h.1.1,h.1.2,h.2⟩
theorem a9p(hs:HS ρ h σ.h){ty sz bytes:Nat}{zero:Value}{n:Opd}{m:Int}{T:Ty}{z:T.den}(hn:σ.val Gl n=.v (.int .i64 m))(hz:T.size=sz)(ht:toD [] T (vx zero)=some z)(hp:Aq m bytes=true):dF Gl ρ h σ rd (.mk ty sz bytes zero n) (.row h.length) [] (h++[.row ty T false (List.replicate m.toNat z)]):=by
 have hf:=Yt hp
 have hnt:∀vs,vx zero≠.tup vs:=λvs q=>by
  rw[q]at ht
  cases T<;>simp[toD,lst]at ht
 have hw:=wW ht (VT.vW (a3g (ρ:=ρ) (h:=h) zero) hnt)
 have hc:bB Wp (List.replicate m.toNat (rG zero)) ((List.replicate m.toNat z).map (Ty.enc T)):=by
  rw[List.map_replicate]
  exact⟨by simp,λi x y p q=>by
   have p':=gD (bO p)
   have q':=gD (bO q)
   subst p' q';exact hw⟩
 obtain⟨u1,u2⟩:=tN (ty:=ty) hs hz hc
 rw[qz]at u2
 exact⟨_,_,_,_,[],by simp only[step,hn]<;>rfl,hf,u1,VT.of1 u2,by simp⟩
theorem a8U(ty sz bytes:Nat)(zero:Value)(n:Opd):lC Gl ρ h σ rd tt (.mk ty sz bytes zero n):=by
 intro hs hrd p v kl h' hx hp
 simp only[iy]at hx
 have hv:=hrd n
 split at hx
 .rename_i T m hT h1
  rw[h1]at hv
  split at hx
  .rename_i hz
   split at hx
   .rename_i z hzz
    cases hx
    exact a9p hs (mM hv) (beq_eq hz) hzz hp
   .cases hx
  .cases hx
 .cases hx
theorem Xo (hs:HS ρ h σ.h) {bsz st n id j:Nat} {x i:Opd} {k:IntKind} {m:Int} {ty:Nat} {T:Ty} {fz:Bool} {es:List T.den} (he:h[id]?=some (.row ty T fz es)) (ha:σ.val Gl x=.ptr (ρ.getD id 0) (XO.len (.row ty T fz es)) j 0) (ei:σ.val Gl i=.v (.int k m)) (hz:T.size=bsz) (hb:0<=m/\m < (n:Int)) :
  dF Gl ρ h σ rd (.o8 bsz st n x i) (.ptr id (j+m.toNat*st) 0) [] h:=by
 obtain⟨O,hO,o1,o2,_⟩:=hs.hr id _ he
 exact dF.pure hs (q:=0<=m/\m<(n:Int)) (a:=.ptr (ρ.getD id 0) (XO.len (.row ty T fz es)) (j+m.toNat*st) 0) (by simp only[step,ha,ei,hO];rw[if_pos ⟨trivial,by rw[o2];exact hz⟩]) hb ⟨_,he,rfl⟩
theorem U7 (hs:HS ρ h σ.h) {n id j o:Nat} {x i:Opd} {k:IntKind} {m:Int} {ty:Nat} {T:Ty} {fz:Bool} {es:List T.den} (he:h[id]?=some (.row ty T fz es)) (ha:σ.val Gl x=.ptr (ρ.getD id 0) (XO.len (.row ty T fz es)) j o) (ei:σ.val Gl i=.v (.int k m)) (hz:o=0->T.size=1->False) (hb:0<=m/\m < (n:Int)) :
  dF Gl ρ h σ rd (.o8 1 1 n x i) (.ptr id j (o+m.toNat)) [] h:=by
 obtain⟨O,hO,o1,o2,_⟩:=hs.hr id _ he
 exact dF.pure hs (q:=0<=m/\m<(n:Int)) (a:=.ptr (ρ.getD id 0) (XO.len (.row ty T fz es)) j (o+m.toNat)) (by simp only[step,ha,ei,hO];rw[if_neg (by rw[o2];rintro⟨q1,q2⟩;exact hz q1 q2),if_pos ⟨trivial,trivial⟩]) hb ⟨_,he,rfl⟩
theorem a0z{T:Ty}:∀{fs:List Ty} {x:Ty.bP fs} {xs:List T.den},Ti T fs x=some xs->Ty.iY fs x=xs.flatMap λy=>(Ty.enc T y).cells:=by
 intro fs
 induction fs with
 |nil=>intro x xs h;cases h;rfl
 |cons t ts ih =>
  intro x xs h
  simp only[Ti]at h
  split at h
  .rename_i a l ha hl
   cases h
   obtain⟨e,rfl⟩:=kY ha
   subst e
   simp only[Ty.iY,dw,ih hl]
  .cases h
theorem a2r{α β:Type}(f:α->List β)(k:Nat)(hk:∀x,(f x).length=k):∀(xs:List α) (m:Nat) (hm:m<xs.length),((xs.flatMap f).drop (m*k)).take k=f xs[m]:=by
 intro xs
 induction xs with
 |nil=>intro m hm;simp at hm
 |cons x xs ih =>
  intro m hm
  rw[dw]
  cases m with
  |zero=>simp[hk x]
  |succ m =>
   have e:(f x++xs.flatMap f).drop ((m+1)*k)=(xs.flatMap f).drop (m*k):=by
    rw[Ae,iQ (by rw[hk x,dL,iP];omega),fq,hk x]
    congr 1
    rw[dL,iP];omega
   rw[e]
   exact ih m (by simpa using hm)
theorem WS(bsz st n:Nat)(x i:Opd):lC Gl ρ h σ rd tt (.o8 bsz st n x i):=by
 intro hs hrd p v kl h' hx hp
 simp only[iy]at hx
 have hv:=hrd x
 have hi:=hrd i
 split at hx
 .rename_i id j o k m h1 h2
  rw[h1]at hv;rw[h2]at hi
  have ei:=mM hi
  obtain⟨ob,he,ha⟩:=hv
  rw[he]at hx
  split at hx
  .rename_i ty T fz es hq
   cases hq
   split at hx
   .rename_i hz
    simp only[au]at hz
    have h0:=beq_eq hz.1
    subst h0
    cases hx
    exact Xo hs he ha ei (beq_eq hz.2) (vH hp)
   .rename_i hz
    split at hx
    .rename_i h11
     simp only[au]at h11
     have e1:=beq_eq h11.1
     have e2:=beq_eq h11.2
     subst e1 e2
     cases hx
     exact U7 hs he ha ei (λq1 q2=>hz (by rw[q1,q2];rfl)) (vH hp)
    .cases hx
  .cases hx
 .rename_i T ts y o k m h1 h2
  rw[h1]at hv;rw[h2]at hi
  have ei:=mM hi
  split at hx
  case h_2=>cases hx
  rename_i xs hxs
  split at hx
  case isFalse=>cases hx
  rename_i hz
  simp only[au]at hz
  obtain⟨⟨⟨z1,z2⟩,z3⟩,z4⟩:=hz
  have z1:=beq_eq z1
  have z2:=beq_eq z2
  have z3:=beq_eq z3
  have z4:=beq_eq z4
  subst z1;subst z3
  cases hx
  have hb:=vH hp
  obtain⟨cs,ha,hc⟩:=hv
  rw[kC]at hc
  have hm:m.toNat<xs.length:=by omega
  have e1:atI xs m T.dflt=xs[m.toNat]:=by
   show xs.getD m.toNat _=_
   simp[List.getD,ah hm]
  refine dF.pure hs (by simp only[step,ha,ei]<;>rfl) hb ⟨_,rfl,?_⟩
  rw[kC,e1]
  have hq:=(hc.drop (m.toNat*T.size)).take T.size
  have e2:(Ty.enc (.tup (T::ts)) y).cells=xs.flatMap λx=>(Ty.enc T x).cells:=a0z hxs
  rw[e2,a2r (λx=>(Ty.enc T x).cells) T.size (λx=>jL T x) xs m.toNat hm]at hq
  rw[iP,<- z2]
  exact hq
 .cases hx
theorem a4N(ty:Nat)(xs:List Opd):lC Gl ρ h σ rd tt (.bsc ty xs):=by
 intro hs hrd p v kl h' hx hp
 simp only[iy]at hx
 split at hx
 case h_2=>cases hx
 rename_i T hT
 split at hx
 case isFalse=>cases hx
 rename_i hcond
 simp only[au]at hcond
 split at hx
 case h_2=>cases hx
 rename_i ys hys
 cases hx
 have hm:=DN (Gl:=Gl) (σ:=σ) (xs:=xs) hrd
 obtain⟨k1,k2,k3⟩:=KU (H:=σ.h) hys hm
 obtain⟨u2,u3⟩:=tN (ty:=ty) hs (beq_eq hcond.1) k2
 have hall:(xs.map (σ.val Gl)).all sc1=true:=aG.2 λa ha=>by
  obtain⟨i,hi⟩:=dI.1 ha
  obtain⟨x,hx,hv⟩:=hm.oL hi
  have hsx:=aG.1 hcond.2 x (bO hx)
  cases x with
  |d T y=>cases T<;>first|(cases hsx;done)|(rw[show a=_ from Wp.dN hv];rfl)
  |_=>cases hsx
 rw[bN]at u3
 exact⟨True,_,_,_,[],by simp only[step,hall,if_true]<;>rfl,trivial,u2,VT.of1 u3,by simp⟩
theorem Da(i:I):lC Gl ρ h σ rd tt i:=by
 cases i with
 |mov x=>exact a4J x
 |pick c a b=>exact a0L c a b
 |bin op x y=>exact a4P op x y
 |un op x=>exact a8T op x
 |conv k x=>exact a0P k x
 |ext i x=>exact a4M i x
 |tQ o x=>exact WM o x
 |oK s x i=>exact WK s x i
 |load s g x=>exact a0O s g x
 |store s x y=>exact WI s x y
 |slice s x lo hi=>exact WJ s x lo hi
 |oI x lo hi=>exact Tq x lo hi
 |len x=>exact a4K x
 |wZ x=>exact a0K x
 |nck x=>exact a4I x
 |idx x i=>exact a4L x i
 |app t s b x y=>exact a4R t s b x y
 |apps t b x y=>exact a0Q t b x y
 |b2s x=>exact a4Q x
 |mq t s xs=>exact Tt t s xs
 |zo t s xs=>exact WQ t s xs
 |build z ps=>exact WO z ps
 |box t s x=>exact a4O t s x
 |alloc t z=>exact WR t z
 |mk t s b z n=>exact a8U t s b z n
 |bsc t xs=>exact a4N t xs
 |o8 b s n x i=>exact WS b s n x i
 |min2 x y=>exact a0M x y
 |max2 x y=>exact a0N x y
 |call f as=>intro hs hrd p v kl h' hx hp;cases hx
end
abbrev Foc:=List (Option Nat)
def FLe(a b:Foc):Prop:=a.length=b.length/\∀(j id:Nat),a[j]?=some (some id)->b[j]?=some (some id)
theorem FLe.refl(a:Foc):FLe a a:=⟨rfl,λ_ _ h=>h⟩
theorem FLe.trans{a b c:Foc}(h:FLe a b)(k:FLe b c):FLe a c:=⟨h.1.trans k.1,λj id q=>k.2 j id (h.2 j id q)⟩
theorem BN{foc iq:Foc}{j id:Nat}(h:asg foc j id=some iq):FLe foc iq/\iq[j]?=some (some id):=by
 unfold asg at h
 split at h
 .rename_i hj
  cases h
  have hlt:j<foc.length:=(aj.1 hj).1
  refine⟨⟨by simp,λk id' q=>?_⟩,by rw[bg hlt]⟩
  by_cases hk:j=k
  .subst hk;rw[hj]at q;cases q
  .rw[aP hk];exact q
 .rename_i id' hj
  split at h
  .rename_i hb
   cases h
   have:=beq_eq hb
   subst this
   exact⟨FLe.refl _,hj⟩
  .cases h
 .cases h
inductive CR (foc:Foc):XV->XV->Prop
 |any (v:XV):CR foc v .any
 |d (v:XV) (T:Ty) (x:T.den) (h:toD [] T v=some x):CR foc v (.d T x)
 |row (id j:Nat) (h:foc[j]?=some (some id)):CR foc (.row id) (.row j)
 |ptr (id j i o:Nat) (h:foc[j]?=some (some id)):CR foc (.ptr id i o) (.ptr j i o)
 |nil:CR foc (.k (.slice none 0 0)) (.k (.slice none 0 0))
 |me (id j:Nat) (h:foc[j]?=some (some id)):CR foc (.me id) (.me j)
 |mep (id j:Nat) (h:foc[j]?=some (some id)):CR foc (.ptr id 0 0) (.me j)
 |men (j:Nat):CR foc (.k (.pointer none)) (.me j)
 |sub (id j o n:Nat) (h:foc[j]?=some (some id)):CR foc (.sub id o n) (.sub j o n)
theorem CR.mono{foc iq:Foc}{v c:XV}(h:CR foc v c)(hl:FLe foc iq):CR iq v c:=by
 cases h with
 |any=>exact .any _
 |d _ T x h=>exact .d _ T x h
 |row id j h=>exact .row id j (hl.2 _ _ h)
 |ptr id j i o h=>exact .ptr id j i o (hl.2 _ _ h)
 |nil=>exact .nil
 |me id j h=>exact .me id j (hl.2 _ _ h)
 |mep id j h=>exact .mep id j (hl.2 _ _ h)
 |men j=>exact .men j
 |sub id j o n h=>exact .sub id j o n (hl.2 _ _ h)
theorem Lm{v:XV}(h:Bz v=true):v=.k (.slice none 0 0):=by
 unfold Bz at h
 split at h
 .rfl
 .cases h
theorem a5J{v:Value}(h:a1G v=true):v=.pointer none:=by
 unfold a1G at h
 split at h
 .rfl
 .cases h
theorem XZ{v:XV}(h:AZ v=some none):v=.k (.pointer none):=by
 cases v with
 |k v =>
  simp only[AZ]at h
  split at h
  .rename_i q;rw[a5J q]
  .cases h
 |ptr id i o=>simp only[AZ]at h;split at h<;>cases h
 |_=>simp[AZ]at h
theorem XY{foc:Foc}{v:XV}{id j:Nat}(h:AZ v=some (some id))(hj:foc[j]?=some (some id)):CR foc v (.me j):=by
 cases v with
 |k v=>simp only[AZ]at h;split at h<;>cases h
 |ptr id' i o =>
  simp only[AZ]at h
  split at h
  .rename_i hb
   simp only[au]at hb
   have e1:=beq_eq hb.1
   have e2:=beq_eq hb.2
   subst e1 e2
   cases h
   exact .mep _ _ hj
  .cases h
 |me id'=>simp only[AZ]at h;cases h;exact .me _ _ hj
 |_=>simp[AZ]at h
theorem Rq:∀(cs:List SC) (r:List Ty) (vs:List XV) (foc iq:Foc) (g:Ty.bP r->Ty.bP (SC.tys cs r)),extC cs r vs foc=some (iq,g)->FLe foc iq/\∀y,(jH cs r (g y)).2=y/\bB (CR iq) vs (jH cs r (g y)).1:=by
 intro cs
 induction cs with
 |nil =>
  intro r vs foc iq g h
  cases vs with
  |nil=>simp only[extC]at h;cases h;exact⟨FLe.refl _,λy=>⟨rfl,.nil⟩⟩
  |cons=>simp[extC]at h
 |cons c cs ih =>
  intro r vs foc iq g h
  cases c with
  |d T =>
   simp only[extC]at h
   cases vs with
   |nil=>cases h
   |cons v vs =>
    simp only at h
    split at h
    .rename_i x lV g1 hx h1
     cases h
     obtain⟨a,b⟩:=ih r vs foc iq g1 h1
     exact⟨a,λy=>⟨(b y).1,.cons (.d v T x hx) (b y).2⟩⟩
    .cases h
  |row j =>
   simp only[extC]at h
   split at h
   .rename_i id vs
    split at h
    .rename_i lV h1
     obtain⟨a1,a2⟩:=BN h1
     obtain⟨a,b⟩:=ih r vs lV iq g h
     exact⟨a1.trans a,λy=>⟨(b y).1,.cons (.row id j (a.2 _ _ a2)) (b y).2⟩⟩
    .cases h
   .cases h
  |ptr j i o =>
   simp only[extC]at h
   split at h
   .rename_i id i' o' vs
    split at h
    .rename_i hb
     simp only[au]at hb
     have e1:=beq_eq hb.1
     have e2:=beq_eq hb.2
     subst e1 e2
     split at h
     .rename_i lV h1
      obtain⟨a1,a2⟩:=BN h1
      obtain⟨a,b⟩:=ih r vs lV iq g h
      exact⟨a1.trans a,λy=>⟨(b y).1,.cons (.ptr id j i o (a.2 _ _ a2)) (b y).2⟩⟩
     .cases h
    .cases h
   .cases h
  |me j =>
   simp only[extC]at h
   cases vs with
   |nil=>cases h
   |cons v vs =>
    simp only at h
    split at h
    .rename_i id hm
     split at h
     .rename_i lV h1
      obtain⟨a1,a2⟩:=BN h1
      obtain⟨a,b⟩:=ih r vs lV iq g h
      exact⟨a1.trans a,λy=>⟨(b y).1,.cons (XY hm (a.2 _ _ a2)) (b y).2⟩⟩
     .cases h
    .rename_i hm
     obtain⟨a,b⟩:=ih r vs foc iq g h
     have:=XZ hm
     subst this
     exact⟨a,λy=>⟨(b y).1,.cons (.men j) (b y).2⟩⟩
    .cases h
  |nil =>
   simp only[extC]at h
   cases vs with
   |nil=>cases h
   |cons v vs =>
    simp only at h
    by_cases hv:Bz v=true
    .have h':extC cs r vs foc=some (iq,g):=by simp only[hv,if_true]at h;exact h
     have:=Lm hv
     subst this
     obtain⟨a,b⟩:=ih r vs foc iq g h'
     exact⟨a,λy=>⟨(b y).1,.cons .nil (b y).2⟩⟩
    .simp only[hv,if_false]at h
     cases h
  |any =>
   simp only[extC]at h
   cases vs with
   |nil=>cases h
   |cons v vs =>
    simp only at h
    obtain⟨a,b⟩:=ih r vs foc iq g h
    exact⟨a,λy=>⟨(b y).1,.cons (.any v) (b y).2⟩⟩
def OR'(foc:Foc):XO->XO->Prop
 |.row ty T fz es,o2=>o2=.row ty T fz es
 |.box ty vs,o2=>∃cs,o2=.box ty cs/\bB (CR foc) vs cs
theorem OR'.mono{foc iq:Foc}{o o2:XO}(h:OR' foc o o2)(hl:FLe foc iq):OR' iq o o2:=by
 cases o with
 |row=>exact h
 |box ty vs=>obtain⟨cs,e,hc⟩:=h;exact⟨cs,e,hc.mono λx y q=>q.mono hl⟩
theorem Kj(h:List XO):∀(os:List SO) (j:Nat) (foc iq:Foc) (y:Ty.bP (SO.tys os)),GD h os j foc=some (iq,y)->FLe foc iq/\(qm os y).length=os.length/\∀(i:Nat) (o2:XO),(qm os y)[i]?=some o2->∃id o,iq[j+i]?=some (some id)/\h[id]?=some o/\OR' iq o o2:=by
 intro os
 induction os with
 |nil=>intro j foc iq y hx;simp only[GD]at hx;cases hx;exact⟨FLe.refl _,rfl,λi o2 q=>by simp[qm]at q⟩
 |cons so os ih =>
  intro j foc iq y hx
  cases so with
  |row ty T fz =>
   simp only[GD]at hx
   split at hx
   case h_2=>cases hx
   rename_i id hid
   split at hx
   case h_2=>cases hx
   rename_i ty' T' fz' es ho
   split at hx
   case isFalse=>cases hx
   rename_i hb
   simp only[au,nK]at hb
   have e1:=beq_eq hb.1
   have e2:=hb.2
   subst e1 e2
   split at hx
   case h_2=>cases hx
   rename_i es' lV y1 hc h1
   cases hx
   obtain⟨q,rfl⟩:=kY hc
   cases q
   obtain⟨a,b,c⟩:=ih (j+1) foc iq y1 h1
   refine⟨a,by simp only[qm,bf];rw[b],λi o2 q=>?_⟩
   cases i with
   |zero =>
    have q:some (XO.row ty T fz es)=some o2:=q
    cases q
    exact⟨id,_,a.2 _ _ hid,ho,rfl⟩
   |succ i =>
    have q:(qm os y1)[i]?=some o2:=q
    have:=c i o2 q
    rw[show j+1+i=j+(i+1) by omega]at this
    exact this
  |box ty cs =>
   simp only[GD]at hx
   split at hx
   case h_2=>cases hx
   rename_i id hid
   split at hx
   case h_2=>cases hx
   rename_i ty' vs ho
   split at hx
   case isFalse=>cases hx
   rename_i hb
   have e1:=beq_eq hb
   subst e1
   split at hx
   case h_2=>cases hx
   rename_i lV g hc
   split at hx
   case h_2=>cases hx
   rename_i kW y1 h1
   cases hx
   obtain⟨a1,a2⟩:=Rq cs _ vs foc lV g hc
   obtain⟨a,b,c⟩:=ih (j+1) lV iq y1 h1
   obtain⟨g1,g2⟩:=a2 y1
   refine⟨a1.trans a,?_,λi o2 q=>?_⟩
   .show(XO.box ty _::qm os (jH cs (SO.tys os) (g y1)).2).length=_
    rw[g1,bf,bf,b]
   .cases i with
    |zero =>
     have q:some (XO.box ty (jH cs (SO.tys os) (g y1)).1)=some o2:=q
     cases q
     exact⟨id,_,(a1.trans a).2 _ _ hid,ho,_,rfl,g2.mono λx y q=>q.mono a⟩
    |succ i =>
     have q:(qm os (jH cs (SO.tys os) (g y1)).2)[i]?=some o2:=q
     rw[g1]at q
     have:=c i o2 q
     rw[show j+1+i=j+(i+1) by omega]at this
     exact this
theorem CU:∀{foc:Foc} {l:List Nat},BO foc=some l->foc.length=l.length/\∀(j id:Nat),foc[j]?=some (some id)↔l[j]?=some id:=by
 intro foc
 induction foc with
 |nil=>intro l h;cases h;exact⟨rfl,by simp⟩
 |cons a foc ih =>
  intro l h
  cases a with
  |none=>simp[BO]at h
  |some a =>
   simp only[BO]at h
   split at h
   .rename_i m hm
    cases h
    obtain⟨h1,h2⟩:=ih hm
    refine⟨by simp[h1],λj id=>?_⟩
    cases j with
    |zero=>simp
    |succ j=>simpa using h2 j id
   .cases h
theorem L9:∀{l:List Nat},nodupB l=true->l.Nodup:=by
 intro l
 induction l with
 |nil=>intro _;exact tX
 |cons a l ih =>
  intro h
  simp only[nodupB,au,fH,uE]at h
  rw[rT]
  refine⟨λhm=>h.1 a hm (by simp),ih h.2⟩
def CRS(foc:Foc)(v c:XV):Prop:=CR foc v c\/∃vs cs,v=.agg vs/\c=.agg cs/\bB (CR foc) vs cs
theorem CRS.mono{foc iq:Foc}{v c:XV}(h:CRS foc v c)(hl:FLe foc iq):CRS iq v c:=by
 rcases h with h|⟨vs,cs,e1,e2,h⟩
 .exact .inl (h.mono hl)
 .exact .inr ⟨vs,cs,e1,e2,h.mono λx y q=>q.mono hl⟩
theorem QC{t b:List XV}{foc:Foc}{s:Nat}{c:XV}(hb:∀(i:Nat) (c:XV),b[i]?=some c->CRS foc (t.getD i .any) c)(hc:CRS foc (t.getD s .any) c):∀(i:Nat) (c':XV),(b.set s c)[i]?=some c'->CRS foc (t.getD i .any) c':=by
 intro i c' q
 rw[dn]at q
 split at q
 .rename_i hi
  split at q
  .cases q;subst hi;exact hc
  .cases q
 .exact hb i c' q
theorem Rp(t:List XV)(foc:Foc):∀(vs:List (Nat×Ty)) (r:List Ty) (y:Ty.bP r) (x:Ty.bP (zG vs r)) (b:List XV),PG t vs r y=some x->(∀(i:Nat) (c:XV),b[i]?=some c->CRS foc (t.getD i .any) c)->(xR vs r x b).2=y/\(xR vs r x b).1.length=b.length/\∀(i:Nat) (c:XV),(xR vs r x b).1[i]?=some c->CRS foc (t.getD i .any) c:=by
 intro vs
 induction vs with
 |nil=>intro r y x b h hb;simp only[PG]at h;cases h;exact⟨rfl,rfl,hb⟩
 |cons p vs ih =>
  intro r y x b h hb
  obtain⟨s,T⟩:=p
  simp only[PG]at h
  split at h
  .rename_i x1 z h1 h2
   cases h
   obtain⟨a,c,e⟩:=ih r y z (b.set s (.d T x1)) h2 (λi c q=>by
    rw[dn]at q
    split at q
    .rename_i hi
     split at q
     .cases q;subst hi;exact .inl (.d _ T x1 h1)
     .cases q
    .exact hb i c q)
   exact⟨a,by rw[wL]at c;exact c,e⟩
  .cases h
theorem Ki (t:List XV):∀ (refs:List (Nat × SR)) (r:List Ty) (foc iq:Foc) (g:Ty.bP r->Ty.bP (iM refs r)),uz t refs r foc=some (iq,g)->FLe foc iq/\∀ (y:Ty.bP r) (kW:Foc) (b:List XV),FLe iq kW->(∀ (i:Nat) (c:XV),b[i]?=some c->CRS kW (t.getD i .any) c) ->
  (nH refs r (g y) b).2=y/\(nH refs r (g y) b).1.length=b.length/\∀(i:Nat) (c:XV),(nH refs r (g y) b).1[i]?=some c->CRS kW (t.getD i .any) c:=by
 intro refs
 induction refs with
 |nil=>intro r foc iq g h;simp only[uz]at h;cases h;exact⟨FLe.refl _,λy kW b _ hb=>⟨rfl,rfl,hb⟩⟩
 |cons p refs ih =>
  intro r foc iq g h
  obtain⟨s,sr⟩:=p
  have set1:∀(c:XV) (lV:Foc),FLe foc lV->(∀kW,FLe lV kW->CRS kW (t.getD s .any) c)->(∀(g1:Ty.bP r->Ty.bP (iM refs r)),uz t refs r lV=some (iq,g1)->FLe foc iq/\∀(y:Ty.bP r) (kW:Foc) (b:List XV),FLe iq kW->(∀(i:Nat) (c:XV),b[i]?=some c->CRS kW (t.getD i .any) c)->(nH refs r (g1 y) (b.set s c)).2=y/\(nH refs r (g1 y) (b.set s c)).1.length=b.length/\∀(i:Nat) (c':XV),(nH refs r (g1 y) (b.set s c)).1[i]?=some c'->CRS kW (t.getD i .any) c'):=by
   intro c lV hl hc g1 h1
   obtain⟨a1,a2⟩:=ih r lV iq g1 h1
   refine⟨hl.trans a1,λy kW b hf hb=>?_⟩
   obtain⟨b1,b2,b3⟩:=a2 y kW (b.set s c) hf (QC hb (hc kW (a1.trans hf)))
   exact⟨b1,by rw[b2];simp,b3⟩
  cases sr with
  |row j =>
   simp only[uz]at h
   split at h
   .rename_i id hid
    split at h
    .rename_i lV h1
     obtain⟨a1,a2⟩:=BN h1
     exact set1 (.row j) lV a1 (λkW hf=>by rw[hid];exact .inl (.row id j (hf.2 _ _ a2))) g h
    .cases h
   .cases h
  |sub j o n =>
   simp only[uz]at h
   split at h
   .rename_i id o' n' hid
    split at h
    .rename_i hb
     simp only[au]at hb
     have e1:=beq_eq hb.1
     have e2:=beq_eq hb.2
     subst e1 e2
     split at h
     .rename_i lV h1
      obtain⟨a1,a2⟩:=BN h1
      exact set1 (.sub j o n) lV a1 (λkW hf=>by rw[hid];exact .inl (.sub id j o n (hf.2 _ _ a2))) g h
     .cases h
    .cases h
   .cases h
  |ptr j i o =>
   simp only[uz]at h
   split at h
   .rename_i id i' o' hid
    split at h
    .rename_i hb
     simp only[au]at hb
     have e1:=beq_eq hb.1
     have e2:=beq_eq hb.2
     subst e1 e2
     split at h
     .rename_i lV h1
      obtain⟨a1,a2⟩:=BN h1
      exact set1 (.ptr j i o) lV a1 (λkW hf=>by rw[hid];exact .inl (.ptr id j i o (hf.2 _ _ a2))) g h
     .cases h
    .cases h
   .cases h
  |nil =>
   by_cases hn:Bz (t.getD s .any)=true
   .have h':uz t refs r foc=some (iq,g):=by simp only[uz,hn,if_true]at h;exact h
    exact set1 (.k (.slice none 0 0)) foc (FLe.refl _) (λkW hf=>by rw[Lm hn];exact .inl .nil) g h'
   .simp only[uz,hn,if_false]at h
    cases h
  |agg cs =>
   simp only[uz]at h
   split at h
   .rename_i vs hid
    split at h
    .rename_i lV g1 h1
     split at h
     .rename_i a2p g2 h2
      cases h
      obtain⟨c1,c2⟩:=Rq cs _ vs foc lV g1 h1
      obtain⟨a1,a2⟩:=ih r lV iq g2 h2
      refine⟨c1.trans a1,λy kW b hf hb=>?_⟩
      obtain⟨d1,d2⟩:=c2 (g2 y)
      obtain⟨b1,b2,b3⟩:=a2 y kW (b.set s (.agg (jH cs (iM refs r) (g1 (g2 y))).1)) hf (QC hb (by rw[hid];exact .inr ⟨_,_,rfl,rfl,d2.mono λx y q=>q.mono (a1.trans hf)⟩))
      show(nH refs r (jH cs (iM refs r) (g1 (g2 y))).2 (b.set s (.agg (jH cs (iM refs r) (g1 (g2 y))).1))).2=y/\(nH refs r (jH cs (iM refs r) (g1 (g2 y))).2 (b.set s (.agg (jH cs (iM refs r) (g1 (g2 y))).1))).1.length=b.length/\∀(i:Nat) (c:XV),(nH refs r (jH cs (iM refs r) (g1 (g2 y))).2 (b.set s (.agg (jH cs (iM refs r) (g1 (g2 y))).1))).1[i]?=some c->CRS kW (t.getD i .any) c
      rw[d1]
      exact⟨b1,by rw[b2];simp,b3⟩
     .cases h
    .cases h
   .cases h
theorem E9(nf:Nat):∀(n j:Nat),(MI nf j n).length=n:=by
 intro n
 induction n with
 |zero=>intro j;rfl
 |succ n ih=>intro j;simp only[MI,bf,ih]
theorem BG {nf:Nat} {ρ:List Nat} {X:XS} {ts:List AV} {H:List ay} {sh:Sh} {foc:List Nat} {x:Ty.bP sh.tys} (ht:bB (VT ρ X.h) X.t ts) (hs:HS ρ X.h H) (hn:X.t.length=sh.n) (hx:ext nf sh X=some (foc,x)) :
  Sim (foc.map λid=>ρ.getD id 0) (emb sh x) ⟨ts,H⟩/\(∀id∈foc,id<X.h.length)/\foc.length=sh.objs.length/\foc.Nodup:=by
 unfold ext at hx
 split at hx
 case h_2=>cases hx
 rename_i lV g h1
 split at hx
 case h_2=>cases hx
 rename_i kW y h2
 split at hx
 case h_2=>cases hx
 rename_i a2p x3 h3 h4
 split at hx
 case isFalse=>cases hx
 rename_i hnd
 cases hx
 obtain⟨r1,r2⟩:=Ki X.t _ _ _ _ _ h1
 obtain⟨o1,o2,o3⟩:=Kj X.h _ _ _ _ _ h2
 obtain⟨s1,s2⟩:=CU h3
 obtain⟨v1,v2,v3⟩:=Rp X.t kW sh.vars _ (g y) x (List.replicate sh.n .any) h4 (λi c q=>by
  have:=gD (bO q);subst this;exact .inl (.any _))
 obtain⟨w1,w2,w3⟩:=r2 y kW (xR sh.vars (iM sh.refs (SO.tys sh.objs)) x (List.replicate sh.n .any)).1 o1 v3
 have hes:zW sh x=nH sh.refs (SO.tys sh.objs) (g y) (xR sh.vars (iM sh.refs (SO.tys sh.objs)) x (List.replicate sh.n .any)).1:=by
  unfold zW;rw[v1]
 have hfl:foc.length=sh.objs.length:=by rw[<- s1,<- o1.1,<- r1.1,E9]
 have hh2:(emb sh x).h=qm sh.objs y:=by show qm sh.objs (zW sh x).2=_;rw[hes,w1]
 have cor:∀(j:Nat) (ob:XO),(emb sh x).h[j]?=some ob->∃id o,foc[j]?=some id/\X.h[id]?=some o/\OR' kW o ob:=λj ob q=>by
  rw[hh2]at q
  obtain⟨id,o,e1,e2,e3⟩:=o3 j ob q
  rw[dD]at e1
  exact⟨id,o,(s2 j id).1 e1,e2,e3⟩
 have hlen:(emb sh x).h.length=foc.length:=by rw[hh2,o2,hfl]
 have TS:∀(j id:Nat),foc[j]?=some id->(foc.map λid=>ρ.getD id 0).getD j 0=ρ.getD id 0:=λj id q=>by
  simp[List.getD,aK,q]
 have a04:∀ (id j i o:Nat) (a:AV),kW[j]?=some (some id)->(∃ ob,X.h[id]?=some ob/\a=.ptr (ρ.getD id 0) ob.len i o)->∃ ob,(emb sh x).h[j]?=some ob/\a=.ptr ((foc.map fun id=>ρ.getD id 0).getD j 0) ob.len i o:=by
   intro id j i o a hj hv
   obtain⟨ob,he,rfl⟩:=hv
   have hj':=(s2 j id).1 hj
   have hjl:j<(emb sh x).h.length:=by rw[hlen];exact(aj.1 hj').1
   obtain⟨id',o',e1,e2,e3⟩:=cor j _ (ah hjl)
   rw[hj']at e1
   cases e1
   rw[he]at e2
   cases e2
   refine⟨_,ah hjl,?_⟩
   rw[TS j id hj']
   cases ob with
   |row ty T fz es=>have e3:(emb sh x).h[j]=.row ty T fz es:=e3;rw[e3]
   |box ty vs=>obtain⟨cs,e3,_⟩:=e3;rw[e3];rfl
 have yI:∀(v c:XV) (a:AV),CR kW v c->V1 ρ X.h v a->V1 (foc.map λid=>ρ.getD id 0) (emb sh x).h c a:=by
  intro v c a hc hv
  cases hc with
  |any=>trivial
  |d _ T z hz=>exact wW hz (VA.of1 hv)
  |nil=>exact hv
  |row id j hj =>
   obtain⟨ty,T,fz,es,he,rfl⟩:=hv
   have hj':=(s2 j id).1 hj
   have hjl:j<(emb sh x).h.length:=by rw[hlen];exact(aj.1 hj').1
   obtain⟨id',o,e1,e2,e3⟩:=cor j _ (ah hjl)
   rw[hj']at e1
   cases e1
   rw[he]at e2
   cases e2
   have e3:(emb sh x).h[j]=.row ty T fz es:=e3
   exact⟨ty,T,fz,es,by rw[ah hjl,e3],by rw[TS j id hj']⟩
  |sub id j o n hj =>
   obtain⟨ty,T,fz,es,he,rfl⟩:=hv
   have hj':=(s2 j id).1 hj
   have hjl:j<(emb sh x).h.length:=by rw[hlen];exact(aj.1 hj').1
   obtain⟨id',o',e1,e2,e3⟩:=cor j _ (ah hjl)
   rw[hj']at e1
   cases e1
   rw[he]at e2
   cases e2
   have e3:(emb sh x).h[j]=.row ty T fz es:=e3
   exact⟨ty,T,fz,es,by rw[ah hjl,e3],by rw[TS j id hj']⟩
  |ptr id j i o hj=>exact a04 id j i o a hj hv
  |me id j hj =>
   rcases hv with hv|hv
   .exact .inl hv
   .exact .inr (a04 id j 0 0 a hj hv)
  |mep id j hj=>exact .inr (a04 id j 0 0 a hj hv)
  |men j=>exact .inl hv
 refine⟨⟨?_,?_⟩,?_,hfl,L9 hnd⟩
 .refine⟨?_,λi c a p q=>?_⟩
  .show(zW sh x).1.length=_
   rw[hes,w2,v2,qz,<- hn]
   exact ht.1
  .have hc:=w3 i c (by rw[<- hes];exact p)
   have hil:i<X.t.length:=by rw[ht.1];exact(aj.1 q).1
   have hv:=ht.2 i X.t[i] a (ah hil) q
   have hg:X.t.getD i .any=X.t[i]:=by simp[List.getD,ah hil]
   rw[hg]at hc
   generalize X.t[i]=v at hc hv
   rcases hc with hc|⟨vs,cs,rfl,rfl,hcs⟩
   case inr =>
    obtain⟨as,rfl,hva⟩:=hv
    refine⟨as,rfl,by rw[<- hcs.1,hva.1],λj c' a' p' q'=>?_⟩
    obtain⟨v',hv',hcr⟩:=hcs.oL p'
    exact yI v' c' a' hcr (hva.2 j v' a' hv' q')
   cases hc with
   |any=>trivial
   |d _ T z hz =>
    refine a0w (wW hz (VT.vW hv λvs q=>?_))
    rw[q]at hz
    cases T<;>simp[toD,lst]at hz
   |row id j hj=>exact VT.of1 (yI _ _ a (.row id j hj) hv)
   |ptr id j i' o hj=>exact VT.of1 (yI _ _ a (.ptr id j i' o hj) hv)
   |nil=>exact hv
   |me id j hj=>exact VT.of1 (yI _ _ a (.me id j hj) hv)
   |mep id j hj=>exact VT.of1 (yI _ _ a (.mep id j hj) hv)
   |men j=>exact VT.of1 (yI _ _ a (.men j) hv)
   |sub id j o n hj=>exact VT.of1 (yI _ _ a (.sub id j o n hj) hv)
 .refine⟨by rw[bN,hlen],?_,λj ob q=>?_⟩
  .have:foc.Nodup:=L9 hnd
   rw[List.nodup_iff_pairwise_ne,List.pairwise_map]
   refine List.Pairwise.imp_of_mem (fun{a b} ha hb hab e=>?_) (List.nodup_iff_pairwise_ne.1 this)
   have lt:∀a∈foc,a<X.h.length:=λa ha=>by
    obtain⟨j,hj⟩:=dI.1 ha
    have hjl:j<(emb sh x).h.length:=by rw[hlen];exact(aj.1 hj).1
    obtain⟨id',o',e1,e2,e3⟩:=cor j _ (ah hjl)
    rw[hj]at e1;cases e1
    exact(aj.1 e2).1
   exact hab (hs.inj (lt a ha) (lt b hb) e)
  .obtain⟨id,o,e1,e2,e3⟩:=cor j ob q
   obtain⟨O,hO,hR⟩:=hs.hr id o e2
   refine⟨O,by rw[TS j id e1];exact hO,?_⟩
   cases o with
   |row ty T fz es=>have e3:ob=.row ty T fz es:=e3;subst e3;exact hR
   |box ty vs =>
    obtain⟨cs,rfl,hc⟩:=e3
    obtain⟨q1,q2,q3,q4,e,q5,q6⟩:=hR
    refine⟨q1,by rw[q2,hc.1],q3,q4,e,q5,by rw[<- hc.1];exact q6.1,λi c a p q=>?_⟩
    obtain⟨v,hv,hcr⟩:=hc.oL p
    exact yI v c a hcr (q6.2 i v a hv q)
 .intro id hid
  obtain⟨j,hj⟩:=dI.1 hid
  have hjl:j<(emb sh x).h.length:=by rw[hlen];exact(aj.1 hj).1
  obtain⟨id',o',e1,e2,e3⟩:=cor j _ (ah hjl)
  rw[hj]at e1;cases e1
  exact(aj.1 e2).1
def kK:XO->Nat
 |.row ..=>0
 |.box ..=>1
def kS:SO->Nat
 |.row ..=>0
 |.box ..=>1
theorem yu:∀(os:List SO) (y:Ty.bP (SO.tys os)),(qm os y).map kK=os.map kS:=by
 intro os
 induction os with
 |nil=>intro y;rfl
 |cons so os ih =>
  intro y
  cases so with
  |row ty T fz=>simp only[qm,bL,kK,kS,ih]
  |box ty cs=>simp only[qm,bL,kK,kS,ih]
theorem a2u{nf:Nat}{X:XS}{sh:Sh}{foc:List Nat}{x:Ty.bP sh.tys}(hx:ext nf sh X=some (foc,x)):∀(j id:Nat) (o:XO),foc[j]?=some id->X.h[id]?=some o->(sh.objs.map kS)[j]?=some (kK o):=by
 unfold ext at hx
 split at hx
 case h_2=>cases hx
 rename_i lV g h1
 split at hx
 case h_2=>cases hx
 rename_i kW y h2
 split at hx
 case h_2=>cases hx
 rename_i a2p x3 h3 h4
 split at hx
 case isFalse=>cases hx
 rename_i hnd
 cases hx
 obtain⟨r1,r2⟩:=Ki X.t _ _ _ _ _ h1
 obtain⟨o1,o2,o3⟩:=Kj X.h _ _ _ _ _ h2
 obtain⟨s1,s2⟩:=CU h3
 intro j id ob hj q
 have hfl:foc.length=sh.objs.length:=by rw[<- s1,<- o1.1,<- r1.1,E9]
 have hjl:j<(qm sh.objs y).length:=by rw[o2,<- hfl];exact(aj.1 hj).1
 obtain⟨id',o,e1,e2,e3⟩:=o3 j _ (ah hjl)
 rw[dD]at e1
 have:=(s2 j id').1 e1
 rw[hj]at this
 cases this
 rw[q]at e2
 cases e2
 rw[<- yu sh.objs y,aK,ah hjl]
 show some (kK _)=some (kK ob)
 congr 1
 cases ob with
 |row ty T fz es=>have e3:(qm sh.objs y)[j]=.row ty T fz es:=e3;rw[e3]
 |box ty vs=>obtain⟨cs,e3,_⟩:=e3;rw[e3];rfl
theorem a6f{nf:Nat}{X:XS}{sh:Sh}{foc:List Nat}{x:Ty.bP sh.tys}(hx:ext nf sh X=some (foc,x)):∀(j id:Nat) (o:XO),foc[j]?=some id->X.h[id]?=some o->∀{ty:Nat} {T:Ty} {fz:Bool} {es:List T.den},(emb sh x).h[j]?=some (.row ty T fz es)->o=.row ty T fz es:=by
 unfold ext at hx
 split at hx
 case h_2=>cases hx
 rename_i lV g h1
 split at hx
 case h_2=>cases hx
 rename_i kW y h2
 split at hx
 case h_2=>cases hx
 rename_i a2p x3 h3 h4
 split at hx
 case isFalse=>cases hx
 rename_i hnd
 cases hx
 obtain⟨r1,r2⟩:=Ki X.t _ _ _ _ _ h1
 obtain⟨o1,o2,o3⟩:=Kj X.h _ _ _ _ _ h2
 obtain⟨s1,s2⟩:=CU h3
 intro j id ob hj q ty T fz es hrow
 have hfl:foc.length=sh.objs.length:=by rw[<- s1,<- o1.1,<- r1.1,E9]
 have hjl:j<(qm sh.objs y).length:=by rw[o2,<- hfl];exact(aj.1 hj).1
 obtain⟨v1,v2,v3⟩:=Rp X.t kW sh.vars _ (g y) x (List.replicate sh.n .any) h4 (λi c q=>by
  have:=gD (bO q);subst this;exact .inl (.any _))
 obtain⟨w1,w2,w3⟩:=r2 y kW (xR sh.vars (iM sh.refs (SO.tys sh.objs)) x (List.replicate sh.n .any)).1 o1 v3
 have hes:zW sh x=nH sh.refs (SO.tys sh.objs) (g y) (xR sh.vars (iM sh.refs (SO.tys sh.objs)) x (List.replicate sh.n .any)).1:=by
  unfold zW;rw[v1]
 have hh2:(emb sh x).h=qm sh.objs y:=by show qm sh.objs (zW sh x).2=_;rw[hes,w1]
 rw[hh2,ah hjl]at hrow
 have hrow:=aJ hrow
 obtain⟨id',o,e1,e2,e3⟩:=o3 j _ (ah hjl)
 rw[dD]at e1
 have:=(s2 j id').1 e1
 rw[hj]at this
 cases this
 rw[q]at e2
 cases e2
 rw[hrow]at e3
 cases ob with
 |row ty' T' fz' es'=>have e3:XO.row ty T fz es=.row ty' T' fz' es':=e3;exact e3.symm
 |box ty vs=>obtain⟨cs,e3,_⟩:=e3;cases e3
def encs:(ps:List Ty)->Ty.bP ps->List AV
 |[],_=>[]
 |T::ps,x=>Ty.enc T x.1::encs ps x.2
def qh(l:List AV):AV:=match l with
 |[a]=>a
 |l=>.tup l
def POk(P:Program)(Gl:Nat->Option (List AV))(p:PI):Prop:=callable P p.f=true/\∀x y,p.run x=some y->Pure P Gl p.f (encs p.ps x) (qh (encs p.rs y))
structure Frm (H0:List ay) (ρ0 ρ:List Nat) (H:List ay):Prop where
 pre:∃l,ρ=ρ0++l/\∀x∈l,H0.length<=x
 ge:H0.length<=H.length
 fr:∀j,j<H0.length->j∉ρ0->H[j]?=H0[j]?
def HOk(P:Program)(Gl:Nat->Option (List AV))(p:HI):Prop:=callable P p.f=true/\∀x y,p.run x=some y->∀(H:List ay) (ρ:List Nat) (as:List AV),Sim ρ (emb p.ish x) ⟨as,H⟩->
 mV P Gl p.f H as (λres H'=>∃ρ' rs,Sim ρ' (emb p.osh y) ⟨rs,H'⟩/\qh rs=res/\Frm H ρ ρ' H')
theorem Frm.refl(H:List ay)(ρ:List Nat):Frm H ρ ρ H:=⟨⟨[],by simp,by simp⟩,bq _,λ_ _ _=>rfl⟩
theorem Frm.upd{H0 H H':List ay}{ρ0 ρ ρ' kl tch:List Nat}{h h':List XO}(hf:Frm H0 ρ0 ρ H)(hρ:ρ.length=h.length)(hu:Upd ρ h H ρ' h' H' kl tch):Frm H0 ρ0 ρ' H':=by
 obtain⟨l,e1,q1⟩:=hf.pre
 obtain⟨n,e2,q2⟩:=hu.ap
 refine⟨⟨l++n,by rw[e2,e1,aQ],λx hx=>?_⟩,bD hf.ge hu.ge,λj hj hn=>?_⟩
 .rcases aH.1 hx with q|q
  .exact q1 x q
  .exact bD hf.ge (q2 x q)
 .rw[hu.fr j (jk hj hf.ge) (λid _ hid q=>?_),hf.fr j hj hn]
  have hmem:ρ.getD id 0∈ρ:=by
   have hl:id<ρ.length:=by rw[hρ];exact hid
   simp only[List.getD,ah hl,eu]
   exact jF _
  rw[q,e1]at hmem
  rcases aH.1 hmem with q'|q'
  .exact hn q'
  .have:=q1 j q';omega
section
variable{ρ:List Nat}{h:List XO}{H:List ay}
theorem P7:∀(rs:List Ty) (y:Ty.bP rs),bB (VA ρ h) (F4 rs y) (encs rs y):=by
 intro rs
 induction rs with
 |nil=>intro y;exact .nil
 |cons T rs ih=>intro y;exact .cons (Wp.refl _) (ih y.2)
theorem JB(rs:List Ty)(y:Ty.bP rs):VT ρ h (Gb rs y) (qh (encs rs y)):=by
 have hc:=P7 (ρ:=ρ) (h:=h) rs y
 unfold Gb qh
 generalize F4 rs y=l at hc
 generalize encs rs y=m at hc
 match l,m,hc with
 |[],m,hc=>have:=hc.lH;subst this;exact⟨[],rfl,.nil⟩
 |[v],m,hc =>
  obtain⟨a,r,rfl,hv,ht⟩:=hc.iW
  have:=ht.lH
  subst this
  exact VT.ofA hv
 |v::w::l,m,hc =>
  obtain⟨a,r,rfl,hv,ht⟩:=hc.iW
  obtain⟨b,r',rfl,hw,ht'⟩:=ht.iW
  exact⟨_,rfl,hc⟩
theorem TA(T:Ty):Pv T=false->∀x:T.den,((Ty.enc T x).cells.all xV=EI T):=by
 refine Ty.rec (motive_1:=λT=>Pv T=false->∀x:T.den,(Ty.enc T x).cells.all xV=EI T) (motive_2:=λfs=>uO fs=false->∀x:Ty.bP fs,(Ty.iY fs x).all xV=y7 fs) ?_ ?_ ?_ ?_ ?_ ?_ ?_ ?_ ?_ ?_ T
 .intro k _ x;rfl
 .intro _ x;rfl
 .intro _ x;rfl
 .intro e _ _ x;rfl
 .intro fs ih h x;exact ih h x
 .intro f _ x;rfl
 .intro e _ h;cases h
 .intro _ _ _ x;rfl
 .intro _ x;rfl
 .intro t ts h1 h2 h x
  simp only[uO,lN]at h
  simp only[Ty.iY,List.all_append,h1 h.1,h2 h.2,y7]
theorem NV(T:Ty)(hF:Pv T=false)(x:T.den):(match Ty.enc T x with|.v _=>true|.agg cs=>cs.all xV|_=>false)=EI T:=by
 cases T with
 |tup fs=>exact TA (.tup fs) hF x
 |iR e=>cases hF
 |_=>rfl
theorem a0V:∀(rs:List Ty) (hF:uO rs=false) (y:Ty.bP rs),((encs rs y).all λa=>match a with|.v _=>true|.agg cs=>cs.all xV|_=>false)=y7 rs:=by
 intro rs
 induction rs with
 |nil=>intro _ y;rfl
 |cons T rs ih =>
  intro h y
  simp only[uO,lN]at h
  simp only[encs,lS,NV T h.1,ih h.2,y7]
theorem NU(rs:List Ty)(hF:uO rs=false)(y:Ty.bP rs):scalar (qh (encs rs y))=y7 rs:=by
 match rs,hF,y with
 |[],_,y=>rfl
 |[T],hF,y =>
  simp only[uO,Bool.or_false]at hF
  show scalar (Ty.enc T y.1)=(EI T&&true)
  rw[uR,<- NV T hF y.1]
  cases T with
  |iR e=>cases hF
  |_=>rfl
 |T::U::rs,hF,y=>exact a0V (T::U::rs) hF y
mutual
theorem a0U:∀{T:Ty},EI T=true->Pv T=false
 |.int _,_=>rfl
 |.bool,_=>rfl
 |.str,_=>rfl
 |.list _,_=>rfl
 |.tup fs,h=>Dl (fs:=fs) h
 |.fnc _,_=>rfl
 |.iR _,h=>by cases h
 |.rl _ _,_=>rfl
theorem Dl:∀{fs:List Ty},y7 fs=true->uO fs=false
 |[],_=>rfl
 |t::ts,h=>by
  simp only[y7,au]at h
  simp only[uO,a0U h.1,Dl h.2,Bool.or_self]
end
theorem Qf(hs:HS ρ h H):∀(ps:List Ty) (vs:List XV) (x:Ty.bP ps) (as:List AV),zu h ps vs=some x->bB (VT ρ h) vs as->∃bs,dY H as=some bs/\bB Wp bs (encs ps x)/\as.flatMap dJ=(vs.flatMap eZ).map (λid=>ρ.getD id 0)/\∀id∈vs.flatMap eZ,isRow h id:=by
 intro ps
 induction ps with
 |nil =>
  intro vs x as hx hv
  cases vs with
  |nil=>have:=hv.lH;subst this;exact⟨[],rfl,.nil,rfl,by simp⟩
  |cons=>simp[zu]at hx
 |cons T ps ih =>
  intro vs x as hx hv
  cases vs with
  |nil=>simp[zu]at hx
  |cons v vs =>
   simp only[zu]at hx
   split at hx
   .rename_i z l hz hl
    cases hx
    obtain⟨a,as',rfl,hv1,hv2⟩:=hv.iW
    have hnt:∀us,v≠.tup us:=λus q=>by
     subst q
     cases T<;>simp[toD,lst]at hz
    obtain⟨b,k1,k2,k3,k4⟩:=wX hs hz (hv1.vW hnt)
    obtain⟨bs,i1,i2,i3,i4⟩:=ih vs l as' hl hv2
    refine⟨b::bs,by simp only[dY,k1,i1],.cons k2 i2,by simp[k3,i3],λid hid=>?_⟩
    simp only[dw,aH]at hid
    rcases hid with q|q
    .exact k4 id q
    .exact i4 id q
   .cases hx
theorem a5Z:∀(ids:List Nat) (h:List XO),ids.all (Gw h)=true->kg h ids=h:=by
 intro ids
 induction ids with
 |nil=>intro h _;rfl
 |cons id ids ih =>
  intro h ha
  simp only[lS,au]at ha
  have hset:(match h[id]? with|some o=>h.set id (Px o)|none=>h)=h:=by
   have:=ha.1
   unfold Gw at this
   split at this
   .rename_i ty T fz es he
    rw[he]
    subst this
    simp only[Px]
    apply fA
    intro j
    rw[dn]
    split
    .rename_i hj
     subst hj
     split
     .rw[he]
     .rename_i hl;rw[aR (by omega)]
    .rfl
   .cases this
  show kg (match h[id]? with|some o=>h.set id (Px o)|none=>h) ids=h
  rw[hset];exact ih h ha.2
theorem a1Y:∀{os os':List SO},kinds os os'=true->os.length<=os'.length/\∀(j:Nat),j<os.length->(os.map kS)[j]?=(os'.map kS)[j]?:=by
 intro os
 induction os with
 |nil=>intro os' _;exact⟨by simp,λj hj=>by simp at hj⟩
 |cons so os ih =>
  intro os' hk
  cases os' with
  |nil=>cases so<;>simp[kinds]at hk
  |cons so' os' =>
   have hk':kinds os os'=true/\kS so=kS so':=by cases so<;>cases so'<;>simp[kinds]at hk<;>first|exact⟨hk,rfl⟩|exact⟨hk.2,rfl⟩
   obtain⟨a,b⟩:=ih hk'.1
   refine⟨by simp;exact a,λj hj=>?_⟩
   cases j with
   |zero=>simp[hk'.2]
   |succ j=>simpa using b j (by simpa using hj)
theorem Xa{kp:List Nat}:∀(foc:List Nat) (os:List SO) (k:Nat),foc.length=os.length->∀(j id:Nat),foc[j]?=some id->(os.map kS)[j]?=some 0->id∈nT kp k foc os\/k+j∈kp:=by
 intro foc
 induction foc with
 |nil=>intro os k _ j id q;simp at q
 |cons f foc ih =>
  intro os k hl j id q kk
  cases os with
  |nil=>simp at hl
  |cons so os =>
   have hl':foc.length=os.length:=by simpa using hl
   cases j with
   |zero =>
    simp at q kk
    subst q
    cases so with
    |row =>
     simp only[nT]
     split
     .rename_i hk
      obtain⟨a,ha,e⟩:=gT.1 hk
      rw[<- beq_eq e]at ha
      exact .inr ha
     .exact .inl (by simp)
    |box=>cases kk
   |succ j =>
    have:=ih os (k+1) hl' j id (by simpa using q) (by simpa using kk)
    rw[show k+1+j=k+(j+1) by omega]at this
    rcases this with this|this
    .left
     cases so with
     |row =>
      simp only[nT]
      split
      .exact this
      .exact gu _ this
     |box=>simp only[nT];exact this
    .exact .inr this
theorem UM{hi ho:List XO}:∀{kp:List Nat},xI kp hi ho=true->∀j∈kp,∃ty T fz fz' es es',hi[j]?=some (.row ty T fz es)/\ho[j]?=some (.row ty T fz' es')/\es.length=es'.length:=by
 intro kp
 induction kp with
 |nil=>intro _ j hj;cases hj
 |cons a kp ih =>
  intro h j hj
  simp only[xI]at h
  split at h
  .rename_i ty T fz es ty' T' fz' es' h1 h2
   rw[au]at h
   obtain⟨h3,h4⟩:=h
   rcases bE.1 hj with rfl|hj
   .split at h3
    .rename_i hc
     simp only[au]at hc
     have e1:=beq_eq hc.1
     have e2:=Ty.same_eq hc.2
     subst e1 e2
     exact⟨_,_,_,_,_,_,h1,h2,beq_eq h3⟩
    .cases h3
   .exact ih h4 j hj
  .cases h
theorem WV (foc:List Nat) (base:Nat):∀ (l:List Nat) (h os:List XO),l.Nodup->(∀ id ∈ l,id < h.length)->l.length<=os.length ->
  (mO foc base l h os).length=h.length+(os.length-l.length)/\(∀(k id:Nat),l[k]?=some id->(mO foc base l h os)[id]?=(os[k]?).map (AX foc base))/\(∀id,id<h.length->id∉l->(mO foc base l h os)[id]?=h[id]?)/\∀k,l.length<=k->k<os.length->(mO foc base l h os)[h.length+(k-l.length)]?=(os[k]?).map (AX foc base):=by
 intro l
 induction l with
 |nil =>
  intro h os _ _ _
  refine⟨by simp[mO],λk id q=>by simp at q,λid hid _=>?_,λk _ hk=>?_⟩
  .simp only[mO];rw[aL hid]
  .simp only[mO,fF,Nat.sub_zero]
   rw[aO (by omega),Nat.add_sub_cancel_left,aK]
 |cons f l ih =>
  intro h os hn hlt hle
  cases os with
  |nil=>simp at hle
  |cons o os =>
   rw[rT]at hn
   have hf:=hlt f (by simp)
   obtain⟨a,b,c,d⟩:=ih (h.set f (AX foc base o)) os hn.2 (λid hid=>by simp;exact hlt id (by simp[hid])) (by simpa using hle)
   refine⟨by simp only[mO];rw[a];simp,λk id q=>?_,λid hid hn'=>?_,λk hk hk'=>?_⟩
   .cases k with
    |zero =>
     simp at q
     subst q
     simp only[mO]
     rw[c f (by simpa using hf) hn.1,bg hf]
     rfl
    |succ k =>
     simp only[mO]
     rw[b k id (by simpa using q)]
     simp
   .simp only[mO]
    simp only[bE,not_or]at hn'
    rw[c id (by simpa using hid) hn'.2,aP (λq=>hn'.1 q.symm)]
   .cases k with
    |zero=>simp at hk
    |succ k =>
     simp only[mO]
     have:=d k (by simpa using hk) (by simpa using hk')
     rw[wL]at this
     simp only[bf,Nat.add_sub_add_right,u6]
     exact this
end
section
variable{ρ:List Nat}{h:List XO}{H H':List ay}
theorem getD_congr{a b:List Nat}{i k:Nat}(q:a[i]?=b[k]?):a.getD i 0=b.getD k 0:=by simp only[List.getD,q]
theorem Vn:∀(vs:List (Nat×Ty)) (r:List Ty) (x:Ty.bP (zG vs r)) (b:List XV),(∀z∈b,∀us,z≠.tup us)->∀z∈(xR vs r x b).1,∀us,z≠.tup us:=by
 intro vs
 induction vs with
 |nil=>intro r x b hb;exact hb
 |cons p vs ih =>
  intro r x b hb
  obtain⟨s,T⟩:=p
  refine ih r x.2 _ λz hz us q=>?_
  rcases rU hz with hz|hz
  .exact hb z hz us q
  .rw[hz]at q;cases q
theorem Qu:∀(refs:List (Nat×SR)) (r:List Ty) (x:Ty.bP (iM refs r)) (b:List XV),(∀z∈b,∀us,z≠.tup us)->∀z∈(nH refs r x b).1,∀us,z≠.tup us:=by
 intro refs
 induction refs with
 |nil=>intro r x b hb;exact hb
 |cons p refs ih =>
  intro r x b hb
  obtain⟨s,sr⟩:=p
  have st:∀c:XV,(∀us,c≠.tup us)->∀z∈b.set s c,∀us,z≠.tup us:=λc hc z hz us q=>by
   rcases rU hz with hz|hz
   .exact hb z hz us q
   .rw[hz]at q;exact hc us q
  cases sr with
  |row j=>exact ih r x _ (st _ λus q=>by cases q)
  |ptr j i o=>exact ih r x _ (st _ λus q=>by cases q)
  |nil=>exact ih r x _ (st _ λus q=>by cases q)
  |sub j o n=>exact ih r x _ (st _ λus q=>by cases q)
  |agg cs=>exact ih r _ _ (st _ λus q=>by cases q)
theorem YC(sh:Sh)(x:Ty.bP sh.tys):∀z∈(emb sh x).t,∀us,z≠.tup us:=by
 refine Qu _ _ _ _ (Vn _ _ _ _ λz hz us q=>?_)
 have:=gD hz
 rw[this]at q;cases q
theorem a1J {ish osh:Sh} {vs:List XV} {as rs:List AV} {foc ρ':List Nat} {x:Ty.bP ish.tys} {y:Ty.bP osh.tys} (hs:HS ρ h H) (hv:bB (VT ρ h) vs as) (hn:vs.length=ish.n) {nf:Nat} (hx:ext nf ish ⟨vs,h⟩=some (foc,x)) (hk:kinds ish.objs osh.objs=true)
  {kp:List Nat} (hkp:xI kp (emb ish x).h (emb osh y).h=true) (hS:Sim ρ' (emb osh y) ⟨rs,H'⟩) (hF:Frm H (foc.map λid=>ρ.getD id 0) ρ' H') :
  ∃ρc,Upd ρ h H ρc (mO foc h.length foc (qL (nT kp 0 foc ish.objs) h) (emb osh y).h) H' (nT kp 0 foc ish.objs) foc/\VT ρc (mO foc h.length foc (qL (nT kp 0 foc ish.objs) h) (emb osh y).h) (a1j foc h.length (emb osh y).t) (qh rs):=by
 obtain⟨hS0,hlt,hfl,hnd⟩:=BG (X:=⟨vs,h⟩) hv hs hn hx
 obtain⟨l,hl1,hl2⟩:=hF.pre
 have hlt:∀id∈foc,id<h.length:=hlt
 obtain⟨kl1,kl2⟩:=a1Y hk
 have ho2:(emb osh y).h.map kK=osh.objs.map kS:=yu _ _
 have ho1:(emb ish x).h.map kK=ish.objs.map kS:=yu _ _
 have hol:(emb osh y).h.length=osh.objs.length:=by have:=dO List.length ho2;simpa using this
 have b8Z:(emb ish x).h.length=ish.objs.length:=by have:=dO List.length ho1;simpa using this
 have hkl:(qL (nT kp 0 foc ish.objs) h).length=h.length:=by rw[sQ];simp
 obtain⟨s1,s2,s3,s4⟩:=WV foc h.length foc (qL (nT kp 0 foc ish.objs) h) (emb osh y).h hnd (λid hid=>by rw[hkl];exact hlt id hid) (by rw[hol,hfl];exact kl1)
 rw[hkl]at s1 s3 s4
 generalize hkeq:nT kp 0 foc ish.objs=kl at *
 generalize b82:mO foc h.length foc (qL kl h) (emb osh y).h=hc at *
 have hρ':ρ'.length=(emb osh y).h.length:=hS.h.rl
 have hll:l.length=(emb osh y).h.length-foc.length:=by
  have:=dO List.length hl1;simp at this;omega
 have hfo:foc.length<=(emb osh y).h.length:=by rw[hol,hfl];exact kl1
 have num:∀j,j<(emb osh y).h.length->(ρ++l).getD (if Nat.blt j foc.length=true then foc.getD j 0 else h.length+(j-foc.length)) 0=ρ'.getD j 0/\hc[if Nat.blt j foc.length=true then foc.getD j 0 else h.length+(j-foc.length)]?=((emb osh y).h[j]?).map (AX foc h.length):=by
  intro j hj
  by_cases hjf:Nat.blt j foc.length=true
  .have hj':=wE hjf
   rw[if_pos hjf]
   have hg:foc[j]?=some (foc.getD j 0):=by simp[List.getD,ah hj']
   refine⟨?_,s2 j _ hg⟩
   have hm:foc.getD j 0∈foc:=bO hg
   rw[kZ (by rw[hs.rl];exact hlt _ hm),hl1,kZ (by simpa using hj')]
   simp[List.getD,aK,ah hj']
  .have hj':=VF hjf
   rw[if_neg hjf]
   refine⟨?_,s4 j hj' hj⟩
   rw[hl1]
   have e1:(ρ++l)[h.length+(j-foc.length)]?=l[j-foc.length]?:=by rw[aO (by rw[hs.rl];omega),hs.rl,Nat.add_sub_cancel_left]
   have e2:((foc.map λid=>ρ.getD id 0)++l)[j]?=l[j-foc.length]?:=by rw[aO (by simpa using hj')];simp
   exact getD_congr (e1.trans e2.symm)
 have yI:∀(v:XV) (a:AV),V1 ρ' (emb osh y).h v a->V1 (ρ++l) hc (Oa foc h.length v) a:=by
  intro v a hv
  cases v with
  |row j =>
   obtain⟨ty,T,fz,es,he,rfl⟩:=hv
   obtain⟨n1,n2⟩:=num j (aj.1 he).1
   exact⟨ty,T,fz,es,by rw[n2,he];rfl,by rw[n1]⟩
  |sub j off len=>trivial
  |ptr j i o =>
   obtain⟨ob,he,rfl⟩:=hv
   obtain⟨n1,n2⟩:=num j (aj.1 he).1
   refine⟨AX foc h.length ob,by rw[n2,he];rfl,?_⟩
   rw[n1]
   cases ob<;>rfl
  |me j =>
   rcases hv with hv|⟨ob,he,rfl⟩
   .exact .inl hv
   .obtain⟨n1,n2⟩:=num j (aj.1 he).1
    refine .inr ⟨AX foc h.length ob,by rw[n2,he];rfl,?_⟩
    rw[n1]
    cases ob<;>rfl
  |agg=>exact hv.elim
  |tup=>exact hv.elim
  |_=>exact hv
 have b7b:∀(v:XV) (a:AV),VA ρ' (emb osh y).h v a->VA (ρ++l) hc (O9 foc h.length v) a:=by
  intro v a hv
  by_cases ha:∃cs,v=.agg cs
  .obtain⟨cs,rfl⟩:=ha
   obtain⟨us,rfl,hcs⟩:=hv
   refine⟨us,rfl,by simp[hcs.1],λi z b p q=>?_⟩
   rw[aK]at p
   cases hz:cs[i]? with
   |none=>rw[hz]at p;cases p
   |some w=>rw[hz]at p;cases p;exact yI w b (hcs.2 i w b hz q)
  .have e1:O9 foc h.length v=Oa foc h.length v:=by cases v<;>first|rfl|exact absurd ⟨_,rfl⟩ ha
   rw[e1]
   exact VA.of1 (yI v a (by cases v<;>first|exact hv|exact absurd ⟨_,rfl⟩ ha))
 have b0x:∀(j:Nat) (o:XO) (O:ay),(emb osh y).h[j]?=some o->vo ρ' (emb osh y).h o O->vo (ρ++l) hc (AX foc h.length o) O:=by
  intro j o O hj hR
  cases o with
  |row=>exact hR
  |box ty cs =>
   obtain⟨a,b,c,d,e,he,hcs⟩:=hR
   refine⟨a,by simpa using b,c,d,e,he,by simp[hcs.1],λi z w p q=>?_⟩
   rw[aK]at p
   cases hz:cs[i]? with
   |none=>rw[hz]at p;cases p
   |some u=>rw[hz]at p;cases p;exact yI u w (hcs.2 i u w hz q)
 have b30:∀(j id:Nat) (o:XO),foc[j]?=some id->h[id]?=some o->(ish.objs.map kS)[j]?=some (kK o):=a2u hx
 have tr:Trn ρ h (ρ++l) hc kl:=by
  refine Trn.mk (λid o ho hn=>?_) (λid hid=>kZ (by rw[hs.rl];exact hid))
  by_cases hf:id∈foc
  .obtain⟨j,hj⟩:=dI.1 hf
   have hjl:j<foc.length:=(aj.1 hj).1
   have hk1:=b30 j id o hj ho
   have hjo:j<(emb osh y).h.length:=by omega
   have hk2:=kl2 j (by rw[<- hfl];exact hjl)
   rw[hk1,<- ho2,aK,ah hjo]at hk2
   have hk3:kK (emb osh y).h[j]=kK o:=by simpa using hk2.symm
   refine⟨AX foc h.length (emb osh y).h[j],by rw[s2 j id hj,ah hjo];rfl,?_⟩
   by_cases hr:kK o=0
   .rw[hr]at hk1
    rcases Xa (kp:=kp) foc ish.objs 0 hfl j id hj hk1 with q|q
    .rw[hkeq]at q;exact absurd q hn
    .rw[dD]at q
     obtain⟨ty,T,fz,fz',es,es',e1,e2,e3⟩:=UM hkp j q
     rw[ah hjo]at e2
     have e2:=aJ e2
     rw[e2]
     have:=a6f hx j id o hj ho e1
     rw[this]
     exact⟨rfl,rfl,e3⟩
   .generalize (emb osh y).h[j]=o2 at hk3 ⊢
    cases o with
    |row=>exact absurd rfl hr
    |box ty cs=>cases o2<;>first|(cases hk3;done)|trivial
  .refine⟨lI kl o,?_,?_⟩
   .rw[s3 id (aj.1 ho).1 hf,sQ,aK,ho];rfl
   .cases o<;>simp[rM,lI]
 refine⟨ρ++l,⟨⟨?_,?_,λid o ho=>?_⟩,tr,hF.ge,λj hj hn=>?_,⟨l,rfl,hl2⟩,by rw[s1];omega⟩,?_⟩
 .rw[ak,s1,hs.rl,hll]
 .have hnd':=hS.h.nd
  rw[hl1,nC]at hnd'
  rw[nC]
  refine⟨hs.nd,hnd'.2.1,λa ha b hb=>?_⟩
  have:=hs.XU ha
  have:=hl2 b hb
  omega
 .by_cases hid:id<h.length
  .by_cases hf:id∈foc
   .obtain⟨j,hj⟩:=dI.1 hf
    have hjl:j<foc.length:=(aj.1 hj).1
    have hjo:j<(emb osh y).h.length:=by omega
    rw[s2 j id hj,ah hjo]at ho
    cases ho
    obtain⟨O,hO,hR⟩:=hS.h.hr j _ (ah hjo)
    refine⟨O,?_,b0x _ _ _ (ah hjo) hR⟩
    rw[kZ (by rw[hs.rl];exact hid)]
    have:ρ'.getD j 0=ρ.getD id 0:=by rw[hl1,kZ (by simpa using hjl)];simp[List.getD,aK,hj]
    rw[this]at hO;exact hO
   .rw[s3 id hid hf,sQ,aK]at ho
    cases hx2:h[id]? with
    |none=>rw[hx2]at ho;cases ho
    |some ox =>
     rw[hx2]at ho;cases ho
     obtain⟨O,hO,hR⟩:=hs.hr id ox hx2
     refine⟨O,?_,tr.obj hR⟩
     rw[kZ (by rw[hs.rl];exact hid),hF.fr _ (hs.lt hid) (λq=>?_)]
     .exact hO
     .obtain⟨id',b1k,e⟩:=bT.1 q
      exact hf (hs.inj (hlt id' b1k) hid e▸b1k)
  .have oz:=(aj.1 ho).1
   rw[s1]at oz
   have hk':=s4 (id-h.length+foc.length) (by omega) (by omega)
   rw[Nat.add_sub_cancel,show h.length+(id-h.length)=id by omega,ho]at hk'
   have hjo:id-h.length+foc.length<(emb osh y).h.length:=by omega
   rw[ah hjo]at hk'
   cases hk'
   obtain⟨O,hO,hR⟩:=hS.h.hr _ _ (ah hjo)
   refine⟨O,?_,b0x _ _ _ (ah hjo) hR⟩
   have e1:(ρ++l)[id]?=l[id-h.length]?:=by rw[aO (by rw[hs.rl];omega),hs.rl]
   have e2:ρ'[id-h.length+foc.length]?=l[id-h.length]?:=by rw[hl1,aO (by simp)];simp
   have:(ρ++l).getD id 0=ρ'.getD (id-h.length+foc.length) 0:=getD_congr (e1.trans e2.symm)
   rw[this];exact hO
 .refine hF.fr j hj (λq=>?_)
  obtain⟨id,hid,e⟩:=bT.1 q
  exact hn id hid (hlt id hid) e
 .have ht:=hS.t
  have hts:∀(z:XV) (a:AV),VT ρ' (emb osh y).h z a->(∀us,z≠.tup us)->VA (ρ++l) hc (O9 foc h.length z) a:=λz a q hz=>b7b z a (q.vW hz)
  have hnt:∀z∈(emb osh y).t,∀us,z≠.tup us:=YC osh y
  unfold a1j qh
  generalize (emb osh y).t=tl at ht hnt
  match tl,rs,ht,hnt with
  |[],rs,ht,_=>have:=ht.lH;subst this;exact⟨[],rfl,.nil⟩
  |[v],rs,ht,hnt =>
   obtain⟨a,r,rfl,hv,htt⟩:=ht.iW
   have:=htt.lH
   subst this
   exact VT.ofA (hts v a hv (hnt v (by simp)))
  |v::w::tl,rs,ht,hnt =>
   obtain⟨a,r,rfl,hv,htt⟩:=ht.iW
   obtain⟨b,r',rfl,hw,b8Y⟩:=htt.iW
   refine⟨_,rfl,by simpa using ht.1,λi z c p q=>?_⟩
   rw[aK]at p
   cases hz:(v::w::tl)[i]? with
   |none=>rw[hz]at p;cases p
   |some u=>rw[hz]at p;cases p;exact hts u c (ht.2 i u c hz q) (hnt u (bO hz))
end
structure oO (P:Program) (c:Cfg):Prop where
 pis:∀p∈c.pis,POk P (gx c.GX) p
 his:∀p∈c.his,HOk P (gx c.GX) p
section
variable{P:Program}{c:Cfg}{ρ:List Nat}{h:List XO}{H:List ay}{σ:St}{rd:Opd->XV}{tt:Nat->Option Ty}{Gl:Nat->Option (List AV)}{β:Type}{r:β}
theorem Db{i:I}{p:Bool}{v:XV}{kl:Option Nat}{h':List XO}(hc:i.cls<=1)(hx:iy tt h rd i=some (p,v,kl,h')):kl=none/\h'=h:=by
 cases i<;>simp only[I.cls]at hc<;>first|omega|skip
 all_goals(simp only[iy]at hx)
 all_goals(repeat' (split at hx))
 all_goals first|(cases hx;done)|(cases hx;exact⟨rfl,rfl⟩)
theorem NK{i:I}(hc:i.cls<=1){q:Prop}{a:AV}{H':List ay}(hx:step Gl σ i=some (q,a,H')):H'=σ.h:=by
 by_cases h0:i.cls=0
 .exact(Di (τ:=σ) h0 (λ_ _=>rfl) hx).1
 .cases i with
  |o8 b st n x i =>
   simp only[step]at hx
   repeat' (split at hx)
   all_goals first
    |(cases hx;done)
    |(cases hx;rfl)
  |b2s x =>
   simp only[step]at hx
   split at hx
   .rw[dK]at hx;obtain⟨_,_,q⟩:=hx;cases q;rfl
   .cases hx
  |load sz ag x =>
   simp only[step]at hx
   repeat' (split at hx)
   all_goals first
    |(cases hx;done)
    |(cases hx;rfl)
    |(rw[dK]at hx;obtain⟨_,_,q⟩:=hx;cases q;rfl)
  |call f as=>cases hx
  |_=>first|exact absurd rfl h0|(simp[I.cls]at hc;done)
theorem zw {d:Bool} {dst:Option Nat} {K:St->Prop} {i:I} (hn:∀ f as,i ≠ .call f as):mg P Gl d σ dst K i=match step Gl σ i with
  |some (p,a,h')=>p/\K (St.put ⟨σ.t,h'⟩ dst a)
  |none=>False:=by
 cases i<;>first|rfl|exact absurd rfl (hn _ _)
theorem Kz{ρ':List Nat}{h':List XO}{H':List ay}{kl tch:List Nat}(hu:Upd ρ h H ρ' h' H' kl tch)(hρ:ρ.length=h.length)(he:h'.length=h.length):ρ'=ρ:=by
 obtain⟨n,e,_⟩:=hu.ap
 have:=hu.hs.rl
 rw[e,ak]at this
 have hn:n=[]:=bW.1 (by omega)
 rw[e,hn,cu]
def Aft(ρ:List Nat)(h:List XO)(σ:St)(d:Bool)(ok:Nat->Bool)(rd:Opd->XV)(i:I)(K:XV->List Nat->List XO->Option β)(r:β)(a:AV)(H':List ay):Prop :=
 ∃ρ' v kl h' tch,Upd ρ h σ.h ρ' h' H' kl tch/\VT ρ' h' v a/\(leaves ok rd i=true->∀id∈tch,ok id=true)/\(i.cls<=1->d=true->ρ'=ρ/\H'=σ.h/\kl=[]/\h'=h)/\K v kl h'=some r
theorem VW (hs:HS ρ h H) {vs:List XV} {as:List AV} (hv:bB (VT ρ h) vs as) {f:Nat} {d:Bool} {K:XV->List Nat->List XO->Option β} {o:Option β}:∀ (ps:List PI),(∀ p ∈ ps,POk P Gl p)->Dc f d h vs K o ps=some r ->
  (∃bs res v h' tch,callable P f=true/\dY H as=some bs/\Pure P Gl f bs res/\(d=true->(if scalar res then H else freeze H (as.flatMap dJ))=H)/\Upd ρ h H ρ h' (if scalar res then H else freeze H (as.flatMap dJ)) [] tch/\(∀id∈tch,id∈vs.flatMap eZ)/\VT ρ h' v res/\(d=true->h'=h)/\K v [] h'=some r)\/o=some r:=by
 intro ps
 induction ps with
 |nil=>intro _ hx;exact .inr hx
 |cons p ps ih =>
  intro hp hx
  simp only[Dc]at hx
  split at hx
  .rename_i hf
   have hf:=beq_eq hf
   subst hf
   split at hx
   .rename_i x ha
    obtain⟨bs,k1,k2,k3,k4⟩:=Qf hs _ _ _ _ ha hv
    have hpure:∀y,p.run x=some y->Pure P Gl p.f bs (qh (encs p.rs y)):=λy hy =>
     ((hp p (by simp)).2 x y hy).weak k2.1 λj a b q q'=>(k2.2 j a b q q').wk
    split at hx
    .rename_i hsc
     cases hy:p.run x with
     |none=>rw[hy]at hx;cases hx
     |some y =>
      rw[hy]at hx
      have hsr:scalar (qh (encs p.rs y))=true:=by rw[NU _ (Dl hsc)];exact hsc
      refine .inl ⟨bs,_,Gb p.rs y,h,[],(hp p (by simp)).1,k1,hpure y hy,λ_=>by rw[hsr];rfl,?_,(λ_ q=>by simp at q),JB _ _,λ_=>rfl,hx⟩
      rw[hsr];exact Upd.same hs
    .rename_i hsc
     split at hx
     .rename_i hd
      cases hy:p.run x with
      |none=>rw[hy]at hx;cases hx
      |some y =>
       rw[hy]at hx
       have b1C:(vs.flatMap eZ).all (Gw h)=true->freeze H (as.flatMap dJ)=H/\kg h (vs.flatMap eZ)=h:=by
        intro hd
        rw[k3]
        refine⟨?_,a5Z _ _ hd⟩
        clear hx ih hpure
        have:∀(ids:List Nat),(∀id∈ids,isRow h id)->ids.all (Gw h)=true->freeze H (ids.map λid=>ρ.getD id 0)=H:=by
         intro ids
         induction ids with
         |nil=>intro _ _;rfl
         |cons id ids ih =>
          intro hr ha
          simp only[lS,au]at ha
          obtain⟨ty,T,fz,es,he⟩:=hr id (by simp)
          have hfz:fz=true:=by have:=ha.1;simp only[Gw,he]at this;exact this
          obtain⟨O,hO,o1,o2,o3,o4,o5⟩:=hs.hr id _ he
          rw[hfz,if_pos rfl]at o4
          have hlen:O.es.length=es.length:=by have:=o5.1;simpa using this
          have hst:H.set (ρ.getD id 0) { O with fz:=O.es.length }=H:=by
           have:({ O with fz:=O.es.length }:ay)=O:=by rw[hlen,<- o4]
           rw[this]
           apply fA
           intro j
           rw[dn]
           split
           .rename_i hj
            subst hj
            split
            .rw[hO]
            .rename_i hl;rw[aR (by omega)]
           .rfl
          have e:freeze H ((id::ids).map λid=>ρ.getD id 0)=freeze H (ids.map λid=>ρ.getD id 0):=by
           simp only[bL,freeze,fu,hO];rw[hst]
          rw[e]
          exact ih (λj hj=>hr j (by simp[hj])) ha.2
        exact this _ k4 hd
       by_cases hall:(vs.flatMap eZ).all (Gw h)=true
       .obtain⟨f1,f2⟩:=b1C hall
        have hif:(if scalar (qh (encs p.rs y))=true then H else freeze H (as.flatMap dJ))=H:=by rw[f1];split<;>rfl
        rw[f2]at hx
        exact .inl ⟨bs,_,Gb p.rs y,h,[],(hp p (by simp)).1,k1,hpure y hy,λ_=>hif,by rw[hif];exact Upd.same hs,(λ_ q=>by simp at q),JB _ _,λ_=>rfl,hx⟩
       ·have hd':d=false/\uO p.rs=false:=by
         have:=qW _▸hall
         rw[this]at hd
         simpa using hd
        have hsr:scalar (qh (encs p.rs y))=false:=by rw[NU _ hd'.2];simpa using hsc
        have hu:=Upd.frz _ hs k4
        rw[<- k3]at hu
        refine .inl ⟨bs,_,Gb p.rs y,_,_,(hp p (by simp)).1,k1,hpure y hy,λq=>?_,by rw[hsr];exact hu,(λ_ q=>q),JB _ _,λq=>?_,hx⟩
        .rw[hd'.1]at q;cases q
        .rw[hd'.1]at q;cases q
     .cases hx
   .exact ih (λq hq=>hp q (by simp[hq])) hx
  .exact ih (λq hq=>hp q (by simp[hq])) hx
theorem VX (hs:HS ρ h H) {vs:List XV} {as:List AV} (hv:bB (VT ρ h) vs as) {f:Nat} {ok:Nat->Bool} {K:XV->List Nat->List XO->Option β}:∀ (ps:List HI),(∀ p ∈ ps,HOk P Gl p)->Df f ok h vs K ps=some r ->
  callable P f=true/\mV P Gl f H as λres H'=>∃ρ' v kl h' tch,Upd ρ h H ρ' h' H' kl tch/\(∀id∈tch,ok id=true)/\VT ρ' h' v res/\K v kl h'=some r:=by
 intro ps
 induction ps with
 |nil=>intro _ hx;cases hx
 |cons p ps ih =>
  intro hp hx
  simp only[Df]at hx
  split at hx
  .rename_i hb
   simp only[au]at hb
   have hf:=beq_eq hb.1.1
   have hn:=beq_eq hb.1.2
   subst hf
   split at hx
   .rename_i foc x he
    split at hx
    case isFalse=>cases hx
    rename_i hfo
    cases hy:p.run x with
    |none=>rw[hy]at hx;cases hx
    |some y =>
     rw[hy]at hx
     have hx:cond (xI p.kp (emb p.ish x).h (emb p.osh y).h) (K _ _ _) none=some r:=hx
     cases hkp:xI p.kp (emb p.ish x).h (emb p.osh y).h with
     |false=>rw[hkp]at hx;cases hx
     |true =>
     rw[hkp]at hx
     have hS:=(BG (X:=⟨vs,h⟩) hv hs hn.symm he).1
     refine⟨(hp p (by simp)).1,((hp p (by simp)).2 x y hy H _ as hS).mono ?_⟩
     rintro res H' ⟨ρ',rs,hS',rfl,hF⟩
     obtain⟨ρc,hu,hvt⟩:=a1J hs hv hn.symm he hb.2 hkp hS' hF
     exact⟨ρc,_,_,_,_,hu,λid hid=>aG.1 hfo id hid,hvt,hx⟩
   .exact ih (λq hq=>hp q (by simp[hq])) hx
  .exact ih (λq hq=>hp q (by simp[hq])) hx
theorem a0q(hc:oO P c)(hs:HS ρ h σ.h)(hrd:∀o,VT ρ h (rd o) (σ.val (gx c.GX) o)){d:Bool}{ok:Nat->Bool}{K:XV->List Nat->List XO->Option β}{i:I}{dst:Option Nat}{Q:St->Prop}(hx:M8 c d ok h rd K i=some r)(hQ:∀a H',Aft ρ h σ d ok rd i K r a H'->Q (St.put ⟨σ.t,H'⟩ dst a)):mg P (gx c.GX) d σ dst Q i:=by
 by_cases hcall:∃f as,i=.call f as
 .obtain⟨f,as,rfl⟩:=hcall
  simp only[M8]at hx
  split at hx
  case h_2=>cases hx
  rename_i fi u hfo
  have hfv:σ.val (gx c.GX) f=.v (.func (.func fi) #[] #[]):=by
   have:=hrd f
   rw[hfo]at this
   exact a8C this
  have hv:=DN (xs:=as) hrd
  rcases VW hs hv c.pis hc.pis hx with⟨bs,res,v,h',tch,k0,k1,k2,k3,k4,k4',k5,k6,k7⟩|ho
  .refine⟨fi,hfv,k0,.inl ⟨bs,res,k1,k2,k3,hQ _ _ ⟨ρ,v,[],h',tch,k4,k5,(λhm id hid=>aG.1 hm id (k4' id hid)),λ_ hd=>⟨rfl,k3 hd,rfl,k6 hd⟩,k7⟩⟩⟩
  .cases d with
   |true=>cases ho
   |false =>
    obtain⟨k0,kH⟩:=VX hs hv c.his hc.his ho
    refine⟨fi,hfv,k0,.inr ⟨rfl,kH.mono ?_⟩⟩
    rintro res H' ⟨ρ',v,kl,h',tch,u1,u1',u2,u3⟩
    exact hQ _ _ ⟨ρ',v,kl,h',tch,u1,u2,(λ_=>u1'),(λ_ hd=>by cases hd),u3⟩
 .have hn:∀f as,i≠.call f as:=λf as q=>hcall ⟨f,as,q⟩
  rw[zw hn]
  have hx':(match iy c.tt h rd i with
    |some (p,v,kl,h')=>cond p (K v kl.toList (qL kl.toList h')) none
    |none=>none)=some r:=by
   rw[<- hx]
   cases i with
   |call f as=>exact absurd rfl (hn _ _)
   |_=>rfl
  split at hx'
  .rename_i p v kl h' hst
   cases p with
   |false=>cases hx'
   |true =>
    obtain⟨q,a,H',ρ',tch,e1,e2,e3,e4,e5⟩:=Da i hs hrd _ _ _ _ hst rfl
    rw[e1]
    refine⟨e2,hQ _ _ ⟨ρ',v,kl.toList,_,tch,e3,e4,e5 ok,λhcl _=>?_,hx'⟩⟩
    obtain⟨c1,c2⟩:=Db hcl hst
    subst c1 c2
    exact⟨Kz e3 hs.rl rfl,NK hcl e1,rfl,rfl⟩
  .cases hx'
end
def SpR(ρ:List Nat)(h:List XO)(σ:St)(sp:Sp):Prop:=∀q∈sp,(σ.t.getD q.2.1 .any=.v (.bool q.2.2.1)/\VT ρ h q.2.2.2 (σ.t.getD q.1 .any))\/(σ.t.getD q.2.1 .any≠.v (.bool q.2.2.1)/\σ.t.getD q.1 .any=und)
section
variable{P:Program}{c:Cfg}{ρ:List Nat}{X:XS}{H:List ay}{σ:St}{β:Type}{r:β}{sp:Sp}
theorem pY{h:List XO}{t:List XV}{ts:List AV}(ht:bB (VT ρ h) t ts)(i:Nat):VT ρ h (t.getD i .any) (ts.getD i .any):=by
 rcases bK i ts.length with q|q
 .exact ht.getD q _ _
 .have:t[i]?=none:=aR (by rw[ht.1];exact q)
  simp only[List.getD,this,Option.getD_none];trivial
theorem Bp(hS:Sim ρ X σ)(o:Opd):VT ρ X.h (rdG c.GX X.t o) (σ.val (gx c.GX) o):=by
 cases o with
 |t i=>exact pY hS.t i
 |k v=>exact VT.of1 (Tg v)
 |g i =>
  simp only[rdG,St.val,gx]
  by_cases hb:Nat.blt i 1000000=true
  case neg=>rw[if_neg hb];trivial
  rw[if_pos hb,if_pos hb]
  cases c.GX i with
  |none=>trivial
  |some p =>
   obtain⟨T,x⟩:=p
   exact⟨_,rfl,by rw[kC];exact bB.rfl' .refl _⟩
theorem zM(hS:Sim ρ X σ)(hsp:SpR ρ X.h σ sp){ctx:List (Nat×Bool)}(hg:∀g∈ctx,σ.t.getD g.1 .any=.v (.bool g.2))(o:Opd):VT ρ X.h (rdC c.GX sp ctx X.t o) (σ.val (gx c.GX) o):=by
 cases o with
 |t i =>
  simp only[rdC]
  split
  .rename_i q hq
   have hm:=List.mem_of_find?_eq_some hq
   have hp:=List.find?_some hq
   simp only[au,gT]at hp
   obtain⟨e1,g,hgm,hg2⟩:=hp
   have e1:=beq_eq e1
   simp only[au,nK]at hg2
   have e2:=beq_eq hg2.1
   have hgg:=hg g hgm
   rw[e2,hg2.2]at hgg
   rcases hsp q hm with⟨_,h2⟩|⟨h1,_⟩
   .rw[e1]at h2;exact h2
   .exact absurd hgg h1
  .exact pY hS.t i
 |k v=>exact Bp (c:=c) hS (.k v)
 |g i=>exact Bp (c:=c) hS (.g i)
theorem KC{h:List XO}{t:List XV}{ts:List AV}(ht:bB (VT ρ h) t ts){u:Nat}{x:XV}(hx:VT ρ h x (ts.getD u .any)):bB (VT ρ h) (t.set u x) ts:=by
 refine⟨by simp[ht.1],λi y a p q=>?_⟩
 rw[dn]at p
 split at p
 .rename_i hi
  subst hi
  split at p
  .cases p
   have:ts.getD u .any=a:=by simp only[List.getD,q,eu]
   rw[this]at hx;exact hx
  .cases p
 .exact ht.2 i y a p q
theorem b0L{h:List XO}{s:Nat}{v:Bool}(hg:σ.t.getD s .any=.v (.bool v)):∀(l:Sp) (t:List XV),bB (VT ρ h) t σ.t->(∀q∈l,(σ.t.getD q.2.1 .any=.v (.bool q.2.2.1)/\VT ρ h q.2.2.2 (σ.t.getD q.1 .any))\/(σ.t.getD q.2.1 .any≠.v (.bool q.2.2.1)/\σ.t.getD q.1 .any=und))->bB (VT ρ h) (l.foldl (λt q=>if Nat.beq q.2.1 s=true then t.set q.1 (if(q.2.2.1==v)=true then q.2.2.2 else kU) else t) t) σ.t:=by
 intro l
 induction l with
 |nil=>intro t ht _;exact ht
 |cons q l ih =>
  intro t ht hl
  refine ih _ ?_ (λq' hq'=>hl q' (by simp[hq']))
  dsimp only
  split
  .rename_i hb
   have hb:=beq_eq hb
   rcases hl q (by simp) with⟨h1,h2⟩|⟨h1,h2⟩
   .rw[hb,hg]at h1
    cases h1
    rw[if_pos (by simp)]
    exact KC ht h2
   .have hne:¬(q.2.2.1==v)=true:=λe=>h1 (by rw[hb,hg];simp only[nK]at e;rw[e])
    rw[if_neg hne]
    refine KC ht ?_
    rw[h2];exact rfl
  .exact ht
theorem NW{t:List XV}{ts:List AV}{h:List XO}(ht:bB (VT ρ h) t ts){s:Nat}{b:Bool}(hb:ts.getD s .any=.v (.bool b)):bB (VT ρ h) (t.set s (.d .bool b)) ts:=KC ht (by rw[hb];exact Wp.refl _)
theorem Bu{s:Nat}{v:Bool}(hS:Sim ρ X σ)(hsp:SpR ρ X.h σ sp)(hg:σ.t.getD s .any=.v (.bool v)):Sim ρ ⟨sN s v sp X.t,X.h⟩ σ/\SpR ρ X.h σ (vX s sp) :=
 ⟨⟨b0L hg sp _ (NW hS.t hg) hsp,hS.h⟩,λq hq=>hsp q (eD.1 hq).1⟩
theorem Y5(kl:List Nat):∀sp,F7 kl sp=sp.map λq=>(q.1,q.2.1,q.2.2.1,uL kl q.2.2.2):=by
 induction kl with
 |nil=>intro sp;show sp=_;simp[uL]
 |cons k kl ih =>
  intro sp
  show F7 kl (sp.map _)=_
  rw[ih,gX];rfl
theorem NC{h:List XO}(a:AV):VT ρ h .any a:=trivial
theorem qg{ρ':List Nat}{h':List XO}{H':List ay}{kl tch:List Nat}{t:List XV}(ht:bB (VT ρ X.h) t σ.t)(hu:Upd ρ X.h H ρ' h' H' kl tch){v:XV}{a:AV}(hv:VT ρ' h' v a)(dst:Option Nat):Sim ρ' ⟨uo (Fa kl t) dst v,h'⟩ (St.put ⟨σ.t,H'⟩ dst a):=by
 have h1:bB (VT ρ' h') (Fa kl t) σ.t:=by
  rw[Lh]
  exact⟨by simp[ht.1],λi y b p q=>by
   rw[aK]at p
   cases hy:t[i]? with
   |none=>rw[hy]at p;cases p
   |some z=>rw[hy]at p;cases p;exact hu.tr.T (ht.2 i z b hy q)⟩
 cases dst with
 |none=>exact⟨h1,hu.hs⟩
 |some i=>exact⟨h1.set hv i,hu.hs⟩
theorem Gz{σ:St}{H':List ay}{dst:Option Nat}{a:AV}{j:Nat}(hj:dst≠some j):(St.put ⟨σ.t,H'⟩ dst a).t.getD j .any=σ.t.getD j .any:=by
 cases dst with
 |none=>rfl
 |some i =>
  have:i≠j:=λq=>hj (by rw[q])
  simp only[St.put,List.getD,aP this]
theorem BH{ρ':List Nat}{h':List XO}{H H':List ay}{kl tch:List Nat}(hsp:SpR ρ X.h σ sp)(hu:Upd ρ X.h H ρ' h' H' kl tch)(dst:Option Nat)(a:AV):SpR ρ' h' (St.put ⟨σ.t,H'⟩ dst a) (jV dst (F7 kl sp)):=by
 intro q hq
 have hne:dst≠some q.1/\dst≠some q.2.1/\q∈F7 kl sp:=by
  cases dst with
  |none=>exact⟨by simp,by simp,hq⟩
  |some i =>
   simp only[jV,eD,au,fH]at hq
   refine⟨λe=>?_,λe=>?_,hq.1⟩
   .cases e;simp at hq
   .cases e;simp at hq
 rw[Gz hne.1,Gz hne.2.1]
 have hm:=hne.2.2
 rw[Y5]at hm
 obtain⟨q0,hq0,rfl⟩:=bT.1 hm
 rcases hsp q0 hq0 with⟨h1,h2⟩|⟨h1,h2⟩
 .exact .inl ⟨h1,hu.tr.T h2⟩
 .exact .inr ⟨h1,h2⟩
def b8T(c:Cfg)(ρ:List Nat)(X:XS)(σ:St)(d:Bool)(ok:Nat->Bool)(ins:Ins)(K:XS->Sp->Option β)(r:β)(τ:St):Prop :=
 ∃ρ' X' sp',Sim ρ' X' τ/\SpR ρ' X'.h τ sp'/\(∃kl tch,Upd ρ X.h σ.h ρ' X'.h τ.h kl tch/\(ins.gd=none->leaves ok (rdG c.GX X.t) ins.i=true->∀id∈tch,ok id=true))/\K X' sp'=some r
theorem EO{σ:St}{H':List ay}{dst:Option Nat}{a:AV}:(St.put ⟨σ.t,H'⟩ dst a).h=H':=by cases dst<;>rfl
theorem KO{i:I}(h:Hy i=true):i.cls<=1/\∀f as,i≠.call f as:=by
 cases i<;>simp[Hy]at h<;>exact⟨by simp[I.cls],λf as q=>by cases q⟩
theorem XR{t:Bool}{x y v:XV}{a b:AV}{h:List XO}(hm:mrg t x y=some v)(ha:t=true->VT ρ h x a)(hb:t=false->VT ρ h y b):VT ρ h v (if t=true then a else b):=by
 unfold mrg at hm
 split at hm
 .rename_i T x T' y
  split at hm
  .rename_i y' hy
   cases hm
   obtain⟨rfl,rfl⟩:=kY hy
   cases t with
   |true=>exact ha rfl
   |false=>exact hb rfl
  .cases hm
 .cases hm
theorem KV{Gl:Nat->Option (List AV)}{σ:St}{s:Nat}{a b:Opd}{t:Bool}(ht:σ.t.getD s .any=.v (.bool t)):step Gl σ (.pick (.t s) a b)=some (True,if t=true then σ.val Gl a else σ.val Gl b,σ.h):=by
 have hts:σ.val Gl (.t s)=.v (.bool t):=ht
 simp only[step,hts]
def b2e(c:Cfg)(ρ:List Nat)(X:XS)(σ:St)(d:Bool)(ok:Nat->Bool)(i:I)(K:XS->Sp->Option β)(r:β)(τ:St):Prop :=
 ∃ρ' X' sp',Sim ρ' X' τ/\SpR ρ' X'.h τ sp'/\(∃kl tch,Upd ρ X.h σ.h ρ' X'.h τ.h kl tch/\(leaves ok (rdG c.GX X.t) i=true->∀id∈tch,ok id=true)/\(i.cls<=1->d=true->ρ'=ρ/\X'.h=X.h/\τ.h=σ.h))/\K X' sp'=some r
theorem Hl(hc:oO P c)(hS:Sim ρ X σ)(hsp:SpR ρ X.h σ sp){d:Bool}{ok:Nat->Bool}{K:XS->Sp->Option β}{Q:St->Prop}{dst:Option Nat}{i:I}(hx:xun c d ok X sp dst K i=some r)(hQ:∀τ,b2e c ρ X σ d ok i K r τ->Q τ):mg P (gx c.GX) d σ dst Q i:=by
 by_cases hp:∃s a b,i=.pick (.t s) a b
 .obtain⟨s,a,b,rfl⟩:=hp
  simp only[xun,a3a]at hx
  have hvs:=pY hS.t s
  have go:∀t:Bool,σ.t.getD s .any=.v (.bool t)->(match(generalizing:=false) mrg t (rdC c.GX sp [(s,true)] X.t a) (rdC c.GX sp [(s,false)] X.t b) with
   |some v=>K ⟨uo X.t dst v,X.h⟩ (jV dst sp)
   |none=>cond t (K ⟨uo (sN s true sp X.t) dst (rdC c.GX sp [(s,true)] X.t a),X.h⟩ (jV dst (vX s sp))) (K ⟨uo (sN s false sp X.t) dst (rdC c.GX sp [(s,false)] X.t b),X.h⟩ (jV dst (vX s sp))))=some r->mg P (gx c.GX) d σ dst Q (.pick (.t s) a b):=by
   intro t ht hy
   rw[zw (by intro f as q;cases q),KV ht]
   refine⟨trivial,hQ _ ?_⟩
   have hva:t=true->VT ρ X.h (rdC c.GX sp [(s,true)] X.t a) (σ.val (gx c.GX) a):=λq=>zM hS hsp (by simp only[aY,forall_eq];rw[ht,q]) a
   have hvb:t=false->VT ρ X.h (rdC c.GX sp [(s,false)] X.t b) (σ.val (gx c.GX) b):=λq=>zM hS hsp (by simp only[aY,forall_eq];rw[ht,q]) b
   have hu:=Upd.same hS.h
   have fin:∀(t':List XV) (sp1:Sp) (v:XV),bB (VT ρ X.h) t' σ.t->SpR ρ X.h σ sp1->VT ρ X.h v (if t=true then σ.val (gx c.GX) a else σ.val (gx c.GX) b)->K ⟨uo t' dst v,X.h⟩ (jV dst sp1)=some r->b2e c ρ X σ d ok (.pick (.t s) a b) K r (St.put ⟨σ.t,σ.h⟩ dst (if t=true then σ.val (gx c.GX) a else σ.val (gx c.GX) b)):=by
    intro t' sp1 v ht' hsp1 hv hK
    refine⟨ρ,⟨uo t' dst v,X.h⟩,jV dst sp1,qg (X:=X) (kl:=[]) ht' hu hv dst,BH (kl:=[]) hsp1 hu dst _,⟨[],[],by rw[EO];exact hu,(λ_ _ q=>by simp at q),λ_ _=>⟨rfl,rfl,EO⟩⟩,hK⟩
   split at hy
   .rename_i v hm
    exact fin X.t sp v hS.t hsp (XR hm hva hvb) hy
   .cases t with
    |true=>obtain⟨m1,m2⟩:=Bu hS hsp ht;exact fin _ _ _ m1.t m2 (hva rfl) hy
    |false=>obtain⟨m1,m2⟩:=Bu hS hsp ht;exact fin _ _ _ m1.t m2 (hvb rfl) hy
  split at hx
  .rename_i t hcb
   have hcb:X.t.getD s .any=.d .bool t:=hcb
   rw[hcb]at hvs
   exact go t (tC hvs) hx
  .cases hx
 ·have hx':M8 c d ok X.h (rdG c.GX X.t) (fun x kl h'=>K ⟨uo (Fa kl X.t) dst x,h'⟩ (jV dst (F7 kl sp))) i=some r:=by
   rw[<- hx]
   unfold xun
   split
   .exact absurd ⟨_,_,_,rfl⟩ hp
   .rfl
  refine a0q hc hS.h (Bp hS) hx' ?_
  rintro a H' ⟨ρ',v,kl,h',tch,u1,u2,u3,u4,u5⟩
  exact hQ _ ⟨ρ',_,_,qg hS.t u1 u2 dst,BH hsp u1 dst a,⟨kl,tch,by rw[EO];exact u1,u3,λp q=>⟨(u4 p q).1,(u4 p q).2.2.2,by rw[EO];exact(u4 p q).2.1⟩⟩,u5⟩
theorem Nv {tt:Nat->Option Ty} (hS:Sim ρ X σ) (hsp:SpR ρ X.h σ sp) {s:Nat} {want:Bool} (hg:σ.t.getD s .any=.v (.bool want)) {i:I} (hcl:i.cls<=1) {p:Bool} {v:XV} (hx:Ho c.GX tt X.h X.t sp s want i=some (p,v)) (hp:p=true):∃ q a,step (gx c.GX) σ i=some (q,a,σ.h)/\q/\VT ρ X.h v a:=by
  by_cases hpk:∃s' a b,i=.pick (.t s') a b
  · obtain ⟨s',a,b,rfl⟩:=hpk
    simp only[Ho]at hx
    have hv1:=zM (c:=c) hS hsp (ctx:=[(s,want)]) (by simp only[aY,forall_eq];exact hg) (.t s')
    have go:∀ t:Bool,σ.t.getD s' .any=.v (.bool t)->(match (generalizing:=false) mrg t (rdC c.GX sp [(s',true),(s,want)] X.t a) (rdC c.GX sp [(s',false),(s,want)] X.t b) with
      |some v=>some (true,v)
      |none=>none)=some (p,v)->∃q a',step (gx c.GX) σ (.pick (.t s') a b)=some (q,a',σ.h)/\q/\VT ρ X.h v a':=by
      intro t ht hy
      split at hy
      · rename_i w hm
        cases hy
        refine⟨_,_,KV ht,trivial,?_⟩
        refine XR hm (λq=>?_) (λq=>?_)
        .exact zM hS hsp (by simp only[bE,bY,or_false,forall_eq_or_imp,forall_eq];exact⟨by rw[ht,q],hg⟩) a
        .exact zM hS hsp (by simp only[bE,bY,or_false,forall_eq_or_imp,forall_eq];exact⟨by rw[ht,q],hg⟩) b
      .cases hy
    split at hx
    · rename_i t hcb
      rw[hcb]at hv1
      exact go t (tC hv1) hx
    .cases hx
  · have hx' : (match iy tt X.h (rdC c.GX sp [(s, want)] X.t) i with
        |some (p,v,_,_)=>some (p,v)
        |none=>none)=some (p,v):=by
      rw[<- hx]
      cases i with
      | pick c' a b=>cases c' with
        |t s'=>exact absurd ⟨_,_,_,rfl⟩ hpk
        |_=>rfl
      |_=>rfl
    split at hx'
    · rename_i p1 v1 q1 q2 hst
      cases hx'
      obtain⟨q,a,H',ρ2,tch,e1,e2,e3,e4,e5⟩:=Da i hS.h (λo=>zM hS hsp (by simp only[aY,forall_eq];exact hg) o) _ _ _ _ hst hp
      obtain⟨c1,c2⟩:=Db hcl hst
      subst c1 c2
      have hρ:=Kz e3 hS.h.rl rfl
      have hH:=NK hcl e1
      subst hρ
      rw[hH]at e1
      exact⟨q,a,e1,e2,e4⟩
    .cases hx'
theorem Ca{u s:Nat}{want b:Bool}{v:XV}{a:AV}(hsp:SpR ρ X.h σ sp)(hs:HS ρ X.h σ.h)(hul:u<σ.t.length)(hus:u≠s)(hg:σ.t.getD s .any=.v (.bool b))(hv:(b=want/\VT ρ X.h v a)\/(b≠want/\a=und)):SpR ρ X.h (St.put ⟨σ.t,σ.h⟩ (some u) a) ((u,s,want,v)::jV (some u) sp):=by
 intro q hq
 rcases bE.1 hq with rfl|hq
 .have h1:(St.put ⟨σ.t,σ.h⟩ (some u) a).t.getD u .any=a:=by simp[St.put,List.getD,hul]
  have h2:(St.put ⟨σ.t,σ.h⟩ (some u) a).t.getD s .any=.v (.bool b):=by rw[Gz (by simpa using hus)];exact hg
  show((St.put ⟨σ.t,σ.h⟩ (some u) a).t.getD s .any=.v (.bool want)/\VT ρ X.h v ((St.put ⟨σ.t,σ.h⟩ (some u) a).t.getD u .any))\/((St.put ⟨σ.t,σ.h⟩ (some u) a).t.getD s .any≠.v (.bool want)/\(St.put ⟨σ.t,σ.h⟩ (some u) a).t.getD u .any=und)
  rw[h1,h2]
  rcases hv with⟨rfl,hv⟩|⟨hb,rfl⟩
  .exact .inl ⟨rfl,hv⟩
  .exact .inr ⟨λq=>by cases q;exact hb rfl,rfl⟩
 .exact BH (kl:=[]) hsp (Upd.same hs) (some u) a q hq
theorem Jp(hc:oO P c){d:Bool}{ok:Nat->Bool}{K:XS->Sp->Option β}{ins:Ins}:∀(n:Nat) (X:XS) (sp:Sp) (Q:St->Prop),Sim ρ X σ->SpR ρ X.h σ sp->yH c d ok n X sp K ins=some r->(∀τ,b8T c ρ X σ d ok ins K r τ->Q τ)->gV P (gx c.GX) d σ ins Q:=by
 intro n
 induction n with
 |zero=>intro X sp Q _ _ hx;cases hx
 |succ n ih =>
  intro X sp Q hS hsp hx hQ
  obtain⟨dst,gd,i⟩:=ins
  cases gd with
  |none =>
   show mg P (gx c.GX) d σ dst Q i
   simp only[yH]at hx
   refine Hl hc hS hsp hx λτ hτ=>hQ τ ?_
   obtain⟨ρ',X',sp',a1,a2,⟨kl,tch,a3,a4,_⟩,a5⟩:=hτ
   exact⟨ρ',X',sp',a1,a2,⟨kl,tch,a3,λ_=>a4⟩,a5⟩
  |some g =>
   obtain⟨s,want⟩:=g
   simp only[yH]at hx
   have hvs:=pY hS.t s
   have hu:=Upd.same hS.h
   have skip:∀(X1:XS) (sp1:Sp),X1.h=X.h->Sim ρ X1 σ->SpR ρ X1.h σ sp1->K ⟨uo X1.t dst kU,X1.h⟩ (jV dst sp1)=some r->Q (σ.put dst und):=by
    intro X1 sp1 he hS1 hsp1 hK
    have hu1:=Upd.same hS1.h
    refine hQ _ ⟨ρ,⟨uo X1.t dst kU,X1.h⟩,jV dst sp1,qg (X:=X1) (kl:=[]) hS1.t hu1 (show VT ρ X1.h kU und from rfl) dst,BH (kl:=[]) hsp1 hu1 dst und,⟨[],[],?_,λq=>by cases q⟩,hK⟩
    have:(σ.put dst und).h=σ.h:=EO (H':=σ.h)
    rw[this]
    show Upd ρ X.h σ.h ρ X1.h σ.h [] []
    rw[he];exact hu
   have b4D:∀ b:Bool,σ.t.getD s .any=.v (.bool b)->(match (generalizing:=false) Hy i,dst,Ho c.GX c.tt X.h X.t sp s want i with
     |true,some u,some (p,v)=>if(Nat.blt u X.t.length&&!(Nat.beq u s))=true then cond (p||not (bEq b want)) (K ⟨X.t.set u .any,X.h⟩ ((u,s,want,v)::jV (some u) sp)) none else none
     |_,_,_=>cond b (Bj c d ok X sp dst s want i K true) (Bj c d ok X sp dst s want i K false))=some r->gV P (gx c.GX) d σ ⟨dst,some (s,want),i⟩ Q:=by
    clear hx
    intro b hg hx
    have hstep:gV P (gx c.GX) d σ ⟨dst,some (s,want),i⟩ Q=if b=want then mg P (gx c.GX) d σ dst Q i else Q (σ.put dst und):=by
     simp only[gV,hg]
    rw[hstep]
    have NM:Bj c d ok X sp dst s want i K b=some r->if b=want then mg P (gx c.GX) d σ dst Q i else Q (σ.put dst und):=by
     intro hy
     obtain⟨m1,m2⟩:=Bu hS hsp hg
     unfold Bj at hy
     by_cases hw:b=want
     .rw[if_pos hw]
      rw[if_pos (by rw[hw];simp)]at hy
      refine Hl hc m1 m2 hy λτ hτ=>hQ τ ?_
      obtain⟨ρ',X',sp',a1,a2,⟨kl,tch,a3,a4,_⟩,a5⟩:=hτ
      exact⟨ρ',X',sp',a1,a2,⟨kl,tch,a3,λq=>by cases q⟩,a5⟩
     .rw[if_neg hw]
      rw[if_neg (by simpa using hw)]at hy
      exact skip ⟨sN s b sp X.t,X.h⟩ _ rfl m1 m2 hy
    split at hx
    .rename_i u p v hsi hxs
     split at hx
     case isFalse=>cases hx
     rename_i hub
     simp only[au,fH]at hub
     have hul:=wE hub.1
     have hus:u≠s:=λq=>by subst q;simp at hub
     have Pn:u<σ.t.length:=by rw[<- hS.t.1];exact hul
     obtain⟨hcl,Pp⟩:=KO hsi
     cases hpb:(p||not (bEq b want)) with
     |false=>rw[hpb]at hx;cases hx
     |true =>
      rw[hpb]at hx
      have hx:K ⟨X.t.set u .any,X.h⟩ ((u,s,want,v)::jV (some u) sp)=some r:=hx
      by_cases hw:b=want
      .rw[if_pos hw]
       have hp:p=true:=by
        subst hw
        simpa[bEq]using hpb
       obtain⟨q,a,e1,e2,e4⟩:=Nv hS hsp (by rw[hg,hw]) hcl hxs hp
       rw[zw Pp,e1]
       exact⟨e2,hQ _ ⟨ρ,_,_,qg (X:=X) (kl:=[]) hS.t hu (NC _) (some u),Ca hsp hS.h Pn hus hg (.inl ⟨hw,e4⟩),⟨[],[],hu,λq=>by cases q⟩,hx⟩⟩
      .rw[if_neg hw]
       exact hQ _ ⟨ρ,_,_,qg (X:=X) (kl:=[]) hS.t hu (NC _) (some u),Ca hsp hS.h Pn hus hg (.inr ⟨hw,rfl⟩),⟨[],[],hu,λq=>by cases q⟩,hx⟩
    .cases b with
     |true=>exact NM hx
     |false=>exact NM hx
   split at hx
   .rename_i b hb
    rw[hb]at hvs
    exact b4D b (tC hvs) hx
   .rename_i xs hb
    rw[hb]at hvs
    have hg:=G6 hvs
    have hstep:gV P (gx c.GX) d σ ⟨dst,some (s,want),i⟩ Q=Q (σ.put dst und):=by simp only[gV,hg]
    rw[hstep]
    exact skip X sp rfl hS hsp hx
   .split at hx
    .rename_i q hq
     have hvq:=pY hS.t q.2.1
     have go:∀b:Bool,σ.t.getD q.2.1 .any=.v (.bool b)->cond b (yH c d ok n ⟨sN q.2.1 true sp X.t,X.h⟩ (vX q.2.1 sp) K ⟨dst,some (s,want),i⟩) (yH c d ok n ⟨sN q.2.1 false sp X.t,X.h⟩ (vX q.2.1 sp) K ⟨dst,some (s,want),i⟩)=some r->gV P (gx c.GX) d σ ⟨dst,some (s,want),i⟩ Q:=by
      intro b hb hy
      obtain⟨m1,m2⟩:=Bu hS hsp hb
      have hy':yH c d ok n ⟨sN q.2.1 b sp X.t,X.h⟩ (vX q.2.1 sp) K ⟨dst,some (s,want),i⟩=some r:=by cases b<;>exact hy
      refine ih _ _ Q m1 m2 hy' λτ hτ=>hQ τ ?_
      obtain⟨ρ',X',sp',a1,a2,⟨kl,tch,a3,a4⟩,a5⟩:=hτ
      exact⟨ρ',X',sp',a1,a2,⟨kl,tch,a3,λq=>by cases q⟩,a5⟩
     split at hx
     .rename_i b hb
      rw[hb]at hvq
      exact go b (tC hvq) hx
     .cases hx
    .cases hx
   .cases hx
theorem a4s(hc:oO P c){d:Bool}{K:XS->Option β}{H0:List ay}{ρ0:List Nat}:∀(l:List Ins) (X:XS) (sp:Sp) (ρ:List Nat) (σ:St),Sim ρ X σ->SpR ρ X.h σ sp->Frm H0 ρ0 ρ σ.h->a0p c d K l X sp=some r->Bg P (gx c.GX) d (λτ=>∃ρ' X',Sim ρ' X' τ/\Frm H0 ρ0 ρ' τ.h/\K X'=some r) l σ:=by
 intro l
 induction l with
 |nil=>intro X sp ρ σ hS _ hF hx;exact⟨ρ,X,hS,hF,hx⟩
 |cons i l ih =>
  intro X sp ρ σ hS hsp hF hx
  refine Jp hc 8 X sp _ hS hsp hx ?_
  rintro τ ⟨ρ',X',sp',s1,s2,⟨kl,tch,u,_⟩,hK⟩
  exact ih X' sp' ρ' τ s1 s2 (hF.upd hS.h.rl u) hK
end
section
variable{P:Program}{c:Cfg}{ρ:List Nat}{X:XS}{h:List XO}{H:List ay}{σ:St}{β:Type}{r:β}{sp:Sp}{m N:Nat}{U:List Nat}{Gl:Nat->Option (List AV)}{rd:Opd->XV}
theorem a9b{v:XV}{a:AV}(hv:V1 ρ h v a)(hp:Ic v=true):nY a=(kD v).map λid=>ρ.getD id 0:=by
 cases v with
 |d T x =>
  have hw:Wp a (Ty.enc T x):=hv
  have:=(EC hw []).2
  cases a with
  |agg cs=>rfl
  |_=>exact this
 |k y=>have:a=.v y:=hv;subst this;rfl
 |row id=>obtain⟨ty,T,fz,es,he,rfl⟩:=hv;rfl
 |sub id o l=>obtain⟨ty,T,fz,es,he,rfl⟩:=hv;rfl
 |_=>cases hp
theorem a9a{v:XV}{a:AV}(hv:VT ρ h v a)(hp:Oh v=true):dJ a=(eZ v).map λid=>ρ.getD id 0:=by
 cases v with
 |agg cs =>
  obtain⟨as,rfl,hl⟩:=hv
  show as.flatMap nY=(cs.flatMap kD).map _
  have hp':cs.all Ic=true:=hp
  clear hp
  induction cs generalizing as with
  |nil=>rw[hl.lH];rfl
  |cons c cs ih =>
   obtain⟨a,as',rfl,h1,h2⟩:=hl.iW
   simp only[lS,au]at hp'
   rw[dw,dw,bJ,a9b h1 hp'.1,ih as' h2 hp'.2]
 |d T x=>exact(EC (show Wp a (Ty.enc T x) from hv) []).2
 |k y=>have:a=.v y:=hv;subst this;rfl
 |row id=>obtain⟨ty,T,fz,es,he,rfl⟩:=hv;rfl
 |sub id o l=>obtain⟨ty,T,fz,es,he,rfl⟩:=hv;rfl
 |_=>cases hp
theorem a88:∀{vs:List XV} {as:List AV},bB (VT ρ h) vs as->vs.all Oh=true->as.flatMap dJ=(vs.flatMap eZ).map λid=>ρ.getD id 0:=by
 intro vs
 induction vs with
 |nil=>intro as hl _;rw[hl.lH];rfl
 |cons v vs ih =>
  intro as hl hp
  obtain⟨a,as',rfl,h1,h2⟩:=hl.iW
  simp only[lS,au]at hp
  rw[dw,dw,bJ,a9a h1 hp.1,ih h2 hp.2]
theorem Rh{ok:Nat->Bool}(hrd:∀o,VT ρ h (rd o) (σ.val Gl o)){i:I}(hx:Pm ok rd i=true):∀id∈i.ids Gl σ,∃j,id=ρ.getD j 0/\ok j=true/\j<h.length:=by
 have one:∀x:Opd,(match rd x with|.ptr id _ _=>ok id|.lp _ _ _=>true|_=>false)=true->∀id∈(match σ.val Gl x with|.ptr id _ _ _=>[id]|_=>[]),∃j,id=ρ.getD j 0/\ok j=true/\j<h.length:=by
  intro x hb id hid
  have hv:=hrd x
  split at hb
  .rename_i j i o hj
   rw[hj]at hv
   obtain⟨ob,he,ha⟩:=hv
   rw[ha]at hid
   simp only[aY]at hid
   exact⟨j,hid,hb,(aj.1 he).1⟩
  .rename_i T y o hj
   rw[hj]at hv
   obtain⟨cs,ha,_⟩:=hv
   rw[ha]at hid
   cases hid
  .cases hb
 have two:∀x:Opd,(match rd x with|.ptr id _ _=>ok id|_=>false)=true->(match rd x with|.ptr id _ _=>ok id|.lp _ _ _=>true|_=>false)=true:=by
  intro x hb
  split at hb
  .rename_i h1;rw[h1];exact hb
  .cases hb
 cases i with
 |load sz ag x=>exact one x hx
 |o8 b st n x k=>exact one x hx
 |b2s x =>
  intro id hid
  have hv:=hrd x
  simp only[Pm]at hx
  simp only[I.ids]at hid
  split at hx
  .rename_i j hj
   rw[hj]at hv
   obtain⟨ty,T,fz,es,he,ha⟩:=hv
   rw[ha]at hid
   simp only[aY]at hid
   exact⟨j,hid,hx,(aj.1 he).1⟩
  .rename_i j o l hj
   rw[hj]at hv
   obtain⟨ty,T,fz,es,he,ha⟩:=hv
   rw[ha]at hid
   simp only[aY]at hid
   exact⟨j,hid,hx,(aj.1 he).1⟩
  .rename_i T y hj
   rw[hj]at hv
   have hw:Wp (σ.val Gl x) (Ty.enc T y):=hv
   split at hid
   .rename_i q
    rw[q]at hw
    exfalso
    cases T<;>first|(cases hw;done)|(cases y<;>cases hw)
   .cases hid
  .rename_i v hj
   rw[hj]at hv
   rw[show σ.val Gl x=.v v from hv]at hid
   cases hid
  .cases hx
 |call fo args =>
  simp only[Pm,au]at hx
  intro id hid
  simp only[I.ids]at hid
  rw[a88 (DN (xs:=args) hrd) hx.1]at hid
  obtain⟨j,hj,rfl⟩:=bT.1 hid
  refine⟨j,rfl,aG.1 hx.2 j hj,?_⟩
  obtain⟨v,hv,hjv⟩:=vv.1 hj
  obtain⟨o,ho,rfl⟩:=bT.1 hv
  have hV:=hrd o
  have lt1:∀{v:XV} {a:AV},V1 ρ h v a->∀j∈kD v,j<h.length:=by
   intro v a hv j hj
   cases v with
   |row id=>obtain⟨ty,T,fz,es,he,_⟩:=hv;simp only[kD,aY]at hj;subst hj;exact(aj.1 he).1
   |sub id o l=>obtain⟨ty,T,fz,es,he,_⟩:=hv;simp only[kD,aY]at hj;subst hj;exact(aj.1 he).1
   |_=>cases hj
  generalize rd o=v at hV hjv
  cases v with
  |agg cs =>
   obtain⟨as,_,hl⟩:=hV
   obtain⟨c',hc',hj'⟩:=vv.1 hjv
   obtain⟨k,hk⟩:=List.getElem?_of_mem hc'
   obtain⟨b,_,hb⟩:=hl.mF hk
   exact lt1 hb j hj'
  |row id=>exact lt1 (show V1 ρ h (.row id) _ from hV) j hjv
  |sub id o l=>exact lt1 (show V1 ρ h (.sub id o l) _ from hV) j hjv
  |_=>cases hjv
 |_=>intro id hid;cases hid
theorem b0o{j:Nat}(h:(Nat.blt j m&&!(U.any (Nat.beq j)))=true):j<m/\j∉U:=by
 simp only[au,fH]at h
 refine⟨wE h.1,λq=>?_⟩
 have:U.any (Nat.beq j)=true:=gT.2 ⟨j,q,sZ j⟩
 rw[this]at h;cases h.2
theorem b3P{j:Nat}(h:(Nat.ble m j||U.any (Nat.beq j))=true):m<=j\/j∈U:=by
 simp only[fG,gT]at h
 rcases h with q|⟨x,hx,q⟩
 .exact .inl (aZ q)
 .have:=beq_eq q;subst this;exact .inr hx
theorem getD_inj(hnd:ρ.Nodup){i j:Nat}(hi:i<ρ.length)(hj:j<ρ.length)(h:ρ.getD i 0=ρ.getD j 0):i=j:=by
 simp only[List.getD,ah hi,ah hj,eu]at h
 exact(List.getElem_inj hnd).1 h
theorem a8x (hc:oO P c) {ok:Nat->Bool} (hS:Sim ρ X σ) (hsp:SpR ρ X.h σ sp) {K:XS->Sp->Option β} {ins:Ins} {Q:St->Prop} (hcl:ins.i.cls<=1) (hx:xrd c ok X sp K ins=some r)
  (hQ:∀(X':XS) (sp':Sp) (τ:St),Sim ρ X' τ->SpR ρ X'.h τ sp'->X'.h=X.h->τ.h=σ.h->K X' sp'=some r->Q τ):(wants σ ins->∀id∈ins.i.ids (gx c.GX) σ,∃j,id=ρ.getD j 0/\ok j=true/\j<X.h.length)/\gV P (gx c.GX) true σ ins Q:=by
 have hu:=Upd.same hS.h
 obtain⟨dst,gd,i⟩:=ins
 cases gd with
 |none =>
  simp only[xrd]at hx
  split at hx
  case isFalse=>cases hx
  rename_i hid
  refine⟨λ_=>Rh (Bp hS) hid,?_⟩
  show mg P (gx c.GX) true σ dst Q i
  refine Hl hc hS hsp hx λτ hτ=>?_
  obtain⟨ρ',X',sp',a1,a2,⟨kl,tch,a3,_,a4⟩,a5⟩:=hτ
  obtain⟨rfl,e1,e2⟩:=a4 hcl rfl
  exact hQ X' sp' τ a1 a2 e1 e2 a5
 |some g =>
  obtain⟨s,want⟩:=g
  simp only[xrd]at hx
  have hvs:=pY hS.t s
  split at hx
  case h_2=>cases hx
  rename_i b hb
  change Bool at b
  rw[hb]at hvs
  have hg:=tC hvs
  split at hx
  case h_2=>cases hx
  rename_i u p v hsi hxs
  split at hx
  case isFalse=>cases hx
  rename_i hub
  simp only[au,fH]at hub
  obtain⟨⟨hu1,hu2⟩,hid⟩:=hub
  have hul:=wE hu1
  have hus:u≠s:=λq=>by subst q;simp at hu2
  have Pn:u<σ.t.length:=by rw[<- hS.t.1];exact hul
  refine⟨λhw=>Rh (λo=>zM hS hsp (by simp only[aY,forall_eq];exact hw) o) hid,?_⟩
  have hstep:gV P (gx c.GX) true σ ⟨some u,some (s,want),i⟩ Q=if b=want then mg P (gx c.GX) true σ (some u) Q i else Q (St.put σ (some u) und):=by
   simp only[gV,hg]
  rw[hstep]
  cases hpb:(p||not (bEq b want)) with
  |false=>rw[hpb]at hx;cases hx
  |true =>
   rw[hpb]at hx
   have hx:K ⟨X.t.set u .any,X.h⟩ ((u,s,want,v)::jV (some u) sp)=some r:=hx
   obtain⟨_,Pp⟩:=KO hsi
   have hany:∀a,Sim ρ ⟨X.t.set u .any,X.h⟩ (St.put ⟨σ.t,σ.h⟩ (some u) a):=λa=>qg (X:=X) (kl:=[]) hS.t hu (NC a) (some u)
   by_cases hw:b=want
   .rw[if_pos hw]
    have hp:p=true:=by
     subst hw
     simpa[bEq]using hpb
    obtain⟨q,a,e1,e2,e4⟩:=Nv hS hsp (by rw[hg,hw]) hcl hxs hp
    rw[zw Pp,e1]
    exact⟨e2,hQ _ _ (St.put ⟨σ.t,σ.h⟩ (some u) a) (hany a) (Ca hsp hS.h Pn hus hg (.inl ⟨hw,e4⟩)) rfl rfl hx⟩
   .rw[if_neg hw]
    exact hQ _ _ (St.put ⟨σ.t,σ.h⟩ (some u) und) (hany und) (Ca hsp hS.h Pn hus hg (.inr ⟨hw,rfl⟩)) rfl rfl hx
theorem a0o (hc:oO P c) {K:XS->Option β} {H0:List ay} {ρ0:List Nat} {V:List Nat}:∀ (l:List (Nat × Ins)) (X:XS) (sp:Sp) (ρ:List Nat) (σ:St),Sim ρ X σ->SpR ρ X.h σ sp->Frm H0 ρ0 ρ σ.h->(∀ i,i < m->i < ρ.length->ρ.getD i 0 < N/\(ρ.getD i 0 ∈ V ↔ i ∈ U))->(∀ i,m<=i->i < ρ.length->N<=ρ.getD i 0)->N<=σ.h.length->m<=X.h.length ->
  qC c m U K l X sp=some r->fQ P (gx c.GX) N V (λτ=>∃ρ' X',Sim ρ' X' τ/\Frm H0 ρ0 ρ' τ.h/\K X'=some r) l σ:=by
 intro l
 induction l with
 |nil=>intro X sp ρ σ hS _ hF _ _ _ _ hx;exact⟨ρ,X,hS,hF,hx⟩
 |cons p l ih =>
  intro X sp ρ σ hS hsp hF hA hB hN hM hx
  obtain⟨mk,i⟩:=p
  have next:∀(ρ':List Nat) (X':XS) (sp':Sp) (τ:St) (kl tch:List Nat),Sim ρ' X' τ->SpR ρ' X'.h τ sp'->Upd ρ X.h σ.h ρ' X'.h τ.h kl tch->qC c m U K l X' sp'=some r->fQ P (gx c.GX) N V (λτ=>∃ρ' X',Sim ρ' X' τ/\Frm H0 ρ0 ρ' τ.h/\K X'=some r) l τ:=by
   intro ρ' X' sp' τ kl tch s1 s2 u hK
   obtain⟨n,e,q⟩:=u.ap
   have hml:m<=ρ.length:=by rw[hS.h.rl];exact hM
   refine ih X' sp' ρ' τ s1 s2 (hF.upd hS.h.rl u) (λj hj hj'=>?_) (λj hj hj'=>?_) (bD hN u.ge) (bD hM u.hl) hK
   .rw[e,kZ (by omega)];exact hA j hj (by omega)
   .rcases bK j ρ.length with hl|hl
    .rw[e,kZ hl];exact hB j hj hl
    .rw[e]at hj' ⊢
     simp only[ak]at hj'
     have:(ρ++n).getD j 0=n[j-ρ.length]'(by omega):=by
      simp only[List.getD]
      rw[aO hl,ah (by omega)];rfl
     rw[this]
     exact bD hN (q _ (jF _))
  match mk with
  |0 =>
   simp only[qC]at hx
   refine Jp hc 8 X sp _ hS hsp hx ?_
   rintro τ ⟨ρ',X',sp',s1,s2,⟨kl,tch,u,_⟩,hK⟩
   exact next ρ' X' sp' τ kl tch s1 s2 u hK
  |1 =>
   simp only[qC]at hx
   split at hx
   case isFalse=>cases hx
   rename_i hcl
   obtain⟨k1,k2⟩:=a8x (Q:=fQ P (gx c.GX) N V (λτ=>∃ρ' X',Sim ρ' X' τ/\Frm H0 ρ0 ρ' τ.h/\K X'=some r) l) hc hS hsp (aZ hcl) hx (λX' sp' τ s1 s2 he hh hK=>ih X' sp' ρ τ s1 s2 (by rw[hh];exact hF) hA hB (by rw[hh];exact hN) (by rw[he];exact hM) hK)
   refine⟨λhw id hid=>?_,k2⟩
   obtain⟨j,rfl,hok,hj⟩:=k1 hw id hid
   obtain⟨o1,o2⟩:=b0o hok
   have:=hA j o1 (by rw[hS.h.rl];exact hj)
   exact⟨this.1,λq=>o2 (this.2.1 q)⟩
  |k+2 =>
   show gV P (gx c.GX) false σ i (λρ=>agree N V σ.h ρ.h/\fQ P (gx c.GX) N V _ l ρ)
   have fin:∀(ρ':List Nat) (X':XS) (sp':Sp) (τ:St) (kl tch:List Nat),Sim ρ' X' τ->SpR ρ' X'.h τ sp'->Upd ρ X.h σ.h ρ' X'.h τ.h kl tch->(∀id∈tch,(Nat.ble m id||U.any (Nat.beq id))=true)->qC c m U K l X' sp'=some r->agree N V σ.h τ.h/\fQ P (gx c.GX) N V (λτ=>∃ρ' X',Sim ρ' X' τ/\Frm H0 ρ0 ρ' τ.h/\K X'=some r) l τ:=by
    intro ρ' X' sp' τ kl tch s1 s2 u hlv hK
    refine⟨?_,next ρ' X' sp' τ kl tch s1 s2 u hK⟩
    intro j hj hjV
    refine u.fr j (by omega) (λid hid hil q=>?_)
    have a2b:id<ρ.length:=by rw[hS.h.rl];exact hil
    rcases b3P (hlv id hid) with r1|r1
    .have:=hB id r1 a2b;omega
    .rcases bK id m with r2|r2
     .exact hjV (q▸(hA id r2 a2b).2.2 r1)
     .have:=hB id r2 a2b;omega
   obtain⟨dst,gd,ii⟩:=i
   cases gd with
   |none =>
    have hx:(if leaves (λid=>Nat.ble m id||U.any (Nat.beq id)) (rdG c.GX X.t) ii=true then yH c false (λid=>Nat.ble m id||U.any (Nat.beq id)) 8 X sp (λX' sp'=>qC c m U K l X' sp') ⟨dst,none,ii⟩ else none)=some r:=hx
    split at hx
    case isFalse=>cases hx
    rename_i hb
    refine Jp hc 8 X sp _ hS hsp hx ?_
    rintro τ ⟨ρ',X',sp',s1,s2,⟨kl,tch,u,hlv⟩,hK⟩
    exact fin ρ' X' sp' τ kl tch s1 s2 u (hlv rfl hb) hK
   |some g =>
    obtain⟨s,want⟩:=g
    have hx:(match X.t.getD s .any with
     |.d .bool b=>cond b (xwr c (λid=>Nat.ble m id||U.any (Nat.beq id)) X sp dst s want ii (λX' sp'=>qC c m U K l X' sp') true) (xwr c (λid=>Nat.ble m id||U.any (Nat.beq id)) X sp dst s want ii (λX' sp'=>qC c m U K l X' sp') false)
     |_=>none)=some r:=hx
    have hvs:=pY hS.t s
    split at hx
    case h_2=>cases hx
    rename_i b hb
    change Bool at b
    rw[hb]at hvs
    have hg:=tC hvs
    have hw:xwr c (λid=>Nat.ble m id||U.any (Nat.beq id)) X sp dst s want ii (λX' sp'=>qC c m U K l X' sp') b=some r:=by
     cases b<;>exact hx
    obtain⟨m1,m2⟩:=Bu hS hsp hg
    have hstep:∀Q,gV P (gx c.GX) false σ ⟨dst,some (s,want),ii⟩ Q=if b=want then mg P (gx c.GX) false σ dst Q ii else Q (σ.put dst und):=by
     intro Q;simp only[gV,hg]
    rw[hstep]
    unfold xwr at hw
    by_cases hbw:b=want
    .rw[if_pos hbw]
     rw[if_pos (by rw[hbw];simp)]at hw
     split at hw
     case isFalse=>cases hw
     rename_i hlv
     refine Hl hc m1 m2 hw λτ hτ=>?_
     obtain⟨ρ',X',sp',a1,a2,⟨kl,tch,a3,a4,_⟩,a5⟩:=hτ
     exact fin ρ' X' sp' τ kl tch a1 a2 a3 (a4 hlv) a5
    .rw[if_neg hbw]
     rw[if_neg (by simpa using hbw)]at hw
     have hu1:=Upd.same m1.h
     refine fin ρ _ _ _ [] [] (qg (X:=⟨sN s b sp X.t,X.h⟩) (kl:=[]) m1.t hu1 (show VT ρ X.h kU und from rfl) dst) (BH (kl:=[]) m2 hu1 dst und) ?_ (λid q=>by simp at q) hw
     have:(σ.put dst und).h=σ.h:=EO (H':=σ.h)
     show Upd ρ X.h σ.h ρ X.h (σ.put dst und).h [] []
     rw[this];exact Upd.same hS.h
end
section
variable{Gl:Nat->Option (List AV)}{F:Addr->Option Value}{own own':List Ent}{B:Nat}{w0:W0}{σ:St}{act:Act}{w:World}
def Okc(F:Addr->Option Value)(own own':List Ent)(a:AV):Prop:=∀v,R F own v a->R F own' v a
def Cl(n:Nat)(a:AV):Prop:=∀(F:Addr->Option Value) (own own':List Ent),(∀i,i<n->own'[i]?=own[i]?)->Okc F own own' a
theorem b4M{x:Value}{a:AV}(h:RP F x a)(n:Nat):Cl n a:=by
 induction h with
 |any x=>exact λ_ _ _ _ v _=>.pure (.any v)
 |v x=>exact λF own own' _ v h=>by rw[h.dN];exact .pure (.v _)
 |nil sz=>exact λF own own' _ v h=>.pure h.jB
 |list ad n cap sz xs cv hn hc hz hF hR ih=>exact λF own own' _ v h=>.pure h.jB
 |fZ ad cs cv hF hR ih=>exact λF own own' _ v h=>.pure h.pq
 |agg xs cs hl h1 hR ih =>
  intro F own own' hw v h
  obtain⟨ys,rfl,hl',h1',hR'⟩:=h.ku
  refine .agg ys cs hl' h1' λj y a p q=>?_
  have hj:j<xs.size:=by rw[hl];exact(aj.1 q).1
  exact ih j _ a (aF hj) q F own own' hw y (hR' j y a p q)
 |tup xs cs hl hR ih =>
  intro F own own' hw v h
  obtain⟨ys,rfl,hl',hR'⟩:=h.tF
  refine .tup ys cs hl' λj y a p q=>?_
  have hj:j<xs.size:=by rw[hl];exact(aj.1 q).1
  exact ih j _ a (aF hj) q F own own' hw y (hR' j y a p q)
theorem JF{id G sz off len:Nat}(h:own'[id]?=own[id]?):Okc F own own' (.row id G sz off len):=λv hv=>by
 obtain⟨e,he,hG,hs,hx⟩:=hv.mR
 exact .row _ _ _ _ _ _ e (by rw[h];exact he) hG hs hx (hv.vS he)
theorem JG{id G i off:Nat}(h:own'[id]?=own[id]?):Okc F own own' (.ptr id G i off):=λv hv=>by
 obtain⟨e,he,hG,hs,hx⟩:=hv.nQ
 exact .ptr _ _ _ _ _ e (by rw[h];exact he) hG hs hx (hv.uH he)
theorem b8O{n:Nat}{x:Value}{a:AV}(h:R F own x a)(hn:own.length<=n):Cl n a:=by
 have lt:∀{id:Nat} {e:Ent},own[id]?=some e->id<n:=λq=>jk (aj.1 q).1 hn
 induction h with
 |pure h=>exact b4M h n
 |row x id G sz off len e he hG hs hx hz=>exact λF own own' hw=>JF (hw id (lt he))
 |ptr x id G i off e he hG hs hx hz=>exact λF own own' hw=>JG (hw id (lt he))
 |agg xs cs hl h1 hR ih =>
  intro F own own' hw v h
  obtain⟨ys,rfl,hl',h1',hR'⟩:=h.ku
  refine .agg ys cs hl' h1' λj y a p q=>?_
  have hj:j<xs.size:=by rw[hl];exact(aj.1 q).1
  exact ih j _ a (aF hj) q F own own' hw y (hR' j y a p q)
 |tup xs cs hl hR ih =>
  intro F own own' hw v h
  obtain⟨ys,rfl,hl',hR'⟩:=h.tF
  refine .tup ys cs hl' λj y a p q=>?_
  have hj:j<xs.size:=by rw[hl];exact(aj.1 q).1
  exact ih j _ a (aF hj) q F own own' hw y (hR' j y a p q)
def ClH(n:Nat)(H:List ay):Prop:=∀(j:Nat) (O:ay),H[j]?=some O->O.pr=false->∀(i k:Nat) (e a:AV),O.es[i]?=some e->e.cells[k]?=some a->Cl n a
theorem Inv.clH(h:Inv Gl F own B w0 σ act w):ClH σ.h.length σ.h:=by
 intro j O hO hpr i k e a hi hk
 obtain⟨en,hen,hOr⟩:=h.xE hO
 obtain⟨k1,k2,k3,k4,k5,k6,k7,k8⟩:=hOr
 cases hg:en.g with
 |none =>
  rw[hg]at k8
  have:O.es.length=0:=by have k8:en.cap=0:=k8;omega
  have:=(aj.1 hi).1
  omega
 |some g =>
  rw[hg]at k8
  obtain⟨cs,a1,a2,a3,a4⟩:=k8
  obtain⟨y,b1,b2,b3⟩:=a3 i k e a hi hk
  unfold RC at b3
  rw[if_neg (by rw[hpr];simp)]at b3
  exact b8O b3 (fE h.hl)
open Classical in
def off1(F:Addr->Option Value)(own own':List Ent)(a:AV):AV:=if Okc F own own' a then a else .any
def qJ(F:Addr->Option Value)(own own':List Ent):AV->AV
 |.agg cs=>.agg (cs.map (off1 F own own'))
 |a=>off1 F own own' a
def DC(F:Addr->Option Value)(own own':List Ent):AV->AV
 |.tup vs=>.tup (vs.map (qJ F own own'))
 |a=>qJ F own own' a
def vV(F:Addr->Option Value)(own own':List Ent)(o:ay):ay:=if o.pr=true then o else{ o with es:=o.es.map (qJ F own own') }
theorem JI{a:AV}(h:Okc F own own' a):off1 F own own' a=a:=by unfold off1;rw[if_pos h]
theorem a5E(a:AV):off1 F own own' a=a\/off1 F own own' a=.any:=by
 unfold off1;split
 .exact .inl rfl
 .exact .inr rfl
theorem R.off1{x:Value}{a:AV}(h:R F own x a):R F own' x (off1 F own own' a):=by
 unfold Abs.off1
 split
 .rename_i hk;exact hk x h
 .exact .pure (.any x)
theorem Ao{a:AV}(h:∀cs,a≠.agg cs):qJ F own own' a=Abs.off1 F own own' a:=by
 cases a<;>first|rfl|exact absurd rfl (h _)
theorem L8{a:AV}(h:∀cs,a≠.tup cs):DC F own own' a=qJ F own own' a:=by
 cases a<;>first|rfl|exact absurd rfl (h _)
theorem R.qJ{x:Value}{a:AV}(h:R F own x a):R F own' x (qJ F own own' a):=by
 by_cases ha:∃cs,a=.agg cs
 .obtain⟨cs,rfl⟩:=ha
  obtain⟨xs,rfl,hl,h1,hR⟩:=h.ku
  refine .agg xs _ (by simp[hl]) h1 λj x a p q=>?_
  rw[aK]at q
  cases hc:cs[j]? with
  |none=>rw[hc]at q;cases q
  |some c=>rw[hc]at q;cases q;exact(hR j x c p hc).off1
 .rw[Ao λcs q=>ha ⟨cs,q⟩];exact h.off1
theorem R.DC{x:Value}{a:AV}(h:R F own x a):R F own' x (DC F own own' a):=by
 by_cases ha:∃cs,a=.tup cs
 .obtain⟨cs,rfl⟩:=ha
  obtain⟨xs,rfl,hl,hR⟩:=h.tF
  refine .tup xs _ (by simp[hl]) λj x a p q=>?_
  rw[aK]at q
  cases hc:cs[j]? with
  |none=>rw[hc]at q;cases q
  |some c=>rw[hc]at q;cases q;exact(hR j x c p hc).qJ
 .rw[L8 λcs q=>ha ⟨cs,q⟩];exact h.qJ
theorem Cn(a:AV):(qJ F own own' a).cells=a.cells.map (off1 F own own'):=by
 by_cases ha:∃cs,a=.agg cs
 .obtain⟨cs,rfl⟩:=ha;rfl
 .rw[Ao λcs q=>ha ⟨cs,q⟩]
  have hc:a.cells=[a]:=by cases a<;>first|rfl|exact absurd ⟨_,rfl⟩ ha
  rw[hc]
  rcases a5E (F:=F) (own:=own) (own':=own') a with q|q
  .rw[q,hc];simp[q]
  .rw[q];simp[q,AV.cells]
theorem Inv.off (h:Inv Gl F own B w0 σ act w) {k:Nat} {e e':Ent} {ob':ay} (he:own[k]?=some e) (hN:w0.N<=k) (hg:e'.g=e.g) (hO':nU F (own.set k e') w e' ob') :
  Inv Gl F (own.set k e') B w0 ⟨σ.t.map (DC F own (own.set k e')),(σ.h.map (vV F own (own.set k e'))).set k ob'⟩ act w:=by
 have hk:k<own.length:=(aj.1 he).1
 have hk':k<σ.h.length:=by rw[<- h.hl];exact hk
 have get:∀{id:Nat} {f:Ent},(own.set k e')[id]?=some f->(id=k/\f=e')\/(id≠k/\own[id]?=some f):=fun{id f} q=>by
  by_cases hi:k=id
  .subst hi;rw[bg hk]at q;cases q;exact .inl ⟨rfl,rfl⟩
  .rw[aP hi]at q;exact .inr ⟨λq=>hi q.symm,q⟩
 have Vf:∀{id:Nat} {f:Ent},(own.set k e')[id]?=some f->∃f0,own[id]?=some f0/\f0.g=f.g:=fun{id f} q=>by
  rcases get q with⟨rfl,rfl⟩|⟨_,q⟩
  .exact⟨e,he,hg.symm⟩
  .exact⟨f,q,rfl⟩
 refine{ tl:=by simp[h.tl],tr:=λi x a p q=>?_,defers:=h.defers,sub:=h.sub,hl:=by simp[h.hl],objs:=λid f o p q=>?_,inj:=λi j f f' g p q r s=>?_,below:=h.below,base:=λid f g p q=>?_,gl:=h.gl,gw:=h.gw,room:=h.room,ext:=h.ext,ko:=h.ko,nl:=by have:=h.nl;simpa using this,fr:=λq hq=>?_,pd:=Ew.turn h.pd (λ_ _ _=>rfl) (λ_ _ _ q=>.inl q) (λid f g p q=>by obtain⟨f0,q1,q2⟩:=Vf p;exact .inl λr=>r id f0 q1 (q2.trans q)) }
 .have q:(σ.t.map (Abs.DC F own (own.set k e')))[i]?=some a:=q
  rw[aK]at q
  cases hc:σ.t[i]? with
  |none=>rw[hc]at q;cases q
  |some c=>rw[hc]at q;cases q;exact(h.tr i x c p hc).DC
 .have q:((σ.h.map (vV F own (own.set k e'))).set k ob')[id]?=some o:=q
  rcases get p with⟨rfl,rfl⟩|⟨hid,hf⟩
  .rw[bg (by simpa using hk')]at q
   cases q
   exact hO'
  .rw[aP (λq=>hid q.symm),aK]at q
   cases ho:σ.h[id]? with
   |none=>rw[ho]at q;cases q
   |some O =>
    rw[ho]at q;cases q
    obtain⟨k1,k2,k3,k4,k5,k6,k7,k8⟩:=h.objs id f O hf ho
    by_cases hpr:O.pr=true
    .have:vV F own (own.set k e') O=O:=by simp[vV,hpr]
     rw[this]
     refine⟨k1,k2,k3,k4,k5,k6,k7,?_⟩
     cases hg:f.g with
     |none=>rw[hg]at k8;exact k8
     |some g =>
      rw[hg]at k8
      obtain⟨cs,a1,a2,a3,a4⟩:=k8
      refine⟨cs,a1,a2,λi j x a r s=>?_,a4⟩
      obtain⟨y,b1,b2,b3⟩:=a3 i j x a r s
      refine⟨y,b1,b2,?_⟩
      unfold RC at b3 ⊢
      rw[if_pos hpr]at b3 ⊢
      exact b3
    .have e1:vV F own (own.set k e') O={ O with es:=O.es.map (Abs.qJ F own (own.set k e')) }:=by simp[vV,hpr]
     rw[e1]
     have el:∀(i:Nat) (x:AV),(O.es.map (Abs.qJ F own (own.set k e')))[i]?=some x->∃z,O.es[i]?=some z/\x=Abs.qJ F own (own.set k e') z:=λi x q=>by
      rw[aK]at q
      cases hz:O.es[i]? with
      |none=>rw[hz]at q;cases q
      |some z=>rw[hz]at q;cases q;exact⟨z,rfl,rfl⟩
     refine⟨by simp[k1],k2,k3,k4,⟨k5.1,by simpa using k5.2⟩,by simpa using k6,λi x q=>?_,?_⟩
     .obtain⟨z,hz,rfl⟩:=el i x q
      rw[Cn,bN];exact k7 i z hz
     .cases hg:f.g with
      |none=>rw[hg]at k8;exact k8
      |some g =>
       rw[hg]at k8
       obtain⟨cs,a1,a2,a3,a4⟩:=k8
       obtain⟨fr,a1,af⟩:=a1
       refine⟨cs,⟨fr,a1,by rw[bN];exact af⟩,a2,λi j x a r s=>?_,a4⟩
       obtain⟨z,hz,rfl⟩:=el i x r
       rw[Cn,aK]at s
       cases hc:z.cells[j]? with
       |none=>rw[hc]at s;cases s
       |some c =>
        rw[hc]at s;cases s
        obtain⟨y,b1,b2,b3⟩:=a3 i j z c hz hc
        refine⟨y,b1,b2,?_⟩
        unfold RC at b3 ⊢
        rw[if_neg hpr]at b3 ⊢
        exact b3.off1
 .obtain⟨f0,q1,q2⟩:=Vf p
  obtain⟨f1,q3,q4⟩:=Vf q
  exact h.inj i j f0 f1 g q1 q3 (by rw[q2];exact r) (by rw[q4];exact s)
 .obtain⟨f0,q1,q2⟩:=Vf p
  exact h.base id f0 g q1 (by rw[q2];exact q)
 ·have:(own.set k e').take q.1=own.take q.1:=by
   apply fA
   intro j
   rw[bU,bU]
   split
   .rename_i hj
    have:=w0.hfr q hq
    rw[aP (by omega)]
   .rfl
  rw[this];exact h.fr q hq
theorem Inv.cut (h:Inv Gl F own B w0 σ act w) {k s len:Nat} {ob:ay} {sz:Nat} (hob:σ.h[k]?=some ob) (hpr:ob.pr=true) (hfz:ob.fz=0) (hN:w0.N<=k) (hs:σ.t[s]?=some (.row k ob.es.length sz 0 len)) :
  ∃e',len<=ob.es.length/\Inv Gl F (own.set k e') B w0 ⟨(σ.t.map (DC F own (own.set k e'))).set s (.row k len sz 0 len),(σ.h.map (vV F own (own.set k e'))).set k { ob with es:=ob.es.take len }⟩ act w:=by
 obtain⟨e,he,hOr⟩:=h.xE hob
 have hk:k<own.length:=(aj.1 he).1
 have hlt:s<act.tmps.size:=by rw[h.tl];exact(aj.1 hs).1
 have hR:=h.tr s _ _ (aF hlt) hs
 obtain⟨k1,k2,k3,k4,k5,k6,k7,k8⟩:=hOr
 obtain⟨e2,he2,hG,hsl,hx⟩:=hR.mR
 rw[he]at he2
 cases he2
 obtain⟨x1,x2,x3⟩:=hx k1.symm
 obtain⟨cp,c1,c2⟩:=x3 (.inr rfl)
 have hle:len<=ob.es.length:=by omega
 have hO':nU F (own.set k { e with G:=len }) w { e with G:=len } { ob with es:=ob.es.take len }:=by
  refine⟨by simp[hle],k2,k3,by show len<=e.cap;omega,⟨k5.1,λq=>by have q:ob.pr=false:=q;rw[hpr]at q;cases q⟩,by show ob.fz<=_;omega,λi x q=>?_,?_⟩
  .have q:(ob.es.take len)[i]?=some x:=q
   rw[bU]at q
   split at q
   .exact k7 i x q
   .cases q
  ·show match e.g with
    |none=>e.cap=0
    |some g=>_
   cases hg:e.g with
   |none=>rw[hg]at k8;exact k8
   |some g =>
    rw[hg]at k8
    obtain⟨cs,a1,a2,a3,a4⟩:=k8
    obtain⟨fr,a1,af⟩:=a1
    refine⟨cs,⟨fr,a1,af.imp id (λq=>by exfalso;omega)⟩,a2,λi j x a r s=>?_,a4⟩
    have r:(ob.es.take len)[i]?=some x:=r
    rw[bU]at r
    split at r
    .obtain⟨y,b1,b2,b3⟩:=a3 i j x a r s
     refine⟨y,b1,b2,?_⟩
     unfold RC at b3 ⊢
     rw[if_pos hpr]at b3
     rw[if_pos (show({ ob with es:=ob.es.take len }:ay).pr=true from hpr)]
     exact b3
    .cases r
 refine⟨{ e with G:=len },hle,?_⟩
 have hI:=h.off (e':={ e with G:=len }) he hN rfl hO'
 have hrow:R F (own.set k { e with G:=len }) act.tmps[s] (.row k len sz 0 len) :=
  .row _ _ _ _ _ _ { e with G:=len } (by rw[bg hk]) (bq _) hsl (λ_=>⟨x1,by omega,λ_=>⟨cp,c1,c2⟩⟩) (by show 0<e.sz;rw[k2];exact k3)
 have:=hI.put hrow (some s)
 have e1:act.put (some s) act.tmps[s]=act:=by
  have hs:act.tmps.setIfInBounds s act.tmps[s]=act.tmps:=by
   apply yF
   intro j
   rw[iZ]
   split
   .rename_i hj
    subst hj
    rw[aF hlt]
   .rfl
  show({ act with tmps:=act.tmps.setIfInBounds s act.tmps[s] }:Act)=act
  rw[hs]
 rw[e1]at this
 exact this
def Ce(e:AV)(o:Nat)(a:AV):AV:=match e with
 |.agg us=>.agg (us.set o a)
 |_=>a
theorem Cc{e a b:AV}{o:Nat}(ha:a.cells=[a])(ho:e.cells[o]?=some b):(Ce e o a).cells=e.cells.set o a:=by
 by_cases h:∃us,e=.agg us
 .obtain⟨us,rfl⟩:=h;rfl
 .have hc:e.cells=[e]:=by cases e<;>first|rfl|exact absurd ⟨_,rfl⟩ h
  have hs:Ce e o a=a:=by cases e<;>first|rfl|exact absurd ⟨_,rfl⟩ h
  rw[hc]at ho ⊢
  have:o=0:=by
   have:=(aj.1 ho).1
   simp at this;exact this
  subst this
  rw[hs,ha];rfl
theorem Inv.YP (h:Inv Gl F own B w0 σ act w) {k o:Nat} {ob:ay} {e0 a0 a':AV} (hob:σ.h[k]?=some ob) (hes:ob.es=[e0]) (hpr:ob.pr=false) (ho:e0.cells[o]?=some a0) (ha:∀ (e:Ent) (g:Nat) (cs:Array Value) (fr:Nat × Nat) (y:Value),own[k]?=some e->e.g=some g->w.heap[g]?=some (.cells cs ob.ty fr)->cs[0 * ob.sz + o]?=some y->R F own y a0->R F own y a') (hac:a'.cells=[a']) :
  Inv Gl F own B w0 ⟨σ.t,σ.h.set k { ob with es:=[Ce e0 o a'] }⟩ act w:=by
 have hk:k<σ.h.length:=(aj.1 hob).1
 refine h.turn (λ_ _ q=>q) (Le.refl _) h.sub (by simp[h.hl]) (λid e o' p q=>?_) h.inj h.below h.base
 have q:(σ.h.set k { ob with es:=[Ce e0 o a'] })[id]?=some o':=q
 by_cases hid:k=id
 .subst hid
  rw[bg hk]at q
  cases q
  obtain⟨k1,k2,k3,k4,k5,k6,k7,k8⟩:=h.objs k e ob p hob
  have hcl:=Cc hac ho
  refine⟨by rw[k1,hes];rfl,k2,k3,k4,⟨k5.1,λq=>by rw[k5.2 q,hes];rfl⟩,by rw[hes]at k6;exact k6,λi x q=>?_,?_⟩
  .have q:[Ce e0 o a'][i]?=some x:=q
   have hi:i=0:=by have:=(aj.1 q).1;simpa using this
   subst hi
   cases q
   rw[hcl,wL]
   exact k7 0 e0 (by rw[hes];rfl)
  .cases hg:e.g with
   |none=>rw[hg]at k8;exact k8
   |some g =>
    rw[hg]at k8
    obtain⟨cs,a1,a2,a3,a4⟩:=k8
    obtain⟨fr,a1,af⟩:=a1
    refine⟨cs,⟨fr,a1,by rw[hes]at af;exact af⟩,a2,λi j x a r s=>?_,a4⟩
    have r:[Ce e0 o a'][i]?=some x:=r
    have hi:i=0:=by have:=(aj.1 r).1;simpa using this
    subst hi
    cases r
    rw[hcl,dn]at s
    split at s
    .rename_i hj
     subst hj
     split at s
     .cases s
      obtain⟨y,b1,b2,b3⟩:=a3 0 o e0 _ (by rw[hes];rfl) ho
      refine⟨y,b1,b2,?_⟩
      unfold RC at b3 ⊢
      rw[if_neg (by rw[hpr];simp)]at b3
      rw[if_neg (by show ¬ob.pr=true;rw[hpr];simp)]
      exact ha e g cs fr y p hg a1 b1 b3
     .cases s
    .exact a3 0 j e0 a (by rw[hes];rfl) s
 .rw[aP hid]at q
  exact h.objs id e o' p q
theorem Inv.a6z (h:Inv Gl F own B w0 σ act w) {k o:Nat} {ob:ay} {e0 a':AV} {v:Value} (hob:σ.h[k]?=some ob) (hes:ob.es=[e0]) (hpr:ob.pr=false) (ho:e0.cells[o]?=some (.v v)) (ha:R F own v a') (hac:a'.cells=[a']) :
  Inv Gl F own B w0 ⟨σ.t,σ.h.set k { ob with es:=[Ce e0 o a'] }⟩ act w:=h.YP hob hes hpr ho (λe g cs fr y _ _ _ _ q=>by rw[q.dN];exact ha) hac
end
section
variable{ρ:List Nat}{h h':List XO}{H:List ay}{F:Addr->Option Value}{own:List Ent}{e':Ent}{id:Nat}
theorem b0m{own':List Ent}{T:Ty}{y:T.den}{a:AV}(hw:Wp a (Ty.enc T y)):Okc F own own' a:=by
 have one:∀{a:AV},Pl1 a->Okc F own own' a:=fun{a} hp v hv=>by
  rcases hp with⟨y,rfl,hy⟩|⟨sz,xs,rfl⟩
  .rw[hv.dN];exact .pure (.v _)
  .exact .pure hv.jB
 by_cases ha:∃cs,a=.agg cs
 .obtain⟨cs,rfl⟩:=ha
  intro v hv
  obtain⟨xs,rfl,hl,h1,hR⟩:=hv.ku
  exact .agg xs cs hl h1 λj x a p q=>one (EB hw (bO q)) x (hR j x a p q)
 .have hc:a.cells=[a]:=by cases a<;>first|rfl|exact absurd ⟨_,rfl⟩ ha
  exact one (EB hw (by rw[hc];simp))
theorem V1.okc(hs:HS ρ h H)(hid:id<h.length){x:XV}{a:AV}(hv:V1 ρ h x a)(hn:x≠.any)(hh:hit [id] x=false):Okc F own (own.set (ρ.getD id 0) e') a:=by
 have ne:∀{j:Nat} {o:XO},h[j]?=some o->[id].contains j=false->(own.set (ρ.getD id 0) e')[ρ.getD j 0]?=own[ρ.getD j 0]?:=fun{j o} q hj=>by
  rw[aP (λq'=>?_)]
  have:=hs.inj hid (aj.1 q).1 q'
  subst this
  simp at hj
 cases x with
 |any=>exact absurd rfl hn
 |d T y=>exact b0m hv
 |k v =>
  have hv:a=.v v:=hv
  subst hv
  intro v h;rw[h.dN];exact .pure (.v _)
 |row j=>obtain⟨_,_,_,_,q,rfl⟩:=hv;exact JF (ne q hh)
 |sub j o l=>obtain⟨_,_,_,_,q,rfl⟩:=hv;exact JF (ne q hh)
 |me j =>
  rcases hv with rfl|⟨_,q,rfl⟩
  .intro v h;rw[h.dN];exact .pure (.v _)
  .exact JG (ne q hh)
 |ptr j i o=>obtain⟨_,q,rfl⟩:=hv;exact JG (ne q hh)
 |lp T y o=>obtain⟨_,rfl,_⟩:=hv;intro v h;exact .pure h.pq
 |agg=>exact hv.elim
 |tup=>exact hv.elim
theorem V1.off(hs:HS ρ h H)(hid:id<h.length)(ht:Trn ρ h ρ h' [id]){x:XV}{a:AV}(hv:V1 ρ h x a):V1 ρ h' (nk [id] x) (off1 F own (own.set (ρ.getD id 0) e') a):=by
 have hv':=ht x a hv
 by_cases hn:x=.any
 .subst hn;trivial
 .rw[Li]at hv' ⊢
  cases hh:hit [id] x with
  |true=>simp only[if_true];trivial
  |false =>
   rw[hh]at hv'
   simp only[cK,if_false]at hv' ⊢
   rw[JI (hv.okc hs hid hn hh)];exact hv'
theorem LK(hs:HS ρ h H)(hid:id<h.length)(ht:Trn ρ h ρ h' [id]){cs:List XV}{as:List AV}(hc:bB (V1 ρ h) cs as):bB (V1 ρ h') (cs.map (nk [id])) (as.map (off1 F own (own.set (ρ.getD id 0) e'))) :=
 ⟨by simp[hc.1],λi y b p q=>by
  rw[aK]at p q
  cases hy:cs[i]? with
  |none=>rw[hy]at p;cases p
  |some z =>
   cases hb:as[i]? with
   |none=>rw[hb]at q;cases q
   |some c=>rw[hy]at p;rw[hb]at q;cases p;cases q;exact(hc.2 i z c hy hb).off hs hid ht⟩
theorem VA.off(hs:HS ρ h H)(hid:id<h.length)(ht:Trn ρ h ρ h' [id]){x:XV}{a:AV}(hv:VA ρ h x a):VA ρ h' (uM [id] x) (qJ F own (own.set (ρ.getD id 0) e') a):=by
 by_cases ha:∃cs,x=.agg cs
 .obtain⟨cs,rfl⟩:=ha
  obtain⟨as,rfl,hc⟩:=hv
  rw[IG]
  exact⟨_,rfl,LK hs hid ht hc⟩
 .rw[FK _ x λcs q=>ha ⟨cs,q⟩]
  have hv1:V1 ρ h x a:=by cases x<;>first|exact hv|exact absurd ⟨_,rfl⟩ ha
  by_cases hag:∃cs,a=.agg cs
  .obtain⟨cs,rfl⟩:=hag
   cases x with
   |d T y =>
    have hv1:Wp (.agg cs) (Ty.enc T y):=hv1
    have he:qJ F own (own.set (ρ.getD id 0) e') (.agg cs)=.agg cs:=by
     show AV.agg (cs.map _)=_
     congr 1
     refine(gN λc hc=>?_).trans (Bh cs)
     refine JI λv hv=>?_
     rcases EB hv1 hc with⟨y,rfl,hy⟩|⟨sz,xs,rfl⟩
     .rw[hv.dN];exact .pure (.v _)
     .exact .pure hv.jB
    rw[he];exact hv1
   |any=>trivial
   |k v=>cases hv1
   |row j=>obtain⟨_,_,_,_,_,q⟩:=hv1;cases q
   |sub j o l=>obtain⟨_,_,_,_,_,q⟩:=hv1;cases q
   |ptr j i o=>obtain⟨_,_,q⟩:=hv1;cases q
   |me j=>rcases hv1 with q|⟨_,_,q⟩<;>cases q
   |lp T y o=>obtain⟨_,q,_⟩:=hv1;cases q
   |agg=>exact hv1.elim
   |tup=>exact hv1.elim
  .rw[Ao λcs q=>hag ⟨cs,q⟩]
   exact VA.of1 (hv1.off hs hid ht)
theorem VT.off(hs:HS ρ h H)(hid:id<h.length)(ht:Trn ρ h ρ h' [id]){x:XV}{a:AV}(hv:VT ρ h x a):VT ρ h' (uL [id] x) (DC F own (own.set (ρ.getD id 0) e') a):=by
 by_cases ha:∃cs,x=.tup cs
 .obtain⟨cs,rfl⟩:=ha
  obtain⟨as,rfl,hc⟩:=hv
  rw[IE]
  refine⟨_,rfl,by simp[hc.1],λi y b p q=>?_⟩
  rw[aK]at p q
  cases hy:cs[i]? with
  |none=>rw[hy]at p;cases p
  |some z =>
   cases hb:as[i]? with
   |none=>rw[hb]at q;cases q
   |some c=>rw[hy]at p;rw[hb]at q;cases p;cases q;exact(hc.2 i z c hy hb).off hs hid ht
 .rw[FJ _ x λcs q=>ha ⟨cs,q⟩]
  have hvA:VA ρ h x a:=by cases x<;>first|exact hv|exact absurd ⟨_,rfl⟩ ha
  by_cases hat:∃cs,a=.tup cs
  .obtain⟨cs,rfl⟩:=hat
   by_cases hx:x=.any
   .subst hx;rw[show uM [id] XV.any=.any from rfl];trivial
   .exfalso
    cases x with
    |any=>exact hx rfl
    |d T y =>
     have hw:Wp (.tup cs) (Ty.enc T y):=hvA
     rcases EB hw (c:=.tup cs) (by simp[AV.cells]) with⟨y,q,_⟩|⟨sz,xs,q⟩<;>cases q
    |k v=>cases hvA
    |row j=>obtain⟨_,_,_,_,_,q⟩:=hvA;cases q
    |sub j o l=>obtain⟨_,_,_,_,_,q⟩:=hvA;cases q
    |ptr j i o=>obtain⟨_,_,q⟩:=hvA;cases q
    |me j=>rcases hvA with q|⟨_,_,q⟩<;>cases q
    |lp T y o=>obtain⟨_,q,_⟩:=hvA;cases q
    |agg us=>obtain⟨_,q,_⟩:=hvA;cases q
    |tup us=>exact ha ⟨_,rfl⟩
  .rw[L8 λcs q=>hat ⟨cs,q⟩]
   exact VT.ofA (hvA.off hs hid ht)
theorem vo.off(hs:HS ρ h H)(hid:id<h.length)(ht:Trn ρ h ρ h' [id]){o:XO}{O:ay}(hR:vo ρ h o O):vo ρ h' (lI [id] o) (vV F own (own.set (ρ.getD id 0) e') O):=by
 cases o with
 |row ty T fz es =>
  have:vV F own (own.set (ρ.getD id 0) e') O=O:=by simp[vV,hR.2.2.1]
  rw[this];exact hR
 |box ty cs =>
  obtain⟨a,b,c,d,e,he,hc⟩:=hR
  have:vV F own (own.set (ρ.getD id 0) e') O={ O with es:=O.es.map (qJ F own (own.set (ρ.getD id 0) e')) }:=by simp[vV,c]
  rw[this]
  exact⟨a,by simpa using b,c,d,qJ F own (own.set (ρ.getD id 0) e') e,by simp[he],by rw[Cn];exact LK hs hid ht hc⟩
end
end
end
end Abs
end Go.Proofs.YtnhgeocdffhkjaaGreatDoor
