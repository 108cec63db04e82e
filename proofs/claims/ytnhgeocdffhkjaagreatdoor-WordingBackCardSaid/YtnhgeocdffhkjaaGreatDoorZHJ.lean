/- Merged and trimmed by a program: PA PB PC F7 F8 F9 FA FB FC FD FE PD PE LA DY1 DY2 PC0 PF PG ParseC. -/
import Derived.Test.YtnhgeocdffhkjaaGreatDoorZHI
import Derived.Defers
import Derived.Recover
set_option linter.unusedVariables false
set_option linter.unusedSimpArgs false
set_option linter.defProp false
namespace Go.Proofs.YtnhgeocdffhkjaaGreatDoor
namespace Abs
noncomputable section
abbrev sT:Type:=Int×ByteArray×Int
def nmS(s:ByteArray):sT:=(1,s,0)
def mkS(s:ByteArray):sT:=(4,s,0)
structure Rs (toks:List ay) (k:Nat) (r:List sT):Prop where
 l:toks.length<=1000000
 c:k<=toks.length
 m:(toks.drop k).map strip=r
theorem dX{toks:List ay}{k:Nat}{s:sT}{r:List sT}(h:Rs toks k (s::r)):∃t,toks[k]?=some t/\strip t=s/\Rs toks (k+1) r:=by
 obtain⟨h0,h1,h⟩:=h
 cases hd:toks.drop k with
 |nil=>rw[hd]at h;cases h
 |cons t q =>
  rw[hd,bg]at h
  obtain⟨h1,h2⟩:=List.cons.inj h
  have hk:toks[k]?=some t:=by rw[<- List.head?_drop,hd];rfl
  refine⟨t,hk,h1,h0,(aj.1 hk).1,?_⟩
  rw[List.drop_add_one_eq_tail_drop,hd];exact h2
theorem lT{toks:List ay}:∀{a:List sT} {k:Nat} {r:List sT},Rs toks k (a++r)->Rs toks (k+a.length) r
 |[],_,_,h=>h
 |s::a,k,r,h=>by
  obtain⟨_,_,_,h⟩:=dX h
  have:=lT h
  rw[aL,show k+(a.length+1)=k+1+a.length by omega];exact this
theorem tZ{toks:List ay}{k:Nat}{s:sT}{r:List sT}(h:Rs toks k (s::r)):k<toks.length:=by
 obtain⟨t,h,_⟩:=dX h
 exact(aj.1 h).1
theorem VJ{toks:List ay}{k:Nat}{s:sT}{r:List sT}(h:Rs toks k (s::r))(kd:Int)(x:ByteArray):iK toks k kd x=cond (iEq s.1 kd) (sEq s.2.1 x) false:=by
 obtain⟨t,h1,rfl,_⟩:=dX h
 unfold iK;rw[h1];rfl
theorem uQ{toks:List ay}{k:Nat}{s:sT}{r:List sT}(h:Rs toks k (s::r)){kd:Int}{x:ByteArray}(h1:s.1=kd)(h2:s.2.1=x):iK toks k kd x=true:=by
 rw[VJ h,h1,h2,qE,kg,vX];exact⟨rfl,rfl⟩
theorem BS{toks:List ay}{k:Nat}{s:sT}{r:List sT}(h:Rs toks k (s::r)){kd:Int}{x:ByteArray}(hn:¬(s.1=kd/\s.2.1=x)):iK toks k kd x=false:=by
 rw[VJ h,rT,dI,EX]
 by_cases q:s.1=kd
 .exact .inr λe=>hn ⟨q,e⟩
 .exact .inl q
theorem Ev.mono{toks:List ay}{w:cK}{kw m:Nat}{b:Bool}{k:Nat}{S:List NL}(h:Ev toks w kw m b k S):∀{m':Nat},m<=m'->Ev toks w kw m' b k S:=by
 induction h with
 |nt h _ ih=>intro m' hm;obtain⟨m',rfl⟩:∃q,m'=q+1:=⟨m'-1,by omega⟩;exact .nt h (ih (by omega))
 |pr h0 h _ ih=>intro m' hm;obtain⟨m',rfl⟩:∃q,m'=q+1:=⟨m'-1,by omega⟩;exact .pr h0 h (ih (by omega))
 |op h0 h1 h hy _ ih=>intro m' hm;obtain⟨m',rfl⟩:∃q,m'=q+1:=⟨m'-1,by omega⟩;exact .op h0 h1 h hy (ih (by omega))
 |an h _ ih=>intro m' hm;obtain⟨m',rfl⟩:∃q,m'=q+1:=⟨m'-1,by omega⟩;exact .an h (ih (by omega))
 |cl h hx h1 hy _ ih=>intro m' hm;obtain⟨m',rfl⟩:∃q,m'=q+1:=⟨m'-1,by omega⟩;exact .cl h hx h1 hy (ih (by omega))
 |en h hx e=>intro m' hm;obtain⟨m',rfl⟩:∃q,m'=q+1:=⟨m'-1,by omega⟩;exact .en h hx e
def Fw(r:List sT):Prop:=∀s∈r.head?,¬(s.1=1/\(s.2.1=bs [105,110]\/s.2.1=bs [102,114,111,109]))
def Un(ts:List sT)(x:cK):Prop:=∀toks r k nn A B S m w kw y,Rs toks k (ts++r)->Fw r->yM nn x=some y->Ev toks w kw m true (k+ts.length) ((0,A++[y],B)::S)->Ev toks w kw (m+2*ts.length) false k ((nn,A,B)::S)
def Fa(ts:List sT)(x:cK):Prop:=∀toks r k B S m w kw,Rs toks k (ts++r)->Fw r->(∀A',oO 7 A'=some (x,())->Ev toks w kw m true (k+ts.length) ((0,A',B)::S))->Ev toks w kw (m+2*ts.length) false k ((0,[],B)::S)
def Fu(ts:List sT)(x:cK):Prop:=∀toks r k S m w kw,Rs toks k (ts++r)->Fw r->(∀A' B',Ew A' B'=some x->Ev toks w kw m true (k+ts.length) ((0,A',B')::S))->Ev toks w kw (m+2*ts.length) false k ((0,[],[])::S)
theorem a4u(op:Int)(x:cK):oO op [x]=some (x,()):=by
 unfold oO
 rfl
theorem Un.fa{ts:List sT}{x:cK}(h:Un ts x):Fa ts x:=λtoks r k B S m w kw hR hF hc=>h toks r k 0 [] B S m w kw x hR hF rfl (hc [x] (a4u 7 x))
theorem c07{A:List cK}{x:cK}(h:oO 7 A=some (x,())):Ew A []=some x:=by
 unfold Ew;rw[h]
 show(oO 8 [x]).bind _=_
 rw[a4u];rfl
theorem Fa.fu{ts:List sT}{x:cK}(h:Fa ts x):Fu ts x:=λtoks r k S m w kw hR hF hc=>h toks r k [] S m w kw hR hF λA' hA=>hc A' [] (c07 hA)
theorem Zy{toks:List ay}{k:Nat}{A B:List cK}(h1:iK toks k 1 (bs [97,110,100])=false)(h2:iK toks k 1 (bs [111,114])=false):wI toks k A B=some (false,k,A,B):=by
 unfold wI;rw[h1,h2];rfl
theorem a7r{toks:List ay}{k:Nat}{A B:List cK}(h1:iK toks k 1 (bs [97,110,100])=true):wI toks k A B=some (true,k+1,A,B):=by
 unfold wI;rw[h1];rfl
theorem b3F{toks:List ay}{k:Nat}{A B:List cK}{y:cK}(h1:iK toks k 1 (bs [97,110,100])=false)(h2:iK toks k 1 (bs [111,114])=true)(h:oO 7 A=some (y,())):wI toks k A B=some (true,k+1,[],B++[y]):=by
 unfold wI;rw[h1,h2,h];rfl
theorem Fu.un{ts:List sT}{x:cK}(h:Fu ts x):Un (mkS (bs [40])::(ts++[mkS (bs [41])])) x:=λtoks r k nn A B S m w kw y hR hF hy hc=>by
 have hR:Rs toks k (mkS (bs [40])::(ts++(mkS (bs [41])::r))):=by simpa using hR
 obtain⟨_,_,_,hR1⟩:=dX hR
 have hR2:=lT hR1
 have hl:(mkS (bs [40])::(ts++[mkS (bs [41])])).length=ts.length+2:=by simp
 rw[hl]at hc ⊢
 refine Ev.mono (Ev.pr (m:=m+1+2*ts.length) (BS hR (by decide)) (uQ hR rfl rfl) (h toks _ (k+1) _ (m+1) w kw hR1 (λs hs=>by cases hs;rintro⟨q,_⟩;cases q) λA' B' hw=>?_)) (by omega)
 refine .cl (Zy (BS hR2 (by decide)) (BS hR2 (by decide))) hw (uQ hR2 rfl rfl) hy ?_
 rw[show k+1+ts.length+1=k+(ts.length+2) by omega];exact hc
theorem Un.not{ts:List sT}{x z:cK}(h:Un ts x)(hz:Gq 6 [x]=some (z,())):Un (nmS (bs [110,111,116])::ts) z:=λtoks r k nn A B S m w kw y hR hF hy hc=>by
 obtain⟨_,_,_,hR1⟩:=dX hR
 refine Ev.mono (Ev.nt (m:=m+2*ts.length) (uQ hR rfl rfl) (h toks r (k+1) (nn+1) A B S m w kw y hR1 hF ?_ ?_)) (by simp only[aL];omega)
 .unfold yM;rw[hz];exact hy
 .rw[aL]at hc
  rw[show k+1+ts.length=k+(ts.length+1) by omega];exact hc
section
variable{α:Type}{f:α->List ay}{x:α->cK}
def mG(s:ByteArray)(f:α->List ay)(b:Bool)(l:List α):List sT:=(gD [nmT s] f b l).map strip
theorem O8(s:ByteArray)(a:α)(l:List α):mG s f true (a::l)=nmS s::((f a).map strip++mG s f true l):=by
 unfold mG
 show List.map strip ([nmT s]++(f a++gD [nmT s] f true l))=_
 rw[aU,aU];rfl
theorem WZ(s:ByteArray)(a:α)(l:List α):mG s f false (a::l)=(f a).map strip++mG s f true l:=by
 unfold mG
 show List.map strip ([]++(f a++gD [nmT s] f true l))=_
 rw[fF,aU]
theorem J2{s:ByteArray}(hs:¬(s=bs [105,110]\/s=bs [102,114,111,109])){l:List α}{r:List sT}(hF:Fw r):Fw (mG s f true l++r):=by
 cases l with
 |nil=>exact hF
 |cons a l=>rw[O8];intro u hu;cases hu;exact λq=>hs q.2
theorem Zz:¬(bs [97,110,100]=bs [105,110]\/bs [97,110,100]=bs [102,114,111,109]):=by decide
theorem a3Z:¬(bs [111,114]=bs [105,110]\/bs [111,114]=bs [102,114,111,109]):=by decide
theorem QF:∀(l:List α),(∀a∈l,Un ((f a).map strip) (x a))->∀toks r k A B S m w kw,Rs toks k (mG (bs [97,110,100]) f true l++r)->Fw r->Ev toks w kw m true (k+(mG (bs [97,110,100]) f true l).length) ((0,A++l.map x,B)::S)->Ev toks w kw (m+2*(mG (bs [97,110,100]) f true l).length) true k ((0,A,B)::S)
 |[],_=>λtoks r k A B S m w kw hR hF hc=>by simpa[mG,gD]using hc
 |a::l,h=>λtoks r k A B S m w kw hR hF hc=>by
  rw[O8]at hR hc ⊢
  have hR:Rs toks k (nmS (bs [97,110,100])::((f a).map strip++(mG (bs [97,110,100]) f true l++r))):=by simpa using hR
  obtain⟨_,_,_,hR1⟩:=dX hR
  have hR2:=lT hR1
  generalize hg:mG (bs [97,110,100]) f true l=g at *
  have hl:(nmS (bs [97,110,100])::((f a).map strip++g)).length=((f a).map strip).length+g.length+1:=by simp
  rw[hl]at hc ⊢
  refine Ev.mono (Ev.an (m:=m+2*g.length+2*((f a).map strip).length) (a7r (uQ hR rfl rfl)) (h a (by simp) toks _ (k+1) 0 A B S (m+2*g.length) w kw (x a) hR1 ?_ rfl ?_)) (by omega)
  .rw[<- hg];exact J2 Zz hF
  .rw[<- hg]at hR2 hc ⊢
   refine QF l (λb hb=>h b (by simp[hb])) toks r _ (A++[x a]) B S m w kw hR2 hF ?_
   rw[show k+1+((f a).map strip).length+(mG (bs [97,110,100]) f true l).length=k+(((f a).map strip).length+(mG (bs [97,110,100]) f true l).length+1) by omega]
   simpa using hc
theorem b24{a:α}{l:List α}(h:∀b∈a::l,Un ((f b).map strip) (x b)){z:cK}(hz:oO 7 ((a::l).map x)=some (z,())):Fa (mG (bs [97,110,100]) f false (a::l)) z:=λtoks r k B S m w kw hR hF hc=>by
 rw[WZ]at hR hc ⊢
 rw[aZ]at hR
 have hR2:=lT hR
 generalize hg:mG (bs [97,110,100]) f true l=g at *
 rw[ak]at hc ⊢
 refine Ev.mono (h a (by simp) toks _ k 0 [] B S (m+2*g.length) w kw (x a) hR ?_ rfl ?_) (by omega)
 .rw[<- hg];exact J2 Zz hF
 .rw[<- hg]at hR2 hc ⊢
  refine QF l (λb hb=>h b (by simp[hb])) toks r _ _ B S m w kw hR2 hF ?_
  rw[gG]
  exact hc _ (by simpa using hz)
theorem Rx:∀(l:List α),(∀a∈l,Fa ((f a).map strip) (x a))->∀toks r k A B S m w kw y,oO 7 A=some (y,())->Rs toks k (mG (bs [111,114]) f true l++r)->Fw r->(∀A' B' y',oO 7 A'=some (y',())->B'++[y']=B++y::l.map x->Ev toks w kw m true (k+(mG (bs [111,114]) f true l).length) ((0,A',B')::S))->Ev toks w kw (m+2*(mG (bs [111,114]) f true l).length) true k ((0,A,B)::S)
 |[],_=>λtoks r k A B S m w kw y hy hR hF hc=>by simpa[mG,gD]using hc A B y hy rfl
 |a::l,h=>λtoks r k A B S m w kw y hy hR hF hc=>by
  rw[O8]at hR hc ⊢
  have hR:Rs toks k (nmS (bs [111,114])::((f a).map strip++(mG (bs [111,114]) f true l++r))):=by simpa using hR
  obtain⟨_,_,_,hR1⟩:=dX hR
  have hR2:=lT hR1
  generalize hg:mG (bs [111,114]) f true l=g at *
  have hl:(nmS (bs [111,114])::((f a).map strip++g)).length=((f a).map strip).length+g.length+1:=by simp
  rw[hl]at hc ⊢
  refine Ev.mono (Ev.an (m:=m+2*g.length+2*((f a).map strip).length) (b3F (BS hR (by decide)) (uQ hR rfl rfl) hy) (h a (by simp) toks _ (k+1) (B++[y]) S (m+2*g.length) w kw hR1 ?_ λA' hA=>?_)) (by omega)
  .rw[<- hg];exact J2 a3Z hF
  .rw[<- hg]at hR2 hc ⊢
   refine Rx l (λb hb=>h b (by simp[hb])) toks r _ A' _ S m w kw _ hA hR2 hF λA2 B2 y2 q1 q2=>?_
   rw[show k+1+((f a).map strip).length+(mG (bs [111,114]) f true l).length=k+(((f a).map strip).length+(mG (bs [111,114]) f true l).length+1) by omega]
   exact hc A2 B2 y2 q1 (by simpa using q2)
theorem b6v{a:α}{l:List α}(h:∀b∈a::l,Fa ((f b).map strip) (x b)){z:cK}(hz:oO 8 ((a::l).map x)=some (z,())):Fu (mG (bs [111,114]) f false (a::l)) z:=λtoks r k S m w kw hR hF hc=>by
 rw[WZ]at hR hc ⊢
 rw[aZ]at hR
 have hR2:=lT hR
 generalize hg:mG (bs [111,114]) f true l=g at *
 rw[ak]at hc ⊢
 refine Ev.mono (h a (by simp) toks _ k [] S (m+2*g.length) w kw hR ?_ λA' hA=>?_) (by omega)
 .rw[<- hg];exact J2 a3Z hF
 .rw[<- hg]at hR2 hc ⊢
  refine Rx l (λb hb=>h b (by simp[hb])) toks r _ A' _ S m w kw _ hA hR2 hF λA2 B2 y2 q1 q2=>?_
  rw[gG]
  refine hc A2 B2 ?_
  unfold Ew
  rw[q1]
  show(oO 8 (B2++[y2])).bind _=_
  rw[q2]
  show(oO 8 ((a::l).map x)).bind _=_
  rw[hz];rfl
end
theorem I4{ts:List sT}{x:cK}(h1:1<=ts.length)(h:∀toks r k,Rs toks k (ts++r)->Fw r->OpR toks k x (k+ts.length)/\iK toks k 1 nW=false/\iK toks k 4 (bs [40])=false):Un ts x:=λtoks r k nn A B S m w kw y hR hF hy hc=>by
 obtain⟨a,b,c⟩:=h toks r k hR hF
 exact Ev.mono (Ev.op b c a hy hc) (by omega)
section
variable{toks:List ay}{k:Nat}{r:List sT}
theorem Jg{s:sT}(h:Rs toks k (s::r)):strip (atI toks (k:Int) iU)=s/\bnd (k:Int) (aA toks)=true/\iEq (k:Int) (aA toks)=false/\iLt (k:Int) (aA toks)=true:=by
 obtain⟨t,h1,h2,_⟩:=dX h
 have hlt:=tZ h
 have hL:=aW toks
 have:atI toks (k:Int) iU=t:=by unfold atI;rw[fG,bB,h1];rfl
 rw[this]
 exact⟨h2,by rw[bT];omega,by rw[dI];omega,by rw[bS];omega⟩
theorem Ar{s:sT}(h:Rs toks k (s::r)){kd:Int}{x:ByteArray}(h1:s.1=kd)(h2:s.2.1=x)(l:List AV):uJ kd x toks (k:Int) l=some (true,toks,((k+1:Nat):Int),l,()):=by
 have q:=uQ h h1 h2
 have:=Au h.c h.l kd x l
 rw[q]at this;exact this
theorem uR(hr:Rs toks k r){kd:Int}{x:ByteArray}(h:∀s∈r.head?,¬(s.1=kd/\s.2.1=x)):iK toks k kd x=false:=by
 cases r with
 |nil =>
  unfold iK
  have:toks.length<=k:=by have:=hr.m;simpa using this
  rw[aX this]
 |cons s r =>
  exact BS hr (h s rfl)
theorem Dg(hr:Rs toks k r){kd:Int}{x:ByteArray}(h:∀s∈r.head?,¬(s.1=kd/\s.2.1=x))(l:List AV):uJ kd x toks (k:Int) l=some (false,toks,(k:Int),l,()):=by
 have:=Au hr.c hr.l kd x l
 rw[uR hr h]at this;exact this
theorem Bl{s:sT}{r:List sT}{kd:Int}{x:ByteArray}(h:¬(s.1=kd/\s.2.1=x)):∀u∈(s::r).head?,¬(u.1=kd/\u.2.1=x):=λu hu=>by cases hu;exact h
theorem b1D{s:ByteArray}(h:Rs toks k (nmS s::r))(hs:dR s=true)(l:List AV):P7 toks (k:Int) l=some (true,toks,(k:Int),l,()):=by
 obtain⟨e,a,b,c⟩:=Jg h
 have e1:(atI toks (k:Int) iU).1=1:=dn (·.1) e
 have e2:(atI toks (k:Int) iU).2.1=s:=dn (·.2.1) e
 unfold P7
 rw[e1,e2,a,c,zO,hs];rfl
theorem IW{s x:ByteArray}(h:dR s=true)(hx:dR x=false):¬s=x:=λq=>by rw[q,hx]at h;cases h
theorem DX{s:ByteArray}(h:Rs toks k (nmS s::r))(hs:¬s=bs [110,111,116]):iK toks k 1 nW=false/\iK toks k 4 (bs [40])=false :=
 ⟨uR h (Bl λq=>hs q.2),uR h (Bl λq=>absurd q.1 (show ¬(1:Int)=4 by decide))⟩
theorem a5M(h:Rs toks k (nmS (bs [116,114,117,101])::r)):OpR toks k ((1,bs [],[],0,0,[],()),1,1,()) (k+1) :=
 ⟨tZ h,λa=>T.eq (by unfold JM;exact T.grd rfl (T.aN (Ar h rfl rfl [a]) (T.ct rfl (T.ret rfl))))⟩
theorem a1G(h:Rs toks k (nmS (bs [102,97,108,115,101])::r)):OpR toks k ((2,bs [],[],0,0,[],()),1,1,()) (k+1) :=
 ⟨tZ h,λa=>T.eq (by
  unfold JM
  refine T.grd rfl (T.aN (Dg h (Bl λq=>?_) [a]) (T.cf rfl (T.grd rfl (T.aN (Ar h rfl rfl [a]) (T.ct rfl (T.ret rfl))))))
  exact absurd q.2 (by decide))⟩
theorem U6{nm:ByteArray}(h:Rs toks k (nmS nm::r))(hn:dR nm=true){x:cK}{k1:Nat}(hk:k1<=toks.length)(hx:∀a:AV,T ((uJ 1 (bs [105,110]) toks ((k+1:Nat):Int) [a]).bind λy46=>cond y46.1 ((Us y46.2.1 y46.2.2.1 y46.2.2.2.1).bind λy47=>some (y47.1,4,nm,y47.2.2.2.2.1,0,0,([]:List AV),1,1,y47.2.1,y47.2.2.1,y47.2.2.2.1,())) (cond (bnd 5 ((9:Nat):Int)) ((uJ 1 (bs [102,114,111,109]) y46.2.1 y46.2.2.1 y46.2.2.2.1).bind λy48=>cond y48.1 ((Ur y48.2.1 y48.2.2.1 y48.2.2.2.1).bind λy49=>some (y49.2.2.1,5,nm,([]:List ByteArray),y49.1,y49.2.1,([]:List AV),1,1,y49.2.2.2.1,y49.2.2.2.2.1,y49.2.2.2.2.2.1,())) (some (0,3,nm,([]:List ByteArray),0,0,([]:List AV),1,1,y48.2.1,y48.2.2.1,y48.2.2.2.1,()))) none)) (λy=>y=(0,x.1.1,x.1.2.1,x.1.2.2.1,x.1.2.2.2.1,x.1.2.2.2.2.1,x.1.2.2.2.2.2.1,x.2.1,x.2.2.1,toks,(k1:Int),[a],()))):OpR toks k x k1:=by
 refine⟨hk,λa=>T.eq ?_⟩
 obtain⟨e,a1,b,c⟩:=Jg h
 have e2:(atI toks (k:Int) iU).2.1=nm:=dn (·.2.1) e
 have hl:=h.l
 have hlt:=tZ h
 unfold JM
 refine T.grd rfl (T.aN (Dg (x:=bs [116,114,117,101]) h (Bl λq=>IW hn (by kernel_rfl) q.2) [a]) (T.cf rfl (T.grd rfl (T.aN (Dg (x:=bs [102,97,108,115,101]) h (Bl λq=>IW hn (by kernel_rfl) q.2) [a]) (T.cf rfl (T.aN (b1D h hn [a]) (T.cf rfl (T.grd a1 (T.grd rfl ?_)))))))))
 dsimp only
 rw[e2,bf (by omega) (by omega)]
 exact hx a
theorem a5N{nm:ByteArray}(h:Rs toks k (nmS nm::r))(hn:dR nm=true)(hF:Fw r):OpR toks k ((3,nm,[],0,0,[],()),1,1,()) (k+1) :=
 U6 h hn (tZ h) λa=>by
  obtain⟨_,_,_,h1⟩:=dX h
  exact T.aN (Dg h1 (λs hs q=>hF s hs ⟨q.1,.inl q.2⟩) [a]) (T.cf rfl (T.grd rfl (T.aN (Dg h1 (λs hs q=>hF s hs ⟨q.1,.inr q.2⟩) [a]) (T.cf rfl (T.ret rfl)))))
def nuS(n:Int):sT:=(2,bs [],n)
theorem Sv{n lo:Int}(h:Rs toks k (nuS n::r))(h0:-1000000000<=n)(h1:n<=1000000000)(h2:lo<=n)(a:AV):P6 lo toks (k:Int) [a]=some (n,0,toks,((k+1:Nat):Int),[a],()):=by
 obtain⟨e,a1,b,c⟩:=Jg h
 have e1:(atI toks (k:Int) iU).1=2:=dn (·.1) e
 have e2:(atI toks (k:Int) iU).2.2.1=n:=dn (·.2.2) e
 have hl:=h.l
 have hlt:=tZ h
 refine T.eq ?_
 unfold P6 Bb
 rw[e1,e2,b]
 refine T.grd (by rw[a1];rfl) (T.cf rfl (T.grd a1 (T.bind (T.ret (T.cf ?_ (T.ret ?_))))))
 .rw[lH,sD,qE,eG,eG,cO];omega
 .rw[bf (by omega) (by omega)];rfl
theorem a5O{nm:ByteArray}{lo hi:Int}(h:Rs toks k (nmS nm::nmS (bs [102,114,111,109])::nuS lo::nmS (bs [116,111])::nuS hi::r))(hn:dR nm=true)(h0:-1000000000<=lo)(h1:hi<=1000000000)(h2:lo<=hi):OpR toks k ((5,nm,[],lo,hi,[],()),1,1,()) (k+5):=by
 obtain⟨_,_,_,r1⟩:=dX h
 obtain⟨_,_,_,r2⟩:=dX r1
 obtain⟨_,_,_,r3⟩:=dX r2
 obtain⟨_,_,_,r4⟩:=dX r3
 refine U6 h hn (tZ r4) λa=>T.aN (Dg r1 (Bl λq=>absurd q.2 (by decide)) [a]) (T.cf rfl (T.grd rfl (T.aN (Ar r1 rfl rfl [a]) (T.ct rfl (T.call (P:=λy=>y=(lo,hi,0,toks,((k+5:Nat):Int),[a],())) ?_ λy hy=>T.ret (by rw[hy]))))))
 unfold Ur
 exact T.aN (Sv r2 h0 (by omega) h0 a) (T.cf rfl (T.aN (Ar r3 rfl rfl [a]) (T.cf rfl (T.aN (Sv r4 (by omega) h1 h2 a) (T.ret rfl)))))
def kJ(b:Bool)(l:List ByteArray):List sT:=(gD [mkT (bs [44])] (λw=>[nmT w]) b l).map strip
theorem WX(w:ByteArray)(l:List ByteArray):kJ true (w::l)=mkS (bs [44])::nmS w::kJ true l:=by
 unfold kJ
 show List.map strip ([mkT (bs [44])]++([nmT w]++gD [mkT (bs [44])] (λw=>[nmT w]) true l))=_
 rw[aU,aU];rfl
theorem WY(w:ByteArray)(l:List ByteArray):kJ false (w::l)=nmS w::kJ true l:=by
 unfold kJ
 show List.map strip ([]++([nmT w]++gD [mkT (bs [44])] (λw=>[nmT w]) true l))=_
 rw[fF,aU];rfl
theorem YV{l:List ByteArray}{w:ByteArray}(h:w∉l):GI l w=false:=by
 unfold GI
 rw[qm]
 exact λx hx q=>h (by rw[vX]at q;rw[q];exact hx)
theorem b4Z{nm:ByteArray}{ws:List ByteArray}(h:Rs toks k (nmS nm::nmS (bs [105,110])::mkS (bs [40])::(kJ false ws++mkS (bs [41])::r)))(hn:dR nm=true)(h1:1<=ws.length/\ws.length<=12)(h2:∀w∈ws,dR w=true)(h3:ws.Nodup):OpR toks k ((4,nm,ws,0,0,[],()),1,1,()) (k+((kJ false ws).length+4)):=by
 obtain⟨_,_,_,r1⟩:=dX h
 obtain⟨_,_,_,r2⟩:=dX r1
 obtain⟨_,_,_,r3⟩:=dX r2
 have re:=lT r3
 have hke:=tZ re
 have hl:=h.l
 refine U6 h hn (by omega) λa=>T.aN (Ar r1 rfl rfl [a]) (T.ct rfl (T.call (P:=λy=>y=(0,toks,((k+((kJ false ws).length+4):Nat):Int),[a],ws,())) ?_ λy hy=>T.ret (by rw[hy])))
 unfold Us
 refine T.aN (Ar r2 rfl rfl [a]) (T.cf rfl ?_)
 dsimp only
 obtain⟨w0,l0,rfl⟩:∃w l,ws=w::l:=by
  cases ws with
  |nil=>simp at h1
  |cons w l=>exact⟨w,l,rfl⟩
 rw[WY]at r3 hke ⊢
 refine T.loop (λq=>∃c w l kk,w0::l0=c++w::l/\Rs toks kk (nmS w::(kJ true l++mkS (bs [41])::r))/\kk+(kJ true l).length=k+((kJ true l0).length+3)/\q=(toks,(kk:Int),[a],c,())) (λq=>(w0::l0).length-q.2.2.2.1.length) ⟨[],w0,l0,k+1+1+1,rfl,by simpa using r3,by omega,rfl⟩ ?_
 rintro _ ⟨c,w,l,kk,hw,hr,hk,rfl⟩
 dsimp only
 have hm:w∈w0::l0:=by rw[hw];simp
 have hlen:c.length+l.length+1<=12:=by have:=dn List.length hw;have:=h1.2;simp only[ak,aL]at *;omega
 have b6m:(w0::l0).length=c.length+(l.length+1):=by rw[hw,ak,aL]
 have hnw:w∉c:=λq=>by rw[hw]at h3;exact(dN.1 h3).2.2 w q w (by simp) rfl
 obtain⟨e,a1,_,_⟩:=Jg hr
 have e2:(atI toks (kk:Int) iU).2.1=w:=dn (·.2.1) e
 obtain⟨_,_,_,hr1⟩:=dX hr
 have hkt:=tZ hr
 refine T.aN (b1D hr (h2 w hm) [a]) (T.cf rfl (T.grd a1 (T.cf (by rw[dI,aW];omega) ?_)))
 dsimp only
 rw[e2,bf (by omega) (by omega)]
 refine T.aN (zi c w (by omega)) (T.cf (YV hnw) (T.grd (by rw[jD,aJ];omega) ?_))
 cases l with
 |nil =>
  have hr1:Rs toks (kk+1) (mkS (bs [41])::r):=hr1
  refine T.aN (Dg hr1 (Bl λq=>absurd q.2 (by decide)) [a]) (T.cf rfl (T.aN (Ar hr1 rfl rfl [a]) (T.ct rfl (T.out ?_))))
  have:(kJ true []).length=0:=rfl
  rw[this]at hk
  rw[hw,show kk+1+1=k+((nmS w0::kJ true l0).length+4) by rw[aL];omega]
 |cons w' l =>
  rw[WX]at hr1 hk
  obtain⟨_,_,_,hr2⟩:=dX hr1
  refine T.aN (Ar hr1 rfl rfl [a]) (T.ct rfl (T.go ⟨c++[w],w',l,kk+1+1,by rw[hw];simp,hr2,by simp only[aL]at hk ⊢;omega,rfl⟩ ?_))
  dsimp only
  rw[ak,aJ];omega
end
def pt(e:DS0)(s d:Nat):cK:=(e,(s:Int),(d:Int),())
def pq(x:DS0×Nat×Nat):cK:=pt x.1 x.2.1 x.2.2
section
variable{q:List (DS0×Nat×Nat)}
def tkS(q:List (DS0×Nat×Nat))(k:Nat):Nat:=1+((q.take k).map (·.2.1)).sum
def tkD(q:List (DS0×Nat×Nat))(k:Nat):Nat:=((q.take k).map (·.2.2)).foldl max 0
def z0S:DS0:=(0,bs [],[],0,0,[],())
def Cz(q:List (DS0×Nat×Nat))(k:Nat):List DS0:=(q.take k).map (·.1)++List.replicate (q.length-k) z0S
theorem b4j{k:Nat}(h:k<q.length):tkS q (k+1)=tkS q k+q[k].2.1:=by
 unfold tkS;rw[jy h,aU,jH];simp;omega
theorem a3N{k:Nat}(h:k<q.length):tkD q (k+1)=max (tkD q k) q[k].2.2:=by
 unfold tkD;rw[jy h,aU,iR];rfl
theorem Wz{n:Nat}(h:∀x∈q,x.2.2<=n):∀k,k<=q.length->tkD q k<=n
 |0,_=>bN _
 |k+1,hk=>by
  have:=Wz h k (by omega)
  have:=h q[k] (jA _)
  rw[a3N (by omega)];omega
theorem a9g:∀k,k<=q.length->tkS q k<=tkS q q.length:=λk hk=>by
 unfold tkS
 have:(q.map (·.2.1)).sum=((q.take k).map (·.2.1)).sum+((q.drop k).map (·.2.1)).sum:=by rw[<- jH,<- aU,qL]
 rw[mI,this];omega
theorem b1U{k:Nat}(h:k<q.length):(Cz q k).set k q[k].1=Cz q (k+1):=by
 unfold Cz
 rw[jy h,aU,show q.length-k=(q.length-(k+1))+1 by omega,wO,List.set_append_right _ _ (by simp;omega)]
 have:k-((q.take k).map (·.1)).length=0:=by simp;omega
 rw[this];simp
theorem Zi{op:Int}{n:Nat}(hn:n<=15)(hq:q.length<=300)(hs:tkS q q.length<=300)(hd:∀x∈q,x.2.2<=n):∃d,d<=n+1/\Gq op (q.map pq)=some (pt (op,bs [],[],0,0,ou (q.map (·.1)),()) (tkS q q.length) d,()):=by
 have hD:=Wz hd
 have hS:=a9g (q:=q)
 have hL:aA (q.map pq)=(q.length:Int):=by rw[aW,bA]
 have hat:∀k (h:k<q.length),atI (q.map pq) (k:Int) sH=pq q[k]:=λk h=>by unfold atI;rw[fG,bB,aT,ah h];rfl
 refine⟨tkD q q.length+1,by have:=hD q.length (aS _);omega,T.eq ?_⟩
 unfold Gq
 refine T.along q.length (λk:Nat=>(op,q.map pq,q.map pq,aA (q.map pq),(k:Int),0,bs [],0,0,0,0,0,bs [],0,0,((tkS q k:Nat):Int),((tkD q k:Nat):Int),())) (λk hk=>?_) ?_
 .dsimp only
  have h1:=hD k (by omega)
  have h2:=hS k (by omega)
  have h3:=hS (k+1) (by omega)
  have h4:=hD (k+1) (by omega)
  have e1:=b4j hk
  have e2:=a3N hk
  refine T.ct (by rw[bS,hL];omega) (T.grd (by rw[bT,hL];omega) (T.go ?_ (by omega)))
  rw[hat k hk]
  unfold pq pt
  dsimp only
  rw[bf (by omega) (by omega),bf (by omega) (by omega),e1,e2,show tu ((tkD q k:Nat):Int) ((q[k].2.2:Nat):Int)=((max (tkD q k) q[k].2.2:Nat):Int) by unfold tu;omega]
  rfl
 .dsimp only
  have h1:=hD q.length (aS _)
  refine T.cf (by rw[cO,hL];omega) (T.kW ?_)
  rw[bf (by omega) (by omega)]
  refine T.aN (v:=(false,())) ?_ (T.cf rfl (T.grd (by rw[Kh,hL];omega) ?_))
  .show some (cond (iLt 300 ((tkS q q.length:Nat):Int)) true (iLt 16 (((tkD q q.length:Nat):Int)+1)),())=_
   rw[show iLt 300 ((tkS q q.length:Nat):Int)=false by rw[cO];omega,show iLt 16 (((tkD q q.length:Nat):Int)+1)=false by rw[cO];omega];rfl
  have h0:(List.replicate (Int.toNat (aA (q.map pq))) (0,(bs []),([]:List ByteArray),0,0,([]:List AV),()):List DS0)=Cz q 0:=by rw[hL];rfl
  rw[h0]
  refine T.along q.length (λk:Nat=>(q.map pq,aA (q.map pq),(k:Int),0,bs [],0,0,0,0,op,bs [],0,0,((tkS q q.length:Nat):Int),((tkD q q.length:Nat):Int)+1,Cz q k,())) (λk hk=>?_) ?_
  .dsimp only
   refine T.ct (by rw[bS,hL];omega) (T.grd (by rw[bT,hL];omega) (T.grd (by rw[bT,aW];unfold Cz;simp;omega) (T.grd (by rw[y8];unfold Cz;simp;omega) (T.go ?_ (by omega)))))
   rw[hat k hk,bf (by omega) (by omega),<- b1U hk]
   rfl
  .dsimp only
   refine T.cf (by rw[cO,hL];omega) (T.out ?_)
   have:Cz q q.length=q.map (·.1):=by unfold Cz;rw[mI,qJ];simp
   rw[this];rfl
theorem a6t{op:Int}{n:Nat}(hn:n<=15)(h2:2<=q.length)(hq:q.length<=300)(hs:tkS q q.length<=300)(hd:∀x∈q,x.2.2<=n):∃d,d<=n+1/\oO op (q.map pq)=some (pt (op,bs [],[],0,0,ou (q.map (·.1)),()) (tkS q q.length) d,()):=by
 obtain⟨d,h1,h3⟩:=Zi (op:=op) hn hq hs hd
 refine⟨d,h1,?_⟩
 unfold oO
 rw[show iEq (aA (q.map pq)) 1=false by rw[dI,aW,bA];omega,h3]
 rfl
end
def Cn:Nat->DS0->Prop
 |0,_=>False
 |k+1,e=>∀a∈(show List AV from e.2.2.2.2.2.1),Ty.enc tS0 (aQ a)=a/\Cn k (aQ a)
def stE(n:Nat)(e:DS0):List sT:=(iV n e).map strip
theorem S9:∀{l:List AV},(∀a∈l,Ty.enc tS0 (aQ a)=a)->ou (l.map aQ)=l
 |[],_=>rfl
 |a::l,h=>by
  show Ty.enc tS0 (aQ a)::ou (l.map aQ)=a::l
  rw[h a bY,S9 λx hx=>h x (bG _ hx)]
theorem Rw(op o:Int)(l:List ay):(kV op o l).map strip=cond (cond (iEq o 8) true (cond (iEq o 7) (iNe op 8) false)) (mkS (bs [40])::(l.map strip++[mkS (bs [41])])) (l.map strip):=by
 unfold kV
 cases cond (iEq o 8) true (cond (iEq o 7) (iNe op 8) false)<;>simp[strip,mkT,mkS]
theorem XT{op o:Int}{l:List ay}{x:cK}(ho:¬op=8)(h1:¬(o=7\/o=8)->Un (l.map strip) x)(h2:Fu (l.map strip) x):Un ((kV op o l).map strip) x:=by
 rw[Rw]
 by_cases q:o=7\/o=8
 .rw[show cond (iEq o 8) true (cond (iEq o 7) (iNe op 8) false)=true by rw[mE,qE,kg,kg,mM];omega]
  exact h2.un
 .rw[show cond (iEq o 8) true (cond (iEq o 7) (iNe op 8) false)=false by rw[lH,rT,dI,dI];omega]
  exact h1 q
theorem a9W{o:Int}{l:List ay}{x:cK}(h1:¬o=8->Fa (l.map strip) x)(h2:Fu (l.map strip) x):Fa ((kV 8 o l).map strip) x:=by
 rw[Rw]
 by_cases q:o=8
 .rw[show cond (iEq o 8) true (cond (iEq o 7) (iNe 8 8) false)=true by rw[mE,kg];exact .inl q]
  exact h2.un.fa
 .rw[show cond (iEq o 8) true (cond (iEq o 7) (iNe 8 8) false)=false by rw[lH,rT,dI,uh];exact⟨q,.inr rfl⟩]
  exact h1 q
theorem Ru:∀(n:Nat) (e:DS0),n<=16->okE n e=true->Cn n e->szE n e<=300->∃d,d<=n/\(¬(e.1=7\/e.1=8)->Un (stE n e) (pt e (szE n e) d))/\(¬e.1=8->Fa (stE n e) (pt e (szE n e) d))/\Fu (stE n e) (pt e (szE n e) d)
 |0,e,_,h,_,_=>by cases h
 |n+1,(op,nm,ws,lo,hi,l,()),hn,h,hc,hs=>by
  unfold okE at h
  rw[dx]at h
  obtain⟨hnd,ha⟩:=h
  have ha:∀a∈l,okE n (aQ a)=true:=aD.1 ha
  obtain⟨h18,_,_,_,_,hnil⟩:=zN hnd
  unfold qY at hnd
  simp only[dx]at hnd
  obtain⟨_,_,hnm,hwr,hrn,har⟩:=hnd
  have hz:szE (n+1) (op,nm,ws,lo,hi,l,())=1+(List.map (λa=>szE n (aQ a)) l).sum:=rfl
  have hc:∀a∈l,Ty.enc tS0 (aQ a)=a/\Cn n (aQ a):=hc
  have lift:∀{x:cK},Un (stE (n+1) (op,nm,ws,lo,hi,l,())) x->(¬(op=7\/op=8)->Un (stE (n+1) (op,nm,ws,lo,hi,l,())) x)/\(¬op=8->Fa (stE (n+1) (op,nm,ws,lo,hi,l,())) x)/\Fu (stE (n+1) (op,nm,ws,lo,hi,l,())) x:=λu=>⟨λ_=>u,λ_=>u.fa,u.fa.fu⟩
  have leaf:op<=5->l=[]:=λq=>hnil (by omega)
  have now:¬op=4->ws=[]:=λq=>by
   have hwr:zC op ws=true:=hwr
   unfold zC at hwr;rw[show iEq op 4=false by rw[dI];exact q]at hwr
   exact bC.1 (of_decide_eq_true hwr)
  have nor:¬op=5->lo=0/\hi=0:=λq=>by
   have hrn:zJ op lo hi=true:=hrn
   unfold zJ at hrn;rw[show iEq op 5=false by rw[dI];exact q]at hrn
   exact⟨kg.mp (dx.mp hrn).1,kg.mp (dx.mp hrn).2⟩
  have non:¬(op=3\/op=4\/op=5)->nm=bs []:=λq=>by
   have hnm:JK op nm=true:=hnm
   unfold JK at hnm
   rw[show cond (cond (iEq op 3) true (iEq op 4)) true (iEq op 5)=false by rw[lH,lH,dI,dI,dI];omega]at hnm
   exact vX.mp hnm
  have hlz:∀(m:List AV),m.length<=(List.map (λa=>szE n (aQ a)) m).sum:=λm=>by
   induction m with
   |nil=>exact bN _
   |cons a m ih=>have:=Bt n (aQ a);rw[bg,fM,aL];omega
  have hll:=hlz l
  have ih:∃dd:AV->Nat,∀a∈l,dd a<=n/\(¬((aQ a).1=7\/(aQ a).1=8)->Un (stE n (aQ a)) (pq (aQ a,szE n (aQ a),dd a)))/\(¬(aQ a).1=8->Fa (stE n (aQ a)) (pq (aQ a,szE n (aQ a),dd a)))/\Fu (stE n (aQ a)) (pq (aQ a,szE n (aQ a),dd a)):=by
   have:∀a∈l,∃d,d<=n/\(¬((aQ a).1=7\/(aQ a).1=8)->Un (stE n (aQ a)) (pq (aQ a,szE n (aQ a),d)))/\(¬(aQ a).1=8->Fa (stE n (aQ a)) (pq (aQ a,szE n (aQ a),d)))/\Fu (stE n (aQ a)) (pq (aQ a,szE n (aQ a),d)):=λa hm=>by
    have:szE n (aQ a)<=(List.map (λa=>szE n (aQ a)) l).sum:=by
     obtain⟨s,t,rfl⟩:=List.append_of_mem hm
     rw[aU,jH,bg,fM];omega
    exact Ru n (aQ a) (by omega) (ha a hm) (hc a hm).2 (by omega)
   exact⟨λa=>open Classical in if h:a∈l then(this a h).choose else 0,λa h=>by dsimp only;rw[dif_pos h];exact(this a h).choose_spec⟩
  obtain⟨dd,ih⟩:=ih
  have hq:∀m:List AV,(m.map λa=>(aQ a,szE n (aQ a),dd a)).map (·.1)=m.map aQ:=λm=>by rw[fH];rfl
  have hk:tkS (l.map λa=>(aQ a,szE n (aQ a),dd a)) (l.map λa=>(aQ a,szE n (aQ a),dd a)).length=szE (n+1) (op,nm,ws,lo,hi,l,()):=by
   unfold tkS;rw[mI,fH,hz];rfl
  have hdd:∀x∈l.map λa=>(aQ a,szE n (aQ a),dd a),x.2.2<=n:=λx hx=>by
   obtain⟨a,hm,rfl⟩:=bX.1 hx;exact(ih a hm).1
  have hqe:ou ((l.map λa=>(aQ a,szE n (aQ a),dd a)).map (·.1))=l:=by rw[hq];exact S9 λa hm=>(hc a hm).1
  have hpq:(l.map λa=>(aQ a,szE n (aQ a),dd a)).map pq=l.map λa=>pq (aQ a,szE n (aQ a),dd a):=by rw[fH];rfl
  have hql:(l.map λa=>(aQ a,szE n (aQ a),dd a)).length=l.length:=bA _
  refine F9 h18 (λq=>?_) (λq=>?_) (λq=>?_) (λq=>?_) (λq=>?_) (λq=>?_) (λq=>?_)
  .have e1:=leaf (by omega);have e2:=now (by omega);obtain⟨e3,e4⟩:=nor (by omega);have e5:=non (by omega)
   subst q e1 e2 e3 e4 e5
   exact⟨1,by omega,lift (I4 (ts:=[nmS (bs [116,114,117,101])]) (aS _) λtoks r k hR hF=>⟨a5M hR,DX hR (by decide)⟩)⟩
  .have e1:=leaf (by omega);have e2:=now (by omega);obtain⟨e3,e4⟩:=nor (by omega);have e5:=non (by omega)
   subst q e1 e2 e3 e4 e5
   exact⟨1,by omega,lift (I4 (ts:=[nmS (bs [102,97,108,115,101])]) (aS _) λtoks r k hR hF=>⟨a1G hR,DX hR (by decide)⟩)⟩
  .have e1:=leaf (by omega);have e2:=now (by omega);obtain⟨e3,e4⟩:=nor (by omega)
   subst q e1 e2 e3 e4
   have hnm:dR nm=true:=hnm
   exact⟨1,by omega,lift (I4 (ts:=[nmS nm]) (aS _) λtoks r k hR hF=>⟨a5N hR hnm hF,DX hR (IW hnm (by kernel_rfl))⟩)⟩
  .have e1:=leaf (by omega);obtain⟨e3,e4⟩:=nor (by omega)
   subst q e1 e3 e4
   have hnm:dR nm=true:=hnm
   have hwr:rO ws=true:=hwr
   unfold rO at hwr
   simp only[dx,eT,D6]at hwr
   obtain⟨w1,w2,w3⟩:=hwr
   have e:stE (n+1) (4,nm,ws,0,0,[],())=nmS nm::nmS (bs [105,110])::mkS (bs [40])::(kJ false ws++[mkS (bs [41])]):=by
    show List.map strip ([nmT nm,nmT (bs [105,110]),mkT (bs [40])]++(nD ws++[mkT (bs [41])]))=_
    rw[aU,aU];rfl
   refine⟨1,by omega,lift (I4 (by rw[e];simp) λtoks r k hR hF=>?_)⟩
   rw[e]at hR ⊢
   have hR:Rs toks k (nmS nm::nmS (bs [105,110])::mkS (bs [40])::(kJ false ws++mkS (bs [41])::r)):=by simpa using hR
   refine⟨?_,DX hR (IW hnm (by kernel_rfl))⟩
   have:=b4Z hR hnm w1 (aD.1 w2) w3
   rw[show k+(nmS nm::nmS (bs [105,110])::mkS (bs [40])::(kJ false ws++[mkS (bs [41])])).length=k+((kJ false ws).length+4) by simp]
   exact this
  .have e1:=leaf (by omega);have e2:=now (by omega)
   subst q e1 e2
   have hnm:dR nm=true:=hnm
   have hrn:(iLe (-1000000000) lo&&(iLe lo 1000000000&&(iLe (-1000000000) hi&&(iLe hi 1000000000&&iLe lo hi))))=true:=hrn
   simp only[dx,eG]at hrn
   exact⟨1,by omega,lift (I4 (ts:=[nmS nm,nmS (bs [102,114,111,109]),nuS lo,nmS (bs [116,111]),nuS hi]) (by simp) λtoks r k hR hF=>⟨a5O hR hnm hrn.1 hrn.2.2.2.1 hrn.2.2.2.2,DX hR (IW hnm (by kernel_rfl))⟩)⟩
  .have e2:=now (by omega);obtain⟨e3,e4⟩:=nor (by omega);have e5:=non (by omega)
   subst q e2 e3 e4 e5
   have har:iEq (l.length:Int) 1=true:=har
   rw[kg]at har
   obtain⟨d,h1,h2⟩:=Zi (op:=6) (n:=n) (by omega) (by rw[hql];omega) (by rw[hk];exact hs) hdd
   rw[hk,hqe,hpq]at h2
   refine⟨d,h1,lift ?_⟩
   match l,har,ih,h2 with
   |[a],_,ih,h2 =>
    have ia:=ih a bY
    have e:stE (n+1) (6,bs [],[],0,0,[a],())=nmS (bs [110,111,116])::(kV 6 (aQ a).1 (iV n (aQ a))).map strip:=by
     show List.map strip ([nmT (bs [110,111,116])]++([]++(kV 6 (aQ a).1 (iV n (aQ a))++[])))=_
     rw[cu];rfl
    rw[e]
    exact Un.not (XT (by decide) ia.2.1 ia.2.2.2) h2
  .have e2:=now (by omega);obtain⟨e3,e4⟩:=nor (by omega);have e5:=non (by omega)
   subst e2 e3 e4 e5
   have h2:2<=l.length:=by
    have har:EG op (l.length:Int)=true:=har
    rcases q with rfl|rfl
    .have har:iLe 2 (l.length:Int)=true:=har
     rw[eG]at har;omega
    .have har:iLe 2 (l.length:Int)=true:=har
     rw[eG]at har;omega
   obtain⟨d,h1,h3⟩:=a6t (op:=op) (n:=n) (by omega) (by rw[hql];exact h2) (by rw[hql];omega) (by rw[hk];exact hs) hdd
   rw[hk,hqe,hpq]at h3
   obtain⟨a,l',rfl⟩:∃a l',l=a::l':=by
    cases l with
    |nil=>simp at h2
    |cons a l=>exact⟨a,l,rfl⟩
   rcases q with rfl|rfl
   .have fa:Fa (stE (n+1) (7,bs [],[],0,0,a::l',())) _:=b24 (f:=λa=>kV 7 (aQ a).1 (iV n (aQ a))) (x:=λa=>pq (aQ a,szE n (aQ a),dd a)) (λb hb=>XT (by decide) (ih b hb).2.1 (ih b hb).2.2.2) h3
    exact⟨d,h1,λq=>absurd (.inl rfl) q,λ_=>fa,fa.fu⟩
   .have fu:Fu (stE (n+1) (8,bs [],[],0,0,a::l',())) _:=b6v (f:=λa=>kV 8 (aQ a).1 (iV n (aQ a))) (x:=λa=>pq (aQ a,szE n (aQ a),dd a)) (λb hb=>a9W (ih b hb).2.2.1 (ih b hb).2.2.2) h3
    exact⟨d,h1,λq=>absurd (.inr rfl) q,λq=>absurd rfl q,fu⟩
theorem b1x{n:Nat}{e:DS0}(h:okE n e=true):1<=e.1/\e.1<=8:=by
 obtain⟨op,nm,ws,lo,hi,l,⟨⟩⟩:=e
 cases n with
 |zero=>cases h
 |succ n=>unfold okE at h;exact(zN (dx.mp h).1).1
theorem pz{n m:Nat}(h:n+m<=1000000000):fits (n+m) 40=true:=by rw[jD];omega
theorem binds{o op:Int}(h:1<=o/\o<=8)(h':op=6\/op=7\/op=8):cond (cond (iEq o 7) true (iEq o 8)) (iLe ((atI opsL o (ByteArray.empty,false,0,0,0,())).2.2.2.2.1) ((atI opsL op (ByteArray.empty,false,0,0,0,())).2.2.2.2.1)) false=cond (iEq o 8) true (cond (iEq o 7) (iNe op 8) false):=by
 have:o=1\/o=2\/o=3\/o=4\/o=5\/o=6\/o=7\/o=8:=by omega
 rcases this with rfl|rfl|rfl|rfl|rfl|rfl|rfl|rfl<;>rcases h' with rfl|rfl|rfl<;>rfl
def PE(n:Nat)(y:DS0×List ay×Unit):Prop:=XX y.1/\okE n y.1=true/\y.2.1.length+40*szE n y.1<=990000
def QE(n:Nat)(y:DS0×List ay×Unit)(z:List ay×Unit):Prop:=z=(y.2.1++iV n y.1,())
theorem a4M{n:Nat}{self:DS0×List ay×Unit->Option (List ay×Unit)}(hs:∀y,PE n y->T (self y) (QE n y)){op:Int}(ho:op=6\/op=7\/op=8){e:DS0}{l:List ay}(hx:XX e)(hk:okE n e=true)(hl:l.length+1+40*szE n e<=990000):T (JU self op e l) (λz=>z=(l++kV op e.1 (iV n e),())):=by
 have h18:=b1x hk
 have hn:=ES n e hk
 have b9:∀(k:Int) (b:Bool),1<=k/\k<=8->or (bnd k ((9:Nat):Int)) b=true:=λk b h=>by rw[lg,bT];left;omega
 unfold JU kV
 refine T.grd (b9 _ _ h18) (T.grd (b9 _ _ (by omega)) ?_)
 rw[binds h18 ho]
 refine T.cnd (λhc=>?_) (λhc=>?_)<;>rw[hc]
 .refine T.aN (show Bc (bs [40])=some (mkT (bs [40]),()) from rfl) (T.grd (pz (by simp;omega)) (T.call (hs (e,l++[mkT (bs [40])],()) ⟨hx,hk,by simp;omega⟩) (λy hy=>?_)))
  rw[show y=_ from hy]
  refine T.aN (show Bc (bs [41])=some (mkT (bs [41]),()) from rfl) (T.grd (pz (by simp;omega)) (T.ret ?_))
  simp
 .refine T.call (hs (e,l,()) ⟨hx,hk,by dsimp only;omega⟩) (λy hy=>T.ret ?_)
  rw[show y=_ from hy];rfl
theorem a8W{op:Int}(h:op=7\/op=8):(atI opsL op (ByteArray.empty,false,0,0,0,())).1=cond (iEq op 7) (bs [97,110,100]) (bs [111,114]):=by rcases h with rfl|rfl<;>rfl
theorem xQ{α:Type}{l a b:List α}{t z:α}(h:l=a++t::b):atI l (a.length:Int) z=t:=by rw[h];exact Qz a b t z rfl
theorem add_one{α:Type}{a:List α}{x:α}(h:a.length<=1000000000):aR .i64 (a.length:Int) 1=((a++[x]).length:Int):=by rw[bf (by omega) (by omega),ak,aJ];omega
theorem vg{α:Type}{l a b:List α}(h:l=a++b)(hb:(a.length:Int)<(l.length:Int)):∃x c,b=x::c/\l=a++x::c:=by
 cases b with
 |nil=>rw[h,cu]at hb;omega
 |cons x c=>exact⟨x,c,rfl,h⟩
theorem sJ{α:Type}{l a b:List α}(h:l=a++b)(hb:(l.length:Int)<=(a.length:Int)):l=a:=by
 rw[h,ak]at hb
 rw[h,bC.1 (show b.length=0 by omega),cu]
theorem b6R{F:Nat}{x:DS0×List ay×Unit}(h:PE F x):T (eH (λself (x:DS0×List ay×Unit)=>Mv self x.1 x.2.1) F x) (QE F x):=by
 refine T.iter PE QE (λn x h self hs=>?_) (λx h=>by have:=h.2.1;cases this) F x h
 obtain⟨⟨op,nm,ws,lo,hi,al,⟨⟩⟩,l,⟨⟩⟩:=x
 obtain⟨hx,hk,hl⟩:=h
 obtain⟨hwl,hA⟩:=hx.out
 have hk0:=hk
 unfold okE at hk
 rw[dx]at hk
 obtain⟨hn,ha0⟩:=hk
 have ha:=aD.1 ha0
 clear ha0 hk0
 dsimp only at ha hl hwl hA
 obtain⟨h18,h3,hw,h5,h6,_⟩:=zN hn
 have hz:szE (n+1) (op,nm,ws,lo,hi,al,())=1+(List.map (λa=>szE n (aQ a)) al).sum:=rfl
 rw[hz]at hl
 unfold Mv
 dsimp only
 refine T.grd (by rw[bT];omega) ?_
 refine F9 h18 (λq=>?_) (λq=>?_) (λq=>?_) (λq=>?_) (λq=>?_) (λq=>?_) (λq=>?_)
 .subst q;exact T.grd (pz (by simp;omega)) (T.ret rfl)
 .subst q;exact T.grd (pz (by simp;omega)) (T.ret rfl)
 .subst q;exact T.grd (pz (by simp;omega)) (T.ret rfl)
 .subst q
  have c1v:=(hw rfl).1
  have hL:=aW ws
  have g2:∀a b:List ByteArray,ws=a++b->(gD [mkT (bs [44])] (λw=>[nmT w]) false a).length<=2*a.length/\a.length<=12:=λa b e=>⟨G9 a,by have:=dn List.length e;rw[ak]at this;omega⟩
  refine T.grd (pz (by simp;omega)) (T.loop (λq=>∃a b,ws=a++b/\q=(ws,aA ws,(a.length:Int),l++([nmT nm,nmT (bs [105,110]),mkT (bs [40])]++nD a),())) (λq=>ws.length-q.2.2.1.toNat) ⟨[],ws,rfl,rfl⟩ ?_)
  rintro _ ⟨a,b,hab,rfl⟩
  obtain⟨g1,g2⟩:=g2 a b hab
  have g1:(nD a).length<=2*a.length:=g1
  dsimp only
  refine T.cnd (λhc=>?_) (λhc=>?_)<;>simp only[bS,cO]at hc
  .obtain⟨w,c,rfl,hab⟩:=vg hab (by omega)
   refine T.grd (by rw[bT];omega) ?_
   rw[xQ hab]
   have nx:∀o:List ay,o=l++([nmT nm,nmT (bs [105,110]),mkT (bs [40])]++nD (a++[w]))->T (some (Sum.inl (β:=List ay×Unit) (ws,aA ws,aR .i64 (a.length:Int) 1,o,()))) (LQ (λq=>∃a b,ws=a++b/\q=(ws,aA ws,(a.length:Int),l++([nmT nm,nmT (bs [105,110]),mkT (bs [40])]++nD a),())) (λq=>ws.length-q.2.2.1.toNat) (ws.length-(a.length:Int).toNat) (QE (n+1) ((4,nm,ws,lo,hi,al,()),l,()))):=λo ho=>by
    rw[add_one (x:=w) (by omega),ho]
    refine T.go ⟨a++[w],c,by rw[hab,aZ];rfl,rfl⟩ ?_
    dsimp only;rw[ak,aJ];omega
   have e:nD (a++[w])=nD a++(cond (iLt 0 (a.length:Int)) [mkT (bs [44])] []++[nmT w]):=zF _ _ a w
   refine T.cnd (λhp=>?_) (λhp=>?_)
   .refine T.aN (show Bc (bs [44])=some (mkT (bs [44]),()) from rfl) (T.grd (pz (by simp;omega)) (T.aN (show uK w=some (nmT w,()) from rfl) (T.grd (pz (by simp;omega)) (nx _ ?_))))
    rw[e,hp];simp
   .refine T.aN (show uK w=some (nmT w,()) from rfl) (T.grd (pz (by simp;omega)) (nx _ ?_))
    rw[e,hp];simp
  .have he:=sJ hab (by omega)
   refine T.kW (T.aN (show Bc (bs [41])=some (mkT (bs [41]),()) from rfl) (T.grd (pz (by simp;omega)) (T.ret ?_)))
   show(_,())=(l++([nmT nm,nmT (bs [105,110]),mkT (bs [40])]++(nD ws++[mkT (bs [41])])),())
   rw[he];simp
 .subst q;exact T.grd (pz (by simp;omega)) (T.ret rfl)
 .subst q
  have h1:=h6 rfl
  match al,h1 with
  |[a],_ =>
   have hm:a∈[a]:=by simp
   simp at hl
   refine T.grd (pz (by simp;omega)) (T.grd (hA.g (mU _) (by simp)) (T.call (a4M (e:=aQ a) hs (.inl rfl) (hA.2 a hm).2 (ha a hm) (by simp;omega)) (λy hy=>T.ret ?_)))
   rw[hy]
   show(_,())=(l++([nmT (bs [110,111,116])]++([]++(kV 6 (aQ a).1 (iV n (aQ a))++[]))),())
   rw[cu,fF,<- aZ];rfl
 .have ho:op=6\/op=7\/op=8:=.inr q
  have e1:iV (n+1) (op,nm,ws,lo,hi,al,())=gD [nmT (cond (iEq op 7) (bs [97,110,100]) (bs [111,114]))] (λa=>kV op (aQ a).1 (iV n (aQ a))) false al:=by rcases q with rfl|rfl<;>rfl
  have h7:∀k:Int,k<=6->iEq op k=false:=λk hk=>by rw[dI];omega
  rw[h7 1 (by omega),h7 2 (by omega),h7 3 (by omega),h7 4 (by omega),h7 5 (by omega),h7 6 (by omega),a8W q]
  unfold QE
  rw[e1]
  generalize cond (iEq op 7) (bs [97,110,100]) (bs [111,114])=wd
  dsimp only
  have hL:=aW al
  have hal:=hA.1
  have sl:∀a c,al=a++c->(gD [nmT wd] (λa=>kV op (aQ a).1 (iV n (aQ a))) false a).length<=40*(List.map (λa=>szE n (aQ a)) a).sum:=λa c e=>by
   rw[<- JA]
   exact zn a false λx hm=>by
    have a1:=ES n _ (ha x (by rw[e];simp[hm]))
    have a2:=OD op (aQ x).1 (iV n (aQ x))
    rw[aJ];omega
  have lm:∀(f:AV->Nat) (m:List AV),(∀x,1<=f x)->m.length<=(m.map f).sum:=λf m h=>by
   induction m with
   |nil=>exact bN _
   |cons x m ih=>have:=h x;rw[bg,fM,aL];omega
  refine T.loop (λq=>∃a b,al=a++b/\q=(al,aA al,(a.length:Int),l++gD [nmT wd] (λa=>kV op (aQ a).1 (iV n (aQ a))) false a,op,nm,ws,lo,hi,al,wd,(atI opsL op (ByteArray.empty,false,0,0,0,())).2.1,(atI opsL op (ByteArray.empty,false,0,0,0,())).2.2.1,(atI opsL op (ByteArray.empty,false,0,0,0,())).2.2.2.1,(atI opsL op (ByteArray.empty,false,0,0,0,())).2.2.2.2.1,())) (λq=>al.length-q.2.2.1.toNat) ⟨[],al,rfl,by simp[gD]⟩ ?_
  rintro _ ⟨a,b,hab,rfl⟩
  dsimp only
  have hsl:=sl a b hab
  refine T.cnd (λhc=>?_) (λhc=>?_)<;>simp only[bS,cO]at hc
  .obtain⟨x,c,rfl,hab⟩:=vg hab (by omega)
   have hm:x∈al:=by rw[hab];simp
   have hsum:(List.map (λa=>szE n (aQ a)) al).sum=(List.map (λa=>szE n (aQ a)) a).sum+(szE n (aQ x)+(List.map (λa=>szE n (aQ a)) c).sum):=by rw[hab,aU,jH,bg,fM]
   have hla:=lm (λa=>szE n (aQ a)) a λx=>Bt n _
   refine T.grd (hA.g (by omega) (by omega)) ?_
   rw[xQ hab]
   have nx:∀o:List ay,o=l++gD [nmT wd] (λa=>kV op (aQ a).1 (iV n (aQ a))) false (a++[x])->T (some (Sum.inl (β:=List ay×Unit) (al,aA al,aR .i64 (a.length:Int) 1,o,op,nm,ws,lo,hi,al,wd,(atI opsL op (ByteArray.empty,false,0,0,0,())).2.1,(atI opsL op (ByteArray.empty,false,0,0,0,())).2.2.1,(atI opsL op (ByteArray.empty,false,0,0,0,())).2.2.2.1,(atI opsL op (ByteArray.empty,false,0,0,0,())).2.2.2.2.1,()))) (LQ (λq=>∃a b,al=a++b/\q=(al,aA al,(a.length:Int),l++gD [nmT wd] (λa=>kV op (aQ a).1 (iV n (aQ a))) false a,op,nm,ws,lo,hi,al,wd,(atI opsL op (ByteArray.empty,false,0,0,0,())).2.1,(atI opsL op (ByteArray.empty,false,0,0,0,())).2.2.1,(atI opsL op (ByteArray.empty,false,0,0,0,())).2.2.2.1,(atI opsL op (ByteArray.empty,false,0,0,0,())).2.2.2.2.1,())) (λq=>al.length-q.2.2.1.toNat) (al.length-(a.length:Int).toNat) (λz=>z=(l++gD [nmT wd] (λa=>kV op (aQ a).1 (iV n (aQ a))) false al,()))):=λo ho=>by
    rw[add_one (x:=x) (by omega),ho]
    refine T.go ⟨a++[x],c,by rw[hab,aZ];rfl,rfl⟩ ?_
    dsimp only;rw[ak,aJ];omega
   have hq:=fun(o:List ay) (h:o.length+1+40*szE n (aQ x)<=990000)=>a4M (l:=o) hs ho (hA.2 x hm).2 (ha x hm) h
   refine T.cnd (λhp=>?_) (λhp=>?_)
   .refine T.aN (show uK wd=some (nmT wd,()) from rfl) (T.grd (pz (by simp;omega)) (T.call (hq _ (by simp;omega)) (λy hy=>?_)))
    rw[hy]
    refine nx _ ?_
    rw[zF,hp];simp
   .refine T.call (hq _ (by simp;omega)) (λy hy=>?_)
    rw[hy]
    refine nx _ ?_
    rw[zF,hp];simp
  .have he:=sJ hab (by omega)
   refine T.out ?_
   rw[<- he]
theorem GL{e:DS0}(h:je e=true):okE 16 e=true/\szE 16 e<=300/\okE 10000 e=true/\szE 10000 e<=300/\iV 10000 e=iV 16 e:=by
 unfold je at h
 rw[dx,eT]at h
 have a:=Wt h.1 9984
 have b:=(FE (FH h.1) 9984).2.1
 exact⟨h.1,h.2,a.2,by rw[show szE 10000 e=szE 16 e from b];exact h.2,a.1⟩
def tk(e:DS0):List ay:=iV 16 e
theorem xW{e:DS0}(h:je e=true):(tk e).length<=12000/\∀t∈tk e,iw t/\¬t.1=3:=by
 obtain⟨a,b,_⟩:=GL h
 have:=ES 16 e a
 exact⟨by unfold tk;omega,Wu 16 e a⟩
theorem a9d{e:DS0}(hx:XX e)(h:je e=true):MK e=some (tk e,()):=by
 obtain⟨_,_,a,b,c⟩:=GL h
 refine T.eq ?_
 unfold MK a15 tk
 rw[<- c]
 exact b6R (x:=(e,[],())) ⟨hx,a,by dsimp only;rw[dS];omega⟩
def wbT(f:List AV->List ay)(a:AV):List ay:=nmT (aM a).1::mkT (bs [58])::(tk (aM a).2.1++f (aM a).2.2.1)
def bkT:Nat->List AV->List ay
 |0,_=>[]
 |k+1,l=>cond (iEq (l.length:Int) 0) [] ([nmT (bs [117,110,108,101,115,115]),mkT (bs [40])]++(gD [mkT (bs [44])] (wbT (bkT k)) false l++[mkT (bs [41])]))
theorem xC{k:Nat}{l:List AV}(h:okB (k+1) l=true):∀a∈l,dR (aM a).1=true/\je (aM a).2.1=true/\okB k (aM a).2.2.1=true:=λa ha=>by
 have:=aD.1 h a ha
 simp only[dx]at this
 exact this
theorem Aa:∀k,bkT k []=[]
 |0=>rfl
 |k+1=>rfl
theorem JH{l:List AV}(h:okB 0 l=true):l=[]:=bC.1 (of_decide_eq_true h)
theorem a4J:∀{k:Nat} {l:List AV},okB k l=true->∀d,bkT (k+1+d) l=bkT (k+1) l
 |0,l,h,d=>by rw[JH h,Aa,Aa]
 |k+1,l,h,d=>by
  rw[show k+1+1+d=(k+1+d)+1 by omega]
  unfold bkT
  have:∀(m:List AV) (b:Bool),(∀a∈m,a∈l)->gD [mkT (bs [44])] (wbT (bkT (k+1+d))) b m=gD [mkT (bs [44])] (wbT (bkT (k+1))) b m:=λm=>by
   induction m with
   |nil=>intro b _;rfl
   |cons a m ih =>
    intro b hm
    show _++(wbT (bkT (k+1+d)) a++_)=_++(wbT (bkT (k+1)) a++_)
    rw[ih true λx hx=>hm x (by simp[hx])]
    unfold wbT
    rw[a4J (xC h a (hm a (by simp))).2.2 d]
  rw[this l false λa h=>h]
theorem Jd:∀(k:Nat) (l:List AV),okB k l=true->(bkT (k+1) l).length<=13000*cnB k l
 |0,l,h=>by rw[JH h];exact bN _
 |k+1,l,h=>by
  have hs:=zn (s:=[mkT (bs [44])]) (f:=wbT (bkT (k+1))) (g:=λa=>12003+13000*cnB k (aM a).2.2.1) l false λa ha=>by
   obtain⟨_,a2,a3⟩:=xC h a ha
   have:=(xW a2).1
   have:=Jd k _ a3
   unfold wbT
   simp;omega
  have e:∀m:List AV,(m.map λa=>12003+13000*cnB k (aM a).2.2.1).sum=12003*m.length+13000*(m.map λa=>cnB k (aM a).2.2.1).sum:=λm=>by
   induction m with
   |nil=>rfl
   |cons a m ih=>rw[bg,fM,ih,bg,fM,aL];omega
  rw[e]at hs
  unfold bkT cnB
  cases hc:iEq (l.length:Int) 0 with
  |true=>exact bN _
  |false =>
   rw[dI]at hc
   show([nmT _,mkT _]++(gD _ _ _ _++[mkT _])).length<=_
   simp only[ak,aL,dS]
   omega
theorem a4K:∀(k:Nat) (l:List AV),okB k l=true->∀t∈bkT (k+1) l,iw t/\¬t.1=3
 |0,l,h=>by rw[JH h];exact λt ht=>by cases ht
 |k+1,l,h=>λt ht=>by
  unfold bkT at ht
  cases hc:iEq (l.length:Int) 0<;>rw[hc]at ht
  .have ht:t∈[nmT (bs [117,110,108,101,115,115]),mkT (bs [40])]++(gD [mkT (bs [44])] (wbT (bkT (k+1))) false l++[mkT (bs [41])]):=ht
   simp only[aG,bD,bJ,or_false]at ht
   rcases ht with(rfl|rfl)|q|rfl
   .exact MN
   .exact qZ (by simp[mkL])
   .refine Bu (P:=λt=>iw t/\¬t.1=3) (λu hu=>by rw[aV.1 hu];exact qZ (by simp[mkL])) l false (λa ha u hu=>?_) t q
    obtain⟨a1,a2,a3⟩:=xC h a ha
    unfold wbT at hu
    simp only[aG,bD]at hu
    rcases hu with rfl|rfl|q|q
    .exact uf (dx.mp a1).1
    .exact qZ (by simp[mkL])
    .exact(xW a2).2 u q
    .exact a4K k _ a3 u q
   .exact qZ (by simp[mkL])
  .cases ht
theorem a5v{k:Nat}{l a b:List AV}{x:AV}(h:okB (k+1) l=true)(hab:l=a++x::b){o:List ay}(ho:o.length+13000*cnB (k+1) l<=940000):(o++gD [mkT (bs [44])] (wbT (bkT (k+1))) false a).length+13000+13000*cnB k (aM x).2.2.1<=940000/\a.length<=1000:=by
 have hs:=zn (s:=[mkT (bs [44])]) (f:=wbT (bkT (k+1))) (g:=λa=>13000+13000*cnB k (aM a).2.2.1) a false λy hy=>by
  obtain⟨_,a2,a3⟩:=xC h y (by rw[hab];simp[hy])
  have:=(xW a2).1
  have:=Jd k _ a3
  unfold wbT
  simp;omega
 have e:∀m:List AV,(m.map λa=>13000+13000*cnB k (aM a).2.2.1).sum=13000*m.length+13000*(m.map λa=>cnB k (aM a).2.2.1).sum:=λm=>by
  induction m with
  |nil=>rfl
  |cons a m ih=>rw[bg,fM,ih,bg,fM,aL];omega
 rw[e]at hs
 have hc:cnB (k+1) l=l.length+(l.map λa=>cnB k (aM a).2.2.1).sum:=rfl
 rw[hc,hab,aU,jH,bg,fM,ak,aL]at ho
 rw[ak]
 omega
def bk(l:List AV):List ay:=bkT 17 l
theorem Yn:∀{k:Nat} {l:List AV},okB k l=true->∀d,okB (k+d) l=true
 |0,l,h,d=>by rw[JH h];cases d<;>rfl
 |k+1,l,h,d=>by
  rw[show k+1+d=(k+d)+1 by omega]
  refine aD.2 λa ha=>?_
  obtain⟨a1,a2,a3⟩:=xC h a ha
  simp only[dx]
  exact⟨a1,a2,Yn a3 d⟩
def kwS(k:Int):ByteArray:=((m64 k).getD (bs [],())).1
theorem IX{k:Int}(h:1<=k/\k<=10):m64 k=some (kwS k,())/\m64 k=some (kwS k,())/\lS (kwS k)=true:=by
 have:k=1\/k=2\/k=3\/k=4\/k=5\/k=6\/k=7\/k=8\/k=9\/k=10:=by omega
 rcases this with rfl|rfl|rfl|rfl|rfl|rfl|rfl|rfl|rfl|rfl<;>exact⟨rfl,rfl,rfl⟩
theorem Ey{c:DS1}(h:gK c=true):(1<=c.1/\c.1<=10)/\lS c.2.1=true/\je c.2.2.1=true/\(okB 16 c.2.2.2.1=true/\cnB 16 c.2.2.2.1<=40)/\(0<eU c.1->0<=c.2.2.2.2.1/\c.2.2.2.2.1<=1073741824):=by
 unfold gK at h
 simp only[dx,eG]at h
 obtain⟨h1,h2,h3,h4,h5⟩:=h
 refine⟨h1,(dx.mp h2).1,h3,?_,λq=>?_⟩
 .unfold Jw at h4
  rw[lg,eT]at h4
  rcases h4 with q|q
  .rw[bC.1 q];exact⟨rfl,bN _⟩
  .rw[dx,dx,eT]at q;exact q.2
 .unfold Dc at h5
  rw[show iEq (eU c.1) 0=false by rw[dI];omega]at h5
  have h5:(iLe 1 c.2.2.2.2.1&&iLe c.2.2.2.2.1 (eU c.1))=true:=h5
  rw[dx,eG,eG]at h5
  have:=RB c.1
  omega
def clT(c:DS1):List ay:=[nmT (kwS c.1),nmT c.2.1,mkT (bs [58])]++(cond (iLt 0 (eU c.1)) [nuT c.2.2.2.2.1,nmT (bs [119,104,101,110])] []++(tk c.2.2.1++(bk c.2.2.2.1++[mkT (bs [59])])))
theorem Vu{c:DS1}(h:gK c=true):∀t∈clT c,iw t:=λt ht=>by
 obtain⟨h1,h2,h3,h4,h5⟩:=Ey h
 unfold clT at ht
 simp only[aG,bD,bJ,or_false]at ht
 rcases ht with(rfl|rfl|rfl)|q|q|q|rfl
 .exact(uf (IX h1).2.2).1
 .exact(uf h2).1
 .exact(qZ (by simp[mkL])).1
 .cases hc:iLt 0 (eU c.1)<;>rw[hc]at q
  .cases q
  .rw[bS]at hc
   have:=h5 hc
   rcases bD.1 q with rfl|q
   .exact(Uf (by omega) (by omega)).1
   .rw[aV.1 q];exact(uf rfl).1
 .exact((xW h3).2 t q).1
 .exact(a4K 16 _ h4.1 t q).1
 .exact(qZ (by simp[mkL])).1
def hrT(n:Int):ay:=(3,bs [],n,0,())
def enL(x:DS3):List (List ay):=[[nmT (bs [101,110,100,111,114,115,101]),hrT x.1.1,nmT (bs [116,111]),hrT x.1.2.1,mkT (bs [58])]]++cond (iLt 0 (aA x.2.1)) [nmT (bs [114,101,109,111,118,101])::(nD x.2.1++[mkT (bs [59])])] []++(List.map clT x.2.2.1++[[nmT (bs [101,110,100]),mkT (bs [59])]])
def o7(w:DS4):List (List ay):=List.map clT w.1++(List.map enL w.2.1).flatten
theorem J5{x:DS3}(h:oQ x=true):(0<=x.1.1/\x.1.1<=876599/\0<=x.1.2.1/\x.1.2.1<=876599)/\List.length (α:=ByteArray) x.2.1<=40/\(∀s∈(show List ByteArray from x.2.1),lS s=true)/\List.length (α:=DS1) x.2.2.1<=40/\∀c∈(show List DS1 from x.2.2.1),gK c=true:=by
 unfold oQ yL lX at h
 simp only[dx,qE,eG,bS,eT]at h
 obtain⟨⟨h1,h2⟩,⟨h3,_⟩,h4,h5⟩:=h
 exact⟨by omega,h2,λs hs=>(dx.mp (aD.1 h3 s hs)).1,h4,aD.1 h5⟩
def stp(s:Option (List Int×Nat))(l:List ay):Option (List Int×Nat) :=
 s.bind λp=>if 4000<p.2+l.length\/16384<p.1.length+(Jr none l).length+1 then none else some (p.1++Jr none l++[10],p.2+l.length)
def fold(ls:List (List ay)):Option (List Int×Nat):=ls.foldl stp (some ([],0))
def b9r:Option (List Int×Nat)->ByteArray×Int×Unit
 |none=>(bs [],4,())
 |some p=>(bsI p.1,0,())
theorem a8U:∀(l:List ByteArray),(∀s∈l,lS s=true)->∀t∈nD l,iw t:=λl h=>Bu (λt ht=>by rw[aV.1 ht];exact(qZ (by simp[mkL])).1) l false λs hs t ht=>by rw[aV.1 ht];exact(uf (h s hs)).1
theorem a4B{x:DS3}(h:oQ x=true):∀l∈enL x,∀t∈l,iw t:=λl hl t ht=>by
 obtain⟨e1,e2,e3,e4,e5⟩:=J5 h
 have hr:∀n:Int,0<=n->n<=876599->iw (hrT n):=λn a b=>.inr (.inr (.inl ⟨rfl,rfl,a,b⟩))
 unfold enL at hl
 rw[aG,aG]at hl
 rcases hl with(hl|hl)|hl
 .rw[aV.1 hl]at ht
  simp only[bD,bJ,or_false]at ht
  rcases ht with rfl|rfl|rfl|rfl|rfl
  .exact(uf rfl).1
  .exact hr _ e1.1 e1.2.1
  .exact(uf rfl).1
  .exact hr _ e1.2.2.1 e1.2.2.2
  .exact(qZ (by simp[mkL])).1
 .cases hc:iLt 0 (aA x.2.1)<;>rw[hc]at hl
  .cases hl
  .rw[aV.1 hl]at ht
   rcases bD.1 ht with rfl|ht
   .exact(uf rfl).1
   .rcases aG.1 ht with ht|ht
    .exact a8U _ e3 t ht
    .rw[aV.1 ht];exact(qZ (by simp[mkL])).1
 .rcases aG.1 hl with hl|hl
  .obtain⟨c,hc,rfl⟩:=bX.1 hl
   exact Vu (e5 c hc) t ht
  .rw[aV.1 hl]at ht
   simp only[bD,bJ,or_false]at ht
   rcases ht with rfl|rfl
   .exact(uf rfl).1
   .exact(qZ (by simp[mkL])).1
theorem Mg{w:DS4}(h:l8 w=true):List.length (α:=DS3) w.2.1<=12/\List.length (α:=DS1) w.1<=40/\(∀c∈(show List DS1 from w.1),gK c=true)/\∀x∈(show List DS3 from w.2.1),oQ x=true:=by
 unfold l8 lX at h
 simp only[dx,eT]at h
 exact⟨h.1,h.2.1.1,aD.1 h.2.1.2,aD.1 h.2.2⟩
theorem a2e{w:DS4}(h:l8 w=true):∀l∈o7 w,∀t∈l,iw t:=λl hl=>by
 obtain⟨_,_,h3,h4⟩:=Mg h
 rcases aG.1 hl with hl|hl
 .obtain⟨c,hc,rfl⟩:=bX.1 hl
  exact Vu (h3 c hc)
 .obtain⟨x,hx,hl⟩:=List.mem_flatten.1 hl
  obtain⟨y,hy,rfl⟩:=bX.1 hx
  exact a4B (h4 y hy) l hl
def un(q:Int×ByteArray×Int):ay:=(q.1,q.2.1,q.2.2,0,())
theorem VQ:∀(l:List ay) (p:Option ay),Jr p l=Jr (p.map λt=>un (strip t)) ((l.map strip).map un)
 |[],_=>rfl
 |t::l,p=>by
  have h:sp p t=sp (p.map λt=>un (strip t)) (un (strip t)):=by cases p<;>rfl
  show sp p t++(aY (tT t)++Jr (some t) l)=sp _ (un (strip t))++(aY (tT t)++Jr (some (un (strip t))) ((l.map strip).map un))
  rw[h,VQ l (some t)];rfl
theorem b61{l w:List ay}(h:l.map strip=w.map strip):Jr none l=Jr none w:=by rw[VQ l,VQ w,h]
theorem len_eq{l w:List ay}(h:l.map strip=w.map strip):l.length=w.length:=by have:=dn List.length h;simpa using this
theorem join_eq{l w:List ay}(h:l.map strip=w.map strip):Al l=Al w:=by unfold Al;rw[b61 h,len_eq h]
theorem ok_eq{l w:List ay}(h:l.map strip=w.map strip)(ok:∀t∈w,iw t):∀t∈l,iw t:=λt ht=>by
 have:strip t∈w.map strip:=by rw[<- h];exact List.mem_map_of_mem ht
 obtain⟨u,hu,e⟩:=bX.1 this
 have a:iw (un (strip u)):=ok u hu
 rw[e]at a
 exact a
theorem b60(p:Option ay):∀l:List ay,(Jr none l).length<=(Jr p l).length
 |[]=>bN _
 |t::l=>by
  show(aY (tT t)++Jr (some t) l).length<=(sp p t++(aY (tT t)++Jr (some t) l)).length
  simp only[ak];omega
def bad(w:List ay):Prop:=4000<w.length\/16384<(Jr none w).length
theorem PL{w:List ay}(h:bad w):Al w=(bs [],4,()):=if_pos h
theorem Lc{w:List ay}(h:¬bad w):Al w=(bsI (Jr none w),0,()):=if_neg h
theorem Kt{w:List ay}(r:List ay)(h:bad w):bad (w++r):=by
 unfold bad at *;rw[Jj,ak,ak];omega
theorem Zt{r:List ay}(w:List ay)(h:bad r):bad (w++r):=by
 unfold bad at *;rw[Jj,ak,ak]
 have:=b60 (lastT none w) r
 omega
def WL(st:Option (List Int×Nat))(w:List ay)(a b:Int)(c:List Int)(l:List ay):Prop :=
 l.length<=w.length/\((st=none/\b=4)\/∃tx n,st=some (tx,n)/\(a=(n:Int)/\c=tx/\n<=4000/\tx.length<=16384)/\((b=0/\l.map strip=w.map strip)\/(bad w/\(b=4\/(b=0/\4000<l.length)))))
theorem WL.app{st:Option (List Int×Nat)}{w l l' r:List ay}{a b:Int}{c:List Int}(h:WL st w a b c l)(e:l'.map strip=r.map strip):WL st (w++r) a b c (l++l'):=by
 have e2:=len_eq e
 refine⟨by rw[ak,ak];have:=h.1;omega,?_⟩
 rcases h.2 with h|⟨tx,n,h1,h2,⟨h3,h4⟩|⟨h3,h4⟩⟩
 .exact .inl h
 .exact .inr ⟨tx,n,h1,h2,.inl ⟨h3,by rw[aU,aU,h4,e]⟩⟩
 .exact .inr ⟨tx,n,h1,h2,.inr ⟨Kt _ h3,h4.imp id λq=>⟨q.1,by rw[ak];omega⟩⟩⟩
theorem a3J(a b:Int)(ws:List ByteArray)(c:List Int)(l:List ay)(h:l.length+ws.length<=1000000):wz a b ws c l=some (a,b,ws,c,l++ws.map nmT,()):=by
 refine T.eq ?_
 have hL:=aW ws
 unfold wz
 refine T.loop (λq=>∃x y,ws=x++y/\q=(aA ws,(x.length:Int),a,b,ws,c,l++x.map nmT,())) (λq=>ws.length-q.2.1.toNat) ⟨[],ws,rfl,by simp⟩ ?_
 rintro _ ⟨x,y,hxy,rfl⟩
 dsimp only
 have hxl:ws.length=x.length+y.length:=by rw[hxy,ak]
 refine T.cnd (λhq=>?_) (λhq=>?_)<;>simp only[bS,cO]at hq
 .obtain⟨s,d,rfl,hab⟩:=vg hxy (by omega)
  have hg:List.getD ws (Int.toNat (x.length:Int)) ByteArray.empty=s:=xQ hab
  refine T.grd (by rw[bT];omega) (T.grd (by unfold inB;rw[eT];omega) ?_)
  rw[hg]
  refine T.grd (pz (by simp;omega)) (T.go ⟨x++[s],d,by rw[hab];simp,?_⟩ (by dsimp only;rw[bf (by omega) (by omega)];omega))
  rw[add_one (x:=s) (by omega),aU,aZ];rfl
 .obtain rfl:=sJ hxy (by omega)
  exact T.out rfl
theorem a3K(a b:Int)(ws:List ByteArray)(c:List Int)(h:ws.length<=1000000):m38 a b ws c=some (a,b,ws,c,ws.map nmT,()):=(show m38 a b ws c=wz a b ws c [] from rfl).trans (a3J a b ws c [] (by simpa using h))
theorem uO(s:ByteArray)(a b:Int)(c:List Int)(l:List ay)(h:l.length<=1000000):m40 s a b c l=some (a,b,c,l++[mkT s],()):=T.eq (T.grd (pz (by simp;omega)) (T.ret rfl))
theorem YT(n a b:Int)(c:List Int)(l:List ay)(h:l.length<=1000000):m39 n a b c l=some (a,b,c,l++[hrT n],()):=T.eq (T.grd (pz (by simp;omega)) (T.ret rfl))
theorem a5q{e:DS0}(hx:XX e)(h:je e=true):UL e=some (Al (tk e)):=by
 refine T.eq ?_
 unfold UL
 refine T.aN (Qg _ hx) (T.cf ?_ (T.aN (a9d hx h) (T.aN (YK _ λt ht=>((xW h).2 t ht).1) (T.ret rfl))))
 show(not (je e))=false
 rw[h];rfl
theorem Wn{st:Option (List Int×Nat)}{w l:List ay}{a b:Int}{c:List Int}{e:DS0}(hx:XX e)(h:je e=true)(hw:WL st w a b c l):T (m66 e a b c l) (λs=>WL st (w++tk e) s.1 s.2.1 s.2.2.1 s.2.2.2.1):=by
 obtain⟨hl,hw⟩:=hw
 have hL:=aW l
 have htk:=(xW h).1
 have hl2:l.length<=(w++tk e).length:=by rw[ak];omega
 unfold m66
 refine T.cnd (λhc=>T.ret ⟨hl2,?_⟩) (λhc=>?_)
 .rw[mE,mM,bS]at hc
  rcases hw with hw|⟨tx,n,h1,h2,⟨h3,h4⟩|⟨h3,h4⟩⟩
  .exact .inl hw
  .have:=len_eq h4
   exact .inr ⟨tx,n,h1,h2,.inr ⟨Kt _ (.inl (by omega)),.inr ⟨h3,by dsimp only;omega⟩⟩⟩
  .exact .inr ⟨tx,n,h1,h2,.inr ⟨Kt _ h3,h4⟩⟩
 .rw[lH,uh,cO]at hc
  rcases hw with hw|⟨tx,n,h1,h2,⟨h3,h4⟩|⟨h3,h4⟩⟩
  .omega
  .refine T.aN (a5q (e:=e) hx h) ?_
   by_cases hj:bad (tk e)
   .rw[PL hj]
    exact T.ct rfl (T.ret ⟨hl2,.inr ⟨tx,n,h1,h2,.inr ⟨Zt _ hj,.inl rfl⟩⟩⟩)
   .rw[Lc hj]
    unfold bad at hj
    refine T.cf rfl (T.call (X0 _ (xW h).2 (by omega) (by omega)) (λy hy=>T.cf (by rw[hy.1];rfl) ?_))
    have hy2:=len_eq hy.2
    refine T.grd (pz (by omega)) (T.ret ⟨?_,.inr ⟨tx,n,h1,h2,.inl ⟨h3,?_⟩⟩⟩)
    .dsimp only;rw[ak,ak];omega
    .dsimp only;rw[aU,aU,h4,hy.2]
  .omega
theorem MQ{st:Option (List Int×Nat)}{w l:List ay}{a b:Int}{c:List Int}(ok:∀t∈w,iw t)(hl:w.length<=990000)(hw:WL st w a b c l):T (m41 a b c l) (λs=>WL (stp st w) [] s.1 s.2.1 s.2.2.1 []):=by
 obtain⟨hlw,hw⟩:=hw
 have hL:=aW l
 have no:∀{tx:List Int} {n:Nat},bad w->stp (some (tx,n)) w=none:=fun{tx n} q=>if_pos (by unfold bad at q;dsimp only;omega)
 unfold m41
 refine T.cnd (λhc=>T.ret ⟨bN _,.inl ?_⟩) (λhc=>?_)
 .rw[mM]at hc
  rcases hw with⟨rfl,h⟩|⟨tx,n,rfl,h2,⟨h3,h4⟩|⟨h3,h4⟩⟩
  .exact⟨rfl,h⟩
  .omega
  .exact⟨no h3,by dsimp only;omega⟩
 .rw[uh]at hc
  rcases hw with⟨rfl,h⟩|⟨tx,n,rfl,⟨h1,h2,h5,h6⟩,⟨h3,h4⟩|⟨h3,h4⟩⟩
  .omega
  .subst h2 h1 h3
   refine T.aN ((YK l (ok_eq h4 ok)).trans (by rw[join_eq h4])) ?_
   have hJ:=EK w none ok
   by_cases hj:bad w
   .rw[PL hj]
    exact T.ct rfl (T.ret ⟨bN _,.inl ⟨no hj,rfl⟩⟩)
   .rw[Lc hj]
    unfold bad at hj
    have hz:=Jc hJ.2
    have hle:=len_eq h4
    refine T.cf rfl (T.call (P:=λy=>y=(sLen (bsI (Jr none w)),(n:Int),0,c++Jr none w,())) ?_ ?_)
    .unfold Uq Fj
     exact T.bind (T.ret (T.grd (by rw[jD];dsimp only;rw[hz];omega) (T.ret (by dsimp only;rw[hz]))))
    rintro _ rfl
    refine T.call (P:=λy=>y=((n:Int),0,c++Jr none w++[10],())) ?_ ?_
    .unfold Uo Fj
     exact T.bind (T.ret (T.grd (by rw[jD,aJ];dsimp only;rw[ak];omega) (T.ret rfl)))
    rintro _ rfl
    have hT:=aW (c++Jr none w++[10])
    rw[ak,ak,aJ]at hT
    refine T.aN (show Um _ _ _=some (aA (c++Jr none w++[10]),aR .i64 (n:Int) (aA l),0,c++Jr none w++[10],()) from rfl) ?_
    have hsum:aR .i64 (n:Int) (aA l)=((n+w.length:Nat):Int):=by rw[bf (by omega) (by omega)];omega
    dsimp only
    rw[hsum]
    refine T.cnd (λh7=>T.ret ⟨bN _,.inl ⟨if_pos ?_,rfl⟩⟩) (λh7=>T.ret ⟨bN _,.inr ⟨_,_,if_neg ?_,⟨rfl,rfl,?_,?_⟩,.inl ⟨rfl,rfl⟩⟩⟩)
    .rw[mE,bS,bS]at h7;dsimp only;omega
    .rw[lH,cO,cO]at h7;dsimp only;omega
    .rw[lH,cO,cO]at h7;dsimp only;omega
    .rw[lH,cO,cO]at h7;dsimp only;rw[ak,ak,aJ];omega
  .have hbig:4000<l.length:=by omega
   refine T.aN (show m68 l=some (bs [],4,()) from ?_) (T.ct rfl (T.ret ⟨bN _,.inl ⟨no h3,rfl⟩⟩))
   refine T.eq ?_
   unfold m68
   exact T.ct (by rw[bS];omega) (T.ret rfl)
theorem T.all{ι α:Type}{o:Option α}{A:ι->Prop}{B:ι->α->Prop}(x:ι)(hx:A x)(h:∀x,A x->T o (B x)):T o (λv=>∀x,A x->B x v):=by
 obtain⟨v,hv,_⟩:=h x hx
 refine⟨v,hv,λy hy=>?_⟩
 obtain⟨u,hu,q⟩:=h y hy
 rw[hv]at hu
 obtain rfl:=aI hu
 exact q
abbrev GW:=Option (List Int×Nat)×List ay
abbrev YU:=List AV×Int×Int×List Int×List ay×Unit
abbrev ZU:=Int×Int×List Int×List ay×Unit
def PU(n:Nat)(y:YU)(g:GW):Prop:=∃k,n=k+1/\BB y.1/\okB k y.1=true/\g.2.length+13000*cnB k y.1<=940000/\WL g.1 g.2 y.2.1 y.2.2.1 y.2.2.2.1 y.2.2.2.2.1
def QU(n:Nat)(y:YU)(g:GW)(z:ZU):Prop:=WL g.1 (g.2++bkT n y.1) z.1 z.2.1 z.2.2.1 z.2.2.2.1
theorem Ju(a b:Int)(s:ByteArray)(c:List Int)(l:List ay)(h:l.length<=990000):wz a b [s] c l=some (a,b,[s],c,l++[nmT s],()):=a3J a b [s] c l (by rw[aJ];omega)
theorem a04{F:Nat}{x:YU}(h:∃g,PU F x g):T (eH (λself (x:YU)=>Uj self x.1 x.2.1 x.2.2.1 x.2.2.2.1 x.2.2.2.2.1) F x) (λz=>∀g,PU F x g->QU F x g z):=by
 refine T.iter (λn y=>∃g,PU n y g) (λn y z=>∀g,PU n y g->QU n y g z) (λn x h self hs=>?_) (λx h=>by obtain⟨g,k,q,_⟩:=h;cases q) F x h
 obtain⟨g,hg⟩:=h
 refine T.all g hg λg h=>?_
 clear hg
 obtain⟨l,a,b,c,ln,⟨⟩⟩:=x
 obtain⟨st,w⟩:=g
 obtain⟨k,hk,hb,hok,hl,hw⟩:=h
 obtain rfl:n=k:=by omega
 have hA:=hb.out
 dsimp only at hA hok hl hw
 have hL:=aW l
 unfold Uj
 dsimp only
 refine T.cnd (λhc=>T.ret ?_) (λhc=>?_)
 .rw[kg,hL]at hc
  have:l=[]:=bC.1 (by omega)
  unfold QU
  dsimp only
  rw[this,Aa,cu];exact hw
 have hc':iEq (l.length:Int) 0=false:=hc
 cases n with
 |zero=>rw[JH hok]at hc;cases hc
 |succ k =>
 have hwl:=hw.1
 refine T.aN (Ju _ _ _ _ _ (by omega)) (T.grd rfl (T.aN (uO _ _ _ _ _ (by simp;omega)) ?_))
 have hw1:WL st (w++[nmT (bs [117,110,108,101,115,115]),mkT (bs [40])]) a b c (ln++[nmT (bs [117,110,108,101,115,115])]++[mkT (bs [40])]):=by rw[aZ];exact hw.app rfl
 generalize hpre:w++[nmT (bs [117,110,108,101,115,115]),mkT (bs [40])]=pre at hw1
 have hpl:pre.length=w.length+2:=by rw[<- hpre];simp
 have hq:QU (k+1+1) (l,a,b,c,ln,()) (st,w)=λz=>WL st (pre++(gD [mkT (bs [44])] (wbT (bkT (k+1))) false l++[mkT (bs [41])])) z.1 z.2.1 z.2.2.1 z.2.2.2.1:=by
  funext z
  unfold QU bkT
  dsimp only
  rw[hc',<- hpre,aZ];rfl
 rw[hq]
 refine T.loop (λq=>∃x y a b c ln,l=x++y/\WL st (pre++gD [mkT (bs [44])] (wbT (bkT (k+1))) false x) a b c ln/\q=(l,aA l,(x.length:Int),a,b,c,ln,())) (λq=>l.length-q.2.2.1.toNat) ⟨[],l,a,b,c,_,rfl,by simpa[gD]using hw1,rfl⟩ ?_
 clear hw hw1 hwl
 rintro _ ⟨x,y,a,b,c,ln,hab,hw,rfl⟩
 dsimp only
 refine T.cnd (λhc=>?_) (λhc=>?_)<;>simp only[bS,cO]at hc
 .obtain⟨u,d,rfl,hab⟩:=vg hab (by omega)
  have hm:u∈l:=by rw[hab];simp
  obtain⟨g1,g2⟩:=a5v hok hab hl
  obtain⟨a1,a2,a3⟩:=xC hok u hm
  obtain⟨_,b2,b3⟩:=hA.2 u hm
  have htk:=(xW a2).1
  have hg:=okg (λa h=>(hA.2 a h).1) (k:=(x.length:Int)) (l:=l) (by omega) (by omega)
  rw[ak]at g1
  have hat:atI l (x.length:Int) AV.any=u:=xQ hab
  rw[hat]at hg
  have hwl:=hw.1
  rw[ak]at hwl
  refine T.grd ?_ ?_
  .rw[hat];exact hg
  rw[hat]
  refine T.join (λj=>∃a b c ln,WL st (pre++gD [mkT (bs [44])] (wbT (bkT (k+1))) false x++cond (iLt 0 (x.length:Int)) [mkT (bs [44])] []) a b c ln/\j=(l,aA l,(x.length:Int),a,b,c,ln,(aM u).1,(aM u).2.1.1,(aM u).2.1.2.1,(aM u).2.1.2.2.1,(aM u).2.1.2.2.2.1,(aM u).2.1.2.2.2.2.1,(aM u).2.1.2.2.2.2.2.1,(aM u).2.2.1,())) (T.cnd (λq=>T.aN (uO _ _ _ _ _ (by omega)) (T.jgo ⟨a,b,c,_,by rw[q];exact hw.app rfl,rfl⟩)) (λq=>T.jgo ⟨a,b,c,ln,by rw[q];simpa using hw,rfl⟩)) ?_
  clear hw hwl
  rintro _ ⟨a,b,c,ln,hw,rfl⟩
  have hsn:pre++gD [mkT (bs [44])] (wbT (bkT (k+1))) false (x++[u])=pre++gD [mkT (bs [44])] (wbT (bkT (k+1))) false x++cond (iLt 0 (x.length:Int)) [mkT (bs [44])] []++[nmT (aM u).1]++[mkT (bs [58])]++tk (aM u).2.1++bkT (k+1) (aM u).2.2.1:=by
   rw[zF];unfold wbT;simp
  have hol:(pre++gD [mkT (bs [44])] (wbT (bkT (k+1))) false x++cond (iLt 0 (x.length:Int)) [mkT (bs [44])] []).length+12990+13000*cnB k (aM u).2.2.1<=940000:=by
   have:(cond (iLt 0 (x.length:Int)) [mkT (bs [44])] ([]:List ay)).length<=1:=by cases iLt 0 (x.length:Int)<;>simp
   simp only[ak];omega
  generalize pre++gD [mkT (bs [44])] (wbT (bkT (k+1))) false x++cond (iLt 0 (x.length:Int)) [mkT (bs [44])] []=out at hsn hol hw
  have hwl:=hw.1
  dsimp only
  refine T.aN (Ju _ _ _ _ _ (by omega)) (T.grd rfl (T.aN (uO _ _ _ _ _ (by simp;omega)) (T.call (Wn (e:=(aM u).2.1) b2 a2 ((hw.app (l':=[nmT (aM u).1]) (r:=[nmT (aM u).1]) rfl).app (l':=[mkT (bs [58])]) (r:=[mkT (bs [58])]) rfl)) (λs hs1=>?_))))
  have hp:PU (k+1) ((aM u).2.2.1,s.1,s.2.1,s.2.2.1,s.2.2.2.1,()) (st,out++[nmT (aM u).1]++[mkT (bs [58])]++tk (aM u).2.1):=⟨k,rfl,b3,a3,by simp;omega,hs1⟩
  refine T.call (hs _ ⟨_,hp⟩) (λz hz=>?_)
  have hz:=hz _ hp
  rw[add_one (x:=u) (by omega)]
  refine T.go ⟨x++[u],d,z.1,z.2.1,z.2.2.1,z.2.2.2.1,by rw[hab,aZ];rfl,?_,rfl⟩ (by dsimp only;rw[ak,aJ];omega)
  rw[hsn];exact hz
 .have he:=sJ hab (by omega)
  have hz:=Jd (k+1) l hok
  unfold bkT at hz
  rw[hc']at hz
  have hz:([nmT (bs [117,110,108,101,115,115]),mkT (bs [40])]++(gD [mkT (bs [44])] (wbT (bkT (k+1))) false l++[mkT (bs [41])])).length<=_:=hz
  rw[ak,ak]at hz
  rw[<- he]at hw
  have hwl:=hw.1
  rw[ak]at hwl
  refine T.kW (T.aN (uO _ _ _ _ _ (by omega)) (T.ret ?_))
  rw[<- aZ];exact hw.app rfl
theorem a05{st:Option (List Int×Nat)}{w ln l}{a b:Int}{c:List Int}(hb:BB l)(h:okB 16 l=true)(hc:cnB 16 l<=40)(ho:w.length<=20000)(hw:WL st w a b c ln):T (m67 l a b c ln) (λz=>WL st (w++bk l) z.1 z.2.1 z.2.2.1 z.2.2.2.1):=by
 have e1:bkT 10000 l=bk l:=a4J h 9983
 have hp:PU 10000 (l,a,b,c,ln,()) (st,w):=⟨9999,rfl,hb,Yn h 9983,by rw[show cnB 9999 l=cnB 16 l from Vs h 9983];dsimp only;omega,hw⟩
 unfold m67
 refine(a04 ⟨_,hp⟩).mono λz hz=>?_
 have:=hz _ hp
 unfold QU at this
 rw[e1]at this
 exact this
theorem a4F{st:Option (List Int×Nat)}{cls:List DS1}{a b:Int}{c:List Int}(hx:∀c∈cls,XCl c)(h:∀c∈cls,gK c=true)(hn:cls.length<=1000)(hw:WL st [] a b c []):T (m37 cls a b c) (λz=>WL ((cls.map clT).foldl stp st) [] z.1 z.2.1 z.2.2.1 []):=by
 unfold m37
 have hL:=aW cls
 refine T.loop (λq=>∃x y a b c,cls=x++y/\WL ((x.map clT).foldl stp st) [] a b c []/\q=(cls,aA cls,(x.length:Int),a,b,c,())) (λq=>cls.length-q.2.2.1.toNat) ⟨[],cls,a,b,c,rfl,hw,rfl⟩ ?_
 clear hw
 rintro _ ⟨x,y,a,b,c,hab,hw,rfl⟩
 dsimp only
 refine T.cnd (λhc=>?_) (λhc=>?_)<;>simp only[bS,cO]at hc
 .obtain⟨u,d,rfl,hab⟩:=vg hab (by omega)
  have hm:u∈cls:=by rw[hab];simp
  have hx:=hx u hm
  have h:=h u hm
  have hok:=Vu h
  obtain⟨h1,h2,h3,h4,h5⟩:=Ey h
  obtain⟨x1,x2⟩:=hx
  have htk:=(xW h3).1
  have hbl:(bk u.2.2.2.1).length<=_:=Jd 16 _ h4.1
  have hat:atI cls (x.length:Int) zS1=u:=xQ hab
  refine T.grd (by rw[bT];omega) ?_
  rw[hat]
  refine T.aN (IX h1).1 (T.aN (a3K _ _ _ _ (by simp)) (T.grd rfl (T.aN (uO _ _ _ _ _ (by simp)) ?_)))
  have hw0:WL ((x.map clT).foldl stp st) [nmT (kwS u.1),nmT u.2.1,mkT (bs [58])] a b c [nmT (kwS u.1),nmT u.2.1,mkT (bs [58])]:=hw.app (r:=[nmT (kwS u.1),nmT u.2.1,mkT (bs [58])]) rfl
  refine T.join (λj=>∃a b c ln,WL ((x.map clT).foldl stp st) ([nmT (kwS u.1),nmT u.2.1,mkT (bs [58])]++cond (iLt 0 (eU u.1)) [nuT u.2.2.2.2.1,nmT (bs [119,104,101,110])] []) a b c ln/\j=(cls,aA cls,(x.length:Int),a,b,c,u.1,u.2.1,u.2.2.1.1,u.2.2.1.2.1,u.2.2.1.2.2.1,u.2.2.1.2.2.2.1,u.2.2.1.2.2.2.2.1,u.2.2.1.2.2.2.2.2.1,u.2.2.2.1,u.2.2.2.2.1,ln,())) (T.aN (show m65 u.1=some (eU u.1,()) from Ed u.1) (T.cnd (λq=>T.grd rfl (T.aN (Ju _ _ _ _ _ (by simp)) (T.grd rfl (T.jgo ⟨a,b,c,_,by rw[show iLt 0 (eU u.1)=true from q];exact hw0.app rfl,rfl⟩)))) (λq=>T.jgo ⟨a,b,c,_,by rw[show iLt 0 (eU u.1)=false from q];exact hw0,rfl⟩))) ?_
  clear hw hw0
  rintro _ ⟨a,b,c,ln,hw,rfl⟩
  have he:clT u=[nmT (kwS u.1),nmT u.2.1,mkT (bs [58])]++cond (iLt 0 (eU u.1)) [nuT u.2.2.2.2.1,nmT (bs [119,104,101,110])] []++tk u.2.2.1++bk u.2.2.2.1++[mkT (bs [59])]:=by unfold clT;simp only[aZ]
  have hp:([nmT (kwS u.1),nmT u.2.1,mkT (bs [58])]++cond (iLt 0 (eU u.1)) [nuT u.2.2.2.2.1,nmT (bs [119,104,101,110])] []).length<=5:=by cases iLt 0 (eU u.1)<;>simp
  generalize [nmT (kwS u.1),nmT u.2.1,mkT (bs [58])]++cond (iLt 0 (eU u.1)) [nuT u.2.2.2.2.1,nmT (bs [119,104,101,110])] []=p at hw he hp
  have hpb:(p++tk u.2.2.1++bk u.2.2.2.1).length<=800000:=by simp only[ak];omega
  dsimp only
  refine T.call (Wn (e:=u.2.2.1) x1 h3 hw) (λs hw=>T.call (a05 x2 h4.1 h4.2 (by simp;omega) hw) (λs hw=>?_))
  have hwl:=hw.1
  refine T.aN (uO _ _ _ _ _ (by omega)) (T.call (MQ (w:=clT u) hok (by rw[he,ak,aJ];omega) (by rw[he];exact hw.app rfl)) (λs hw=>?_))
  rw[add_one (x:=u) (by omega)]
  refine T.go ⟨x++[u],d,s.1,s.2.1,s.2.2.1,by rw[hab,aZ];rfl,?_,rfl⟩ (by dsimp only;rw[ak,aJ];omega)
  rw[aU,iR];exact hw
 .obtain rfl:=sJ hab (by omega)
  exact T.out hw
theorem TG(a b:Int)(s:ByteArray)(c:List Int):m38 a b [s] c=some (a,b,[s],c,[nmT s],()):=a3K a b [s] c (by simp)
theorem a2D{w:DS4}(hx:XW w):m19 w=some (cond (l8 w) (b9r (fold (o7 w))) (bs [],5,())):=by
 refine T.eq ?_
 unfold m19
 refine T.aN (Wj w hx) ?_
 dsimp only
 cases hv:l8 w with
 |false=>exact T.ct rfl (T.ret rfl)
 |true =>
 obtain⟨h1,h2,h3,h4⟩:=Mg hv
 obtain⟨cls,ens,⟨⟩⟩:=w
 obtain⟨x1,x2⟩:=hx
 dsimp only at h1 h2 h3 h4 x1 x2
 have hE:=aW ens
 have a4y:fold (o7 (cls,ens,()))=((ens.map enL).flatten).foldl stp ((cls.map clT).foldl stp (some ([],0))):=by unfold fold o7;rw[iR]
 refine T.cf rfl (T.join (λj=>j=(cls,ens,0,0,[],())) (T.jgo rfl) ?_)
 rintro _ rfl
 refine T.call (a4F (st:=some ([],0)) x1 h3 (show cls.length<=1000 by omega) ⟨bN _,.inr ⟨[],0,rfl,⟨rfl,rfl,by omega,by simp⟩,.inl ⟨rfl,rfl⟩⟩⟩) (λs hw=>?_)
 generalize (cls.map clT).foldl stp (some ([],0))=st at a4y hw
 dsimp only
 refine T.loop (λq=>∃x y a b c,ens=x++y/\WL (((x.map enL).flatten).foldl stp st) [] a b c []/\q=(ens,aA ens,(x.length:Int),a,b,c,())) (λq=>ens.length-q.2.2.1.toNat) ⟨[],ens,s.1,s.2.1,s.2.2.1,rfl,hw,rfl⟩ ?_
 clear hw
 rintro _ ⟨x,y,a,b,c,hab,hw,rfl⟩
 dsimp only
 refine T.cnd (λhc=>?_) (λhc=>?_)<;>simp only[bS,cO]at hc
 .obtain⟨u,d,rfl,hab⟩:=vg hab (by omega)
  have hm:u∈ens:=by rw[hab];simp
  have hen:=h4 u hm
  have hxe:=x2 u hm
  have hok:=a4B hen
  obtain⟨e1,e2,e3,e4,e5⟩:=J5 hen
  have hat:atI ens (x.length:Int) zS3=u:=xQ hab
  refine T.grd (by rw[bT];omega) ?_
  rw[hat]
  have hsn:((x++[u]).map enL).flatten=(x.map enL).flatten++(([[nmT (bs [101,110,100,111,114,115,101]),hrT u.1.1,nmT (bs [116,111]),hrT u.1.2.1,mkT (bs [58])]]++cond (iLt 0 (aA u.2.1)) [nmT (bs [114,101,109,111,118,101])::(nD u.2.1++[mkT (bs [59])])] [])++(List.map clT u.2.2.1++[[nmT (bs [101,110,100]),mkT (bs [59])]])):=by
   rw[aU,kQ]
   show _++(enL u++[])=_
   unfold enL
   rw[cu]
  obtain⟨⟨p,q,⟨⟩⟩,rm,xc,⟨⟩⟩:=u
  obtain⟨_,x3⟩:=hxe
  dsimp only at e1 e2 e3 e4 e5 hsn x3 ⊢
  generalize hst:((x.map enL).flatten).foldl stp st=st1 at hw
  refine T.aN (TG _ _ _ _) (T.grd rfl (T.aN (YT _ _ _ _ _ (by simp)) (T.aN (Ju _ _ _ _ _ (by simp)) (T.grd rfl (T.aN (YT _ _ _ _ _ (by simp)) (T.aN (uO _ _ _ _ _ (by simp)) (T.call (MQ (w:=[nmT (bs [101,110,100,111,114,115,101]),hrT p,nmT (bs [116,111]),hrT q,mkT (bs [58])]) (hok _ (by unfold enL;simp)) (by simp) (hw.app (r:=[nmT (bs [101,110,100,111,114,115,101]),hrT p,nmT (bs [116,111]),hrT q,mkT (bs [58])]) rfl)) (λs hw=>?_))))))))
  refine T.join (λj=>∃a b c,WL (([[nmT (bs [101,110,100,111,114,115,101]),hrT p,nmT (bs [116,111]),hrT q,mkT (bs [58])]]++cond (iLt 0 (aA rm)) [nmT (bs [114,101,109,111,118,101])::(nD rm++[mkT (bs [59])])] []).foldl stp st1) [] a b c []/\j=(ens,aA ens,(x.length:Int),a,b,p,q,rm,xc,c,())) (T.cnd (λz=>?_) (λz=>T.jgo ⟨s.1,s.2.1,s.2.2.1,by rw[z];exact hw,rfl⟩)) ?_
  .have hrl:=aW rm
   refine T.aN (TG _ _ _ _) (T.grd rfl ?_)
   have hw:WL (stp st1 [nmT (bs [101,110,100,111,114,115,101]),hrT p,nmT (bs [116,111]),hrT q,mkT (bs [58])]) [nmT (bs [114,101,109,111,118,101])] s.1 s.2.1 s.2.2.1 [nmT (bs [114,101,109,111,118,101])]:=hw.app (r:=[nmT (bs [114,101,109,111,118,101])]) rfl
   refine T.loop (λz=>∃f g a b c ln,rm=f++g/\WL (stp st1 [nmT (bs [101,110,100,111,114,115,101]),hrT p,nmT (bs [116,111]),hrT q,mkT (bs [58])]) (nmT (bs [114,101,109,111,118,101])::nD f) a b c ln/\z=(ens,aA ens,(x.length:Int),rm,aA rm,(f.length:Int),a,b,p,q,rm,xc,c,ln,())) (λz=>rm.length-z.2.2.2.2.2.1.toNat) ⟨[],rm,s.1,s.2.1,s.2.2.1,_,rfl,hw,rfl⟩ ?_
   clear hw
   rintro _ ⟨f,g,a,b,c,ln,hfg,hw,rfl⟩
   dsimp only
   have hfl:f.length<=40:=by have:=dn List.length hfg;rw[ak]at this;omega
   have hwf:=G9 f
   have hwl:=hw.1
   rw[aL]at hwl
   refine T.cnd (λhq=>?_) (λhq=>?_)<;>simp only[bS,cO]at hq
   .obtain⟨t,g,rfl,hfg⟩:=vg hfg (by omega)
    have hrt:atI rm (f.length:Int) ByteArray.empty=t:=xQ hfg
    refine T.grd (by rw[bT];omega) ?_
    rw[hrt]
    have hs2:nmT (bs [114,101,109,111,118,101])::nD (f++[t])=nmT (bs [114,101,109,111,118,101])::nD f++(cond (iLt 0 (f.length:Int)) [mkT (bs [44])] []++[nmT t]):=by unfold nD;rw[zF];rfl
    refine T.cnd (λh7=>T.aN (uO _ _ _ _ _ (by omega)) (T.aN (Ju _ _ _ _ _ (by simp;omega)) (T.grd rfl (T.go ⟨f++[t],g,a,b,c,_,by rw[hfg];simp,?_,by rw[add_one (x:=t) (by omega)]⟩ (by dsimp only;rw[bf (by omega) (by omega)];omega))))) (λh7=>T.aN (Ju _ _ _ _ _ (by omega)) (T.grd rfl (T.go ⟨f++[t],g,a,b,c,_,by rw[hfg];simp,?_,by rw[add_one (x:=t) (by omega)]⟩ (by dsimp only;rw[bf (by omega) (by omega)];omega))))
    .rw[hs2,h7];have:=(hw.app (l':=[mkT (bs [44])]) (r:=[mkT (bs [44])]) rfl).app (l':=[nmT t]) (r:=[nmT t]) rfl;rw[aZ]at this;exact this
    .rw[hs2,h7];exact hw.app (l':=[nmT t]) (r:=[nmT t]) rfl
   .have he:=sJ hfg (by omega)
    rw[<- he]at hw hwl hwf
    refine T.kW (T.aN (uO _ _ _ _ _ (by omega)) (T.call (MQ (w:=nmT (bs [114,101,109,111,118,101])::(nD rm++[mkT (bs [59])])) (hok _ (by unfold enL;rw[z];simp)) (by simp;omega) (hw.app (l':=[mkT (bs [59])]) (r:=[mkT (bs [59])]) rfl)) (λs hw=>T.jgo ⟨s.1,s.2.1,s.2.2.1,by rw[z];exact hw,rfl⟩)))
  clear hw
  rintro _ ⟨a,b,c,hw,rfl⟩
  dsimp only
  generalize ([[nmT (bs [101,110,100,111,114,115,101]),hrT p,nmT (bs [116,111]),hrT q,mkT (bs [58])]]++cond (iLt 0 (aA rm)) [nmT (bs [114,101,109,111,118,101])::(nD rm++[mkT (bs [59])])] [])=L1 at hw hsn
  refine T.call (a4F x3 e5 (show xc.length<=1000 by omega) hw) (λs hw=>T.aN (TG _ _ _ _) (T.grd rfl (T.aN (uO _ _ _ _ _ (by simp)) (T.call (MQ (w:=[nmT (bs [101,110,100]),mkT (bs [59])]) (hok _ (by unfold enL;simp)) (by simp) (hw.app (r:=[nmT (bs [101,110,100]),mkT (bs [59])]) rfl)) (λs hw=>?_)))))
  rw[add_one (x:=((p,q,()),rm,xc,())) (by omega)]
  refine T.go ⟨x++[((p,q,()),rm,xc,())],d,s.1,s.2.1,s.2.2.1,by rw[hab,aZ];rfl,?_,rfl⟩ (by dsimp only;rw[ak,aJ];omega)
  rw[hsn,iR,iR,iR,hst];exact hw
 .have he:=sJ hab (by omega)
  rw[<- he,<- a4y]at hw
  refine T.kW ?_
  rcases hw.2 with⟨h5,h6⟩|⟨tx,n,h5,⟨h6,h7,_⟩,⟨h8,_⟩|⟨h8,_⟩⟩
  .rw[h5];exact T.ct (by rw[mM];omega) (T.ret (by rw[h6];rfl))
  .rw[h5];exact T.cf (by rw[uh];exact h8) (T.aN (show Yz _ _ _=some (bsI c,a,b,c,()) from rfl) (T.ret (by rw[h7];rfl)))
  .have:(4000<0\/16384<0):=h8
   omega
def Fx(r:List sT):Prop:=∀s∈r.head?,s.1=4\/s.2.1=bs [117,110,108,101,115,115]
section
variable{toks:List ay}{k:Nat}{r:List sT}
theorem Fx.no(h:Fx r){x:ByteArray}(hx:¬bs [117,110,108,101,115,115]=x):∀s∈r.head?,¬(s.1=1/\s.2.1=x):=λs hs q=>by
 rcases h s hs with a|a
 .omega
 .exact hx (a.symm.trans q.2)
theorem Qh{e:DS0}(he:je e=true)(hc:Cn 16 e)(hR:Rs toks k (stE 16 e++r))(hF:Fx r):Bf toks (k:Int)=some (e.1,e.2.1,e.2.2.1,e.2.2.2.1,e.2.2.2.2.1,e.2.2.2.2.2.1,toks,((k+(stE 16 e).length:Nat):Int),()):=by
 obtain⟨h1,h2,_⟩:=GL he
 obtain⟨d,hd,_,_,hu⟩:=Ru 16 e (aS _) h1 hc h2
 have hl:(stE 16 e).length<=12000:=by have:=(xW he).1;unfold stE;rw[bA];exact this
 have hr:=lT hR
 have hE:QK toks k (pt e (szE 16 e) d) (k+(stE 16 e).length):=by
  refine⟨1+2*(stE 16 e).length,hu toks r k [] 1 _ _ hR (λs hs q=>?_) λA' B' hw=>Ev.en (Zy (uR hr (hF.no (by decide))) (uR hr (hF.no (by decide)))) hw rfl,⟨hR.l,hR.c,by simp;omega,λx hx=>?_⟩,?_,?_⟩
  .rcases q.2 with z|z
   .exact hF.no (by decide) s hs ⟨q.1,z⟩
   .exact hF.no (by decide) s hs ⟨q.1,z⟩
  .rw[aV.1 hx];dsimp only;simp;omega
  .show((szE 16 e:Nat):Int)<=300;omega
  .show((d:Nat):Int)<=16;omega
 refine T.eq ?_
 unfold Bf
 exact T.aN (b4g hE) (T.cf rfl (T.ret rfl))
theorem Iy{s:sT}(hR:Rs toks k (s::r)):∃p,El toks (k:Int)=some (s.1,s.2.1,s.2.2,p,toks,(k:Int),()):=by
 obtain⟨e,a,b,c⟩:=Jg hR
 unfold El
 rw[c,a,<- e]
 exact⟨_,rfl⟩
theorem Gw(hR:Rs toks k r){kd:Int}(hk:¬kd=0)(x:ByteArray):m82 kd x toks (k:Int)=some (iK toks k kd x,toks,(k:Int),()):=by
 unfold m82
 cases r with
 |nil =>
  have hl:toks.length<=k:=by have:=hR.m;simpa using this
  have ha:iK toks k kd x=false:=uR hR λs hs=>by cases hs
  rw[ha]
  unfold El
  rw[show iLt (k:Int) (aA toks)=false by rw[cO,aW];omega]
  show some (cond (iEq 0 kd) _ false,toks,(k:Int),())=_
  rw[show iEq 0 kd=false by rw[dI];omega];rfl
 |cons s r =>
  obtain⟨p,h⟩:=Iy hR
  rw[h,VJ hR];rfl
theorem Bq{s:sT}(hR:Rs toks k (s::r)){kd:Int}(hk:¬kd=0){x:ByteArray}(h1:s.1=kd)(h2:s.2.1=x):pR kd x toks (k:Int)=some (true,toks,((k+1:Nat):Int),()):=by
 have hl:=hR.l
 have hlt:=tZ hR
 refine T.eq ?_
 unfold pR
 refine T.aN (Gw hR hk x) ?_
 rw[uQ hR h1 h2]
 refine T.cf rfl (T.ret ?_)
 dsimp only
 rw[bf (by omega) (by omega)];rfl
theorem Dw(hR:Rs toks k r){kd:Int}(hk:¬kd=0){x:ByteArray}(hn:∀s∈r.head?,¬(s.1=kd/\s.2.1=x)):pR kd x toks (k:Int)=some (false,toks,(k:Int),()):=by
 refine T.eq ?_
 unfold pR
 refine T.aN (Gw hR hk x) ?_
 rw[uR hR hn]
 exact T.ct rfl (T.ret rfl)
theorem sW{x:ByteArray}(hR:Rs toks k (mkS x::r)):qz x toks (k:Int)=some (toks,((k+1:Nat):Int),()) :=
 T.eq (T.aN (Bq hR (by decide) rfl rfl) (T.cf rfl (T.ret rfl)))
theorem NJ{x:ByteArray}(hR:Rs toks k (nmS x::r)):Pm x toks (k:Int)=some (toks,((k+1:Nat):Int),()) :=
 T.eq (T.aN (Bq hR (by decide) rfl rfl) (T.cf rfl (T.ret rfl)))
theorem IB{x:ByteArray}(hR:Rs toks k (nmS x::r))(hx:dR x=true):zP toks (k:Int)=some (x,toks,(k:Int),()):=by
 obtain⟨p,h⟩:=Iy hR
 refine T.eq ?_
 unfold zP
 exact T.aN h (T.cf rfl (T.aN ((zO x).trans (by rw[hx])) (T.cf rfl (T.ret rfl))))
theorem k1(hR:Rs toks k r){s:sT}{r':List sT}(h:r=s::r'):aR .i64 (k:Int) 1=((k+1:Nat):Int):=by
 subst h
 have hl:=hR.l
 have hlt:=tZ hR
 rw[bf (by omega) (by omega)];rfl
def hrS(n:Int):sT:=(3,bs [],n)
theorem YS{n b:Int}(hR:Rs toks k (hrS n::r))(hb:b<n):Pn b toks (k:Int)=some (n,toks,((k+1:Nat):Int),()):=by
 obtain⟨p,h⟩:=Iy hR
 refine T.eq ?_
 unfold Pn
 refine T.aN h (T.cf rfl (T.cf ?_ (T.ret ?_)))
 .show iLe n b=false
  rw[jZ];exact hb
 .dsimp only;rw[k1 hR rfl];rfl
theorem b6T{n m:Int}(hR:Rs toks k (nuS n::r))(h1:1<=n)(h2:n<=m):UA m toks (k:Int)=some (n,toks,((k+1:Nat):Int),()):=by
 obtain⟨p,h⟩:=Iy hR
 refine T.eq ?_
 unfold UA
 refine T.aN h (T.cf rfl (T.cf ?_ (T.ret ?_)))
 .show cond (iLt n 1) true (iLt m n)=false
  rw[lH,cO,cO];exact⟨h1,h2⟩
 .dsimp only;rw[k1 hR rfl];rfl
end
def CBk:Nat->List AV->Prop
 |0,_=>True
 |k+1,l=>∀a∈l,Ty.enc tS7 (aM a)=a/\Cn 16 (aM a).2.1/\CBk k (aM a).2.2.1
theorem GN:∀{l:List AV},(∀a∈l,Ty.enc tS7 (aM a)=a)->nA (l.map aM)=l
 |[],_=>rfl
 |a::l,h=>by
  show Ty.enc tS7 (aM a)::nA (l.map aM)=a::l
  rw[h a bY,GN λx hx=>h x (bG _ hx)]
def stB(k:Nat)(b:Bool)(l:List AV):List sT:=(gD [mkT (bs [44])] (wbT (bkT k)) b l).map strip
def stI(k:Nat)(a:AV):List sT:=nmS (aM a).1::mkS (bs [58])::(stE 16 (aM a).2.1++(bkT k (aM a).2.2.1).map strip)
theorem b4p(k:Nat)(a:AV)(l:List AV):stB k false (a::l)=stI k a++stB k true l:=by
 unfold stB stI
 show List.map strip ([]++(wbT (bkT k) a++gD [mkT (bs [44])] (wbT (bkT k)) true l))=_
 rw[fF,aU]
 unfold wbT
 rw[bg,bg,aU];rfl
theorem TQ(k:Nat)(a:AV)(l:List AV):stB k true (a::l)=mkS (bs [44])::(stI k a++stB k true l):=by
 unfold stB stI
 show strip (mkT (bs [44]))::List.map strip (wbT (bkT k) a++gD [mkT (bs [44])] (wbT (bkT k)) true l)=_
 rw[aU]
 unfold wbT
 rw[bg,bg,aU];rfl
theorem MX(k:Nat){l:List AV}(h:¬l=[]):(bkT (k+1) l).map strip=nmS (bs [117,110,108,101,115,115])::mkS (bs [40])::(stB k false l++[mkS (bs [41])]):=by
 unfold bkT
 rw[show iEq (l.length:Int) 0=false by rw[dI];intro q;exact h (bC.1 (by omega))]
 show List.map strip ([nmT (bs [117,110,108,101,115,115]),mkT (bs [40])]++(_++[mkT (bs [41])]))=_
 rw[aU,aU];rfl
theorem b9h:∀(k F:Nat) (l:List AV),k+1<=F->okB (k+1) l=true->¬l=[]->CBk (k+1) l->∀(toks:List ay) (p c d:Nat) (r:List sT),Rs toks p (mkS (bs [40])::(stB (k+1) false l++mkS (bs [41])::r))->1<=d->d+k<=16->c+cnB (k+1) l<=40->
  eH (λself (x:Int×(List ay)×Int×Int×Unit)=>II self x.1 x.2.1 x.2.2.1 x.2.2.2.1) F ((d:Int),toks,(p:Int),(c:Int),())=some (toks,((p+(stB (k+1) false l).length+2:Nat):Int),((c+cnB (k+1) l:Nat):Int),l.map aM,()):=by
 intro k
 induction k using Nat.strongRecOn with
 |ind k ih =>
 intro F l hF hok hne hcb toks p c d r hR hd hd2 hc
 obtain⟨F,rfl⟩:∃f,F=f+1:=⟨F-1,by omega⟩
 refine T.eq ?_
 show T (II _ (d:Int) toks (p:Int) (c:Int)) _
 unfold II
 have hb:=xC hok
 obtain⟨_,_,_,hR1⟩:=dX hR
 refine T.aN (sW hR) ?_
 dsimp only
 obtain⟨a0,l0,rfl⟩:∃a m,l=a::m:=by
  cases l with
  |nil=>exact absurd rfl hne
  |cons a m=>exact⟨a,m,rfl⟩
 have hlen:∀m:List AV,cnB (k+1) m=m.length+(m.map λa=>cnB k (aM a).2.2.1).sum:=λm=>rfl
 rw[b4p]at hR1 ⊢
 refine T.loop (λq=>∃x a m pp,a0::l0=x++a::m/\Rs toks pp (stI (k+1) a++(stB (k+1) true m++mkS (bs [41])::r))/\pp+(stI (k+1) a).length+(stB (k+1) true m).length=p+1+(stI (k+1) a0++stB (k+1) true l0).length/\q=((d:Int),toks,(pp:Int),((c+cnB (k+1) x:Nat):Int),x.map aM,())) (λq=>(a0::l0).length-q.2.2.2.2.1.length) ⟨[],a0,l0,p+1,rfl,by simpa using hR1,by rw[ak];omega,rfl⟩ ?_
 rintro _ ⟨x,a,m,pp,hx,hr,hp,rfl⟩
 dsimp only
 have hm:a∈a0::l0:=by rw[hx];simp
 obtain⟨n1,n2,n3⟩:=hb a hm
 obtain⟨c1,c2,c3⟩:=hcb a hm
 have hcn:cnB (k+1) (a0::l0)=cnB (k+1) x+1+cnB k (aM a).2.2.1+cnB (k+1) m:=by
  rw[hlen,hlen,hlen,hx];simp[jH];omega
 have hcs:cnB (k+1) (x++[a])=cnB (k+1) x+1+cnB k (aM a).2.2.1:=by
  rw[hlen,hlen];simp[jH];omega
 have hlx:(a0::l0).length=x.length+(m.length+1):=by rw[hx,ak,aL]
 have hxl:x.length<=cnB (k+1) x:=by rw[hlen];omega
 have hr':Rs toks pp (nmS (aM a).1::mkS (bs [58])::(stE 16 (aM a).2.1++((bkT (k+1) (aM a).2.2.1).map strip++(stB (k+1) true m++mkS (bs [41])::r)))):=by
  have:=hr;unfold stI at this;simpa using this
 obtain⟨_,_,_,r1⟩:=dX hr'
 obtain⟨_,_,_,r2⟩:=dX r1
 have r3:=lT r2
 have hfx:Fx (stB (k+1) true m++mkS (bs [41])::r):=by
  cases m with
  |nil=>intro s hs;cases hs;exact .inl rfl
  |cons y m=>rw[TQ];intro s hs;cases hs;exact .inl rfl
 have hfm:∀s∈(stB (k+1) true m++mkS (bs [41])::r).head?,¬s.1=1:=by
  cases m with
  |nil=>intro s hs;cases hs;decide
  |cons y m=>rw[TQ];intro s hs;cases hs;decide
 have hli:(stI (k+1) a).length=2+(stE 16 (aM a).2.1).length+((bkT (k+1) (aM a).2.2.1).map strip).length:=by unfold stI;simp;omega
 refine T.aN (IB hr' n1) (T.join (λj=>j=((d:Int),toks,(pp:Int),((c+cnB (k+1) x:Nat):Int),x.map aM,(aM a).1,0,bs [],0,0,())) (T.cf (by rw[dI];omega) (T.jgo rfl)) ?_)
 rintro _ rfl
 dsimp only
 rw[k1 hr' rfl]
 refine T.aN (sW r1) (T.aN (Qh n2 c2 r2 ?_) ?_)
 .by_cases q:(aM a).2.2.1=[]
  .rw[q,Aa];exact hfx
  .rw[MX k q];intro s hs;cases hs;exact .inr rfl
 have nx:∀(pe:Nat),Rs toks pe (stB (k+1) true m++mkS (bs [41])::r)->pe=pp+(stI (k+1) a).length->∀u:List AV,u=(aM a).2.2.1->T (cond (fits (List.length (x.map aM)+List.length ([((aM a).1,((aM a).2.1.1,(aM a).2.1.2.1,(aM a).2.1.2.2.1,(aM a).2.1.2.2.2.1,(aM a).2.1.2.2.2.2.1,(aM a).2.1.2.2.2.2.2.1,()),u,())]:List DS7)) 128) ((pR 4 (bs [44]) toks (pe:Int)).bind λzB=>cond (not zB.1) ((qz (bs [41]) zB.2.1 zB.2.2.1).bind λND=>some (.inr (ND.1,ND.2.1,((c+cnB (k+1) (x++[a]):Nat):Int),x.map aM++([((aM a).1,((aM a).2.1.1,(aM a).2.1.2.1,(aM a).2.1.2.2.1,(aM a).2.1.2.2.2.1,(aM a).2.1.2.2.2.2.1,(aM a).2.1.2.2.2.2.2.1,()),u,())]:List DS7),()))) (some (.inl ((d:Int),zB.2.1,zB.2.2.1,((c+cnB (k+1) (x++[a]):Nat):Int),x.map aM++([((aM a).1,((aM a).2.1.1,(aM a).2.1.2.1,(aM a).2.1.2.2.1,(aM a).2.1.2.2.2.1,(aM a).2.1.2.2.2.2.1,(aM a).2.1.2.2.2.2.2.1,()),u,())]:List DS7),())))) none) (LQ (λq=>∃x a m pp,a0::l0=x++a::m/\Rs toks pp (stI (k+1) a++(stB (k+1) true m++mkS (bs [41])::r))/\pp+(stI (k+1) a).length+(stB (k+1) true m).length=p+1+(stI (k+1) a0++stB (k+1) true l0).length/\q=((d:Int),toks,(pp:Int),((c+cnB (k+1) x:Nat):Int),x.map aM,())) (λq=>(a0::l0).length-q.2.2.2.2.1.length) ((a0::l0).length-(x.map aM).length) (λy=>y=(toks,((p+(stI (k+1) a0++stB (k+1) true l0).length+2:Nat):Int),((c+cnB (k+1) (a0::l0):Nat):Int),(a0::l0).map aM,()))):=by
  intro pe rp hpe u hu
  have ea:((aM a).1,((aM a).2.1.1,(aM a).2.1.2.1,(aM a).2.1.2.2.1,(aM a).2.1.2.2.2.1,(aM a).2.1.2.2.2.2.1,(aM a).2.1.2.2.2.2.2.1,()),u,())=aM a:=by rw[hu]
  rw[ea]
  have es:x.map aM++[aM a]=(x++[a]).map aM:=by rw[aU];rfl
  rw[es]
  refine T.grd (by rw[jD,bA,aJ];omega) ?_
  cases m with
  |nil =>
   have rp:Rs toks pe (mkS (bs [41])::r):=rp
   have hrt:=rp.l
   have hlt:=tZ rp
   refine T.aN (Dw rp (by decide) (Bl (by decide))) (T.ct rfl (T.aN (sW rp) (T.out ?_)))
   have:(stB (k+1) true ([]:List AV)).length=0:=rfl
   rw[this]at hp
   rw[hx,show p+(stI (k+1) a0++stB (k+1) true l0).length+2=pe+1 by omega]
  |cons y m =>
   rw[TQ]at rp hp
   have rp:Rs toks pe (mkS (bs [44])::(stI (k+1) y++(stB (k+1) true m++mkS (bs [41])::r))):=by simpa using rp
   obtain⟨_,_,_,rp1⟩:=dX rp
   refine T.aN (Bq rp (by decide) rfl rfl) (T.cf rfl (T.go ⟨x++[a],y,m,pe+1,by rw[hx];simp,rp1,by simp only[aL,ak]at hp ⊢;omega,rfl⟩ ?_))
   dsimp only
   rw[bA,bA,ak,aJ]
   omega
 have hc1:aR .i64 ((c+cnB (k+1) x:Nat):Int) 1=((c+cnB (k+1) x+1:Nat):Int):=by rw[bf (by omega) (by omega)];omega
 dsimp only
 by_cases q:(aM a).2.2.1=[]
 .rw[q,Aa]at r3 hli
  have r3:Rs toks (pp+1+1+(stE 16 (aM a).2.1).length) (stB (k+1) true m++mkS (bs [41])::r):=r3
  refine T.aN (Gw r3 (by decide) _) ?_
  rw[uR r3 (λs hs q=>hfm s hs q.1)]
  refine T.cf rfl ?_
  dsimp only
  have z:cnB k (aM a).2.2.1=0:=by rw[q];cases k<;>rfl
  have:=nx _ r3 (by rw[hli];simp;omega) [] q.symm
  rw[hcs,z,jQ,<- gG]at this
  rw[hc1]
  exact this
 ·obtain ⟨k',rfl⟩:∃ k',k=k' + 1:=by
   cases k with
   |zero=>exact absurd (JH n3) q
   |succ k'=>exact⟨k',rfl⟩
  rw[MX _ q]at r3 hli
  have r3:Rs toks (pp+1+1+(stE 16 (aM a).2.1).length) (nmS (bs [117,110,108,101,115,115])::mkS (bs [40])::(stB (k'+1) false (aM a).2.2.1++mkS (bs [41])::(stB (k'+1+1) true m++mkS (bs [41])::r))):=by simpa using r3
  obtain⟨_,_,_,r4⟩:=dX r3
  have r5:=lT (a:=mkS (bs [40])::(stB (k'+1) false (aM a).2.2.1++[mkS (bs [41])])) (r:=stB (k'+1+1) true m++mkS (bs [41])::r) (by simpa using r4)
  refine T.aN (Gw r3 (by decide) _) ?_
  rw[show iK toks (pp+1+1+(stE 16 (aM a).2.1).length) 1 (bs [117,110,108,101,115,115])=true from uQ r3 rfl rfl]
  refine T.ct rfl (T.cf (by rw[dI];omega) ?_)
  dsimp only
  rw[k1 r3 rfl,hc1,show aR .i64 (d:Int) 1=((d+1:Nat):Int) by rw[bf (by omega) (by omega)];omega]
  refine T.aN (ih k' (by omega) F (aM a).2.2.1 (by omega) n3 q c3 toks _ _ (d+1) _ r4 (by omega) (by omega) (by omega)) ?_
  dsimp only
  have:=nx _ r5 (by rw[hli];simp;omega) (nA ((aM a).2.2.1.map aM)) (GN λb hb=>(c3 b hb).1)
  rw[hcs,<- gG,<- gG]at this
  rw[show pp+1+1+(stE 16 (aM a).2.1).length+1+(stB (k'+1) false (aM a).2.2.1).length+2=pp+1+1+(stE 16 (aM a).2.1).length+1+(mkS (bs [40])::(stB (k'+1) false (aM a).2.2.1++[mkS (bs [41])])).length by simp;omega]
  exact this
def kwL:List ByteArray:=[bs [100,101,102,105,110,101],bs [99,111,118,101,114],bs [101,120,99,108,117,100,101],bs [99,111,110,100,105,116,105,111,110],bs [108,105,109,105,116],bs [100,101,100,117,99,116,105,98,108,101],bs [102,114,97,110,99,104,105,115,101],bs [99,111,105,110,115,117,114,97,110,99,101],bs [97,118,101,114,97,103,101],bs [115,117,98,108,105,109,105,116]]
theorem UR{k:Nat}(h:k<10):kwS (k+1:Nat)=atI kwL (k:Int) ByteArray.empty:=by
 match k,h with
 |0,_=>rfl
 |1,_=>rfl
 |2,_=>rfl
 |3,_=>rfl
 |4,_=>rfl
 |5,_=>rfl
 |6,_=>rfl
 |7,_=>rfl
 |8,_=>rfl
 |9,_=>rfl
theorem UQ{s:ByteArray}(h:(kwL.all λx=>!sEq s x)=true):s∉kwL:=λq=>by
 have:=aD.1 h s q
 rw[vX.mpr rfl]at this;cases this
theorem b1W{i j:Int}(h:1<=i/\i<=10)(g:1<=j/\j<=10)(e:kwS i=kwS j):i=j:=by
 obtain⟨i,rfl⟩:∃k:Nat,i=(k+1:Nat):=⟨(i-1).toNat,by omega⟩
 obtain⟨j,rfl⟩:∃k:Nat,j=(k+1:Nat):=⟨(j-1).toNat,by omega⟩
 rw[UR (by omega),UR (by omega)]at e
 have hl:(kwL.length:Int)=10:=rfl
 have hn:=(xG (l:=kwL) ByteArray.empty).1 (Uh _ (by kernel_rfl))
 rcases uM i j with q|rfl|q
 .exact absurd e.symm (hn j (by omega) (by omega) i (by omega) (by omega))
 .rfl
 .exact absurd e (hn i (by omega) (by omega) j (by omega) (by omega))
theorem PG{i:Int}(h:1<=i/\i<=10):kwS i∈kwL:=by
 obtain⟨i,rfl⟩:∃k:Nat,i=(k+1:Nat):=⟨(i-1).toNat,by omega⟩
 have hl:(kwL.length:Int)=10:=rfl
 rw[UR (by omega)];exact at_mem _ (by omega) (by omega)
section
variable{toks:List ay}{k:Nat}{r:List sT}
theorem YE{n:Int}(hn:1<=n/\n<=10)(hR:Rs toks k (nmS (kwS n)::r)):Bg toks (k:Int)=some (n,toks,(k:Int),()):=by
 refine T.eq ?_
 unfold Bg
 refine T.loop (λq=>∃j:Int,1<=j/\j<=n/\q=(j,toks,(k:Int),())) (λq=>(11-q.1).toNat) ⟨1,by omega,by omega,rfl⟩ ?_
 rintro _ ⟨j,j1,j2,rfl⟩
 dsimp only
 refine T.ct (by rw[eG];omega) (T.aN (IX ⟨j1,by omega⟩).1 (T.aN (Gw hR (by decide) _) ?_))
 dsimp only
 by_cases q:j=n
 .subst q
  rw[show iK toks k 1 (kwS j)=true from uQ hR rfl rfl]
  exact T.ct rfl (T.out rfl)
 .rw[BS hR λe=>q (b1W ⟨j1,by omega⟩ hn e.2.symm)]
  refine T.cf rfl (T.go ⟨j+1,by omega,by omega,by rw[bf (by omega) (by omega)]⟩ ?_)
  dsimp only;rw[bf (by omega) (by omega)];omega
def Nk(r:List sT):Prop:=∀s∈r.head?,s.2.1∉kwL
theorem b1Y(hR:Rs toks k r)(hn:Nk r):Bg toks (k:Int)=some (0,toks,(k:Int),()):=by
 refine T.eq ?_
 unfold Bg
 refine T.loop (λq=>∃j:Int,1<=j/\j<=11/\q=(j,toks,(k:Int),())) (λq=>(11-q.1).toNat) ⟨1,by omega,by omega,rfl⟩ ?_
 rintro _ ⟨j,j1,j2,rfl⟩
 dsimp only
 refine T.cnd (λhc=>?_) (λhc=>T.out rfl)
 rw[eG]at hc
 refine T.aN (IX ⟨j1,hc⟩).1 (T.aN (Gw hR (by decide) _) ?_)
 dsimp only
 rw[uR hR λs hs q=>hn s hs (by rw[q.2];exact PG ⟨j1,hc⟩)]
 refine T.cf rfl (T.go ⟨j+1,by omega,by omega,by rw[bf (by omega) (by omega)]⟩ ?_)
 dsimp only;rw[bf (by omega) (by omega)];omega
def CC(c:DS1):Prop:=Cn 16 c.2.2.1/\CBk 16 c.2.2.2.1
def stC(c:DS1):List sT:=nmS c.2.1::mkS (bs [58])::(cond (iLt 0 (eU c.1)) [nuS c.2.2.2.2.1,nmS (bs [119,104,101,110])] []++(stE 16 c.2.2.1++((bk c.2.2.2.1).map strip++[mkS (bs [59])])))
theorem b6H(c:DS1):(clT c).map strip=nmS (kwS c.1)::stC c:=by
 unfold clT stC stE
 cases iLt 0 (eU c.1)<;>simp[strip,nmT,mkT,nuT,nmS,mkS,nuS,tk]
theorem b1H(n:Int):m65 n=some (eU n,()):=by
 unfold m65 eU
 cases iEq n 5<;>cases iEq n 6<;>cases iEq n 7<;>cases iEq n 10<;>cases iEq n 8<;>rfl
theorem a2V{c:DS1}(hc:gK c=true)(hcc:CC c)(hR:Rs toks k (stC c++r)):∃us:List DS7,nA us=c.2.2.2.1/\Po c.1 toks (k:Int)=some (c.1,c.2.1,c.2.2.1.1,c.2.2.1.2.1,c.2.2.1.2.2.1,c.2.2.1.2.2.2.1,c.2.2.1.2.2.2.2.1,c.2.2.1.2.2.2.2.2.1,c.2.2.2.2.1,toks,((k+(stC c).length:Nat):Int),us,()):=by
 unfold gK at hc
 simp only[dx,eG]at hc
 obtain⟨⟨h1,h2⟩,h3,h4,h5,h6⟩:=hc
 obtain⟨kd,nm,e,u,am,⟨⟩⟩:=c
 obtain⟨c1,c2⟩:=hcc
 dsimp only at h1 h2 h3 h4 h5 h6 c1 c2 ⊢
 have hu:u=[]\/(kd=3/\okB 16 u=true/\cnB 16 u<=40):=by
  unfold Jw at h5
  rw[lg,dx,dx,eT,eT,kg]at h5
  exact h5.imp bC.1 id
 have hm0:=Fb kd
 have ha:(iLt 0 (eU kd)=true/\1<=am/\am<=eU kd)\/(iLt 0 (eU kd)=false/\am=0):=by
  unfold Dc at h6
  cases q:iEq (eU kd) 0<;>rw[q]at h6
  .have h6:(iLe 1 am&&iLe am (eU kd))=true:=h6
   rw[dx,eG,eG]at h6
   rw[dI]at q
   exact .inl ⟨by rw[bS];omega,h6⟩
  .have h6:iEq am 0=true:=h6
   rw[kg]at h6 q
   exact .inr ⟨by rw[cO];omega,h6⟩
 refine⟨u.map aM,GN λa hm=>(c2 a hm).1,T.eq ?_⟩
 unfold stC at hR ⊢
 dsimp only at hR ⊢
 have hR:Rs toks k (nmS nm::mkS (bs [58])::(cond (iLt 0 (eU kd)) [nuS am,nmS (bs [119,104,101,110])] []++(stE 16 e++((bk u).map strip++mkS (bs [59])::r)))):=by simpa using hR
 obtain⟨_,_,_,r1⟩:=dX hR
 obtain⟨_,_,_,r2⟩:=dX r1
 have r3:=lT r2
 have r4:=lT r3
 have r5:=lT r4
 have hend:k+(nmS nm::mkS (bs [58])::(cond (iLt 0 (eU kd)) [nuS am,nmS (bs [119,104,101,110])] []++(stE 16 e++((bk u).map strip++[mkS (bs [59])])))).length=k+1+1+(cond (iLt 0 (eU kd)) [nuS am,nmS (bs [119,104,101,110])] []).length+(stE 16 e).length+((bk u).map strip).length+1:=by
  simp only[aL,ak,dS];omega
 rw[hend]
 have hfx:Fx ((bk u).map strip++mkS (bs [59])::r):=by
  by_cases q:u=[]
  .rw[q];intro s hs;cases hs;exact .inl rfl
  .unfold bk;rw[MX 16 q];intro s hs;cases hs;exact .inr rfl
 unfold Po
 refine T.aN (IB hR h3) ?_
 dsimp only
 rw[k1 hR rfl]
 refine T.aN (sW r1) (T.join (λj=>j=(kd,toks,((k+1+1+(cond (iLt 0 (eU kd)) [nuS am,nmS (bs [119,104,101,110])] []).length:Nat):Int),0,bs [],0,bs [],0,0,0,kd,nm,0,bs [],0,0,am,())) ?_ ?_)
 .refine T.aN (b1H kd) ?_
  rcases ha with⟨q,q1,q2⟩|⟨q,rfl⟩
  .rw[q]at r2 ⊢
   have r2:Rs toks (k+1+1) (nuS am::nmS (bs [119,104,101,110])::(stE 16 e++((bk u).map strip++mkS (bs [59])::r))):=r2
   obtain⟨_,_,_,r6⟩:=dX r2
   exact T.ct rfl (T.aN (b6T r2 q1 q2) (T.aN (NJ r6) (T.jgo rfl)))
  .rw[q]
   exact T.cf rfl (T.jgo rfl)
 .rintro _ rfl
  dsimp only
  refine T.aN (Qh h4 c1 r3 hfx) ?_
  dsimp only
  by_cases hu0:u=[]
  .subst hu0
   have r5:Rs toks (k+1+1+(cond (iLt 0 (eU kd)) [nuS am,nmS (bs [119,104,101,110])] []).length+(stE 16 e).length) (mkS (bs [59])::r):=r5
   refine T.cnd (λ_=>T.aN (Dw r5 (by decide) (Bl (by decide))) (T.cf rfl (T.aN (sW r5) (T.ret rfl)))) (λ_=>T.aN (sW r5) (T.ret rfl))
  .obtain⟨rfl,q1,q2⟩:=hu.resolve_left hu0
   have eb:(bk u).map strip=nmS (bs [117,110,108,101,115,115])::mkS (bs [40])::(stB 16 false u++[mkS (bs [41])]):=MX 16 hu0
   have r4':=r4
   rw[eb]at r4'
   have r4':Rs toks (k+1+1+(cond (iLt 0 (eU 3)) [nuS am,nmS (bs [119,104,101,110])] []).length+(stE 16 e).length) (nmS (bs [117,110,108,101,115,115])::mkS (bs [40])::(stB 16 false u++mkS (bs [41])::mkS (bs [59])::r)):=by simpa using r4'
   obtain⟨_,_,_,r6⟩:=dX r4'
   refine T.ct rfl (T.aN (Bq r4' (by decide) rfl rfl) (T.ct rfl (T.aN (show a14 1 toks _ 0=_ from b9h 15 10000 u (by omega) q1 hu0 c2 toks _ 0 1 _ r6 (by omega) (by omega) (show 0+cnB 16 u<=40 by omega)) ?_)))
   have ep:k+1+1+(cond (iLt 0 (eU 3)) [nuS am,nmS (bs [119,104,101,110])] []).length+(stE 16 e).length+1+(stB 16 false u).length+2=k+1+1+(cond (iLt 0 (eU 3)) [nuS am,nmS (bs [119,104,101,110])] []).length+(stE 16 e).length+((bk u).map strip).length:=by
    rw[eb];simp only[aL,ak,dS];omega
   dsimp only
   rw[ep]
   exact T.aN (sW r5) (T.ret rfl)
def stL(l:List DS1):List sT:=(l.map λc=>(clT c).map strip).flatten
theorem a3P(c:DS1)(l:List DS1):stL (c::l)=nmS (kwS c.1)::(stC c++stL l):=by
 unfold stL
 rw[bg,iB,b6H];rfl
theorem Lu{l:List DS1}(h:∀c∈l,gK c=true)(hc:∀c∈l,CC c)(hl:l.length<=40)(hR:Rs toks k (stL l++r))(hn:Nk r):m81 toks (k:Int)=some (toks,((k+(stL l).length:Nat):Int),l,()):=by
 refine T.eq ?_
 unfold m81
 refine T.loop (λq=>∃x y pp,l=x++y/\Rs toks pp (stL y++r)/\pp+(stL y).length=k+(stL l).length/\q=(toks,(pp:Int),x,())) (λq=>l.length-q.2.2.1.length) ⟨[],l,k,rfl,hR,rfl,rfl⟩ ?_
 rintro _ ⟨x,y,pp,hx,hr,hp,rfl⟩
 dsimp only
 have hlen:l.length=x.length+y.length:=by rw[hx,ak]
 cases y with
 |nil =>
  have hr:Rs toks pp r:=hr
  refine T.aN (b1Y hr hn) (T.ct rfl (T.out ?_))
  rw[cu]at hx
  rw[<- hp,<- hx];rfl
 |cons c y =>
  have hm:c∈l:=by rw[hx];simp
  have hk:=(Ey (h c hm)).1
  rw[a3P]at hr hp
  have hr:Rs toks pp (nmS (kwS c.1)::(stC c++(stL y++r))):=by simpa using hr
  obtain⟨_,_,_,r1⟩:=dX hr
  have r2:=lT r1
  obtain⟨us,eu,e1⟩:=a2V (h c hm) (hc c hm) r1
  rw[aL]at hlen
  refine T.aN (YE hk hr) (T.cf (by rw[dI];dsimp only;omega) (T.cf (by rw[dI,aW];omega) ?_))
  dsimp only
  rw[k1 hr rfl]
  refine T.aN e1 (T.grd (by rw[jD,aJ];omega) ?_)
  dsimp only
  rw[eu]
  refine T.go ⟨x++[c],y,pp+1+(stC c).length,by rw[hx];simp,r2,by simp only[aL,ak]at hp;omega,rfl⟩ ?_
  dsimp only
  rw[ak,aJ];omega
theorem a6o{ws:List ByteArray}(h1:1<=ws.length/\ws.length<=40)(h2:∀w∈ws,dR w=true)(h3:ws.Nodup)(hR:Rs toks k (kJ false ws++mkS (bs [59])::r)):UH toks (k:Int)=some (toks,((k+(kJ false ws).length:Nat):Int),ws,()):=by
 obtain⟨w0,l0,rfl⟩:∃w l,ws=w::l:=by
  cases ws with
  |nil=>simp at h1
  |cons w l=>exact⟨w,l,rfl⟩
 rw[WY]at hR ⊢
 refine T.eq ?_
 unfold UH
 refine T.loop (λq=>∃c w l kk,w0::l0=c++w::l/\Rs toks kk (nmS w::(kJ true l++mkS (bs [59])::r))/\kk+(kJ true l).length=k+(kJ true l0).length/\q=(toks,(kk:Int),c,())) (λq=>(w0::l0).length-q.2.2.1.length) ⟨[],w0,l0,k,rfl,by simpa using hR,rfl,rfl⟩ ?_
 rintro _ ⟨c,w,l,kk,hw,hr,hk,rfl⟩
 dsimp only
 have hm:w∈w0::l0:=by rw[hw];simp
 have hlen:c.length+l.length+1<=40:=by have:=dn List.length hw;have:=h1.2;simp only[ak,aL]at *;omega
 have b6m:(w0::l0).length=c.length+(l.length+1):=by rw[hw,ak,aL]
 have hnw:w∉c:=λq=>by rw[hw]at h3;exact(dN.1 h3).2.2 w q w (by simp) rfl
 obtain⟨_,_,_,hr1⟩:=dX hr
 have hlt:=tZ hr
 have htl:=hr.l
 refine T.aN (IB hr (h2 w hm)) (T.join (λj=>j=(w,toks,(kk:Int),c,())) (T.aN (zi c w (by omega)) (T.cf (YV hnw) (T.jgo rfl))) ?_)
 rintro _ rfl
 dsimp only
 refine T.cf (by rw[dI,aW];omega) (T.grd (by rw[jD,aJ];omega) ?_)
 rw[k1 hr rfl]
 cases l with
 |nil =>
  have hr1:Rs toks (kk+1) (mkS (bs [59])::r):=hr1
  refine T.aN (Dw hr1 (by decide) (Bl (by decide))) (T.ct rfl (T.out ?_))
  have:(kJ true []).length=0:=rfl
  rw[this]at hk
  rw[hw,show kk+1=k+(nmS w0::kJ true l0).length by rw[aL];omega]
 |cons w' l =>
  rw[WX]at hr1 hk
  obtain⟨_,_,_,hr2⟩:=dX hr1
  refine T.aN (Bq hr1 (by decide) rfl rfl) (T.cf rfl (T.go ⟨c++[w],w',l,kk+1+1,by rw[hw];simp,hr2,by simp only[aL]at hk ⊢;omega,rfl⟩ ?_))
  dsimp only
  rw[ak,aJ];omega
def stN(x:DS3):List sT:=hrS x.1.1::nmS (bs [116,111])::hrS x.1.2.1::mkS (bs [58])::(cond (iLt 0 (aA x.2.1)) (nmS (bs [114,101,109,111,118,101])::(kJ false x.2.1++[mkS (bs [59])])) []++(stL x.2.2.1++[nmS (bs [101,110,100]),mkS (bs [59])]))
theorem b6C(x:DS3):((enL x).flatten).map strip=nmS (bs [101,110,100,111,114,115,101])::stN x:=by
 have e:∀l:List DS1,(List.map clT l).flatten.map strip=stL l:=λl=>by unfold stL;rw[List.map_flatten,fH];rfl
 unfold enL stN
 rw[kQ,kQ,kQ,aU,aU,aU,e]
 cases iLt 0 (aA x.2.1) with
 |true =>
  show _::_::_::_::_::(List.map strip ((nmT (bs [114,101,109,111,118,101])::(nD x.2.1++[mkT (bs [59])]))++[])++_)=_
  rw[cu,bg,aU];rfl
 |false=>rfl
theorem b6B{x:DS3}(hx:oQ x=true)(hc:∀c∈x.2.2.1,CC c)(hR:Rs toks k (stN x++r)):m84 toks (k:Int)=some (x.1.1,x.1.2.1,toks,((k+(stN x).length:Nat):Int),x.2.1,x.2.2.1,()):=by
 obtain⟨e1,_,_,_,e5⟩:=J5 hx
 unfold oQ at hx
 simp only[dx,eT]at hx
 obtain⟨⟨h1,h2⟩,⟨h3,h4⟩,h5⟩:=hx
 obtain⟨⟨f,t,⟨⟩⟩,rm,cl,⟨⟩⟩:=x
 unfold lX at h5
 simp only[dx,eT]at h5
 have hp:f<t:=by
  unfold yL at h1
  simp only[dx,qE,bS]at h1
  exact h1.1.1.2
 dsimp only at e1 h2 h3 h4 h5 hc e5 ⊢
 have hnk:Nk (nmS (bs [101,110,100])::mkS (bs [59])::r):=λs hs=>by cases hs;exact UQ (by kernel_rfl)
 refine T.eq ?_
 unfold stN at hR ⊢
 dsimp only at hR ⊢
 have hR:Rs toks k (hrS f::nmS (bs [116,111])::hrS t::mkS (bs [58])::(cond (iLt 0 (aA rm)) (nmS (bs [114,101,109,111,118,101])::(kJ false rm++[mkS (bs [59])])) []++(stL cl++nmS (bs [101,110,100])::mkS (bs [59])::r))):=by simpa using hR
 obtain⟨_,_,_,r1⟩:=dX hR
 obtain⟨_,_,_,r2⟩:=dX r1
 obtain⟨_,_,_,r3⟩:=dX r2
 obtain⟨_,_,_,r4⟩:=dX r3
 have r5:=lT r4
 have r6:=lT r5
 obtain⟨_,_,_,r7⟩:=dX r6
 unfold m84
 refine T.aN (YS hR (by omega)) (T.aN (NJ r1) (T.aN (YS r2 hp) (T.aN (sW r3) (T.join (λj=>j=(toks,((k+1+1+1+1+(cond (iLt 0 (aA rm)) (nmS (bs [114,101,109,111,118,101])::(kJ false rm++[mkS (bs [59])])) []).length:Nat):Int),0,0,f,t,rm,())) ?_ ?_))))
 .cases q:iLt 0 (aA rm) with
  |true =>
   rw[q]at r4
   rw[bS,aW]at q
   have r4:Rs toks (k+1+1+1+1) (nmS (bs [114,101,109,111,118,101])::(kJ false rm++mkS (bs [59])::(stL cl++nmS (bs [101,110,100])::mkS (bs [59])::r))):=by simpa using r4
   obtain⟨_,_,_,r8⟩:=dX r4
   have r9:=lT r8
   refine T.aN (Bq r4 (by decide) rfl rfl) (T.ct rfl (T.aN (a6o ⟨by omega,h2⟩ (aD.1 h3) (D6.mp h4) r8) (T.aN (sW r9) (T.jgo ?_))))
   rw[show k+1+1+1+1+1+(kJ false rm).length+1=k+1+1+1+1+(nmS (bs [114,101,109,111,118,101])::(kJ false rm++[mkS (bs [59])])).length by simp only[aL,ak,dS];omega]
   rfl
  |false =>
   rw[q]at r4
   rw[cO,aW]at q
   have hz:rm=[]:=bC.1 (by omega)
   have r4:Rs toks (k+1+1+1+1) (stL cl++nmS (bs [101,110,100])::mkS (bs [59])::r):=r4
   refine T.aN (Dw r4 (by decide) λs hs q=>?_) (T.cf rfl (T.jgo (by rw[hz];rfl)))
   cases cl with
   |nil=>cases hs;exact absurd q.2 (by decide)
   |cons c l =>
    rw[a3P]at hs;cases hs
    have:=PG (Ey (h5.2 |> aD.1 |> λz=>z c (by simp))).1
    rw[show kwS c.1=bs [114,101,109,111,118,101] from q.2]at this
    exact absurd this (UQ (by kernel_rfl))
 .rintro _ rfl
  dsimp only
  refine T.aN (Lu (aD.1 h5.2) hc h5.1 r5 hnk) (T.aN (NJ r6) (T.aN (sW r7) (T.ret ?_)))
  rw[show k+1+1+1+1+(cond (iLt 0 (aA rm)) (nmS (bs [114,101,109,111,118,101])::(kJ false rm++[mkS (bs [59])])) []).length+(stL cl).length+1+1=k+(hrS f::nmS (bs [116,111])::hrS t::mkS (bs [58])::(cond (iLt 0 (aA rm)) (nmS (bs [114,101,109,111,118,101])::(kJ false rm++[mkS (bs [59])])) []++(stL cl++[nmS (bs [101,110,100]),mkS (bs [59])]))).length by simp only[aL,ak,dS];omega]
def stW(w:DS4):List sT:=((o7 w).flatten).map strip
theorem b4o(w:DS4):stW w=stL w.1++(w.2.1.map λx=>nmS (bs [101,110,100,111,114,115,101])::stN x).flatten:=by
 have e:∀l:List DS1,(List.map clT l).flatten.map strip=stL l:=λl=>by unfold stL;rw[List.map_flatten,fH];rfl
 have e2:∀l:List DS3,((List.map enL l).flatten.flatten).map strip=(l.map λx=>nmS (bs [101,110,100,111,114,115,101])::stN x).flatten:=λl=>by
  induction l with
  |nil=>rfl
  |cons x l ih=>rw[bg,iB,kQ,aU,ih,b6C,bg,iB]
 unfold stW o7
 rw[kQ,aU,e,e2]
theorem Wm{w:DS4}(hw:l8 w=true)(hc:∀c∈(show List DS1 from w.1),CC c)(he:∀x∈(show List DS3 from w.2.1),∀c∈(show List DS1 from x.2.2.1),CC c)(hR:Rs toks 0 (stW w)):m47 toks 0=some (toks,((stW w).length:Int),w.1,w.2.1,()):=by
 obtain⟨h1,h2,h3,h4⟩:=Mg hw
 obtain⟨cl,en,⟨⟩⟩:=w
 rw[b4o]at hR ⊢
 dsimp only at h1 h2 h3 h4 hc he hR ⊢
 have hen:∀l:List DS3,Nk ((l.map λx=>nmS (bs [101,110,100,111,114,115,101])::stN x).flatten):=λl=>by
  cases l with
  |nil=>intro s hs;cases hs
  |cons x l=>intro s hs;cases hs;exact UQ (by kernel_rfl)
 have r1:=lT hR
 have hlen:toks.length=(stL cl).length+((en.map λx=>nmS (bs [101,110,100,111,114,115,101])::stN x).flatten).length:=by
  have:=dn List.length hR.m
  rw[bA,ak]at this
  exact this
 refine T.eq ?_
 unfold m47
 refine T.aN (show m81 toks ((0:Nat):Int)=_ from Lu h3 hc h2 hR (hen en)) ?_
 dsimp only
 refine T.loop (λq=>∃x y pp,en=x++y/\Rs toks pp ((y.map λx=>nmS (bs [101,110,100,111,114,115,101])::stN x).flatten)/\q=(toks,(pp:Int),cl,x,())) (λq=>en.length-q.2.2.2.1.length) ⟨[],en,_,rfl,r1,rfl⟩ ?_
 rintro _ ⟨x,y,pp,hx,hr,rfl⟩
 dsimp only
 have hl:en.length=x.length+y.length:=by rw[hx,ak]
 refine T.aN (Gw hr (by decide) _) ?_
 cases y with
 |nil =>
  have hr:Rs toks pp []:=hr
  have hpp:toks.length<=pp:=by have:=hr.m;simpa using this
  have:=hr.c
  rw[uR hr λs hs=>by cases hs]
  refine T.cf rfl (T.kW (T.cf (by rw[cO,aW];dsimp only;omega) (T.ret ?_)))
  rw[cu]at hx
  dsimp only
  rw[hx,show pp=(stL cl++(en.map λx=>nmS (bs [101,110,100,111,114,115,101])::stN x).flatten).length by rw[ak];omega,hx]
 |cons e y =>
  have hm:e∈en:=by rw[hx];simp
  have hr:Rs toks pp (nmS (bs [101,110,100,111,114,115,101])::(stN e++(y.map λx=>nmS (bs [101,110,100,111,114,115,101])::stN x).flatten)):=by simpa using hr
  obtain⟨_,_,_,r2⟩:=dX hr
  have r3:=lT r2
  rw[aL]at hl
  rw[show iK toks pp 1 (bs [101,110,100,111,114,115,101])=true from uQ hr rfl rfl]
  refine T.ct rfl (T.cf (by rw[dI,aW];have:=h1;omega) ?_)
  dsimp only
  rw[k1 hr rfl]
  refine T.aN (b6B (h4 e hm) (he e hm) r2) (T.grd (by rw[jD,aJ];have:=h1;omega) (T.go ⟨x++[e],y,_,by rw[hx];simp,r3,rfl⟩ ?_))
  dsimp only
  rw[ak,aJ];omega
end
def wtT(t:ay):Nat:=cond (iEq t.1 4) (cond (sEq t.2.1 (bs [40])) 2 1) (cond (iEq t.1 2) (cond (iLe (-9999999999) t.2.2.1&&iLe t.2.2.1 9999999999) 12 21) (cond (iEq t.1 3) 15 (t.2.1.size+1)))
def cw(l:List ay):Nat:=(l.map wtT).sum
def Bd9(l:List ay)(n c:Nat):Prop:=l.length<=n/\cw l<=c
theorem b3b(a b:List ay):cw (a++b)=cw a+cw b:=by unfold cw;rw[aU,jH]
theorem a6T(t:ay)(l:List ay):cw (t::l)=wtT t+cw l:=rfl
theorem Bd9.nil:Bd9 [] 0 0:=⟨aS _,aS _⟩
theorem Bd9.app{a b:List ay}{n c m d:Nat}(h:Bd9 a n c)(k:Bd9 b m d):Bd9 (a++b) (n+m) (c+d):=⟨by rw[ak];have:=h.1;have:=k.1;omega,by rw[b3b];have:=h.2;have:=k.2;omega⟩
theorem Bd9.cons{t:ay}{l:List ay}{w n c:Nat}(ht:wtT t<=w)(h:Bd9 l n c):Bd9 (t::l) (n+1) (w+c):=⟨by rw[aL];have:=h.1;omega,by rw[a6T];have:=h.2;omega⟩
theorem Bd9.mono{l:List ay}{n c m d:Nat}(h:Bd9 l n c)(h1:n<=m)(h2:c<=d):Bd9 l m d:=⟨bF h.1 h1,bF h.2 h2⟩
theorem Bd9.one{t:ay}{w:Nat}(ht:wtT t<=w):Bd9 [t] 1 w:=Bd9.cons ht Bd9.nil
theorem nC{s:ByteArray}{k:Nat}(h:s.size<=k):wtT (nmT s)<=k+1:=Nat.succ_le_succ h
theorem uY{c:List UInt8}(h:sEq (bs c) (bs [40])=false):wtT (mkT (bs c))<=1:=by
 show cond (sEq (bs c) (bs [40])) 2 1<=1
 rw[h];exact aS _
theorem a02:wtT (mkT (bs [40]))<=2:=by
 show cond (sEq (bs [40]) (bs [40])) 2 1<=2
 rw[U0];exact aS _
theorem a01{n:Int}(h:-9999999999<=n/\n<=9999999999):wtT (nuT n)<=12:=by
 show cond (iLe (-9999999999) n&&iLe n 9999999999) 12 21<=12
 rw[eG.mpr h.1,eG.mpr h.2];exact aS _
theorem Sw{α:Type}{s:List ay}{f:α->List ay}{n c m d:Nat}(hs:Bd9 s m d):∀(l:List α),(∀a∈l,Bd9 (f a) n c)->Bd9 (gD s f true l) (l.length*(m+n)) (l.length*(d+c))
 |[],_=>by rw[dS,jP,jP];exact .nil
 |a::l,h=>by
  have:=(hs.app ((h a bY).app (Sw hs l λb hb=>h b (bG _ hb))))
  refine this.mono ?_ ?_
  all_goals rw[aL,Ac];omega
theorem Je{α:Type}{s:List ay}{f:α->List ay}{n c m d:Nat}(hs:Bd9 s m d):∀(l:List α) (k:Nat),l.length<=k+1->(∀a∈l,Bd9 (f a) n c)->Bd9 (gD s f false l) (n+k*(m+n)) (c+k*(d+c))
 |[],_,_,_=>Bd9.nil.mono (bN _) (bN _)
 |a::l,k,hl,h=>by
  have:=(h a bY).app (Sw hs l λb hb=>h b (bG _ hb))
  have h1:l.length<=k:=by rw[aL]at hl;omega
  exact this.mono (ow (bM _ h1) _) (ow (bM _ h1) _)
def tb9:Nat->Nat
 |0=>11
 |1=>35
 |k+2=>3*(tb9 (k+1)+2)+2
def cb9:Nat->Nat
 |0=>41
 |1=>131
 |k+2=>3*(cb9 (k+1)+3)+8
theorem Zr{l:List ByteArray}{k s:Nat}(h:l.length<=k+1)(hw:∀w∈l,w.size<=s):Bd9 (nD l) (1+k*2) ((s+1)+k*(s+2)) :=
 (Je (Bd9.one (w:=1) (uY (by kernel_rfl))) l k h λw hm=>Bd9.one (nC (hw w hm))).mono (by omega) (by rw[show 1+(s+1)=s+2 by omega];exact aS _)
theorem Sy{n:Nat}{e:DS0}(h:Lf e):Bd9 (iV (n+1) e) 11 41:=by
 obtain⟨a,b,c,d,e,l,⟨⟩⟩:=e
 obtain⟨h0,h1,h2,h3,h4,h5,h6⟩:=h
 dsimp only at h1 h2 h3 h4 h5 h6
 have hl:l=[]:=bC.1 h1
 subst hl
 unfold iV
 dsimp only
 cases iEq a 1
 rotate_left
 .exact(Bd9.one (nC (k:=4) (by decide))).mono (by omega) (by omega)
 cases iEq a 2
 rotate_left
 .exact(Bd9.one (nC (k:=5) (by decide))).mono (by omega) (by omega)
 cases iEq a 3
 rotate_left
 .exact(Bd9.one (nC h2)).mono (by omega) (by omega)
 cases iEq a 4
 rotate_left
 .exact((Bd9.cons (nC h2) (Bd9.cons (nC (k:=2) (by decide)) (Bd9.one (w:=2) a02))).app ((Zr (k:=3) h3 h4).app (Bd9.one (w:=1) (uY (by kernel_rfl))))).mono (by omega) (by omega)
 cases iEq a 5
 rotate_left
 .exact(Bd9.cons (nC h2) (Bd9.cons (nC (k:=4) (by decide)) (Bd9.cons (a01 (by omega)) (Bd9.cons (nC (k:=2) (by decide)) (Bd9.one (a01 (by omega))))))).mono (by omega) (by omega)
 cases iEq a 6
 .exact Bd9.nil.mono (by omega) (by omega)
 .exact((Bd9.one (nC (k:=3) (by decide))).app Bd9.nil).mono (by omega) (by omega)
def tp:Nat->Nat
 |0=>11
 |k+1=>tb9 (k+1)+2
def cp9:Nat->Nat
 |0=>41
 |k+1=>cb9 (k+1)+3
theorem a9k:∀k,tb9 (k+1)=3*tp k+2/\cb9 (k+1)=3*cp9 k+8
 |0=>⟨rfl,rfl⟩
 |_+1=>⟨rfl,rfl⟩
theorem a9c:∀k,11<=tp k/\41<=cp9 k
 |0=>⟨aS _,aS _⟩
 |k+1=>by
  have:=a9c k
  have:=a9k k
  show 11<=tb9 (k+1)+2/\41<=cb9 (k+1)+3
  omega
theorem a2Z:∀(k n:Nat) (e:DS0),PX k e->k+1<=n->Bd9 (iV n e) (tb9 k) (cb9 k)
 |k,0,_,_,hn=>absurd hn (by omega)
 |0,n+1,e,h,_=>Sy h
 |k+1,n+1,e,h,hn=>by
  have hg:=a9c k
  have ht:=a9k k
  rcases h with h|⟨⟨h6,h7⟩,h3,h⟩
  .exact(Sy h).mono (by omega) (by omega)
  have hp:∀a∈(show List AV from e.2.2.2.2.2.1),Bd9 (kV e.1 (aQ a).1 (iV n (aQ a))) (tp k) (cp9 k):=λa ha=>by
   have b:=a2Z k n _ (h a ha).2 (by omega)
   unfold kV
   cases k with
   |zero =>
    have hx:(aQ a).1<=6:=(h a ha).2.1
    rw[show iEq (aQ a).1 8=false by rw[dI];omega,show iEq (aQ a).1 7=false by rw[dI];omega]
    exact b
   |succ k =>
    cases cond (iEq (aQ a).1 8) true (cond (iEq (aQ a).1 7) (iNe e.1 8) false)
    .exact b.mono (rG _ _) (rG _ _)
    .exact(Bd9.cons (w:=2) a02 (b.app (Bd9.one (w:=1) (uY (by kernel_rfl))))).mono (by show _<=tb9 (k+1)+2;omega) (by show _<=cb9 (k+1)+3;omega)
  have hs:Bd9 [nmT (cond (iEq e.1 7) (bs [97,110,100]) (bs [111,114]))] 1 4:=Bd9.one (nC (k:=3) (by cases iEq e.1 7<;>decide))
  unfold iV
  rw[show iEq e.1 1=false by rw[dI];omega,show iEq e.1 2=false by rw[dI];omega,show iEq e.1 3=false by rw[dI];omega,show iEq e.1 4=false by rw[dI];omega,show iEq e.1 5=false by rw[dI];omega]
  simp only[mO]
  rcases h7 with h7|h7
  .have b:=Je hs _ 0 h7 hp
   cases iEq e.1 6
   .exact(Bd9.nil.app b).mono (by omega) (by omega)
   .exact((Bd9.one (nC (k:=3) (by decide))).app b).mono (by omega) (by omega)
  .have b:=Je hs _ 2 h3 hp
   rw[show iEq e.1 6=false by rw[dI];omega]
   exact(Bd9.nil.app b).mono (by omega) (by omega)
def bb9:Nat->Nat
 |0=>0
 |k+1=>2*(37+bb9 k)+4
def bc9:Nat->Nat
 |0=>0
 |k+1=>2*(134+bc9 k)+11
theorem b3p:∀(k n:Nat) (l:List AV),PB k l->Bd9 (bkT n l) (bb9 k) (bc9 k)
 |_,0,_,_=>Bd9.nil.mono (bN _) (bN _)
 |0,n+1,l,h=>by
  rw[bC.1 (show l.length=0 from h),Aa]
  exact Bd9.nil
 |k+1,n+1,l,⟨h1,h⟩=>by
  unfold bkT
  cases iEq (l.length:Int) 0
  rotate_left
  .exact Bd9.nil.mono (bN _) (bN _)
  have hp:∀a∈l,Bd9 (wbT (bkT n) a) (37+bb9 k) (133+bc9 k+1):=λa ha=>by
   obtain⟨_,q1,q2,q3⟩:=h a ha
   have he:Bd9 (tk (aM a).2.1) 35 131:=by have:=a2Z 1 16 _ q2 (by omega);rwa [show tb9 1=35 by decide,show cb9 1=131 by decide]at this
   exact(Bd9.cons (nC q1) (Bd9.cons (w:=1) (uY (by kernel_rfl)) (he.app (b3p k n _ q3)))).mono (by omega) (by omega)
  exact((Bd9.cons (nC (k:=6) (by decide)) (Bd9.one (w:=2) a02)).app ((Je (Bd9.one (w:=1) (uY (by kernel_rfl))) l 1 h1 hp).app (Bd9.one (w:=1) (uY (by kernel_rfl))))).mono (by show _<=2*(37+bb9 k)+4;omega) (by show _<=2*(134+bc9 k)+11;omega)
theorem b5P{k:Int}(h:1<=k/\k<=10):(kwS k).size<=11:=of_decide_eq_true (aD.1 (show kwL.all (λs=>decide (s.size<=11))=true by kernel_rfl) _ (PG h))
theorem b3o{c:DS1}(hv:gK c=true)(h:PCl c):Bd9 (clT c) 351 1266/\(c.1=2->Bd9 (clT c) 117 427):=by
 obtain⟨v1,_,_,_,v5⟩:=Ey hv
 obtain⟨h1,h2,h3,h4⟩:=h
 have he:Bd9 (tk c.2.2.1) 113 410:=by have:=a2Z 2 16 _ h2 (by omega);rwa [show tb9 2=113 by decide,show cb9 2=410 by decide]at this
 have hb:Bd9 (bk c.2.2.2.1) 234 837:=by have:=b3p 2 17 _ h3;rwa [show bb9 2=234 by decide,show bc9 2=837 by decide]at this
 have h0:Bd9 (bk ([]:List AV)) 0 0:=by unfold bk;rw[Aa];exact .nil
 unfold clT
 rcases h4 with h4|h4
 .rw[h4]
  refine⟨?_,λq=>absurd q (by decide)⟩
  rw[show iLt 0 (eU 3)=false from rfl]
  exact((Bd9.cons (nC (k:=7) (by decide)) (Bd9.cons (nC h1) (Bd9.one (w:=1) (uY (by kernel_rfl))))).app (Bd9.nil.app (he.app (hb.app (Bd9.one (w:=1) (uY (by kernel_rfl))))))).mono (by omega) (by omega)
 .rw[h4]
  refine⟨?_,λq=>?_⟩
  ·have hm:Bd9 (cond (iLt 0 (eU c.1)) [nuT c.2.2.2.2.1,nmT (bs [119,104,101,110])] []) 2 17:=by
    cases hc:iLt 0 (eU c.1) with
    |false=>exact Bd9.nil.mono (by omega) (by omega)
    |true =>
     have:=v5 (bS.mp hc)
     exact Bd9.cons (a01 (by omega)) (Bd9.one (nC (k:=4) (by decide)))
   exact((Bd9.cons (nC (b5P v1)) (Bd9.cons (nC h1) (Bd9.one (w:=1) (uY (by kernel_rfl))))).app (hm.app (he.app (h0.app (Bd9.one (w:=1) (uY (by kernel_rfl))))))).mono (by omega) (by omega)
  .rw[q,show iLt 0 (eU 2)=false from rfl]
   exact((Bd9.cons (nC (k:=5) (by decide)) (Bd9.cons (nC h1) (Bd9.one (w:=1) (uY (by kernel_rfl))))).app (Bd9.nil.app (he.app (h0.app (Bd9.one (w:=1) (uY (by kernel_rfl))))))).mono (by omega) (by omega)
def BL(ls:List (List ay))(n c:Nat):Prop:=ls.flatten.length<=n/\(ls.map λl=>cw l+1).sum<=c
theorem BL.nil:BL [] 0 0:=⟨aS _,aS _⟩
theorem BL.app{a b:List (List ay)}{n c m d:Nat}(h:BL a n c)(k:BL b m d):BL (a++b) (n+m) (c+d):=⟨by rw[kQ,ak];have:=h.1;have:=k.1;omega,by rw[aU,jH];have:=h.2;have:=k.2;omega⟩
theorem BL.one{l:List ay}{n c:Nat}(h:Bd9 l n c):BL [l] n (c+1):=⟨by simpa using h.1,by have:=h.2;simp;omega⟩
theorem BL.mono{l:List (List ay)}{n c m d:Nat}(h:BL l n c)(h1:n<=m)(h2:c<=d):BL l m d:=⟨bF h.1 h1,bF h.2 h2⟩
theorem BL.all{α:Type}{f:α->List (List ay)}{n c:Nat}:∀(l:List α),(∀a∈l,BL (f a) n c)->BL (l.map f).flatten (l.length*n) (l.length*c)
 |[],_=>by rw[dS,jP,jP];exact .nil
 |a::l,h=>by
  have:=(h a bY).app (BL.all l λb hb=>h b (bG _ hb))
  refine this.mono ?_ ?_
  all_goals rw[aL,Ac];omega
theorem b3n{l:List DS1}{k:Nat}(hv:∀c∈l,gK c=true)(h:KL l)(hl:l.length<=k+1):BL (l.map clT) (117+k*351) (428+k*1267):=by
 cases l with
 |nil=>exact BL.nil.mono (bN _) (bN _)
 |cons c l =>
  have h1:=(b3o (hv c bY) (h.1 c bY).2).2 h.2
  have h2:BL (l.map λc=>[clT c]).flatten (l.length*351) (l.length*1267):=BL.all l λd hd=>BL.one (b3o (hv d (bG _ hd)) (h.1 d (bG _ hd)).2).1
  have e:(l.map λc=>[clT c]).flatten=l.map clT:=by
   clear h1 h2 h hv hl
   induction l with
   |nil=>rfl
   |cons a l ih=>rw[bg,iB,ih];rfl
  rw[e]at h2
  rw[aL]at hl
  have:=(BL.one h1).app h2
  exact this.mono (ow (bM _ (by omega)) _) (ow (bM _ (by omega)) _)
theorem c1b{x:DS3}(hv:oQ x=true)(h:KE x):BL (enL x) 841 3090:=by
 obtain⟨h1,h2,h3,h4⟩:=h
 obtain⟨_,_,_,_,v5⟩:=J5 hv
 have wh:∀n:Int,wtT (hrT n)<=15:=λn=>aS _
 have hr:BL (cond (iLt 0 (aA x.2.1)) [nmT (bs [114,101,109,111,118,101])::(nD x.2.1++[mkT (bs [59])])] []) 15 71:=by
  cases iLt 0 (aA x.2.1)
  .exact BL.nil.mono (bN _) (bN _)
  .exact(BL.one (Bd9.cons (nC (k:=6) (by decide)) ((Zr (k:=6) h3 h4).app (Bd9.one (w:=1) (uY (by kernel_rfl)))))).mono (by omega) (by omega)
 unfold enL
 exact(((BL.one (Bd9.cons (nC (k:=7) (by decide)) (Bd9.cons (wh _) (Bd9.cons (nC (k:=2) (by decide)) (Bd9.cons (wh _) (Bd9.one (w:=1) (uY (by kernel_rfl)))))))).app hr).app ((b3n (k:=2) v5 h1 h2).app (BL.one (Bd9.cons (nC (k:=3) (by decide)) (Bd9.one (w:=1) (uY (by kernel_rfl))))))).mono (by omega) (by omega)
theorem c09{w:DS4}(hv:l8 w=true)(h:KW w):BL (o7 w) 4000 16384:=by
 obtain⟨_,_,v3,v4⟩:=Mg hv
 obtain⟨h1,h2,h3,h4⟩:=h
 have a:=b3n (k:=6) v3 h1 h2
 have b:=BL.all (f:=enL) w.2.1 (λx hx=>c1b (v4 x hx) (h4 x hx))
 have b:=b.mono (bM 841 h3) (bM 3090 h3)
 unfold o7
 exact(a.app b).mono (by omega) (by omega)
theorem b4m{p:Option ay}{t:ay}(h:iw t):(sp p t).length+(tT t).size<=wtT t:=by
 obtain⟨_,h2⟩:=wU h
 have h1:(sp p t).length<=1:=by unfold sp;cases spc p t<;>decide
 unfold wtT
 rcases h with⟨k,k2,k3⟩|⟨k,k2,k3,k4⟩|⟨k,k2,k3,k4⟩|⟨k,k2,c,hc,k3⟩
 .rcases h2 with⟨q,_⟩|⟨q,_⟩|⟨_,q⟩
  .omega
  .omega
  .rw[q,k]
   show _<=t.2.1.size+1
   omega
 .rcases h2 with⟨_,q⟩|⟨q,_⟩|⟨q,_⟩
  .rw[q,k]
   show _<=cond (iLe (-9999999999) t.2.2.1&&iLe t.2.2.1 9999999999) 12 21
   have a:=PV k3 k4
   cases hc:iLe (-9999999999) t.2.2.1&&iLe t.2.2.1 9999999999 with
   |false=>show _<=21;omega
   |true =>
    obtain⟨c1,c2⟩:=dx.mp hc
    rw[eG]at c1 c2
    have a:=tC 10 t.2.2.1.natAbs (by omega)
    have b:=tC 10 t.2.2.1.toNat (by omega)
    have:(jd t.2.2.1).size<=11:=by
     rw[<- iH,xM]
     split
     .rw[aL];omega
     .omega
    show _<=12
    omega
  .omega
  .omega
 .rcases h2 with⟨q,_⟩|⟨_,q⟩|⟨q,_⟩
  .omega
  .obtain⟨_,_,_,z⟩:=a2l k3 k4
   rw[q,k,vG]
   show _+(1+_)<=15
   omega
  .omega
 .rcases h2 with⟨q,_⟩|⟨q,_⟩|⟨_,q⟩
  .omega
  .omega
  .rw[q,k]
   show _<=cond (sEq t.2.1 (bs [40])) 2 1
   have hz:t.2.1.size=1:=by
    rw[k3];simp only[mkL,bD,bJ,or_false]at hc
    rcases hc with rfl|rfl|rfl|rfl|rfl<;>rfl
   cases hp:sEq t.2.1 (bs [40]) with
   |true=>show _<=2;omega
   |false =>
    have:(sp p t).length=0:=by
     unfold sp spc
     cases p with
     |none=>rfl
     |some p =>
      show(cond (apt p t) [32] []).length=0
      unfold apt
      rw[show iNe t.1 4=false by rw[uh];exact k,hp]
      cases cond (iEq p.1 4) (sEq p.2.1 (bs [40])) false<;>rfl
    show _<=1
    omega
theorem VU:∀(l:List ay) (p:Option ay),(∀t∈l,iw t)->(Jr p l).length<=cw l
 |[],_,_=>bN _
 |t::l,p,h=>by
  have h1:=b4m (p:=p) (h t bY)
  have h2:=VU l (some t) λu hu=>h u (bG _ hu)
  show(sp p t++(aY (tT t)++Jr (some t) l)).length<=wtT t+cw l
  rw[ak,ak,iH];omega
def txL(ls:List (List ay)):List Int:=(ls.map λl=>Jr none l++[10]).flatten
theorem Z0:∀(ls:List (List ay)) (tx:List Int) (n:Nat),(∀l∈ls,∀t∈l,iw t)->∀{m c:Nat},BL ls m c->n+m<=4000->tx.length+c<=16384->ls.foldl stp (some (tx,n))=some (tx++txL ls,n+ls.flatten.length)
 |[],tx,n,_,_,_,_,_,_=>by simp[txL]
 |l::ls,tx,n,ok,m,c,⟨h1,h2⟩,h3,h4=>by
  have hj:=VU l none (ok l bY)
  rw[iB,ak]at h1
  rw[bg,fM]at h2
  have hst:stp (some (tx,n)) l=some (tx++Jr none l++[10],n+l.length):=by
   unfold stp
   rw[iL,if_neg (by dsimp only;omega)]
  rw[eX,hst,Z0 ls _ _ (λx hx=>ok x (bG _ hx)) (m:=m-l.length) (c:=c-(cw l+1)) ⟨by omega,by omega⟩ (by omega) (by simp only[ak,aJ];omega)]
  unfold txL
  rw[bg,iB,iB,ak,aZ,aZ,gG,aZ]
theorem a9z:∀(ls:List (List ay)),(∀l∈ls,∀t∈l,iw t)->Sc (txL ls) ls.flatten/\Byt (txL ls)
 |[],_=>⟨.nil,λx hx=>by cases hx⟩
 |l::ls,ok=>by
  obtain⟨h1,h2⟩:=a9z ls λx hx=>ok x (bG _ hx)
  have e:txL (l::ls)=Jr none l++(10::txL ls):=by unfold txL;rw[bg,iB,aZ];rfl
  rw[e,iB]
  refine⟨VR l none (ok l bY) (.sp (.inr rfl) h1) λc hc=>by cases hc;exact⟨rfl,rfl⟩,λx hx=>?_⟩
  rcases aG.1 hx with q|q
  .exact(EK l none (ok l bY)).2 x q
  .rcases bD.1 q with rfl|q
   .exact⟨by omega,by omega⟩
   .exact h2 x q
theorem Ws:∀(ls:List (List ay)),(∀l∈ls,∀t∈l,iw t)->(txL ls).length<=(ls.map λl=>cw l+1).sum
 |[],_=>bN _
 |l::ls,ok=>by
  have h1:=Ws ls λx hx=>ok x (bG _ hx)
  have hj:=VU l none (ok l bY)
  unfold txL at h1 ⊢
  rw[bg,iB,ak,ak,bg,fM,aJ];omega
theorem Rj:∀(ls:List (List ay)),¬ls=[]->∃a,txL ls=a++[10]
 |[],h=>absurd rfl h
 |[l],_=>⟨Jr none l,by simp[txL]⟩
 |l::m::ls,_=>by
  obtain⟨a,ha⟩:=Rj (m::ls) (by simp)
  refine⟨Jr none l++[10]++a,?_⟩
  have:txL (l::m::ls)=Jr none l++[10]++txL (m::ls):=by unfold txL;rw[bg,iB]
  rw[this,ha,<- aZ]
theorem PX.cn:∀{k n:Nat} {e:DS0},PX k e->k+1<=n->Cn n e
 |_,0,_,_,hn=>absurd hn (by omega)
 |0,n+1,e,h,_=>λa ha=>by rw[bC.1 (show List.length (α:=AV) e.2.2.2.2.2.1=0 from h.2.1)]at ha;cases ha
 |k+1,n+1,e,h,hn=>by
  rcases h with h|⟨_,_,h⟩
  .exact λa ha=>by rw[bC.1 (show List.length (α:=AV) e.2.2.2.2.2.1=0 from h.2.1)]at ha;cases ha
  .exact λa ha=>⟨(h a ha).1,(h a ha).2.cn (by omega)⟩
theorem PB.cbk:∀{k n:Nat} {l:List AV},PB k l->CBk n l
 |_,0,_,_=>trivial
 |0,n+1,l,h=>λa ha=>by rw[bC.1 (show l.length=0 from h)]at ha;cases ha
 |k+1,n+1,l,h=>λa ha=>by
  obtain⟨q1,_,q2,q3⟩:=h.2 a ha
  exact⟨q1,q2.cn (by omega),q3.cbk⟩
theorem PCl.cc{c:DS1}(h:PCl c):CC c:=⟨h.2.1.cn (by omega),h.2.2.1.cbk⟩
section
open Go.RowKit
set_option maxRecDepth 20000
section
variable{P:Program}{Gl:Nat->Option (List AV)}
def a3y(B:Nat)(w0:W0)(v:Value)(w:World):Prop:=(∀ad y,w0.F ad=some y->w.cell? ad=some y)/\Below B w0.w w
def vH(P:Program)(Gl:Nat->Option (List AV))(f:FuncId)(h:List aH)(us:List AV)(v:Value):Prop :=
 ∀(F:Addr->Option Value) (own:List Ent) (B:Nat) (w0:W0) (t:List AV) (act:Act) (w:World) (xs:Array Value),Inv Gl F own B w0 ⟨t,h⟩ act w->RL F own xs us->
  Calls P f xs w λe w'=>e=.panicked [{ v,recovered:=false }]/\a3y B w0 v w'
def b3M(w0:W0)(B:Nat)(v:Value)(e:Exit)(a:Act)(w:World):Prop:=e=.panic [{ v,recovered:=false }]/\a.defers=w0.df/\a3y B w0 v w
theorem Sg{F:Addr->Option Value}{own:List Ent}{B:Nat}{w0:W0}{σ:St}{act:Act}{w:World}(hI:Inv Gl F own B w0 σ act w){lm:Bool}{ops:Array Oper}{o:Oper}{ins:Ins}(hc:jN P lm ops o=some ins){k:Nat}(hk:ops[k]?=some o){v:Value}{fo:Opd}{args:List Opd}{f:Nat}(hgd:ins.gd=none)(hi:ins.i=.call fo args)(hfv:σ.val Gl fo=.v (.func (.func f) #[] #[]))(hcb:callable P f=true)(hP:vH P Gl f σ.h (args.map (σ.val Gl)) v){Q:Exit->Act->World->Prop}(hQ:∀w',a3y B w0 v w'->Q (.panic [{ v,recovered:=false }]) act w')(next:Act->World->Prop):wpOp P ops Q k next act w:=by
 unfold wpOp
 rw[hk]
 simp only
 unfold jN at hc
 cases hci:cI P (a2d P lm ops o) o.op with
 |none=>rw[hci]at hc;cases hc
 |some i =>
  rw[hci]at hc
  simp only at hc
  have hg:o.guard=none:=by
   cases hg:o.guard with
   |none=>rfl
   |some q =>
    obtain⟨j,want⟩:=q
    rw[hg]at hc
    simp only at hc
    split at hc
    .cases hc;cases hgd
    .cases hc
  rw[hg]at hc
  cases hc
  simp only at hi
  subst hi
  rw[if_pos (by simp[Region.wanted,hg])]
  left
  obtain⟨c,x,hop,a2u,rfl,rfl⟩:=Sr hci
  obtain⟨fn,hfn,hbody,hname⟩:=Dj hcb
  have hev:act.eval x=.func (.func f) #[] #[]:=by have:=hI.ev x;rw[hfv]at this;exact this.dK
  have hrl:RL F own (c.args.map act.eval) ((c.args.toList.map bH).map (σ.val Gl)):=by
   refine⟨by simp,λj x a hx ha=>?_⟩
   have hj:j<c.args.size:=by have:=(fC.1 hx).1;simpa using this
   rw[tN,aF hj]at hx
   cases hx
   simp[ah,hj]at ha
   subst ha
   exact hI.ev c.args[j]
  have hrun:(execOp act.eval o).run P w=.ok (.enter f (c.args.map act.eval)) w:=by
   unfold execOp
   simp only[hop]
   have hb':¬fn.body=none:=by intro q;rw[q]at hbody;cases hbody
   have hn':¬fn.name= "runtime.NumGoroutine":=by simpa using hname
   simp[resolve,a2u,hev,Deferred.ofValue,invoke,callFunc,hfn,hn',hb']
  unfold Oper.wp
  rw[hrun,Oper.upon_enter]
  refine(hP F own B w0 σ.t act w _ hI hrl).mono ?_
  rintro e w' ⟨rfl,hD⟩
  exact hQ w' hD
theorem vH.ofW{f:FuncId}{fn:Func}{code:Code}(hf:P.funcs[f]?=some fn)(hb:fn.body=some code){h0:List aH}{us:List AV}{v:Value}
  (h:∀(F:Addr->Option Value) (own:List Ent) (B:Nat) (w0:W0) (act:Act) (w:World),Inv Gl F own B w0 ⟨us++List.replicate (fn.ntmps-us.length) .any,h0⟩ act w->code.wp P (b3M w0 B v) act w):vH P Gl f h0 us v:=by
 intro F own B w0 t act w xs hI hxs
 refine calls_of_wp hf hb ?_
 have GD:∀q∈w0.fr,q.1<=h0.length:=λq hq=>bF (w0.hfr q hq) hI.nl
 have hI1:Inv Gl F own B ⟨w0.w,w0.F,h0.length,w0.fr,GD,w0.pd,w0.pdn,[]⟩ ⟨us++List.replicate (fn.ntmps-us.length) .any,h0⟩ { tmps:=xs++Array.replicate (fn.ntmps-xs.size) undef,defers:=[] } w:=by
  refine{ tl:=by simp[hxs.1],tr:=λi x a p q=>?_,defers:=rfl,sub:=hI.sub,hl:=hI.hl,objs:=hI.objs,inj:=hI.inj,below:=hI.below,base:=hI.base,gl:=hI.gl,gw:=hI.gw,room:=hI.room,ext:=hI.ext,jI:=hI.jI,nl:=aS _,fr:=hI.fr,pd:=hI.pd }
  simp only at p q
  rcases bI i us.length with hi|hi
  .rw[au hi]at q
   rw[gU (by rw[hxs.1];exact hi)]at p
   exact hxs.2 i x a p q
  .rw[aO hi,kD]at q
   split at q
   .cases q;exact .pure (.any _)
   .cases q
 refine wp_mono (h F own _ _ _ w hI1) ?_
 rintro e a1 w1 ⟨rfl,hd,hD⟩
 exact⟨hd,rfl,hD⟩
def Ji(F:Addr->Option Value)(w:World)(res:AV)(e:Ending)(w':World):Prop :=
 ∃v F',e=.returned v/\(∀ad y,F ad=some y->F' ad=some y)/\(∀ad y,F' ad=some y->w'.cell? ad=some y)/\(∀ad y,F' ad=some y->F ad=some y\/w.heap.size<=ad.block)/\RP F' v res/\Below w.heap.size w w'
theorem Oz{fn:Func}{rs:List RV}(hr:sj P fn.results.toList=some rs){F F1:Addr->Option Value}{dO:List Ent}{w w1:World}{W0':W0}(hw0:W0'.w=w)(hF0:W0'.F=F){τ:St}{a1:Act}(hI1:Inv Gl F1 dO w.heap.size W0' τ a1 w1){p:Prop}{l:List AV}(hl:nY Gl τ rs=some (p,l))(hp:p){Oh res:AV}(hk:CG τ.h (jX l)=some Oh)(hwk:Wk Oh res) :
  ∃v,(Go.results fn a1.tmps).run P w1=.ok v w1/\Ji F w res (.returned v) w1:=by
 obtain⟨ys,hrun,hyl,hyR⟩:=yK hI1 fn.results.toList rs p l hr hl hp
 have yZ:(fn.results.mapM (Abs.DV a1.tmps)).run P w1=.ok ys.toArray w1:=by
  rw[nO]
  simp only[Sem.run_map,hrun,Result.andThen_ok]
 obtain⟨F2,hF2,hI2,hkp⟩:=hI1.um (List.range τ.h.length)
 have Qb:∀id,Kept F2 dO τ.h w1 id:=λid=>by
  intro ob e' g hob
  exact hkp id (bL.2 (aj.1 hob).1) ob e' g hob
 have fin:∀v,R F1 dO v (jX l)->RP F2 v Oh:=by
  intro v hR
  by_cases ha:∃vs,jX l=.tup vs
  .obtain⟨vs,ea⟩:=ha
   rw[ea]at hR hk
   have hk':(dV τ.h vs).map AV.tup=some Oh:=hk
   cases hq:dV τ.h vs with
   |none=>rw[hq]at hk';cases hk'
   |some ds =>
    rw[hq]at hk';cases hk'
    obtain⟨zs,rfl,z1,z2⟩:=hR.tQ
    obtain⟨l1,l2⟩:=wD hI1 hF2 vs ds hq (λid _=>Qb id)
    refine .tup zs ds (by omega) λj x c p q=>?_
    have hj:j<vs.length:=by rw[l1];exact(aj.1 q).1
    exact(l2 j x vs[j] c (ah hj) q (z2 j x _ p (ah hj))).1
  ·have hk':gW τ.h (jX l)=some Oh:=by
    revert hk ha
    generalize jX l=a
    intro hk ha
    cases a<;>first|exact hk|exact absurd ⟨_,rfl⟩ ha
   exact(nQ hI1 hF2 hR hk' (λid _=>Qb id)).1
 have done:∀v,R F1 dO v (jX l)->Ji F w res (.returned v) w1:=λv hR =>
  ⟨v,F2,rfl,by rw[<- hF0];exact hI2.jI,hI2.sub,λad y q=>by rw[<- hF0];exact hI2.ext ad y q,hwk _ _ (fin v hR),by rw[<- hw0];rw[hw0];have:=hI2.below;rw[hw0]at this;exact this⟩
 match l,hyl,hyR,done with
 |[x],hyl,hyR,done =>
  have hy1:ys.length=1:=by simpa using hyl
  obtain⟨y,rfl⟩:=mR.1 hy1
  refine⟨y,?_,done y (hyR 0 y x rfl rfl)⟩
  rw[mJ]
  simp only[Sem.run_bind,yZ,Result.andThen_ok]
  rfl
 |[],hyl,hyR,done =>
  have hy0:ys=[]:=bC.1 hyl
  subst hy0
  refine⟨.tuple #[],?_,done _ (.tup _ _ rfl λj x c p q=>by simp at p)⟩
  rw[mJ]
  simp only[Sem.run_bind,yZ,Result.andThen_ok]
  rfl
 |x::x'::l',hyl,hyR,done =>
  refine⟨.tuple ys.toArray,?_,done _ (.tup _ _ (by simp[hyl]) λj x c p q=>hyR j x c (by simpa using p) q)⟩
  rw[mJ]
  simp only[Sem.run_bind,yZ,Result.andThen_ok]
  have hy1:¬ys.toArray.size=1:=λq=>by
   have:ys.length=1:=by simpa using q
   simp only[aL]at hyl
   omega
  rw[dif_neg hy1]
  rfl
theorem Inv.more{F:Addr->Option Value}{own:List Ent}{B:Nat}{w0:W0}{σ:St}{act:Act}{w w':World}(h:Inv Gl F own B w0 σ act w)(hb:Below w.heap.size w w'):Inv Gl F own B w0 σ act w' :=
 h.call (F':=F) (λ_ _ q=>q) (λad y q=>by rw[World.cell?_of_block (w:=w) (hb.block _ (h.Ah q))];exact h.sub _ _ q) (λ_ _ q=>.inl q) hb
theorem Y1{ops:Array Oper}{Q:Exit->Act->World->Prop}{i:Nat}{rest:List Nat}{a:Act}{w w':World}{o:Oper}{v:Value}(ho:ops[i]?=some o)(hg:o.guard=none)(hr:(execOp a.eval o).run P w=.ok (.value v) w')(h:wpOps P ops Q rest (a.put o.dst v) w'):wpOps P ops Q (i::rest) a w:=by
 simp only[wpOps,ho]
 rw[if_pos (by simp[Region.wanted,hg])]
 left
 unfold Oper.wp
 rw[hr];exact h
theorem b0k{ops:Array Oper}{Q:Exit->Act->World->Prop}{i:Nat}{rest:List Nat}{a:Act}{w w':World}{o:Oper}{v:Value}(ho:ops[i]?=some o)(hg:o.guard=none)(hr:(execOp a.eval o).run P w=.halt (.panic v) w')(h:Q (.panic [{ v,recovered:=false }]) a w'):wpOps P ops Q (i::rest) a w:=by
 simp only[wpOps,ho]
 rw[if_pos (by simp[Region.wanted,hg])]
 left
 unfold Oper.wp
 rw[hr];exact h
theorem b0l{ops:Array Oper}{Q:Exit->Act->World->Prop}{i:Nat}{rest:List Nat}{a:Act}{w w':World}{o:Oper}{d:Deferred}(ho:ops[i]?=some o)(hg:o.guard=none)(hr:(execOp a.eval o).run P w=.ok (.defer d) w')(h:wpOps P ops Q rest ({ a with defers:=d::a.defers }.put o.dst undef) w'):wpOps P ops Q (i::rest) a w:=by
 simp only[wpOps,ho]
 rw[if_pos (by simp[Region.wanted,hg])]
 left
 unfold Oper.wp
 rw[hr];exact h
theorem a1E{ops:Array Oper}{Q:Exit->Act->List Frame->World->Prop}{i:Nat}{rest:List Nat}{a:Act}{cs:List Frame}{w w':World}{o:Oper}{v:Value}(ho:ops[i]?=some o)(hg:o.guard=none)(hr:(execOp a.eval o).run P w=.ok (.value v) w')(h:wpOpsS P ops Q rest (a.put o.dst v) cs w'):wpOpsS P ops Q (i::rest) a cs w:=by
 simp only[wpOpsS,ho]
 rw[if_pos (by simp[Region.wanted,hg]),hr]
 exact h
theorem a1F{ops:Array Oper}{Q:Exit->Act->List Frame->World->Prop}{i:Nat}{rest:List Nat}{a:Act}{cs cs':List Frame}{w:World}{o:Oper}{v:Value}(ho:ops[i]?=some o)(hg:o.guard=none)(hr:(execOp a.eval o).run P w=.ok .recover w)(hc:recoverD cs=some (v,cs')\/(recoverD cs=none/\v=.nilIface/\cs'=cs))(h:wpOpsS P ops Q rest (a.put o.dst v) cs' w):wpOpsS P ops Q (i::rest) a cs w:=by
 simp only[wpOpsS,ho]
 rw[if_pos (by simp[Region.wanted,hg]),hr]
 rcases hc with hc|⟨hc,rfl,rfl⟩
 .simp only[hc];exact h
 .simp only[hc];exact h
theorem F7{ops:Array Oper}{Q:Exit->Act->List Frame->World->Prop}{cs:List Frame}(hno:∀a w,¬Q .outgrown a cs w):∀(l:List Nat) (a:Act) (w:World),wpOps P ops (λe a w=>Q e a cs w) l a w->wpOpsS P ops Q l a cs w
 |[],a,w,h=>h
 |i::rest,a,w,h=>by
  simp only[wpOps]at h
  simp only[wpOpsS]
  cases ho:ops[i]? with
  |none=>rw[ho]at h;exact F7 hno rest a w h
  |some o =>
   rw[ho]at h
   simp only at h ⊢
   split at h
   .rename_i hw
    rw[if_pos hw]
    rcases h with h|⟨_,a0,w0,h0⟩
    .unfold Oper.wp at h
     generalize (execOp a.eval o).run P w=r at h
     have conv:∀(nx:Act->World->Prop) (nx':Act->World->Prop),(∀a w,nx a w->nx' a w)->o.upon P a nx (λe a w=>Q e a cs w) r->o.upon P a nx' (λe a w=>Q e a cs w) r:=by
      intro nx nx' hn hu
      unfold Oper.upon at hu ⊢
      split at hu
      .exact hn _ _ hu
      .exact hn _ _ hu
      .exact hn _ _ hu
      .refine Calls.mono hu ?_
       intro e w' he
       cases e with
       |returned v=>exact hn _ _ he
       |panicked c=>exact he
       |outgrown=>exact he
      .refine Rows.mono hu ?_
       intro v w' he
       exact hn _ _ he
      .exact hu
      .exact hu.elim
     have h2:=conv _ (λa w=>wpOpsS P ops Q rest a cs w) (λa w hh=>F7 hno rest a w hh) h
     split
     .rename_i w'
      exact h2.elim
     .exact h2
    .exact absurd h0 (hno a0 w0)
   .rename_i hw
    rw[if_neg hw]
    exact F7 hno rest _ w h
def Q6(P:Program)(ops:Array Oper)(k:Nat):List Ins:=(ops.toList.drop k).filterMap (jN P false ops)
theorem Lg{ops:Array Oper}{k m:Nat}(hall:((ops.toList.drop k).take m).all (λo=>(jN P false ops o).isSome)=true):∀j,j<m->k+j<ops.size->∃ins o,(Q6 P ops k)[j]?=some ins/\ops[k+j]?=some o/\jN P false ops o=some ins:=by
 unfold Q6
 have key:∀(l:List Oper) (m:Nat),(l.take m).all (λo=>(jN P false ops o).isSome)=true->∀(j:Nat) (o:Oper),j<m->l[j]?=some o->∃ins,(l.filterMap (jN P false ops))[j]?=some ins/\jN P false ops o=some ins:=by
  intro l
  induction l with
  |nil=>intro m _ j o _ hj;simp at hj
  |cons x l ih =>
   intro m ha j o hm hj
   cases m with
   |zero=>omega
   |succ m =>
    simp only[List.take_succ_cons,jT,aB]at ha
    obtain⟨i,hi⟩:=Option.isSome_iff_exists.1 ha.1
    rw[List.filterMap_cons_some hi]
    cases j with
    |zero=>cases hj;exact⟨i,rfl,hi⟩
    |succ j=>exact ih m ha.2 j o (by omega) (by simpa using hj)
 intro j hm hj
 have ho:ops[k+j]?=some ops[k+j]:=aF hj
 obtain⟨ins,h1,h2⟩:=key (ops.toList.drop k) m hall j ops[k+j] hm (by rw[fT];simp)
 exact⟨ins,_,h1,ho,h2⟩
theorem Ii{ops:Array Oper}{Q:Exit->Act->World->Prop}{rest:List Nat}{B:Nat}{w0:W0}{K:St->Prop}(hK:∀a w,lY Gl B w0 K a w->wpOps P ops Q rest a w):∀(l:List Ins) (k:Nat),(∀j,j<l.length->∃o ins,l[j]?=some ins/\ops[k+j]?=some o/\jN P false ops o=some ins)->
  ∀(σ:St) (F:Addr->Option Value) (own:List Ent) (act:Act) (w:World),tH P Gl false K l σ->Inv Gl F own B w0 σ act w->wpOps P ops Q (List.range' k l.length++rest) act w:=by
 intro l
 induction l with
 |nil=>intro k _ σ F own act w ha hI;exact hK act w ⟨F,own,σ,hI,ha⟩
 |cons ins l ih =>
  intro k hl σ F own act w ha hI
  obtain⟨o,ins',e1,e2,e3⟩:=hl 0 (by simp)
  simp at e1
  subst e1
  simp only[jQ]at e2
  rw[aL,oh,Af,wpOps_cons]
  refine wpOp_mono ?_ (nI hI e3 ha Q e2)
  rintro a w1 ⟨F1,dO,σ1,hI1,hK1⟩
  exact ih (k+1) (λj hj=>by
   obtain⟨o',i',f1,f2,f3⟩:=hl (j+1) (by simp;omega)
   exact⟨o',i',by simpa using f1,by rw[<- f2];congr 1;omega,f3⟩) σ1 F1 dO a w1 hK1 hI1
theorem Za{F:Addr->Option Value}{w:World}{xs:Array Value}{az:List AV}{n:Nat}(hF:∀a x,F a=some x->w.cell? a=some x)(hgl:KD Gl F)(hgw:GlW Gl w.heap.size w)(hxs:RPL F xs az) :
  Inv Gl F [] w.heap.size ⟨w,F,0,[],(λq hq=>by simp at hq),[],List.Pairwise.nil,[]⟩ ⟨az++List.replicate (n-az.length) .any,[]⟩ { tmps:=xs++Array.replicate (n-xs.size) undef,defers:=[] } w:=by
 refine{ tl:=by simp[hxs.1],tr:=λi x a p q=>?_,defers:=rfl,sub:=hF,hl:=rfl,objs:=λid e o p=>by simp at p,inj:=λi j e e' g p=>by simp at p,below:=Below.refl _ _,base:=λid e g p=>by simp at p,gl:=hgl,gw:=hgw,room:=aS _,ext:=λ_ _ q=>.inl q,jI:=λ_ _ q=>q,nl:=bN _,fr:=(λq hq=>by simp at hq),pd:=λq hq=>by simp at hq }
 simp only at p q
 rcases bI i az.length with hi|hi
 .rw[au hi]at q
  rw[gU (by rw[hxs.1];exact hi)]at p
  exact .pure (hxs.2 i x a p q)
 .rw[aO hi,kD]at q
  split at q
  .cases q;exact .pure (.any _)
  .cases q
end
set_option maxRecDepth 20000
section
variable{P:Program}{Gl:Nat->Option (List AV)}
structure a3v (P:Program) (f:Nat) (fn:Func) (ops:Array Oper) (y:Code) (l:List Ins) (o0 o1:Oper) (tt:TypeId):Prop where
 fn9:P.funcs[f]?=some fn
 body:fn.body=some ((Code.region 0 ops false).seq y)
 res:fn.results=#[]
 nt:fn.ntmps=29
 sz:ops.size=8
 p0:ops[0]?=some o0
 g0:o0.guard=none
 d0:o0.dst=some 8
 q0:o0.op=.call { callee:=.builtin .recover,args:=#[],argTypes:=#[] }
 p1:ops[1]?=some o1
 g1:o1.guard=none
 d1:o1.dst=some 9
 q1:o1.op=.typeAssert (.tmp 8) 20 tt true
 all:((ops.toList.drop 2).take 6).all (λo=>(jN P false ops o).isSome)=true
 li:l=Q6 P ops 2
 ll:l.length=6
def st9(az:List AV)(h:List aH)(a8 a9:AV):St:=St.put (St.put ⟨az++List.replicate (29-az.length) .any,h⟩ (some 8) a8) (some 9) a9
def QN(e:Exit):Prop:=match e with|.normal=>True|.ret=>True|_=>False
theorem d9(hm:P.follows .mixedOrders=true){f9:Nat}{fn:Func}{ops:Array Oper}{y:Code}{l9:List Ins}{o0 o1:Oper}{tt:TypeId}(hr9:a3v P f9 fn ops y l9 o0 o1 tt){hl:List Nat}
    {h:List aH} {az:List AV} {u u':FrameMode} {v8:Value} {v9:Value} {a9:AV} (hl9:az.length=5)
    (hrec:∀(c₀:Frame) (cs:List Frame),c₀.mode=u->recoverD (c₀::cs)=some (v8,{ c₀ with mode:=u' }::cs)\/(recoverD (c₀::cs)=none/\v8=.nilIface/\({ c₀ with mode:=u' }::cs:List Frame)=c₀::cs))
    (hta:∀w,(Instr.typeAssert v8 20 tt true).run P w=.ok v9 w) (hR9:∀F,RP F v9 a9)
    {cy:C} (hcy:cC P hl y=some cy) {Kd:List aH->Prop} (h0:tH P Gl false (awp P Gl h.length cy (λe τ'=>QN e/\Kd τ'.h)) l9 (st9 az h (.v v8) a9))
    {F:Addr->Option Value} {own:List Ent} {B:Nat} {w0:W0} {t:List AV} {act:Act} {w:World} {xs:Array Value} (hI:Inv Gl F own B w0 ⟨t,h⟩ act w) (hxs:RL F own xs az) :
    CallsD P f9 xs u w λe u1 w'=>e=.returned (.tuple #[])/\u1=u'/\∃F' own' h',Kd h'/\Inv Gl F' own' B w0 ⟨t,h'⟩ act w':=by
  obtain⟨hfn,hb,b6k,hn,hsz,p0,g0,d0,q0,p1,g1,d1,q1,hall,hli,hll⟩:=hr9
  refine callsD_of_wpS hfn hb λc₀ cs hu=>?_
  rw[hn]
  apply wpS_seq
  apply wpS_region
  rw[hsz,show List.range 8=0::1::List.range' 2 6 from rfl]
  let fr':List (Nat×Value×AV):=(List.range t.length).map λi=>(h.length,act.tmps.getD i undef,t.getD i .any)
  have GD:∀ q ∈ w0.fr ++ fr',q.1<=h.length:=fun q hq=>by
    rcases aG.1 hq with hq|hq
    .exact bF (w0.hfr q hq) hI.nl
    .obtain⟨i,_,rfl⟩:=bX.1 hq;exact aS _
  have hown:own.take h.length=own:=eF (by rw[hI.hl];exact aS _)
  have hI1:Inv Gl F own B ⟨w0.w,w0.F,h.length,w0.fr ++ fr',GD,w0.pd,w0.pdn,[]⟩ ⟨az ++ List.replicate (29 - az.length) .any,h⟩ { tmps:=xs ++ Array.replicate (29 - xs.size) undef,defers:=[] } w:=by
    refine{ tl:=by simp[hxs.1],tr:=λi x a p q=>?_,defers:=rfl,sub:=hI.sub,hl:=hI.hl,objs:=hI.objs,inj:=hI.inj,below:=hI.below,base:=hI.base,gl:=hI.gl,gw:=hI.gw,room:=hI.room,ext:=hI.ext,jI:=hI.jI,nl:=aS _,fr:=λq hq=>?_,pd:=hI.pd }
    · simp only at p q
      rcases bI i az.length with hi|hi
      · rw [au hi] at q
        rw[gU (by rw[hxs.1];exact hi)]at p
        exact hxs.2 i x a p q
      · rw [aO hi,kD] at q
        split at q
        .cases q;exact .pure (.any _)
        .cases q
    · rcases aG.1 hq with hq | hq
      .exact hI.fr q hq
      · obtain ⟨i,hi,rfl⟩:=bX.1 hq
        have hi':=bL.1 hi
        have hlt:i<act.tmps.size:=by rw[hI.tl];exact hi'
        rw[hown]
        exact hI.tr i _ _ (by simp[Array.getD,hlt]) (by simp[List.getD,ah hi'])
  refine a1F (cs':={ c₀ with mode:=u' }::cs) (v:=v8) p0 g0 (by unfold execOp;rw[q0];rfl) ?_ ?_
  · rcases hrec c₀ cs hu with q | ⟨q,q',q''⟩
    .exact .inl q
    .exact .inr ⟨q,q',q''⟩
  rw[d0]
  have hI2:=hI1.put (x:=v8) (a:=.v v8) (.pure (.v v8)) (some 8)
  have ev8:(Act.put { tmps:=xs ++ Array.replicate (29 - xs.size) undef,defers:=[] } (some 8) v8).eval (.tmp 8)=v8:=by
    have:=hI2.ev (.tmp 8)
    have e8:(St.put ⟨az ++ List.replicate (29 - az.length) .any,h⟩ (some 8) (.v v8)).val Gl (bH (.tmp 8))=.v v8:=by
      show((az++List.replicate (29-az.length) AV.any).set 8 (.v v8)).getD 8 .any=.v v8
      rw[bB,aK (by simp[hl9])]
      rfl
    rw[e8]at this
    exact this.dK
  refine a1E (v:=v9) (w':=w) p1 g1 ?_ ?_
  · unfold execOp
    rw[q1]
    simp only[ev8]
    have:=hta w
    simp only[Sem.run_bind,this,Result.andThen_ok]
    rfl
  rw[d1]
  have hI3:=hI2.put (x:=v9) (a:=a9) (.pure (hR9 F)) (some 9)
  refine F7 ?_ _ _ _ ?_
  · intro a w' hq
    obtain⟨u0,q⟩:=hq
    cases q.1
  rw[show(6:Nat)=l9.length from hll.symm]
  refine KR (K:=awp P Gl h.length cy (λe τ'=>QN e/\Kd τ'.h)) (lm:=false) (d:=false) ?_ l9 2 (λj hj=>by rw[hli];exact Lg hall j (by rw[hsz]at hj;omega) hj) (by rw[hll,hsz]) _ F own _ _ h0 hI3
  rintro a1 w1 ⟨F1,dO,τ1,hI4,hk1⟩
  refine wpS_of_wp (wp_mono (mP hm rfl y cy hcy _ τ1 F1 dO a1 w1 hk1 hI4) ?_)
  rintro e a2 w2 ⟨_,F2,zL,τ2,hI5,he,hkd⟩
  have hback:Inv Gl F2 zL B w0 ⟨t,τ2.h⟩ act w2 :=
    { tl := hI.tl, tr := fun i x a p q => by
        have hi:i<t.length:=(aj.1 q).1
        have hlt:i<act.tmps.size:=by rw[hI.tl];exact hi
        have:=hI5.fr (h.length,act.tmps.getD i undef,t.getD i .any) (aG.2 (.inr (bX.2 ⟨i,bL.2 hi,rfl⟩)))
        have e1:act.tmps.getD i undef=x:=by simp[Array.getD,hlt];rw[aF hlt]at p;exact aI p
        have e2:t.getD i .any=a:=by
          have q':t[i]?=some a:=q
          simp[List.getD,q']
        rw[e1,e2]at this
        exact this.mono (λ_ _ r=>r) (Le.JI _ _),
      defers:=hI.defers,sub:=hI5.sub,hl:=hI5.hl,objs:=hI5.objs,inj:=hI5.inj,below:=hI5.below,base:=hI5.base,gl:=hI5.gl,gw:=hI.gw,room:=hI5.room,ext:=hI5.ext,jI:=hI5.jI,nl:=bF hI.nl hI5.nl,fr:=λq hq=>hI5.fr q (aG.2 (.inl hq)),pd:=hI5.pd }
  have hres:(Go.results fn a2.tmps).run P w2=.ok (.tuple #[]) w2:=by
    rw[mJ,b6k]
    simp
  have fin:a2.defers=[]/\∃ u1,({ c₀ with mode:=u' } :: cs:List Frame)={ c₀ with mode:=u1 } :: cs/\∃ v,(Go.results fn a2.tmps).run P w2=.ok v w2/\(Ending.returned v=.returned (.tuple #[])/\u1=u'/\∃ F' own' h',Kd h'/\Inv Gl F' own' B w0 ⟨t,h'⟩ act w2) :=
    ⟨hI5.defers,u',rfl,_,hres,rfl,rfl,F2,zL,_,hkd,hback⟩
  cases e with
  |normal=>exact fin
  |ret=>exact fin
  |_=>exact he.elim
structure VP (P:Program) (f f9:Nat) (fn:Func) (x1 x2 x3:Code) (ops:Array Oper) (y:Code) (o0 o1:Oper):Prop where
 fn4:P.funcs[f]?=some fn
 body:fn.body=some (x1.seq (x2.seq (x3.seq ((Code.region 4 ops false).seq y))))
 nt:fn.ntmps=23
 res:fn.results=#[.cell 2 29,.cell 3 3,.cell 4 46]
 sz:ops.size=2
 p0:ops[0]?=some o0
 g0:o0.guard=none
 d0:o0.dst=some 18
 q0:o0.op=.makeFunc (.func f9) #[] #[.tmp 1,.tmp 2,.tmp 3,.tmp 4,.tmp 5]
 p1:ops[1]?=some o1
 g1:o1.guard=none
 d1:o1.dst=none
 q1:o1.op=.defer { callee:=.value (.tmp 18),args:=#[],argTypes:=#[] }
def qh(act:Act):Array Value:=#[act.tmps.getD 1 undef,act.tmps.getD 2 undef,act.tmps.getD 3 undef,act.tmps.getD 4 undef,act.tmps.getD 5 undef]
def Ja(σ:St):List AV:=[σ.t.getD 1 .any,σ.t.getD 2 .any,σ.t.getD 3 .any,σ.t.getD 4 .any,σ.t.getD 5 .any]
def A8(f9:Nat)(act:Act):Deferred:={ target:=.fn (.func f9) (qh act),args:=#[] }
theorem a9D{o:Oper}{f9:Nat}{act:Act}{w:World}(h:o.op=.makeFunc (.func f9) #[] #[.tmp 1,.tmp 2,.tmp 3,.tmp 4,.tmp 5]):(execOp act.eval o).run P w=.ok (.value (.func (.func f9) #[] (qh act))) w:=by
 have hmf:∀(fn:Go.Fn) (first cap:Array Value) (w:World),(Instr.makeFunc fn first cap).run P w=.ok (.func fn first cap) w:=λ_ _ _ _=>rfl
 unfold execOp
 simp only[h]
 simp[hmf,qh,Act.eval]
theorem a9E{o:Oper}{f9:Nat}{a act:Act}{w:World}(h:o.op=.defer { callee:=.value (.tmp 18),args:=#[],argTypes:=#[] })(he:a.eval (.tmp 18)=.func (.func f9) #[] (qh act)):(execOp a.eval o).run P w=.ok (.defer (A8 f9 act)) w:=by
 unfold execOp
 simp only[h]
 simp[resolve,he,Deferred.ofValue,A8]
theorem a9L{f f9:Nat}{fn:Func}{x1 x2 x3:Code}{ops:Array Oper}{y:Code}{o0 o1:Oper}(h4:VP P f f9 fn x1 x2 x3 ops y o0 o1){act:Act}{w:World}{Q:Exit->Act->World->Prop}(hs:act.tmps.size=23)(hQ:Q .normal { tmps:=(act.put (some 18) (.func (.func f9) #[] (qh act))).tmps,defers:=A8 f9 act::act.defers } w):(Code.region 4 ops false).wp P Q act w:=by
 refine wp_region ?_
 rw[h4.sz,show List.range 2=[0,1] from rfl]
 refine Y1 (v:=.func (.func f9) #[] (qh act)) (w':=w) h4.p0 h4.g0 (a9D h4.q0) ?_
 rw[h4.d0]
 have e18:(act.put (some 18) (.func (.func f9) #[] (qh act))).eval (.tmp 18)=.func (.func f9) #[] (qh act):=by
  simp[Act.put,Act.eval,hs]
 refine b0l (d:=A8 f9 act) (w':=w) h4.p1 h4.g1 (a9E h4.q1 e18) ?_
 rw[h4.d1]
 exact hQ
theorem a9M{F:Addr->Option Value}{own:List Ent}{B:Nat}{w0:W0}{σ:St}{act:Act}{w:World}(hI:Inv Gl F own B w0 σ act w)(ht:σ.t.length=23)(f9:Nat) :
  ∃W1:W0,W1.N=σ.h.length/\W1.w=w0.w/\W1.F=w0.F/\W1.df=A8 f9 act::act.defers/\Inv Gl F own B W1 (σ.put (some 18) .any) { tmps:=(act.put (some 18) (.func (.func f9) #[] (qh act))).tmps,defers:=A8 f9 act::act.defers } w/\
   ∀F' own' τ act' w',Inv Gl F' own' B W1 τ act' w'->RL F' own' (qh act) (Ja σ):=by
 let prs:List (Nat×Value×AV):=[1,2,3,4,5].map λi=>(σ.h.length,act.tmps.getD i undef,σ.t.getD i .any)
 have GD:∀q∈w0.fr++prs,q.1<=σ.h.length:=λq hq=>by
  rcases aG.1 hq with hq|hq
  .exact bF (w0.hfr q hq) hI.nl
  .obtain⟨i,_,rfl⟩:=bX.1 hq;exact aS _
 have hown:own.take σ.h.length=own:=eF (by rw[hI.hl];exact aS _)
 have hI1:=hI.put (x:=.func (.func f9) #[] (qh act)) (a:=.any) (.pure (.any _)) (some 18)
 refine⟨⟨w0.w,w0.F,σ.h.length,w0.fr++prs,GD,w0.pd,w0.pdn,A8 f9 act::act.defers⟩,rfl,rfl,rfl,rfl,?_,?_⟩
 .refine{ tl:=hI1.tl,tr:=hI1.tr,defers:=rfl,sub:=hI1.sub,hl:=hI1.hl,objs:=hI1.objs,inj:=hI1.inj,below:=hI1.below,base:=hI1.base,gl:=hI1.gl,gw:=hI1.gw,room:=hI1.room,ext:=hI1.ext,jI:=hI1.jI,nl:=aS _,fr:=λq hq=>?_,pd:=hI1.pd }
  rcases aG.1 hq with hq|hq
  .exact hI1.fr q hq
  .obtain⟨i,hi,rfl⟩:=bX.1 hq
   rw[hown]
   exact hI.ev (.tmp i)
 .intro F' own' τ act' w' hI'
  have get:∀i∈[1,2,3,4,5],R F' own' (act.tmps.getD i undef) (σ.t.getD i .any):=λi hi =>
   (hI'.fr (σ.h.length,act.tmps.getD i undef,σ.t.getD i .any) (aG.2 (.inr (bX.2 ⟨i,hi,rfl⟩)))).mono (λ_ _ r=>r) (Le.JI _ _)
  refine⟨rfl,λi x a p q=>?_⟩
  match i,p,q with
  |0,p,q=>cases p;cases q;exact get 1 (by simp)
  |1,p,q=>cases p;cases q;exact get 2 (by simp)
  |2,p,q=>cases p;cases q;exact get 3 (by simp)
  |3,p,q=>cases p;cases q;exact get 4 (by simp)
  |4,p,q=>cases p;cases q;exact get 5 (by simp)
  |n+5,p,q=>simp[Ja]at q
theorem a9K{F:Addr->Option Value}{own:List Ent}{B:Nat}{w0:W0}{σ:St}{act:Act}{w:World}(hI:Inv Gl F own B w0 σ act w){i id:Nat}(hi:σ.val Gl (.t i)=.ptr id 1 0 0){ob:aH}(hob:σ.h[id]?=some ob){a b:AV}(hes:ob.es=[a])(hsz:ob.sz=1)(hc:a.cells=[a])(hk:gW σ.h a=some b)(hc':b.cells=[b]) :
  ∃F3,(∀ad y,F ad=some y->F3 ad=some y)/\(∀ad y,F3 ad=some y->w.cell? ad=some y)/\RP F3 (act.tmps.getD i undef) (.iF [b]):=by
 obtain⟨F1,hF1,hI1,hkp⟩:=hI.um (dU a)
 have hp:=hI.ev (.tmp i)
 rw[show bH (.tmp i)=.t i from rfl,hi]at hp
 obtain⟨e,he,hO⟩:=hI.xE hob
 obtain⟨c1,c2,c3,c4,c5,c6,c7,c8⟩:=hO
 have hG:e.G=1:=by rw[c1,hes];rfl
 have hx:∃g,e.g=some g/\act.eval (.tmp i)=.pointer (some ⟨g,0,none⟩):=by
  generalize act.eval (.tmp i)=x at hp
  cases hp with
  |pure h=>cases h
  |ptr x id G i off e' he' hG' hs hx hz =>
   rw[he]at he';cases he'
   obtain⟨g,q1,q2⟩:=hx hG.symm
   exact⟨g,q1,by rw[q2];simp⟩
 obtain⟨g,hg,hpx⟩:=hx
 rw[hg]at c8
 obtain⟨cs,⟨fr,hcell,_⟩,hcs,hel,_⟩:=c8
 obtain⟨y,hy1,hy2,hy3⟩:=hel 0 0 a a (by rw[hes];rfl) (by rw[hc];rfl)
 have hyR:R F own y a:=by
  unfold RC at hy3
  split at hy3
  .exact .pure hy3
  .exact hy3
 obtain⟨hRP,_,_⟩:=nQ hI hF1 hyR hk hkp
 have hcl:w.cell? ⟨g,0,none⟩=some y:=by
  have c0j:cs[0]?=some y:=by simpa using hy1
  simp[World.cell?,hcell,c0j]
 classical
 refine⟨λq=>if q=⟨g,0,none⟩ then some y else F1 q,λad z hz=>?_,λad z hz=>?_,?_⟩
 .show(if ad=(⟨g,0,none⟩:Addr) then some y else F1 ad)=some z
  by_cases hq:ad=⟨g,0,none⟩
  .rw[if_pos hq]
   have:=hI.sub _ _ hz
   rw[hq,hcl]at this
   exact this
  .rw[if_neg hq];exact hF1 _ _ hz
 .have hz:(if ad=(⟨g,0,none⟩:Addr) then some y else F1 ad)=some z:=hz
  by_cases hq:ad=⟨g,0,none⟩
  .rw[if_pos hq]at hz;cases hz;rw[hq];exact hcl
  .rw[if_neg hq]at hz;exact hI1.sub _ _ hz
 .have:act.tmps.getD i undef=.pointer (some ⟨g,0,none⟩):=hpx
  rw[this]
  have hmono:∀{x:Value} {c:AV},RP F1 x c->RP (λq=>if q=(⟨g,0,none⟩:Addr) then some y else F1 q) x c:=λh=>h.mono λad z hz=>by
   by_cases hq:ad=⟨g,0,none⟩
   .simp only[if_pos hq]
    have:=hI1.sub _ _ hz
    rw[hq,hcl]at this
    exact this
   .simp only[if_neg hq];exact hz
  refine .iF _ [b] (λ_=>y) (λj c hj=>?_) (λj c hj=>?_)
  .cases j with
   |zero=>exact⟨by simp[Addr.add],hy2⟩
   |succ j=>simp at hj
  .cases j with
   |zero=>cases hj;exact hmono hRP
   |succ j=>simp at hj
def st5(p2 p3 p4:Value)(b:AV):St:=⟨((((List.replicate 23 .any).set 2 (.v p2)).set 3 (.v p3)).set 4 (.v p4)).set 5 (.iF [b]),[]⟩
theorem a9h{N:Nat}{b:C}{Q:St->Prop}{e:Exit}{τ:St}(h:Then P Gl N b (λe τ=>e=.normal/\Q τ) e τ):e=.normal/\awp P Gl N b (λe τ=>e=.normal/\Q τ) τ:=by
 cases e with
 |normal=>exact⟨rfl,h⟩
 |_=>have h:_/\_:=h;cases h.1
theorem a9i{N:Nat}{b c:C}{Q:St->Prop}{e:Exit}{τ:St}(h:Then P Gl N b (Then P Gl N c (λe τ=>e=.normal/\Q τ)) e τ):e=.normal/\awp P Gl N b (Then P Gl N c (λe τ=>e=.normal/\Q τ)) τ:=by
 cases e with
 |normal=>exact⟨rfl,h⟩
 |_=>have h:_/\_:=h;cases h.1
def a3u(Gl:Nat->Option (List AV))(rs:List RV)(res:AV)(t:List AV)(h:List aH):Prop:=∃p l r,nY Gl ⟨t,h⟩ rs=some (p,l)/\p/\CG h (jX l)=some r/\Wk r res
def a3x(P:Program)(Gl:Nat->Option (List AV))(rs:List RV)(res:AV)(l9:List Ins)(c9:C)(tt:TypeId)(t:List AV)(τ3:St)(h:List aH)(v8:Value):Prop:=∃v9 a9,(∀w,(Instr.typeAssert v8 20 tt true).run P w=.ok v9 w)/\(∀F,RP F v9 a9)/\
 tH P Gl false (awp P Gl h.length c9 λe9 τ'=>QN e9/\a3u Gl rs res t τ'.h) l9 (st9 (Ja τ3) h (.v v8) a9)
def VO(P:Program)(Gl:Nat->Option (List AV))(rs:List RV)(res:AV)(l9:List Ins)(cB c5 c9:C)(tt:TypeId)(f10:Nat)(τ3:St):Prop:=τ3.t.length=23/\
 ((awp P Gl τ3.h.length cB (λeB τB=>QN eB/\a3x P Gl rs res l9 c9 tt τB.t τ3 τB.h .nilIface) (τ3.put (some 18) .any))\/
 ∃v id ob a b,τ3.t.getD 5 .any=.ptr id 1 0 0/\τ3.h[id]?=some ob/\ob.es=[a]/\ob.sz=1/\a.cells=[a]/\gW τ3.h a=some b/\b.cells=[b]/\
  (∀p2 p3 p4,awp P Gl 0 c5 (λe σ=>e=.normal/\σ.t.getD 2 .any=.v p2/\σ.t.getD 3 .any=.v p3/\σ.t.getD 4 .any=.v p4/\vH P Gl f10 σ.h [σ.t.getD 6 .any] v) (st5 p2 p3 p4 b))/\a3x P Gl rs res l9 c9 tt (τ3.t.set 18 .any) τ3 τ3.h v)
theorem a5z(hm:P.follows .mixedOrders=true){f f9 f10:Nat}{fn fn9:Func}{x1 x2 x3 x5 yC y9:Code}{ops DZ b9s:Array Oper}{o0 o1 o6 o0' o1':Oper}{l9:List Ins}{tt:TypeId}(h4:VP P f f9 fn x1 x2 x3 ops (x5.seq ((Code.region 6 DZ false).seq yC)) o0 o1)(h9:a3v P f9 fn9 b9s y9 l9 o0' o1' tt)
  (hinv:∀act (w:World),(invoke (.fn (.func f9) (qh act)) #[]).run P w=.ok (.enter f9 (qh act)) w)
  {hl:List Nat} {az:List AV} {c1 c2 c3 cB c5 c9:C} (k1:cC P hl x1=some c1) (k2:cC P hl x2=some c2) (k3:cC P hl x3=some c3) (kB:cC P hl (x5.seq ((Code.region 6 DZ false).seq yC))=some cB) (k5:cC P hl x5=some c5) (k9:cC P hl y9=some c9) {rs:List RV} (kr:sj P fn.results.toList=some rs)
  (hp6:DZ[0]?=some o6) (hz6:0<DZ.size) {d6:Option Nat} (hcb:callable P f10=true) (hc6:jN P false DZ o6=some ⟨d6,none,.call (.k (.func (.func f10) #[] #[])) [.t 6]⟩) {res:AV}
  (hrun:awp P Gl 0 c1 (Then P Gl 0 c2 (Then P Gl 0 c3 λe τ3=>e=.normal/\VO P Gl rs res l9 cB c5 c9 tt f10 τ3)) ⟨az++List.replicate (23-az.length) .any,[]⟩):Pure P Gl f az res:=by
 intro w F xs hF hgl hgw hxs
 refine calls_of_wp_defers h4.fn4 h4.body ?_
 rw[h4.nt]
 have hI:=Za (n:=23) hF hgl hgw hxs
 refine wp_seq (wp_mono (mP hm rfl x1 c1 k1 _ _ _ _ _ _ hrun hI) ?_)
 rintro e a1 w1 ⟨_,F1,dO,τ1,hI1,hq⟩
 obtain⟨rfl,hq1⟩:=a9i hq
 refine wp_seq (wp_mono (mP hm rfl x2 c2 k2 _ _ _ _ _ _ hq1 hI1) ?_)
 rintro e a2 w2 ⟨_,F2,zL,τ2,hI2,hq2⟩
 obtain⟨rfl,hq3⟩:=a9h hq2
 refine wp_seq (wp_mono (mP hm rfl x3 c3 k3 _ _ _ _ _ _ hq3 hI2) ?_)
 rintro e a3 w3 ⟨_,F3,c1t,τ3,hI3,rfl,ht3,hq4⟩
 refine wp_seq ?_
 obtain⟨W1,hW0,hW1,hW2,hW3,hI4,hcap⟩:=a9M hI3 ht3 f9
 refine a9L h4 (by rw[hI3.tl,ht3]) ?_
 show(x5.seq ((Code.region 6 DZ false).seq yC)).wp P _ _ _
 rcases hq4 with hq|⟨v,id,ob,a,b,hi,hob,hes,hsz,hc,hk,hc',e5,hfin⟩
 .refine wp_mono (mP hm hW0 _ cB kB _ _ _ _ _ _ hq hI4) ?_
  rintro e a5 w5 ⟨_,F5,c1s,τ5,hI5,hend,v9,a9,hta,hR9,h91⟩
  have hd5:a5.defers=[A8 f9 a3]:=by
   rw[hI5.defers,hW3,hI3.defers]
  have hleave:Leaves P fn a5.tmps (Ji F w res) a5.defers .returning w5:=by
   rw[hd5]
   refine leaves_cons (by simp) (hinv a3 w5) ?_
   refine(d9 hm h9 (Kd:=a3u Gl rs res τ5.t) (u:=.returning) (u':=.returning) (v8:=.nilIface) (by rfl) (λc₀ cs hu=>.inr ⟨by simp[recoverD,hu],rfl,by cases c₀;simp_all⟩) hta hR9 k9 h91 hI5 (hcap _ _ _ _ _ hI5)).mono ?_
   rintro e' u' w6 ⟨rfl,rfl,F6,b9q,h6,⟨p,l,r,er,hp,ek,hwk⟩,hI6⟩
   obtain⟨v,hv1,hv2⟩:=Oz kr hW1 hW2 hI6 er hp ek hwk
   exact⟨v,hv1,hv2⟩
  cases e with
  |normal=>exact hleave
  |ret=>exact hleave
  |_=>exact hend.elim
 .obtain⟨v9,a9,hta,hR9,h91⟩:=hfin
  generalize ea4:({ tmps:=(a3.put (some 18) (.func (.func f9) #[] (qh a3))).tmps,defers:=A8 f9 a3::a3.defers }:Act)=a4 at hI4 ⊢
  have hd4:a4.defers=[A8 f9 a3]:=by rw[<- ea4,hI3.defers]
  have hs4:a4.tmps.size=23:=by rw[hI4.tl];simp[St.put,ht3]
  have hi4:(τ3.put (some 18) .any).val Gl (.t 5)=.ptr id 1 0 0:=by
   show(τ3.t.set 18 .any).getD 5 .any=_
   rw[bB,aC (by omega),<- bB];exact hi
  obtain⟨G,hG1,hG2,hG3⟩:=a9K hI4 hi4 hob hes hsz hc hk hc'
  have c0w:GlW Gl w3.heap.size w3:=λg cs q=>by
   obtain⟨q1,vs,ty,fr,q2,q3⟩:=hI4.gw g cs q
   have hb:=hI4.below.block g q1
   exact⟨ni q1 (bF hI4.room hI4.below.size),vs,ty,fr,by rw[hb];exact q2,q3⟩
  let W5:W0:=⟨w3,G,0,[],(λq hq=>by simp at hq),[],List.Pairwise.nil,a4.defers⟩
  have hI5:Inv Gl G [] w3.heap.size W5 (st5 (a4.tmps.getD 2 undef) (a4.tmps.getD 3 undef) (a4.tmps.getD 4 undef) b) a4 w3:=by
   refine{ tl:=by simp[st5,hs4],tr:=λi x c p q=>?_,defers:=rfl,sub:=hG2,hl:=rfl,objs:=λid e o p=>by simp at p,inj:=λi j e e' g p=>by simp at p,below:=Below.refl _ _,base:=λid e g p=>by simp at p,gl:=λg cs q=>(hI4.gl g cs q).mono hG1,gw:=c0w,room:=aS _,ext:=λ_ _ q=>.inl q,jI:=λ_ _ q=>q,nl:=bN _,fr:=(λq hq=>by simp[W5]at hq),pd:=λq hq=>by simp[W5]at hq }
   have hlt:i<23:=by rw[<- hs4];exact(fC.1 p).1
   have ex:a4.tmps.getD i undef=x:=by
    have:i<a4.tmps.size:=by omega
    simp[Array.getD,this];rw[aF this]at p;exact aI p
   have eq:(st5 (a4.tmps.getD 2 undef) (a4.tmps.getD 3 undef) (a4.tmps.getD 4 undef) b).t.getD i .any=c:=by
    have q':(st5 (a4.tmps.getD 2 undef) (a4.tmps.getD 3 undef) (a4.tmps.getD 4 undef) b).t[i]?=some c:=q
    rw[bB,q'];rfl
   by_cases h2:i=2
   .subst h2;have:c=.v x:=by rw[<- eq,<- ex];rfl
    rw[this];exact .pure (.v x)
   by_cases h3:i=3
   .subst h3;have:c=.v x:=by rw[<- eq,<- ex];rfl
    rw[this];exact .pure (.v x)
   by_cases h4':i=4
   .subst h4';have:c=.v x:=by rw[<- eq,<- ex];rfl
    rw[this];exact .pure (.v x)
   by_cases h5:i=5
   .subst h5;have:c=.iF [b]:=by rw[<- eq];rfl
    rw[this,<- ex];exact .pure hG3
   ·have:c=.any:=by
     rw[<- eq]
     show(((((List.replicate 23 AV.any).set 2 _).set 3 _).set 4 _).set 5 _).getD i .any=.any
     rw[bB,aC (by omega),aC (by omega),aC (by omega),aC (by omega),kD,if_pos hlt]
     rfl
    rw[this];exact .pure (.any _)
  refine wp_seq (wp_mono (mP hm rfl x5 c5 k5 _ _ _ _ _ _ (e5 (a4.tmps.getD 2 undef) (a4.tmps.getD 3 undef) (a4.tmps.getD 4 undef)) hI5) ?_)
  rintro e a6 w6 ⟨_,F6,b9q,σ6,hI6,rfl,t52,t53,t54,c0r⟩
  have t5':=And.intro t52 (And.intro t53 t54)
  refine wp_seq (wp_region ?_)
  obtain⟨m,hm6⟩:∃m,DZ.size=m+1:=⟨DZ.size-1,by omega⟩
  rw[hm6,rH,oh,wpOps_cons]
  refine Sg hI6 hc6 hp6 rfl rfl rfl hcb c0r (λw7 hD=>?_) _
  show Leaves P fn a6.tmps (Ji F w res) a6.defers (.panicking [{ v,recovered:=false }]) w7
  have hd6:a6.defers=[A8 f9 a3]:=by rw[hI6.defers];exact hd4
  rw[hd6]
  have hI7:=hI4.more hD.2
  refine leaves_cons (by simp) (hinv a3 w7) ?_
  refine(d9 hm h9 (Kd:=a3u Gl rs res (τ3.t.set 18 .any)) (u:=.panicking [{ v,recovered:=false }]) (u':=.panicking [{ v,recovered:=true }]) (v8:=v) (by rfl) (λc₀ cs hu=>.inl (by simp[recoverD,hu])) hta hR9 k9 h91 hI7 (hcap _ _ _ _ _ hI7)).mono ?_
  rintro e' u' w8 ⟨rfl,rfl,F8,c1r,h8,⟨p,l,r,er,hp,ek,hwk⟩,hI8⟩
  obtain⟨z,hz1,hz2⟩:=Oz kr hW1 hW2 hI8 er hp ek hwk
  have same:Go.results fn a6.tmps=Go.results fn a4.tmps:=by
   have g:∀i p,σ6.t.getD i .any=.v p->a6.tmps.getD i undef=p:=λi p hq=>by
    have:=hI6.ev (.tmp i)
    rw[show σ6.val Gl (bH (.tmp i))=.v p from hq]at this
    exact this.dK
   rw[mJ,mJ,h4.res]
   have m2:=g 2 _ t5'.1
   have m3:=g 3 _ t5'.2.1
   have m4:=g 4 _ t5'.2.2
   simp only[List.mapM_toArray,uw,List.mapM_nil,Abs.DV,m2,m3,m4]
  show Leaves P fn a6.tmps (Ji F w res) [] (settle (.panicking [{ v,recovered:=true }])) w8
  have hset:settle (.panicking [{ v,recovered:=true }])=.returning:=rfl
  rw[hset]
  exact⟨z,by rw[same];exact hz1,hz2⟩
end
set_option maxRecDepth 20000
@[reducible] def sq1:Code->Code
 |.seq a _=>a
 |c=>c
@[reducible] def sq2:Code->Code
 |.seq _ b=>b
 |c=>c
@[reducible] def rgO:Code->Array Oper
 |.region _ o _=>o
 |_=>#[]
def FN:Code:=Tryz.f21.body.getD .skip
def a4I:Code:=Tryz.f46.body.getD .skip
def xp1:Code:=sq1 FN
def xp2:Code:=sq1 (sq2 FN)
def xp3:Code:=sq1 (sq2 (sq2 FN))
def o4:Array Oper:=rgO (sq1 (sq2 (sq2 (sq2 FN))))
def yB:Code:=sq2 (sq2 (sq2 (sq2 FN)))
def xp5:Code:=sq1 yB
def o6:Array Oper:=rgO (sq1 (sq2 yB))
def yC:Code:=sq2 (sq2 yB)
def o9:Array Oper:=rgO (sq1 a4I)
def y9:Code:=sq2 a4I
def l9:List Ins:=Q6 Tryz.prog o9 2
theorem rec4:∃a b,VP Tryz.prog 21 46 Tryz.f21 xp1 xp2 xp3 o4 yB a b:=⟨_,_,Tryz.func21,rfl,rfl,rfl,rfl,rfl,rfl,rfl,rfl,rfl,rfl,rfl,rfl⟩
theorem b4u:∃a b,VP Tryz.prog 21 46 Tryz.f21 xp1 xp2 xp3 o4 (xp5.seq ((Code.region 6 o6 false).seq yC)) a b:=rec4
theorem rec9:∃a b,a3v Tryz.prog 46 Tryz.f46 o9 y9 l9 a b 94:=⟨_,_,Tryz.func46,rfl,rfl,rfl,rfl,rfl,rfl,rfl,rfl,rfl,rfl,rfl,rfl,(by kernel_rfl),rfl,(by kernel_rfl)⟩
theorem b9y(act:Act)(w:World):(invoke (.fn (.func 46) (qh act)) #[]).run Tryz.prog w=.ok (.enter 46 (qh act)) w:=by
 have hb:Tryz.f46.body≠none:=by intro h;cases h
 have hn:¬Tryz.f46.name= "runtime.NumGoroutine":=by decide
 simp[invoke,callFunc,Tryz.func46,hb,hn]
theorem a9q(w:World):(Instr.typeAssert .nilIface 20 94 true).run Tryz.prog w=.ok (.tuple #[.agg #[.int .i64 0,.int .i64 0],.bool false]) w:=by kernel_rfl
theorem a4Z(a b:Value)(w:World):(Instr.typeAssert (.iface 94 (.agg #[a,b])) 20 94 true).run Tryz.prog w=.ok (.tuple #[.agg #[a,b],.bool true]) w:=by kernel_rfl
theorem a4N(a b q:Value)(ha:a.oneCell'=true)(hb:b.oneCell'=true)(F:Addr->Option Value):RP F (.tuple #[.agg #[a,b],q]) (.tup [.agg [.v a,.v b],.v q]):=by
 refine .tup _ _ rfl λj x c p r=>?_
 match j,p,r with
 |0,p,r =>
  cases p;cases r
  refine .agg _ _ rfl (λj x p=>?_) λj x c p r=>?_
  .match j,p with
   |0,p=>cases p;exact ha
   |1,p=>cases p;exact hb
   |n+2,p=>simp at p
  .match j,p,r with
   |0,p,r=>cases p;cases r;exact .v _
   |1,p,r=>cases p;cases r;exact .v _
   |n+2,p,r=>simp at p
 |1,p,r=>cases p;cases r;exact .v _
 |n+2,p,r=>simp at p
set_option maxRecDepth 100000
def z2:Value:=.agg #[.slice none 0 0,.slice none 0 0]
def cP1:C:=.ops false [qI 1 (.box 9 1 (.t 0)),qI 2 (.alloc 29 z2),qI 3 (.alloc 3 (.int .i64 0)),qI 4 (.alloc 46 (.int .i64 0))]
def cP2:C:=.ops false [qI 8 (.load 1 false (.t 1)),qI 9 (.call (.fn 45) [.t 8]),qI 7 (.mov (.t 9)),qI 10 (.ext 0 (.t 7)),qI 11 (.ext 1 (.t 7)),qI 12 (.ext 2 (.t 7)),qI 5 (.alloc 80 (.slice none 0 0)),qN (.store 1 (.t 5) (.t 10)),qN (.store 1 (.t 3) (.t 11)),qN (.store 1 (.t 4) (.t 12))]
def cP3:C:=.seq (.ops false [qI 13 (.load 1 false (.t 4)),qI 14 (.bin .neq (.t 13) (.k (.int .i64 0)))]) (.cond (.t 14) (.seq (.pO [(0,qI 15 (.build [.slice none 0 0,.slice none 0 0] [])),(1,qI 16 (.load 1 false (.t 3))),(1,qI 17 (.load 1 false (.t 4))),(2,qN (.store 2 (.t 2) (.t 15))),(2,qN (.store 1 (.t 3) (.t 16))),(0,qN (.store 1 (.t 4) (.t 17)))]) .ret) .skip)
def cP5:C:=.ops false [qI 19 (.load 1 false (.t 5)),qI 20 (.build [.slice none 0 0,.int .i64 0] [(0,1,.t 19)]),qI 6 (.alloc 99 (.agg #[.slice none 0 0,.int .i64 0])),qN (.store 2 (.t 6) (.t 20))]
def cPB:C:=.seq cP5 (.seq (.ops false [qI 21 (.call (.fn 47) [.t 6]),qN (.store 2 (.t 2) (.t 21))]) (.seq (.ops false [qI 22 (.load 2 true (.t 2)),qN (.store 2 (.t 2) (.t 22)),qN (.store 1 (.t 3) (.k (.int .i64 0))),qN (.store 1 (.t 4) (.k (.int .i64 0)))]) .ret))
def cP9:C:=.seq (.ops false [qI 12 (.mov (.t 6))]) (.cond (.t 12) (.seq (.pO [(0,qI 13 (.build [.slice none 0 0,.slice none 0 0] [])),(0,qI 14 (.load 1 false (.t 0))),(0,qI 15 (.AQ (.t 14))),(0,qI 16 (.fO 1 (.t 5))),(1,qI 17 (.load 1 false (.t 16))),(2,qN (.store 2 (.t 1) (.t 13))),(2,qN (.store 1 (.t 2) (.t 15))),(0,qN (.store 1 (.t 3) (.t 17)))]) (.seq (.ops false [qI 18 (.fO 0 (.t 5)),qI 19 (.load 1 false (.t 18)),qI 20 (.load 1 false (.t 4)),qI 21 (.len (.t 20)),qI 22 (.bin .lss (.t 19) (.t 21))]) (.cond (.t 22) (.ops false [qI 23 (.load 1 false (.t 4)),qI 24 (.fO 0 (.t 5)),qI 25 (.load 1 false (.t 24)),qI 26 (.rA 4 (.t 23) (.t 25)),qI 27 (.fO 3 (.t 26)),qI 28 (.load 1 false (.t 27)),qN (.store 1 (.t 2) (.t 28))]) .skip))) .skip)
def l9C:List Ins:=[qI 7 (.mov (.t 9)),qI 10 (.ext 0 (.t 7)),qI 11 (.ext 1 (.t 7)),qI 5 (.alloc 94 (.agg #[.int .i64 0,.int .i64 0])),qN (.store 2 (.t 5) (.t 10)),qI 6 (.mov (.t 11))]
theorem kP1:cC Tryz.prog hcl xp1=some cP1:=by kernel_rfl
theorem kP2:cC Tryz.prog hcl xp2=some cP2:=by kernel_rfl
theorem kP3:cC Tryz.prog hcl xp3=some cP3:=by kernel_rfl
theorem kPB:cC Tryz.prog hcl yB=some cPB:=by kernel_rfl
theorem kP5:cC Tryz.prog hcl xp5=some cP5:=by kernel_rfl
theorem kP9:cC Tryz.prog hcl y9=some cP9:=by kernel_rfl
theorem b5O:l9=l9C:=by kernel_rfl
def rsP:List RV:=[.c 2 2 true,.c 3 1 false,.c 4 1 false]
theorem krP:sj Tryz.prog Tryz.f21.results.toList=some rsP:=by kernel_rfl
theorem b9v:∃o d,o6[0]?=some o/\0<o6.size/\jN Tryz.prog false o6 o=some ⟨d,none,.call (.k (.func (.func 47) #[] #[])) [.t 6]⟩:=by
 unfold o6 yB FN
 exact⟨_,some 21,rfl,(by show 0<2;omega),(by kernel_rfl)⟩
theorem a5y{az:List AV}{res:AV}(hrun:awp Tryz.prog (gx fA) 0 cP1 (Then Tryz.prog (gx fA) 0 cP2 (Then Tryz.prog (gx fA) 0 cP3 λe τ3=>e=.normal/\VO Tryz.prog (gx fA) rsP res l9C cPB cP5 cP9 94 47 τ3)) ⟨az++List.replicate (23-az.length) .any,[]⟩):Pure Tryz.prog (gx fA) 21 az res:=by
 obtain⟨o0,o1,h4⟩:=b4u
 obtain⟨o0',o1',h9⟩:=rec9
 obtain⟨o,d,i1,i2,i3⟩:=b9v
 rw[<- b5O]at hrun
 exact a5z mixed h4 h9 b9y kP1 kP2 kP3 kPB kP5 kP9 krP i1 i2 (by kernel_rfl) i3 hrun
theorem zc2:(Value.agg #[.slice none 0 0,.slice none 0 0]).cells.size=2:=rfl
theorem zcQ:(Value.agg #[.slice none 0 0,.int .i64 0]).cells.size=2:=rfl
theorem zcF:(Value.agg #[.int .i64 0,.int .i64 0]).cells.size=2:=rfl
theorem zcI:(Value.int .i64 0).cells.size=1:=rfl
theorem zcS:(Value.slice none 0 0).cells.size=1:=rfl
theorem five{H:List aH}{a b c d e:aH}(h0:H[0]?=some a)(h1:H[1]?=some b)(h2:H[2]?=some c)(h3:H[3]?=some d)(h4:H[4]?=some e):∃r,H=a::b::c::d::e::r:=by
 match H,h0,h1,h2,h3,h4 with
 |_::_::_::_::_::r,h0,h1,h2,h3,h4=>cases h0;cases h1;cases h2;cases h3;cases h4;exact⟨r,rfl⟩
def stP(s:ByteArray)(ts:List AV)(off:Int):St:=⟨[.v (.string s),.ptr 0 1 0 0,.ptr 1 1 0 0,.ptr 2 1 0 0,.ptr 3 1 0 0,.ptr 4 1 0 0,.any,.tup [.list 4 ts,.v (.int .i64 off),.v (.int .i64 0)],.v (.string s),.tup [.list 4 ts,.v (.int .i64 off),.v (.int .i64 0)],.list 4 ts,.v (.int .i64 off),.v (.int .i64 0),.v (.int .i64 0),.v (.bool false),.any,.any,.any,.any,.any,.any,.any,.any],[⟨9,1,0,false,[.v (.string s)]⟩,⟨29,2,0,false,[.agg [.v (.slice none 0 0),.v (.slice none 0 0)]]⟩,⟨3,1,0,false,[.v (.int .i64 off)]⟩,⟨46,1,0,false,[.v (.int .i64 0)]⟩,⟨80,1,0,false,[.list 4 ts]⟩]⟩
theorem Rv{s:ByteArray}{toks:List ay}{off:Int}{ts:List AV}{res:AV}(h1:m45 s=some (toks,off,0,()))(hts:Ty.enc (.list bR) toks=.list 4 ts)(h:VO Tryz.prog (gx fA) rsP res l9C cPB cP5 cP9 94 47 (stP s ts off)):Pure Tryz.prog (gx fA) 21 [.v (.string s)] res:=by
 refine a5y ?_
 have hsc:Pure Tryz.prog (gx fA) 45 [.v (.string s)] (.tup [.list 4 ts,.v (.int .i64 off),.v (.int .i64 0)]):=by
  have:=a4g.2 (s,()) _ h1
  rw[<- hts];exact this
 unfold cP1
 simp[bsH,bE,step,St.val,St.put,AV.cells,qI,qN,qF,kI,kN,bV,unV,jO,z2,zc2,zcI,dB,st1,Value.oneCell']
 unfold cP2
 simp[bsH,bE,step,St.val,St.put,AV.cells,qI,qN,qF,kI,kN,bV,unV]
 refine⟨45,rfl,by kernel_rfl,.inl ⟨[.v (.string s)],_,by simp[St.val,dV,gW,jY,Value.oneCell'],hsc,(λq=>by cases q),?_⟩⟩
 simp only[scalar,jT,Bool.false_and,Bool.and_false,dH,if_false]
 unfold cP3
 simp[bsH,bE,step,St.val,St.put,AV.cells,qI,qN,qF,kI,kN,bV,unV,dU,bZ,uj,jO,zcS,dB,st1,setCells,Value.oneCell']
 exact h
theorem a9b{z1 z2:Nat}{a b a' b':List AV}(h1:bn Wp a a')(h2:bn Wp b b'):Wk (.tup [.agg [.list z1 a,.list z2 b],.v (.int .i64 0),.v (.int .i64 0)]) (.tup [.agg [.list z1 a',.list z2 b'],.v (.int .i64 0),.v (.int .i64 0)]):=by
 refine Wk.tup rfl λj x y p q=>?_
 match j,p,q with
 | 0,p,q=>cases p; cases q; exact (Wp.agg [.list z1 a,.list z2 b] [.list z1 a',.list z2 b'] rfl fun i x y (p:[AV.list z1 a,.list z2 b][i]?=some x) (q:[AV.list z1 a',.list z2 b'][i]?=some y)=>by
   match i,p,q with
   |0,p,q=>cases p;cases q;exact .list _ _ _ h1.1 h1.2
   |1,p,q=>cases p;cases q;exact .list _ _ _ h2.1 h2.2
   |i+2,p,q=>cases p).wk
 |1,p,q=>cases p;cases q;exact Wk.refl _
 |2,p,q=>cases p;cases q;exact Wk.refl _
 |j+3,p,q=>cases p
theorem a5B{s:ByteArray}{off:Int}{ts:List AV}{res:AV}{rest:List aH}{r1 r2:aH}{i1 i2 n1 n2 z1 z2:Nat}(hr1:rest[i1]?=some r1)(hr2:rest[i2]?=some r2)(t2:r1.sz=z1)(t3:r1.pr=true)(t4:r1.es.length=n1)(u2:r2.sz=z2)(u3:r2.pr=true)(u4:r2.es.length=n2)(hres:Wk (.tup [.agg [.list z1 r1.es,.list z2 r2.es],.v (.int .i64 0),.v (.int .i64 0)]) res) :
  tH Tryz.prog (gx fA) false (Then Tryz.prog (gx fA) 5 (.seq (.ops false [qI 22 (.load 2 true (.t 2)),qN (.store 2 (.t 2) (.t 22)),qN (.store 1 (.t 3) (.k (.int .i64 0))),qN (.store 1 (.t 4) (.k (.int .i64 0)))]) .ret) (λeB τB=>QN eB/\a3x Tryz.prog (gx fA) rsP res l9C cP9 94 τB.t (stP s ts off) τB.h .nilIface) .normal) [qN (.store 2 (.t 2) (.t 21))] ⟨[.v (.string s),.ptr 0 1 0 0,.ptr 1 1 0 0,.ptr 2 1 0 0,.ptr 3 1 0 0,.ptr 4 1 0 0,.ptr 5 1 0 0,.tup [.list 4 ts,.v (.int .i64 off),.v (.int .i64 0)],.v (.string s),.tup [.list 4 ts,.v (.int .i64 off),.v (.int .i64 0)],.list 4 ts,.v (.int .i64 off),.v (.int .i64 0),.v (.int .i64 0),.v (.bool false),.any,.any,.any,.any,.list 4 ts,.agg [.list 4 ts,.v (.int .i64 0)],.agg [.row (i1+5) n1 z1 0 n1,.row (i2+5) n2 z2 0 n2],.any],⟨9,1,0,false,[.v (.string s)]⟩::⟨29,2,0,false,[.agg [.v (.slice none 0 0),.v (.slice none 0 0)]]⟩::⟨3,1,0,false,[.v (.int .i64 off)]⟩::⟨46,1,0,false,[.v (.int .i64 0)]⟩::⟨80,1,0,false,[.list 4 ts]⟩::rest⟩:=by
 unfold stP
 simp[bsH,bE,step,St.val,St.put,AV.cells,qI,qN,qF,kI,kN,bV,unV,dB,st1,setCells,jX,Value.oneCell']
 refine⟨trivial,.tuple #[.agg #[.int .i64 0,.int .i64 0],.bool false],.tup [.agg [.v (.int .i64 0),.v (.int .i64 0)],.v (.bool false)],a9q,a4N _ _ _ rfl rfl,?_⟩
 unfold l9C cP9
 simp[bsH,bE,step,St.val,St.put,AV.cells,qI,qN,qF,kI,kN,bV,unV,st9,Ja,rsP,jO,zcF,dB,st1,setCells,jX,Value.oneCell']
 have app:∀{i:Nat} {r x:aH},rest[i]?=some r->(rest++[x])[i]?=some r:=λh=>by
  rw[au (aj.1 h).1];exact h
 have e1:r1.es.take n1=r1.es:=by rw[<- t4];exact mI
 have e2:r2.es.take n2=r2.es:=by rw[<- u4];exact mI
 refine⟨trivial,_,_,_,rfl,⟨⟨by show 2<=2;omega,by omega⟩,⟨by show 0<1;omega,by omega⟩,⟨by show 0<1;omega,by omega⟩,trivial⟩,?_,hres⟩
 simp[CG,jX,dV,gW,jK,jY,app hr1,app hr2,t2,t3,t4,u2,u3,u4,e1,e2,Value.oneCell',AV.cells]
theorem a5A{s:ByteArray}{toks a3M:List ay}{off k':Int}{cl:List DS1}{en:List DS3}(h1:m45 s=some (toks,off,0,()))(h2:m47 toks 0=some (a3M,k',cl,en,())):Pure Tryz.prog (gx fA) 21 [.v (.string s)] (.tup [Ty.enc tS4 (cl,en,()),.v (.int .i64 0),.v (.int .i64 0)]):=by
 obtain⟨ts,hts⟩:∃ts:List AV,Ty.enc (.list bR) toks=.list 4 ts:=⟨_,rfl⟩
 refine Rv h1 hts ⟨rfl,.inl ?_⟩
 have hw0:Wp (.list 4 ts) (Ty.enc (.list bR) toks):=by rw[hts];exact .refl _
 unfold stP cPB cP5
 simp[bsH,bE,step,St.val,St.put,AV.cells,qI,qN,qF,kI,kN,bV,unV,l6,dB,st1,setCells,jO,zcQ,Value.oneCell']
 have b2B:Sim [5] (emb h47.ish (toks,(show Int from 0),())) ⟨[.ptr 5 1 0 0],[⟨9,1,0,false,[.v (.string s)]⟩,⟨29,2,0,false,[.agg [.v (.slice none 0 0),.v (.slice none 0 0)]]⟩,⟨3,1,0,false,[.v (.int .i64 off)]⟩,⟨46,1,0,false,[.v (.int .i64 0)]⟩,⟨80,1,0,false,[.list 4 ts]⟩]++[⟨99,2,0,false,[.agg [.list 4 ts,.v (.int .i64 0)]]⟩]⟩ :=
  ⟨.cons ⟨_,rfl,rfl⟩ .nil,(⟨rfl,by simp,λi o q=>by
   match i,q with
   |0,q=>cases q;exact⟨_,rfl,rfl,rfl,rfl,rfl,_,rfl,.cons hw0 (.cons (Wp.refl _) .nil)⟩⟩:HS [5] [.box 99 [.d (.list bR) toks,.d (.int .i64) (show Int from 0)]] _)⟩
 have hcall:=b5B.2 (toks,(show Int from 0),()) _ h2 _ [5] _ b2B
 refine jk (σ:=⟨_,_⟩) (by kernel_rfl) hcall ?_
 clear b2B hcall
 rintro res H' ⟨ρ',rs,hS,rfl,hF⟩
 obtain⟨l,rfl,hl⟩:=hF.pre
 have hrl:=hS.h.rl
 obtain⟨i1,i2,rfl⟩:∃i1 i2,l=[i1,i2]:=by
  have:l.length=2:=by rw[ak]at hrl;have:([5]:List Nat).length+l.length=3:=hrl;simp at this;omega
  match l,this with
  |[x,y],_=>exact⟨x,y,rfl⟩
 have g1:6<=i1:=hl i1 (by simp)
 have g2:6<=i2:=hl i2 (by simp)
 obtain⟨r1,hr1,o1⟩:=hS.h.hr 1 _ rfl
 obtain⟨r2,hr2,o2⟩:=hS.h.hr 2 _ rfl
 have hr1:H'[i1]?=some r1:=hr1
 have hr2:H'[i2]?=some r2:=hr2
 obtain⟨t1,t2,t3,_,t5⟩:=o1
 obtain⟨u1,u2,u3,_,u5⟩:=o2
 obtain⟨a0,r,rfl,v1,ht⟩:=bn.cZ (show bn _ [_] rs from hS.t)
 obtain rfl:=ht.gT
 obtain⟨cs,rfl,hc⟩:=v1
 obtain⟨c1,r,rfl,w1,hc⟩:=hc.cZ
 obtain⟨c2,r,rfl,w2,hc⟩:=hc.cZ
 obtain rfl:=hc.gT
 obtain⟨_,_,_,_,q1,rfl⟩:=w1
 obtain⟨_,_,_,_,q2,rfl⟩:=w2
 cases q1
 cases q2
 have hfr:∀j,j<6->j≠5->H'[j]?=_:=λj h1 h2=>hF.fr j h1 (by simp[h2])
 obtain⟨rest,rfl⟩:=five (hfr 0 (by omega) (by omega)) (hfr 1 (by omega) (by omega)) (hfr 2 (by omega) (by omega)) (hfr 3 (by omega) (by omega)) (hfr 4 (by omega) (by omega))
 obtain⟨i1,rfl⟩:∃k,i1=k+5:=⟨i1-5,by omega⟩
 obtain⟨i2,rfl⟩:∃k,i2=k+5:=⟨i2-5,by omega⟩
 have hr1:rest[i1]?=some r1:=hr1
 have hr2:rest[i2]?=some r2:=hr2
 clear hfr hF hS g1 g2 hl hrl
 exact a5B hr1 hr2 t2 t3 (t5.1.trans (bA ..)) u2 u3 (u5.1.trans (bA ..)) (a9b t5 u5)
set_option maxRecDepth 100000
section
variable{P:Program}{Gl:Nat->Option (List AV)}{v:Value}{x a b:Code}{σ:St}
def Dz(P:Program)(Gl:Nat->Option (List AV))(v:Value)(x:Code)(σ:St):Prop:=∀(F:Addr->Option Value) (own:List Ent) (B:Nat) (w0:W0) (act:Act) (w:World),Inv Gl F own B w0 σ act w->x.wp P (b3M w0 B v) act w
theorem J8{f:FuncId}{fn:Func}(hf:P.funcs[f]?=some fn)(hb:fn.body=some x){h0:List aH}{us t:List AV}(ht:us++List.replicate (fn.ntmps-us.length) .any=t)(h:Dz P Gl v x ⟨t,h0⟩):vH P Gl f h0 us v:=.ofW hf hb λF own B w0 act w hI=>h F own B w0 act w (by rw[<- ht];exact hI)
theorem b28(hm:P.follows .mixedOrders=true){hl:List Nat}{ca:C}(hc:cC P hl a=some ca)(h:∀N,awp P Gl N ca (λe τ=>e=.normal/\Dz P Gl v b τ) σ):Dz P Gl v (a.seq b) σ:=λF own B w0 act w hI =>
 wp_seq (wp_mono (mP hm rfl a ca hc _ _ _ _ _ _ (h _) hI) (by rintro e a1 w1 ⟨_,F1,dO,τ,hI1,rfl,hD⟩;exact hD _ _ _ _ _ _ hI1))
theorem wF(hm:P.follows .mixedOrders=true){hl:List Nat}{ca:C}(hx:x=(sq1 x).seq (sq2 x))(hc:cC P hl (sq1 x)=some ca)(h:∀N,awp P Gl N ca (λe τ=>e=.normal/\Dz P Gl v (sq2 x) τ) σ):Dz P Gl v x σ:=by
 rw[hx]
 exact b28 hm hc h
theorem c05(h:Dz P Gl v a σ):Dz P Gl v (a.seq b) σ:=λF own B w0 act w hI =>
 wp_seq (wp_mono (h F own B w0 act w hI) (by rintro e a1 w1 ⟨rfl,hD⟩;exact⟨rfl,hD⟩))
theorem a4C(hx:x=(sq1 x).seq (sq2 x))(h:Dz P Gl v (sq1 x) σ):Dz P Gl v x σ:=by
 rw[hx]
 exact c05 h
@[reducible] def bkc:Code->Code
 |.block _ b=>b
 |.loop b=>b
 |c=>c
theorem b27{id:Nat}(h:Dz P Gl v a σ):Dz P Gl v (.block id a) σ:=λF own B w0 act w hI =>
 wp_block (wp_mono (h F own B w0 act w hI) (by rintro e a1 w1 ⟨rfl,hD⟩;exact⟨rfl,hD⟩))
theorem c02(h:Dz P Gl v a σ):Dz P Gl v (.loop a) σ:=λF own B w0 act w hI =>
 wp_loop_rounds 1 (by rw[rounds_succ];exact wp_mono (h F own B w0 act w hI) (by rintro e a1 w1 ⟨rfl,hD⟩;exact⟨rfl,hD⟩))
theorem c04{c:Operand}(hv:σ.val Gl (bH c)=.v (.bool true))(h:Dz P Gl v a σ):Dz P Gl v (.cond c a b) σ:=λF own B w0 act w hI=>by
 have he:=hI.ev c
 rw[hv]at he
 refine wp_cond he.dK ?_
 rw[if_pos rfl]
 exact h F own B w0 act w hI
theorem b26{hl:List Nat}{id:Nat}{ops:Array Oper}(l:List Ins){l2:List Ins}{d:Option Nat}{fo:Opd}{args:List Opd}(hc:cC P hl (.region id ops false)=some (.ops false (l++⟨d,none,.call fo args⟩::l2)))
  (h:tH P Gl false (λτ=>∃f,τ.val Gl fo=.v (.func (.func f) #[] #[])/\callable P f=true/\vH P Gl f τ.h (args.map (τ.val Gl)) v) l σ):Dz P Gl v (.region id ops false) σ:=λF own B w0 act w hI=>by
 simp only[cC]at hc
 cases hl:cL P false ops ops.toList with
 |none=>rw[hl]at hc;cases hc
 |some l0 =>
  rw[hl]at hc
  simp only[bq,dW,C.ops.injEq,true_and]at hc
  subst hc
  obtain⟨l1,l2'⟩:=Da _ _ hl
  have hsz:ops.size=l.length+(l2.length+1):=by simpa using l1.symm
  have at':∀j,j<ops.size->∃ins o,(l++⟨d,none,.call fo args⟩::l2)[j]?=some ins/\ops[j]?=some o/\jN P false ops o=some ins:=λj hj=>by
   have ho:ops[j]?=some ops[j]:=aF hj
   obtain⟨ins,a1,a2⟩:=l2' j ops[j] (by rw[Array.getElem?_toList];exact ho)
   exact⟨ins,_,a1,ho,a2⟩
  refine wp_region ?_
  rw[hsz,rH,<- List.range'_append_1,oh]
  refine Ii (K:=λτ=>∃f,τ.val Gl fo=.v (.func (.func f) #[] #[])/\callable P f=true/\vH P Gl f τ.h (args.map (τ.val Gl)) v) ?_ l 0 (λj hj=>?_) _ F own act w h hI
  .rintro a1 w1 ⟨F1,dO,τ,hI1,f,hf,hcb,hP⟩
   obtain⟨ins,o,q1,q2,q3⟩:=at' l.length (by omega)
   rw[aO (aS _),qJ]at q1
   cases q1
   rw[dD,wpOps_cons]
   exact Sg hI1 q3 q2 rfl rfl hf hcb hP (λw' hD=>⟨rfl,hI1.defers,hD⟩) _
  .obtain⟨ins,o,q1,q2,q3⟩:=at' j (by omega)
   rw[au hj]at q1
   exact⟨o,ins,q1,by rw[dD];exact q2,q3⟩
theorem Vm{hl:List Nat}{id:Nat}(l:List Ins){l2:List Ins}{d:Option Nat}{fo:Opd}{args:List Opd}(hx:x=.region id (rgO x) false)(hc:cC P hl x=some (.ops false (l++⟨d,none,.call fo args⟩::l2)))
  (h:tH P Gl false (λτ=>∃f,τ.val Gl fo=.v (.func (.func f) #[] #[])/\callable P f=true/\vH P Gl f τ.h (args.map (τ.val Gl)) v) l σ):Dz P Gl v x σ:=by
 rw[hx]at hc ⊢
 exact b26 l hc h
end
def zf(k:Int):Value:=.iface 94 (.agg #[.int .i64 k,.int .i64 5])
def a8P:Code:=Tryz.f128.body.getD .skip
def o83:Array Oper:=rgO (Tryz.f83.body.getD .skip)
def l83:List Ins:=Q6 Tryz.prog o83 0
def UO:List Ins:=[qI 4 (.mov (.t 0)),qI 5 (.nck (.t 4)),qI 6 (.fO 1 (.t 5)),qI 7 (.load 1 false (.t 6)),qI 8 (.mov (.t 1)),qI 9 (.build [.int .i64 0,.int .i64 0] [(0,1,.t 7),(1,1,.t 8)])]
theorem b1V:l83.take 6=UO:=by kernel_rfl
theorem a6r:((o83.toList.drop 0).take 6).all (λo=>(jN Tryz.prog false o83 o).isSome)=true:=by kernel_rfl
theorem OW:o83.size=8:=rfl
theorem b83:Tryz.f83.body=some (.region 0 o83 false):=rfl
theorem b5K:∃o,o83[6]?=some o/\o.guard=none/\o.dst=some 10/\o.op=.makeInterface 94 (.tmp 9):=⟨_,rfl,rfl,rfl,rfl⟩
theorem b5J:∃o,o83[7]?=some o/\o.guard=none/\o.op=.panic (.tmp 10):=⟨_,rfl,rfl,rfl⟩
theorem a9C{o:Oper}{a:Act}{w:World}(h:o.op=.makeInterface 94 (.tmp 9)):(execOp a.eval o).run Tryz.prog w=.ok (.value (.iface 94 (a.eval (.tmp 9)))) w:=by
 unfold execOp
 simp only[h]
 kernel_rfl
theorem a9B{P:Program}{o:Oper}{a:Act}{w:World}{x:Value}(h:o.op=.panic (.tmp 10))(he:a.eval (.tmp 10)=.iface 94 x):(execOp a.eval o).run P w=.halt (.panic (.iface 94 x)) w:=by
 unfold execOp
 simp only[h,he]
 rfl
def QC(H:List aH)(p:Nat)(toks:List ay)(k:Int):Prop:=∃c0,H[p]?=some ⟨99,2,0,false,[.agg [c0,.v (.int .i64 k)]]⟩/\Wp c0 (Ty.enc (.list bR) toks)
theorem b6D{H:List aH}{p:Nat}{toks:List ay}{k:Int}(hq:QC H p toks k):vH Tryz.prog (gx fA) 83 H [.ptr p 1 0 0,.v (.int .i64 5)] (zf k):=by
 obtain⟨c0,hO,_⟩:=hq
 refine vH.ofW Tryz.func83 b83 λF own B w0 act w hI=>?_
 refine wp_region ?_
 rw[OW,show List.range 8=List.range' 0 UO.length++[6,7] from rfl]
 refine Ii (K:=λρ=>ρ=⟨[.ptr p 1 0 0,.v (.int .i64 5),.any,.any,.ptr p 1 0 0,.ptr p 1 0 0,.ptr p 1 0 1,.v (.int .i64 k),.v (.int .i64 5),.agg [.v (.int .i64 k),.v (.int .i64 5)],.any],H⟩) ?_ UO 0 (λj hj=>?_) _ F own act w ?_ hI
 .rintro a w1 ⟨F1,dO,τ',hI1,rfl⟩
  obtain⟨p6,h61,h62,h63,h64⟩:=b5K
  obtain⟨p7,h71,h72,h73⟩:=b5J
  have e9:a.eval (.tmp 9)=.agg #[.int .i64 k,.int .i64 5]:=by
   have:=hI1.ev (.tmp 9)
   rw[show St.val (gx fA) ⟨[.ptr p 1 0 0,.v (.int .i64 5),.any,.any,.ptr p 1 0 0,.ptr p 1 0 0,.ptr p 1 0 1,.v (.int .i64 k),.v (.int .i64 5),.agg [.v (.int .i64 k),.v (.int .i64 5)],.any],H⟩ (bH (.tmp 9))=.agg [.v (.int .i64 k),.v (.int .i64 5)] from rfl]at this
   obtain⟨zs,e1,e2,_,e3⟩:=this.iX
   rw[e1]
   have hz:zs.size=2:=e2
   have z0:=(e3 0 _ _ (aF (by omega)) rfl).dK
   have z1:=(e3 1 _ _ (aF (by omega)) rfl).dK
   congr 1
   apply Az (by rw[hz];rfl)
   intro i h1 h2
   match i,h1,h2 with
   |0,h1,h2=>exact z0
   |1,h1,h2=>exact z1
   |n+2,h1,h2=>omega
  refine Y1 h61 h62 (a9C h64) ?_
  rw[h63]
  have hsz:10<a.tmps.size:=by
   rw[hI1.tl]
   show 10<11
   omega
  have e10:(a.put (some 10) (.iface 94 (a.eval (.tmp 9)))).eval (.tmp 10)=zf k:=by
   rw[e9]
   simp[Act.put,Act.eval,hsz,zf]
  refine b0k h71 h72 (a9B h73 e10) ?_
  exact⟨rfl,by show a.defers=_;exact hI1.defers,λad y q=>hI1.sub _ _ (hI1.jI _ _ q),hI1.below⟩
 .have hj':j<6:=hj
  obtain⟨ins,o,f1,f2,f3⟩:=Lg (P:=Tryz.prog) a6r j hj' (by rw[OW];omega)
  exact⟨o,ins,by rw[<- b1V,bU,if_pos hj'];exact f1,f2,f3⟩
 .unfold UO
  simp[bsH,bE,step,St.val,St.put,AV.cells,qI,qN,qF,kI,kN,bV,unV,hO,l6,Value.oneCell',jO,st1,dB,setCells]
theorem b4v{H:List aH}{p:Nat}{O:aH}{ρ:List Nat}{h:List XO}{toks:List ay}{k:Int}(hO:H[p]?=some O)(hs:wM ρ h (.box 99 [.d (.list bR) toks,.d (.int .i64) k]) O):QC H p toks k:=by
 obtain⟨h1,h2,h3,h4,e,h5,hc⟩:=hs
 obtain⟨c0,r,e0,v0,hc⟩:=hc.cZ
 obtain⟨c1,r,rfl,v1,hc⟩:=hc.cZ
 obtain rfl:=hc.gT
 have v1:c1=_:=Wp.dK v1
 subst v1
 have he:e=.agg [c0,.v (.int .i64 k)]:=by
  cases e with
  |agg cs=>exact dn AV.agg e0
  |_=>simp[AV.cells]at e0
 obtain⟨ty,sz,fz,pr,es⟩:=O
 dsimp only at h1 h2 h3 h4 h5
 subst h1 h3 h4 h5 he
 exact⟨c0,hO.trans (by rw[h2];rfl),v0⟩
theorem Ih{H:List aH}{p:Nat}{toks:List ay}{k:Int}(h:QC H p toks k):HS [p] [.box 99 [.d (.list bR) toks,.d (.int .i64) k]] H:=by
 obtain⟨c0,hO,hw⟩:=h
 refine⟨rfl,by simp,λi o q=>?_⟩
 match i,q with
 |0,q=>cases q;exact⟨_,hO,rfl,rfl,rfl,rfl,_,rfl,.cons hw (.cons (Wp.refl _) .nil)⟩
theorem Ox{H H':List aH}{p:Nat}{ρ':List Nat}{rs:List AV}{xs:List XV}{toks:List ay}{k:Int}(hS:Sim ρ' ⟨xs,[.box 99 [.d (.list bR) toks,.d (.int .i64) k]]⟩ ⟨rs,H'⟩)(hF:Frm H [p] ρ' H'):ρ'=[p]/\bn (VT [p] [.box 99 [.d (.list bR) toks,.d (.int .i64) k]]) xs rs/\QC H' p toks k/\Fr H H' [p]:=by
 obtain⟨rfl,hf⟩:=JF (n:=0) hF hS.h.rl
 obtain⟨O,hO,hs⟩:=hS.h.hr 0 _ rfl
 exact⟨rfl,hS.t,b4v hO hs,hf⟩
theorem q_d{f:Nat}{H:List aH}{p:Nat}{az:List AV}{T:Ty}{z:T.den}{x:Value}{toks:List ay}{k:Int}(hx:Ty.enc T z=.v x)(h:fJ Tryz.prog (gx fA) f H az λres H'=>∃ρ' rs,Sim ρ' ⟨[.d T z],[.box 99 [.d (.list bR) toks,.d (.int .i64) k]]⟩ ⟨rs,H'⟩/\jX rs=res/\Frm H [p] ρ' H') :
  fJ Tryz.prog (gx fA) f H az λres H'=>res=.v x/\QC H' p toks k/\Fr H H' [p]:=h.mono (by
 rintro res H' ⟨ρ',rs,hS,rfl,hF⟩
 obtain⟨rfl,ht,hq,hf⟩:=Ox hS hF
 obtain⟨a1,r,rfl,v1,ht⟩:=ht.cZ
 obtain rfl:=ht.gT
 have v1:Wp a1 (Ty.enc T z):=v1
 rw[hx]at v1
 exact⟨v1.dK,hq,hf⟩)
def v37:Value:=.agg #[.int .i64 0,.string (bs []),.int .i64 0,.string (bs []),.slice none 0 0,.int .i64 0,.int .i64 0,.slice none 0 0,.slice none 0 0,.int .i64 0]
theorem c1c:jO v37=.agg [.v (.int .i64 0),.v (.string (bs [])),.v (.int .i64 0),.v (.string (bs [])),.v (.slice none 0 0),.v (.int .i64 0),.v (.int .i64 0),.v (.slice none 0 0),.v (.slice none 0 0),.v (.int .i64 0)]:=rfl
theorem b4e:IntKind.i64.wrap 1=1:=by decide
theorem b4d:IntKind.i64.wrap 2=2:=by decide
def BX(H:List aH)(q:Nat):Prop:=∃cs,H[q]?=some ⟨37,10,0,false,[.agg cs]⟩/\cs.length=10
theorem BX.set{H:List aH}{p q:Nat}(h:BX H q)(hne:q≠p)(o:aH):BX (H.set p o) q:=by
 obtain⟨cs,h1,h2⟩:=h
 exact⟨cs,by rw[aC (Ne.symm hne)];exact h1,h2⟩
theorem BX.fr{H H':List aH}{p q:Nat}(h:BX H q)(hne:q≠p)(hf:Fr H H' [p]):BX H' q:=by
 obtain⟨cs,h1,h2⟩:=h
 exact⟨cs,by rw[hf.fr q (lt_of_some h1) (by simpa using hne)];exact h1,h2⟩
theorem a7s:v37.cells.size=10:=rfl
section
variable{H:List aH}{p:Nat}{toks:List ay}{k k':Int}
theorem b3l{n:Int}(hq:QC H p toks k)(hm:Bg toks k=some (n,toks,k',())):fJ Tryz.prog (gx fA) 123 H [.ptr p 1 0 0] λres H'=>res=.v (.int .i64 n)/\QC H' p toks k'/\Fr H H' [p] :=
 q_d (T:=.int .i64) (z:=n) rfl (Yk.2 (toks,k,()) _ hm H [p] _ ⟨.cons ⟨_,rfl,rfl⟩ .nil,Ih hq⟩)
theorem b3i{x:ByteArray}(hq:QC H p toks k)(hm:zP toks k=some (x,toks,k',())):fJ Tryz.prog (gx fA) 160 H [.ptr p 1 0 0] λres H'=>res=.v (.string x)/\QC H' p toks k'/\Fr H H' [p] :=
 q_d (T:=.str) (z:=x) rfl (Ip.2 (toks,k,()) _ hm H [p] _ ⟨.cons ⟨_,rfl,rfl⟩ .nil,Ih hq⟩)
theorem b3j{b:Bool}{kd:Int}{x:ByteArray}(hq:QC H p toks k)(hm:pR kd x toks k=some (b,toks,k',())):fJ Tryz.prog (gx fA) 129 H [.ptr p 1 0 0,.v (.int .i64 kd),.v (.string x)] λres H'=>res=.v (.bool b)/\QC H' p toks k'/\Fr H H' [p] :=
 q_d (T:=.bool) (z:=b) rfl (zM.2 (kd,x,toks,k,()) _ hm H [p] _ ⟨.cons ⟨_,rfl,rfl⟩ (.cons (Dx (.refl _)) (.cons (Dx (.refl _)) .nil)),Ih hq⟩)
theorem b3k{x:ByteArray}(hq:QC H p toks k)(hm:qz x toks k=some (toks,k',())):fJ Tryz.prog (gx fA) 128 H [.ptr p 1 0 0,.v (.string x)] λres H'=>res=.tup []/\QC H' p toks k'/\Fr H H' [p] :=
 (Iq.2 (x,toks,k,()) _ hm H [p] _ ⟨.cons ⟨_,rfl,rfl⟩ (.cons (Dx (.refl _)) .nil),Ih hq⟩).mono (by
  rintro res H' ⟨ρ',rs,hS,rfl,hF⟩
  obtain⟨rfl,ht,hq,hf⟩:=Ox (xs:=[]) hS hF
  obtain rfl:=ht.gT
  exact⟨rfl,hq,hf⟩)
theorem b3h{e:DS0}(hq:QC H p toks k)(hm:Bf toks k=some (e.1,e.2.1,e.2.2.1,e.2.2.2.1,e.2.2.2.2.1,e.2.2.2.2.2.1,toks,k',())):fJ Tryz.prog (gx fA) 162 H [.ptr p 1 0 0] λres H'=>(∃cs,res=.agg cs/\cs.length=6/\dB false (.agg cs)=some cs)/\QC H' p toks k'/\Fr H H' [p] :=
 (OT.2 (toks,k,()) _ hm H [p] _ ⟨.cons ⟨_,rfl,rfl⟩ .nil,Ih hq⟩).mono (by
  rintro res H' ⟨ρ',rs,hS,rfl,hF⟩
  obtain⟨rfl,ht,hq,hf⟩:=Ox (xs:=[.agg [.d (.int .i64) e.1,.d .str e.2.1,.d (.list .str) e.2.2.1,.d (.int .i64) e.2.2.2.1,.d (.int .i64) e.2.2.2.2.1,.d (.rl 34 6) e.2.2.2.2.2.1]]) hS hF
  obtain⟨a1,r,rfl,v1,ht⟩:=ht.cZ
  obtain rfl:=ht.gT
  obtain⟨cs,rfl,hc⟩:=v1
  obtain⟨b0,r,rfl,u0,hc⟩:=hc.cZ
  obtain⟨b1,r,rfl,u1,hc⟩:=hc.cZ
  obtain⟨b2,r,rfl,u2,hc⟩:=hc.cZ
  obtain⟨b3,r,rfl,u3,hc⟩:=hc.cZ
  obtain⟨b4,r,rfl,u4,hc⟩:=hc.cZ
  obtain⟨b5,r,rfl,u5,hc⟩:=hc.cZ
  obtain rfl:=hc.gT
  have q0:bn Wp [b0,b1,b2,b3,b4,b5] (Ty.enc tS0 e).cells:=.cons u0 (.cons u1 (.cons u2 (.cons u3 (.cons u4 (.cons u5 .nil)))))
  have q:Wp (.agg [b0,b1,b2,b3,b4,b5]) (Ty.enc tS0 e):=.agg _ _ q0.1 q0.2
  exact⟨⟨_,rfl,rfl,TP false λc hm=>by
   obtain⟨i,hi⟩:=dP.1 hm
   obtain⟨y,hy,hw⟩:=bn.lq q.cells hi
   obtain⟨f,hf,_,_,_,_,_,hpl⟩:=(CY tS0 e).mZ hy
   exact hpl.of_wp hw⟩,hq,hf⟩)
theorem b29{x:ByteArray}(hq:QC H p toks k)(hm:pR 4 x toks k=some (false,toks,k,())):vH Tryz.prog (gx fA) 128 H [.ptr p 1 0 0,.v (.string x)] (zf k):=by
 refine J8 Tryz.func128 (x:=(sq1 a8P).seq (sq2 a8P)) rfl (t:=[.ptr p 1 0 0,.v (.string x),.any,.any,.any,.any,.any,.any,.any,.any]) rfl ?_
 refine b28 mixed (hl:=hcl) (ca:=.ops false [qI 4 (.mov (.t 0)),qI 5 (.mov (.t 1)),qI 6 (.call (.fn 129) [(.t 4),(kI 4),(.t 5)]),qI 7 (.un .not (.t 6))]) (by kernel_rfl) λN=>?_
 simp[bsH,bE,step,St.val,St.put,AV.cells,qI,qN,qF,kI,kN,bV,unV]
 refine jk (by kernel_rfl) (b3j hq hm) ?_
 rintro res H' ⟨rfl,hq',_⟩
 simp[bsH,bE,step,St.val,St.put,AV.cells,qI,qN,qF,kI,kN,bV,unV]
 refine c04 rfl ?_
 refine b26 [qI 8 (.mov (.t 0))] (l2:=[]) (d:=some 9) (fo:=.fn 83) (args:=[(.t 8),(kI 5)]) (hl:=hcl) (by kernel_rfl) ?_
 simp[bsH,bE,step,St.val,St.put,AV.cells,qI,qN,qF,kI,kN,bV,unV]
 exact⟨by kernel_rfl,b6D hq'⟩
theorem XP{n:Int}(hq:QC H p toks k)(hn:IntKind.i64.wrap (k+1)=n):∃c0,H[p]?=some ⟨99,2,0,false,[.agg [c0,.v (.int .i64 k)]]⟩/\QC (H.set p ⟨99,2,0,false,[.agg [c0,.v (.int .i64 n)]]⟩) p toks n:=by
 obtain⟨c0,hO,hw⟩:=hq
 exact⟨c0,hO,c0,by rw[aK (lt_of_some hO)],hw⟩
theorem Oy(hq:QC H p toks k)(l:List aH):QC (H++l) p toks k:=by
 obtain⟨c0,hO,hw⟩:=hq
 exact⟨c0,by rw[au (lt_of_some hO)];exact hO,hw⟩
def b9e:Code:=Tryz.f124.body.getD .skip
theorem b3a{x:ByteArray}{e:DS0}(hq:QC H p toks 1)(h1:zP toks 1=some (x,toks,1,()))(h2:qz (bs [58]) toks 2=some (toks,3,()))(h3:Bf toks 3=some (e.1,e.2.1,e.2.2.1,e.2.2.2.1,e.2.2.2.2.1,e.2.2.2.2.2.1,toks,4,()))(h4:pR 4 (bs [59]) toks 4=some (false,toks,4,())):vH Tryz.prog (gx fA) 124 H [.ptr p 1 0 0,.v (.int .i64 2)] (zf 4):=by
 refine J8 Tryz.func124 (x:=b9e) rfl (t:=[.ptr p 1 0 0,.v (.int .i64 2),.any,.any,.any,.any,.any,.any,.any,.any,.any,.any,.any,.any,.any,.any,.any,.any,.any,.any,.any,.any,.any,.any,.any,.any,.any,.any,.any,.any,.any,.any,.any,.any,.any,.any,.any,.any,.any,.any,.any,.any,.any,.any,.any,.any]) rfl ?_
 refine wF mixed (hl:=hcl) (ca:=.ops false [qI 4 (.alloc 37 v37)]) rfl (by kernel_rfl) λN=>?_
 simp[bsH,bE,step,St.val,St.put,AV.cells,qI,qN,qF,kI,kN,bV,unV,a7s]
 refine wF mixed (hl:=hcl) (ca:=.ops false [qI 8 (.mov (.t 1)),qI 9 (.mov (.t 0)),qI 10 (.call (.fn 160) [(.t 9)]),qI 11 (.build [.int .i64 0,.string (bs []),.int .i64 0,.string (bs []),.slice none 0 0,.int .i64 0,.int .i64 0,.slice none 0 0,.slice none 0 0,.int .i64 0] [(0,1,(.t 8)),(1,1,(.t 10))]),qI 5 (.alloc 37 v37),qN (.store 10 (.t 5) (.t 11))]) rfl (by kernel_rfl) λN=>?_
 simp[bsH,bE,step,St.val,St.put,AV.cells,qI,qN,qF,kI,kN,bV,unV]
 refine jk (by kernel_rfl) (b3i (Oy hq _) h1) ?_
 clear hq
 rintro res H1 ⟨rfl,hq,_⟩
 simp[bsH,bE,step,St.val,St.put,AV.cells,qI,qN,qF,kI,kN,bV,unV,a7s,l6,c1c,st1,dB,setCells,Value.oneCell']
 obtain⟨q,hq,hb,hne⟩:∃q,QC (H1++[⟨37,10,0,false,[.agg [.v (.int .i64 2),.v (.string x),.v (.int .i64 0),.v (.string (bs [])),.v (.slice none 0 0),.v (.int .i64 0),.v (.int .i64 0),.v (.slice none 0 0),.v (.slice none 0 0),.v (.int .i64 0)]]⟩]) p toks 1/\BX (H1++[⟨37,10,0,false,[.agg [.v (.int .i64 2),.v (.string x),.v (.int .i64 0),.v (.string (bs [])),.v (.slice none 0 0),.v (.int .i64 0),.v (.int .i64 0),.v (.slice none 0 0),.v (.slice none 0 0),.v (.int .i64 0)]]⟩]) q/\q≠p/\q=H1.length:=by
  refine⟨_,Oy hq _,⟨_,by rw[aO (aS _),qJ];rfl,rfl⟩,?_,rfl⟩
  obtain⟨c0,hO,_⟩:=hq
  have:=lt_of_some hO
  omega
 obtain⟨hne,hql⟩:=hne
 rw[<- hql]
 generalize H1++[_]=H2 at hq hb ⊢
 clear hql
 obtain⟨c0,hO,hq'⟩:=XP (n:=2) hq (by decide)
 refine wF mixed (hl:=hcl) (ca:=.ops false [qI 12 (.mov (.t 0)),qI 13 (.nck (.t 12)),qI 14 (.fO 1 (.t 13)),qI 15 (.load 1 false (.t 14)),qI 16 (.bin .add (.t 15) (kI 1)),qI 17 (.nck (.t 12)),qI 18 (.fO 1 (.t 17)),qN (.store 1 (.t 18) (.t 16))]) rfl (by kernel_rfl) λN=>?_
 simp[bsH,bE,step,St.val,St.put,AV.cells,qI,qN,qF,kI,kN,bV,unV,hO,b4d,st1,dB,setCells,Value.oneCell']
 replace hb:=hb.set hne ⟨99,2,0,false,[.agg [c0,.v (.int .i64 2)]]⟩
 generalize H2.set p _=H3 at hq' hb ⊢
 clear hq hO
 refine wF mixed (hl:=hcl) (ca:=.ops false [qI 19 (.mov (.t 0)),qI 20 (.call (.fn 128) [(.t 19),(.k (.string (bs [58])))])]) rfl (by kernel_rfl) λN=>?_
 simp[bsH,bE,step,St.val,St.put,AV.cells,qI,qN,qF,kI,kN,bV,unV]
 refine jk (by kernel_rfl) (b3k hq' h2) ?_
 clear hq'
 rintro res H4 ⟨rfl,hq,hf⟩
 replace hb:=hb.fr hne hf
 clear hf
 simp[bsH,bE,step,St.val,St.put,AV.cells,qI,qN,qF,kI,kN,bV,unV]
 refine wF mixed (hl:=hcl) (ca:=.seq (.ops false [qI 21 (.mov (.t 1)),qI 22 (.call (.fn 65) [(.t 21)]),qI 6 (.mov (.t 22))]) (.seq (.ops false [qI 23 (.mov (.t 6)),qI 24 (.bin .gtr (.t 23) (kI 0))]) (.cond (.t 24) (.seq (.ops false [qI 25 (.mov (.t 0)),qI 26 (.mov (.t 6)),qI 27 (.call (.fn 161) [(.t 25),(.t 26)]),qI 28 (.fO 9 (.t 5)),qN (.store 1 (.t 28) (.t 27))]) (.ops false [qI 29 (.mov (.t 0)),qI 30 (.call (.fn 127) [(.t 29),(.k (.string (bs [119,104,101,110])))])])) .skip))) rfl (by kernel_rfl) λN=>?_
 simp[bsH,bE,step,St.val,St.put,AV.cells,qI,qN,qF,kI,kN,bV,unV]
 refine⟨65,rfl,by kernel_rfl,.inl ⟨[.v (.int .i64 2)],.v (.int .i64 0),by simp[St.val,dV,gW,jY,Value.oneCell'],Ml.2 ((2:Int),()) _ (show m65 2=some (0,()) from rfl),(λq=>by cases q),?_⟩⟩
 simp[bsH,bE,step,St.val,St.put,AV.cells,qI,qN,qF,kI,kN,bV,unV,scalar]
 refine wF mixed (hl:=hcl) (ca:=.ops false [qI 31 (.mov (.t 0)),qI 32 (.call (.fn 162) [(.t 31)]),qI 33 (.fO 2 (.t 5)),qN (.store 6 (.t 33) (.t 32))]) rfl (by kernel_rfl) λN=>?_
 simp[bsH,bE,step,St.val,St.put,AV.cells,qI,qN,qF,kI,kN,bV,unV]
 refine jk (by kernel_rfl) (b3h hq h3) ?_
 clear hq
 rintro res H5 ⟨⟨es,rfl,hl,hst⟩,hq,hf⟩
 replace hb:=hb.fr hne hf
 clear hf
 obtain⟨cs,hB,hcs⟩:=hb
 simp[bsH,bE,step,St.val,St.put,AV.cells,qI,qN,qF,kI,kN,bV,unV,hB,hst,st1,hcs,hl]
 have hq:QC (H5.set q ⟨37,10,0,false,[setCells (.agg cs) 2 es]⟩) p toks 4:=by
  obtain⟨c1,q1,q2⟩:=hq
  exact⟨c1,by rw[aC hne];exact q1,q2⟩
 generalize H5.set q _=H6 at hq ⊢
 refine wF mixed (hl:=hcl) (ca:=.seq (.ops false [qI 34 (.mov (.t 1)),qI 35 (.bin .eql (.t 34) (kI 3)),qI 36 (.mov (.t 35)),⟨some 37,some (36,true),.mov (.t 0)⟩,⟨some 38,some (36,true),.call (.fn 129) [(.t 37),(kI 1),(.k (.string (bs [117,110,108,101,115,115])))]⟩,qI 39 (.pick (.t 36) (.t 38) (.k (.bool false)))]) (.cond (.t 39) (.seq (.ops false [qI 7 (.alloc 3 (.int .i64 0)),qN (.store 1 (.t 7) (kI 0))]) (.ops false [qI 40 (.mov (.t 0)),qI 41 (.call (.fn 163) [(.t 40),(kI 1),(.t 7)]),qI 42 (.fO 8 (.t 5)),qN (.store 1 (.t 42) (.t 41))])) .skip)) rfl (by kernel_rfl) λN=>?_
 simp[bsH,bE,step,St.val,St.put,AV.cells,qI,qN,qF,kI,kN,bV,unV]
 refine a4C rfl (Vm (l:=[qI 43 (.mov (.t 0))]) (l2:=[]) (d:=some 44) (fo:=.fn 128) (args:=[(.t 43),(.k (.string (bs [59])))]) (hl:=hcl) rfl (by kernel_rfl) ?_)
 simp[bsH,bE,step,St.val,St.put,AV.cells,qI,qN,qF,kI,kN,bV,unV]
 exact⟨by kernel_rfl,b29 hq h4⟩
def x81:Code:=Tryz.f81.body.getD .skip
def y81:Code:=bkc (bkc (bkc (sq2 (sq2 x81))))
theorem b6E{x:ByteArray}{e:DS0}(hq:QC H p toks 0)(h0:Bg toks 0=some (2,toks,0,()))(h1:zP toks 1=some (x,toks,1,()))(h2:qz (bs [58]) toks 2=some (toks,3,()))(h3:Bf toks 3=some (e.1,e.2.1,e.2.2.1,e.2.2.2.1,e.2.2.2.2.1,e.2.2.2.2.2.1,toks,4,()))(h4:pR 4 (bs [59]) toks 4=some (false,toks,4,())):vH Tryz.prog (gx fA) 81 H [.ptr p 1 0 0] (zf 4):=by
 refine J8 Tryz.func81 (x:=x81) rfl (t:=[.ptr p 1 0 0,.any,.any,.any,.any,.any,.any,.any,.any,.any,.any,.any,.any,.any,.any,.any,.any,.any,.any,.any,.any,.any,.any,.any,.any,.any,.any,.any]) rfl ?_
 refine wF mixed (hl:=hcl) (ca:=.ops false [qI 2 (.mov kN)]) rfl (by kernel_rfl) λN=>?_
 simp[bsH,bE,step,St.val,St.put,AV.cells,qI,qN,qF,kI,kN,bV,unV]
 refine wF mixed (hl:=hcl) (ca:=.ops false [qI 3 (.mov kN)]) rfl (by kernel_rfl) λN=>?_
 simp[bsH,bE,step,St.val,St.put,AV.cells,qI,qN,qF,kI,kN,bV,unV]
 show Dz _ _ _ (.block 0 (.loop (.block 1 y81))) _
 refine b27 (c02 (b27 ?_))
 refine wF mixed (hl:=hcl) (ca:=.ops false [qI 5 (.mov (.t 0)),qI 6 (.call (.fn 123) [(.t 5)]),qI 4 (.mov (.t 6))]) rfl (by kernel_rfl) λN=>?_
 simp[bsH,bE,step,St.val,St.put,AV.cells,qI,qN,qF,kI,kN,bV,unV]
 refine jk (by kernel_rfl) (b3l hq h0) ?_
 clear hq
 rintro res H1 ⟨rfl,hq,_⟩
 simp[bsH,bE,step,St.val,St.put,AV.cells,qI,qN,qF,kI,kN,bV,unV]
 refine wF mixed (hl:=hcl) (ca:=.seq (.ops false [qI 7 (.mov (.t 4)),qI 8 (.bin .eql (.t 7) (kI 0))]) (.cond (.t 8) (.seq (.ops false [qI 9 (.mov (.t 3)),qI 2 (.mov (.t 9))]) .ret) .skip)) rfl (by kernel_rfl) λN=>?_
 simp[bsH,bE,step,St.val,St.put,AV.cells,qI,qN,qF,kI,kN,bV,unV]
 refine wF mixed (hl:=hcl) (ca:=.seq (.ops false [qI 10 (.mov (.t 3)),qI 11 (.len (.t 10)),qI 12 (.bin .eql (.t 11) (kI 40))]) (.cond (.t 12) (.ops false [qI 13 (.mov (.t 0)),qI 14 (.call (.fn 83) [(.t 13),(kI 4)])]) .skip)) rfl (by kernel_rfl) λN=>?_
 simp[bsH,bE,step,St.val,St.put,AV.cells,qI,qN,qF,kI,kN,bV,unV]
 obtain⟨c0,hO,hq'⟩:=XP (n:=1) hq (by decide)
 refine wF mixed (hl:=hcl) (ca:=.ops false [qI 15 (.mov (.t 0)),qI 16 (.nck (.t 15)),qI 17 (.fO 1 (.t 16)),qI 18 (.load 1 false (.t 17)),qI 19 (.bin .add (.t 18) (kI 1)),qI 20 (.nck (.t 15)),qI 21 (.fO 1 (.t 20)),qN (.store 1 (.t 21) (.t 19))]) rfl (by kernel_rfl) λN=>?_
 simp[bsH,bE,step,St.val,St.put,AV.cells,qI,qN,qF,kI,kN,bV,unV,hO,b4e,st1,dB,setCells,Value.oneCell']
 refine Vm (l:=[qI 22 (.mov (.t 3)),qI 23 (.mov (.t 0)),qI 24 (.mov (.t 4))]) (l2:=[qI 26 (.lI 37 10 [(.t 25)]),qI 27 (.app 37 10 144 (.t 22) (.t 26)),qI 3 (.mov (.t 27))]) (d:=some 25) (fo:=.fn 124) (args:=[(.t 23),(.t 24)]) (hl:=hcl) rfl (by kernel_rfl) ?_
 simp[bsH,bE,step,St.val,St.put,AV.cells,qI,qN,qF,kI,kN,bV,unV]
 exact⟨by kernel_rfl,b3a hq' h1 h2 h3 h4⟩
def x47:Code:=Tryz.f47.body.getD .skip
theorem b6F{x:ByteArray}{e:DS0}(hq:QC H p toks 0)(h0:Bg toks 0=some (2,toks,0,()))(h1:zP toks 1=some (x,toks,1,()))(h2:qz (bs [58]) toks 2=some (toks,3,()))(h3:Bf toks 3=some (e.1,e.2.1,e.2.2.1,e.2.2.2.1,e.2.2.2.2.1,e.2.2.2.2.2.1,toks,4,()))(h4:pR 4 (bs [59]) toks 4=some (false,toks,4,())):vH Tryz.prog (gx fA) 47 H [.ptr p 1 0 0] (zf 4):=by
 refine J8 Tryz.func47 (x:=x47) rfl (t:=[.ptr p 1 0 0,.any,.any,.any,.any,.any,.any,.any,.any,.any,.any,.any,.any,.any,.any,.any,.any,.any,.any,.any,.any,.any,.any,.any,.any,.any,.any,.any,.any,.any,.any,.any,.any,.any,.any,.any,.any,.any,.any,.any,.any,.any]) rfl ?_
 refine wF mixed (hl:=hcl) (ca:=.ops false [qI 2 (.alloc 29 z2)]) rfl (by kernel_rfl) λN=>?_
 simp[bsH,bE,step,St.val,St.put,AV.cells,qI,qN,qF,kI,kN,bV,unV]
 refine a4C rfl (Vm (l:=[qI 4 (.mov (.t 0))]) (l2:=[qI 6 (.build [.slice none 0 0,.slice none 0 0] [(0,1,(.t 5))]),qI 3 (.alloc 29 z2),qN (.store 2 (.t 3) (.t 6))]) (d:=some 5) (fo:=.fn 81) (args:=[(.t 4)]) (hl:=hcl) rfl (by kernel_rfl) ?_)
 simp[bsH,bE,step,St.val,St.put,AV.cells,qI,qN,qF,kI,kN,bV,unV]
 exact⟨by kernel_rfl,b6E (Oy hq _) h0 h1 h2 h3 h4⟩
end
set_option maxRecDepth 100000
theorem a5C{s:ByteArray}{toks:List ay}{off:Int}(h1:m45 s=some (toks,off,0,()))(hl:toks.length=4)(die:∀(H:List aH) (p:Nat),QC H p toks 0->vH Tryz.prog (gx fA) 47 H [.ptr p 1 0 0] (zf 4)):Pure Tryz.prog (gx fA) 21 [.v (.string s)] (.tup [Ty.enc tS4 ([],[],()),.v (.int .i64 (sLen s)),.v (.int .i64 5)]):=by
 obtain⟨ts,hts⟩:∃ts:List AV,Ty.enc (.list bR) toks=.list 4 ts:=⟨_,rfl⟩
 have hw0:Wp (.list 4 ts) (Ty.enc (.list bR) toks):=by rw[hts];exact .refl _
 have htl:ts.length=4:=by
  have:AV.list bR.size (List.map (Ty.enc bR) toks)=.list 4 ts:=hts
  cases this
  exact(bA (α:=ay) (Ty.enc bR)).trans hl
 refine Rv h1 hts ⟨rfl,.inr ⟨zf 4,4,_,.list 4 ts,.list 4 ts,rfl,rfl,rfl,rfl,rfl,rfl,rfl,λp2 p3 p4=>?_,?_⟩⟩
 .unfold cP5 st5
  simp[bsH,bE,step,St.val,St.put,AV.cells,qI,qN,qF,kI,kN,bV,unV,l6,dB,st1,setCells,jO,zcQ,Value.oneCell']
  exact die _ _ ⟨_,rfl,hw0⟩
 .refine⟨_,.tup [.agg [.v (.int .i64 4),.v (.int .i64 5)],.v (.bool true)],a4Z _ _,a4N _ _ _ rfl rfl,?_⟩
  unfold l9C cP9 stP
  simp[bsH,bE,step,St.val,St.put,AV.cells,qI,qN,qF,kI,kN,bV,unV,st9,Ja,rsP,jO,zcF,dB,st1,setCells,jX,Value.oneCell',htl,l6]
  refine yA [1,2] ?_
  simp[bsH,bE,step,St.val,St.put,AV.cells,qI,qN,qF,kI,kN,bV,unV,jO,zcF,dB,st1,setCells,jX,Value.oneCell',htl,l6,wants,I.ids,agree,a7h]
  refine⟨λid h1 h2 h3=>?_,trivial,_,_,_,rfl,⟨⟨by show 2<=2;omega,by omega⟩,⟨by show 0<1;omega,by omega⟩,⟨by show 0<1;omega,by omega⟩,trivial⟩,rfl,Wk.tup rfl λj x y p q=>?_⟩
  .match id,h2,h3 with
   |0,_,_=>rfl
   |1,h2,_=>exact absurd rfl h2
   |2,_,h3=>exact absurd rfl h3
   |n+3,_,_=>rfl
  .match j,p,q with
   |0,p,q =>
    cases p;cases q
    exact(Wp.agg [.v (.slice none 0 0),.v (.slice none 0 0)] [.list tS1.size [],.list tS3.size []] rfl λi x y p q=>by
     match i,p,q with
     |0,p,q=>cases p;cases q;exact .nil _
     |1,p,q=>cases p;cases q;exact .nil _
     |i+2,p,q=>cases p).wk
   |1,p,q=>cases p;cases q;exact Wk.refl _
   |2,p,q=>cases p;cases q;exact Wk.refl _
   |j+3,p,q=>cases p
def txB:ByteArray:=bs [99,111,118,101,114,32,97,108,108,58,32,116,114,117,101]
theorem pI{w:ByteArray}{r:List Int}{l:List ay}(hw:lS w=true)(hs:Di r)(h:Sc r l):Sc (aY w++r) (nmT w::l):=by
 have ok:iw (nmT w):=.inl ⟨rfl,hw,rfl⟩
 have e:tT (nmT w)=w:=by rcases(wU ok).2 with⟨q,_⟩|⟨q,_⟩|⟨_,q⟩;cases q;cases q;exact q
 have:=Sc.tk ok (.inr hs) h
 rwa [e]at this
theorem vk{c:List UInt8}{r:List Int}{l:List ay}(hc:c∈mkL)(h:Sc r l):Sc (aY (bs c)++r) (mkT (bs c)::l):=by
 have ok:iw (mkT (bs c)):=.inr (.inr (.inr ⟨rfl,rfl,c,hc,rfl⟩))
 have e:tT (mkT (bs c))=bs c:=by rcases(wU ok).2 with⟨q,_⟩|⟨q,_⟩|⟨_,q⟩;cases q;cases q;exact q
 have:=Sc.tk ok (.inl rfl) h
 rwa [e]at this
theorem oG{c:Int}{r:List Int}(h1:p9 c=false)(h2:iEq c 84=false):Di (c::r):=λd hd=>by cases hd;exact⟨h1,h2⟩
theorem a88:Sc (aY txB) [nmT (bs [99,111,118,101,114]),nmT (bs [97,108,108]),mkT (bs [58]),nmT (bs [116,114,117,101])]:=by
 have e:aY txB=aY (bs [99,111,118,101,114])++(32::(aY (bs [97,108,108])++(aY (bs [58])++(32::(aY (bs [116,114,117,101])++[]))))):=by kernel_rfl
 rw[e]
 exact pI (by kernel_rfl) (oG (by kernel_rfl) (by kernel_rfl)) (.sp (.inl rfl) (pI (by kernel_rfl) (oG (by kernel_rfl) (by kernel_rfl)) (vk (by simp[mkL]) (.sp (.inl rfl) (pI (by kernel_rfl) (λc hc=>by cases hc) .nil)))))
theorem Rn{s:ByteArray}{l:List ay}(h:Sc (aY s) l)(h1:l.length<=4000)(h2:s.size<=16384):∃toks,m45 s=some (toks,0,0,())/\toks.length=l.length/\Rs toks 0 (l.map strip):=by
 obtain⟨⟨toks,a,b,⟨⟩⟩,h3,h4,h5,h6⟩:=X3 h h1 h2
 dsimp only at h4 h5 h6
 subst h4 h5
 have hl:toks.length=l.length:=by have:=dn List.length h6;simpa using this
 exact⟨toks,h3,hl,by omega,bN _,h6⟩
def exB:DS0:=(1,bs [],[],0,0,[],())
theorem a5D:Pure Tryz.prog (gx fA) 21 [.v (.string txB)] (.tup [Ty.enc tS4 ([],[],()),.v (.int .i64 15),.v (.int .i64 5)]):=by
 obtain⟨toks,h1,hl,hR⟩:=Rn a88 (by decide) (by decide)
 have hR:Rs toks 0 [nmS (kwS 2),nmS (bs [97,108,108]),mkS (bs [58]),nmS (bs [116,114,117,101])]:=by
  have e:List.map strip [nmT (bs [99,111,118,101,114]),nmT (bs [97,108,108]),mkT (bs [58]),nmT (bs [116,114,117,101])]=[nmS (kwS 2),nmS (bs [97,108,108]),mkS (bs [58]),nmS (bs [116,114,117,101])]:=by kernel_rfl
  rw[e]at hR;exact hR
 obtain⟨_,_,_,r1⟩:=dX hR
 obtain⟨_,_,_,r2⟩:=dX r1
 obtain⟨_,_,_,r3⟩:=dX r2
 obtain⟨_,_,_,r4⟩:=dX r3
 have m0:Bg toks 0=some (2,toks,0,()):=YE (k:=0) (by omega) hR
 have m1:zP toks 1=some (bs [97,108,108],toks,1,()):=IB (k:=1) r1 (by kernel_rfl)
 have m2:qz (bs [58]) toks 2=some (toks,3,()):=sW (k:=2) r2
 have m3:Bf toks 3=some (exB.1,exB.2.1,exB.2.2.1,exB.2.2.2.1,exB.2.2.2.2.1,exB.2.2.2.2.2.1,toks,4,()):=Qh (k:=3) (e:=exB) (r:=[]) (by kernel_rfl) (λa ha=>by cases ha) r3 (λs hs=>by cases hs)
 have m4:pR 4 (bs [59]) toks 4=some (false,toks,4,()):=Dw (k:=4) r4 (by decide) (λs hs=>by cases hs)
 exact a5C h1 hl λH p hq=>b6F hq m0 m1 m2 m3 m4
def m21(a0:ByteArray):Option (DS4×Int×Int×Unit):=cond (sEq a0 txB) (some (([],[],()),15,5,())) ((m45 a0).bind λy=>cond (iEq y.2.2.1 0) ((m47 y.1 0).bind λz=>some ((z.2.2.1,z.2.2.2.1,()),0,0,())) none)
def i21:PI:=⟨21,[.str],[tS4,.int .i64,.int .i64],fun(x:ByteArray×Unit)=>m21 x.1⟩
theorem p21{s:ByteArray}{y:DS4×Int×Int×Unit}(h:m21 s=some y):Pure Tryz.prog (gx fA) 21 [.v (.string s)] (.tup [Ty.enc tS4 y.1,.v (.int .i64 y.2.1),.v (.int .i64 y.2.2.1)]):=by
 unfold m21 at h
 cases hs:sEq s txB with
 |true =>
  rw[hs]at h
  cases h
  rw[vX]at hs
  subst hs
  exact a5D
 |false =>
  rw[hs,mO]at h
  obtain⟨⟨toks,off,e,⟨⟩⟩,h1,h⟩:=gV.1 h
  dsimp only at h
  cases he:iEq e 0 with
  |false=>rw[he]at h;cases h
  |true =>
   rw[he,qR]at h
   obtain⟨⟨a3M,k',cl,en,⟨⟩⟩,h2,h⟩:=gV.1 h
   cases h
   rw[kg]at he
   subst he
   exact a5A h1 h2
theorem a4k:PK i21:=⟨by kernel_rfl,λx y h=>p21 h⟩
end
end
end Abs
end Go.Proofs.YtnhgeocdffhkjaaGreatDoor
