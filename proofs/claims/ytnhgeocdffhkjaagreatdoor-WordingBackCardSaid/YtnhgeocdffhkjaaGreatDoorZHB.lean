/- Merged and trimmed by a program: AbsA AbsD AbsP AbsQ AbsB AbsC AbsL AbsT AbsR X0 X1. -/
import Derived.Test.YtnhgeocdffhkjaaGreatDoorZHA
import Derived.LoopN
import Derived.Scope
import Derived.IntWalk
import Derived.Deep.Slices
import Derived.WideShapes
import Derived.Lib.SmallJoins
set_option linter.unusedVariables false
set_option linter.unusedSimpArgs false
set_option linter.defProp false
namespace Go.Proofs.YtnhgeocdffhkjaaGreatDoor
namespace Abs
noncomputable section
section
open Go.RowKit
def direct(ops:Array Oper)(i:Nat):List Nat:=match ops[i]? with
 |some o=>o.after.toList.filterMap λe=>if Region.binds .any e then some e.on else none
 |none=>[]
def tb(bm:Array Nat)(i j:Nat):Bool:=(bm.getD i 0).testBit j
def clash(a b:Ins):Bool :=
 (match a.dst with|some d=>b.looks.contains d||b.dst==some d|none=>false)||(match b.dst with|some d=>a.looks.contains d|none=>false)||
 (a.i.cls==2&&b.i.cls != 0)||(b.i.cls==2&&a.i.cls != 0)
def zZ(ops:Array Oper)(l:List Ins):Bool :=
 let bm:=Region.before ops
 let n:=ops.size
 (List.range n).all λi=>(direct ops i).all (λd=>decide (d<i))&&
  (List.range i).all λj=>(!tb bm i j||(direct ops i).contains j||(direct ops i).any λd=>decide (j<d)&&tb bm d j)&&(!clash (l.getD j default) (l.getD i default)||tb bm i j)
section
variable{P:Program}{Gl:Nat->Option (List AV)}{F:Addr->Option Value}{own:List Ent}{B:Nat}{w0:W0}{σ:St}{act:Act}{w:World}
theorem R8{ops:Array Oper}{l:List Ins}(h:zZ ops l=true) :
  (∀i d,i<ops.size->d∈direct ops i->d<i)/\(∀i j,j<i->i<ops.size->tb (Region.before ops) i j=true->j∈direct ops i\/∃d∈direct ops i,j<d/\tb (Region.before ops) d j=true)/\
  (∀i j,j<i->i<ops.size->clash (l.getD j default) (l.getD i default)=true->tb (Region.before ops) i j=true):=by
 unfold zZ at h
 have h1:∀i,i<ops.size->_:=λi hi=>aD.1 h i (bL.2 hi)
 refine⟨λi d hi hd=>?_,λi j hj hi ht=>?_,λi j hj hi hc=>?_⟩
 .have:=h1 i hi
  rw[aB]at this
  exact of_decide_eq_true (aD.1 this.1 d hd)
 .have:=h1 i hi
  rw[aB]at this
  have:=aD.1 this.2 j (bL.2 hj)
  rw[aB]at this
  have:=this.1
  simp only[ht,oV,uW,iI]at this
  rcases this with q|q
  .exact .inl (gM.1 q)
  .obtain⟨d,hd,hq⟩:=iO.1 q
   rw[aB]at hq
   exact .inr ⟨d,hd,of_decide_eq_true hq.1,hq.2⟩
 .have:=h1 i hi
  rw[aB]at this
  have:=aD.1 this.2 j (bL.2 hj)
  rw[aB]at this
  have:=this.2
  rw[hc]at this
  exact this
theorem Ko{a b:Ins}(h1:a.i.cls=2)(h2:b.i.cls≠0):clash a b=true:=by simp[clash,h1,h2]
theorem a6Y{a b:Ins}(h1:b.i.cls=2)(h2:a.i.cls≠0):clash a b=true:=by simp[clash,h1,h2]
theorem Sq{a b:Ins}{s:Nat}(h1:a.dst=some s)(h2:b.dst=some s):clash a b=true:=by simp[clash,h1,h2]
theorem Eu{n:Nat}{S:Nat->Bool}(h:0<(List.range n).countP λi=>!S i):∃i,i<n/\S i=false/\∀j,j<i->S j=true:=by
 have ex:∃i,i<n/\S i=false:=by
  obtain⟨i,hi,hs⟩:=List.countP_pos_iff.1 h
  exact⟨i,bL.1 hi,by simpa using hs⟩
 obtain⟨i,hi⟩:=ex
 induction i using Nat.strongRecOn with
 |_ i ih =>
  by_cases hall:∀j,j<i->S j=true
  .exact⟨i,hi.1,hi.2,hall⟩
  ·have:∃ j,j < i/\S j=false:=by
    apply lJ
    intro q
    exact hall λj hj=>by
     cases hs:S j with
     |true=>rfl
     |false=>exact absurd ⟨j,hj,hs⟩ q
   obtain⟨j,hj,hs⟩:=this
   exact ih j hj ⟨by omega,hs⟩
theorem count_set{n:Nat}{S S':Nat->Bool}{k:Nat}(hk:k<n)(h0:S k=false)(h1:S' k=true)(h:∀j,j≠k->S' j=S j):((List.range n).countP λi=>!S i)=((List.range n).countP λi=>!S' i)+1:=by
 induction n with
 |zero=>omega
 |succ n ih =>
  rw[List.range_succ,List.countP_append,List.countP_append]
  rcases bI k n with q|q
  .rw[ih q]
   simp only[List.countP_cons,List.countP_nil]
   rw[h n (by omega)]
   omega
  .have:k=n:=by omega
   subst this
   have e:((List.range k).countP λi=>!S i)=((List.range k).countP λi=>!S' i):=List.countP_congr λi hi=>by
    rw[h i (by have:=bL.1 hi;omega)]
   rw[e]
   simp[h0,h1]
theorem R7{lm:Bool}{ops:Array Oper}{l:List Ins}(hl:l.length=ops.size)(hc:∀(j:Nat) (o:Oper),ops[j]?=some o->∃ins,l[j]?=some ins/\jN P lm ops o=some ins)(hd:zZ ops l=true){Q:Exit->Act->World->Prop}{K:St->Prop}(hQ:∀a w,lY Gl B w0 K a w->Q .normal a w)
  (ha:tH P Gl true K l σ) (hI:Inv Gl F own B w0 σ act w):wpAny P .any ops Q ops.size (Array.replicate ops.size false) act w:=by
 obtain⟨d1,d2,d3⟩:=R8 hd
 obtain⟨as,hs,h0,hone,hK⟩:=trace ha
 generalize hn:ops.size=n at *
 have nJ:∀i,i<n->∃o ins,ops[i]?=some o/\l[i]?=some ins/\jN P lm ops o=some ins/\l.getD i default=ins:=λi hi=>by
  have ho:ops[i]?=some (ops[i]'(by omega)):=aF (by omega)
  obtain⟨ins,e1,e2⟩:=hc i _ ho
  exact⟨_,ins,ho,e1,e2,by simp[List.getD,e1]⟩
 have hstep:∀i,i<n->(l.getD i default).i.cls≠2->hs (i+1)=hs i:=λi hi hne=>by
  obtain⟨o,ins,_,e1,_,e3⟩:=nJ i hi
  rw[e3]at hne
  exact(Jh (τ:=⟨tS σ.t l as (λ_=>true) i,hs i⟩) (λ_ _=>rfl) (λ_=>rfl) (hone i ins e1)).1 hne
 have hconst:∀a b,a<=b->b<=n->(∀i,a<=i->i<b->(l.getD i default).i.cls≠2)->hs b=hs a:=by
  intro a b hab hbn
  induction b with
  |zero =>
   intro _
   have:a=0:=by omega
   subst this;rfl
  |succ b ih =>
   intro h
   rcases bI b a with q|q
   .have:a=b+1:=by omega
    subst this;rfl
   .rw[hstep b (by omega) (h b q (by omega))]
    exact ih q (by omega) λi p r=>h i p (by omega)
 have ahead:∀(S:Nat->Bool),(∀i,i<n->S i=true->∀d∈direct ops i,S d=true)->∀i j,i<n->(∀d∈direct ops i,S d=true)->tb (Region.before ops) i j=true->j<i->S j=true:=by
  intro S hcl i
  induction i using Nat.strongRecOn with
  |_ i ih =>
   intro j hi oP ht hji
   rcases d2 i j hji hi ht with q|⟨d,hdm,r,q⟩
   .exact oP j q
   .have hdi:=d1 i d hi hdm
    exact ih d hdi j (by omega) (hcl d (by omega) (oP d hdm)) q r
 have FL:∀(S:Nat->Bool),(∀i,i<n->S i=true->∀d∈direct ops i,S d=true)->∀i j,i<n->j<i->S i=true->clash (l.getD j default) (l.getD i default)=true->S j=true:=λS hcl i j hi hji hS hcl' =>
  ahead S hcl i j hi (hcl i hi hS) (d3 i j hji hi hcl') hji
 have FM:∀(S:Nat->Bool),(∀i,i<n->S i=true->∀d∈direct ops i,S d=true)->∀i j,i<n->j<i->(∀d∈direct ops i,S d=true)->clash (l.getD j default) (l.getD i default)=true->S j=true:=λS hcl i j hi hji oP hcl' =>
  ahead S hcl i j hi oP (d3 i j hji hi hcl') hji
 have mem_ready:∀(listed:Array Bool) (i:Nat),listed.size=n->i∈Region.ready .any ops listed->i<n/\listed.getD i false=false/\∀d∈direct ops i,listed.getD d false=true:=by
  intro listed i hsz hi
  unfold Region.ready at hi
  rw[gL,bL,hn]at hi
  obtain⟨h1,h2⟩:=hi
  rw[aB]at h2
  have e0:listed.getD i false=listed.getD i true:=by
   have:i<listed.size:=by omega
   simp[Array.getD,this]
  refine⟨h1,by rw[e0];simpa using h2.1,λd hd=>?_⟩
  obtain⟨o,ins,ho,_⟩:=nJ i h1
  have h3:=h2.2
  rw[ho]at h3
  simp only[bq,gF]at h3
  unfold direct at hd
  rw[ho]at hd
  simp only at hd
  obtain⟨e,he,hq⟩:=nk.1 hd
  have:=fD.1 h3 e (by simpa using he)
  split at hq
  .rename_i hb
   cases hq
   simpa[hb]using this
  .cases hq
 have yh:∀(listed:Array Bool) (i:Nat),listed.size=n->i<n->listed.getD i false=false->(∀j,j<i->listed.getD j false=true)->i∈Region.ready .any ops listed:=by
  intro listed i hsz hi h1 h2
  unfold Region.ready
  rw[gL,bL,hn]
  refine⟨hi,?_⟩
  have e0:listed.getD i false=listed.getD i true:=by
   have:i<listed.size:=by omega
   simp[Array.getD,this]
  rw[aB]
  refine⟨by rw[<- e0,h1];rfl,?_⟩
  obtain⟨o,ins,ho,_⟩:=nJ i hi
  rw[ho]
  simp only[bq,gF]
  refine fD.2 λe he=>?_
  cases hb:Region.binds .any e with
  |false=>rfl
  |true =>
   have hd:e.on∈direct ops i:=by
    unfold direct
    rw[ho]
    exact nk.2 ⟨e,by simpa using he,by simp[hb]⟩
   have:=h2 e.on (d1 i e.on hi hd)
   simpa using this
 have main:∀ (fuel:Nat) (listed:Array Bool) (τ:St) (F:Addr->Option Value) (own:List Ent) (act:Act) (w:World),listed.size=n->(∀ i,i < n->listed.getD i false=true->∀ d ∈ direct ops i,listed.getD d false=true) ->
   ((List.range n).countP λi=>!listed.getD i false)=fuel->(∃k,k<=n/\(∀i,i<n->(l.getD i default).i.cls=2->(listed.getD i false=true↔i<k))/\τ.h=hs k)->τ.t=tS σ.t l as (λi=>listed.getD i false) n->
   Inv Gl F own B w0 τ act w->wpAny P .any ops Q fuel listed act w:=by
  intro fuel
  induction fuel with
  |zero =>
   intro listed τ F own act w hsz hcl hcnt ⟨k,hk,hkw,hh⟩ ht hI
   have hall:∀i,i<n->listed.getD i false=true:=λi hi=>by
    have:=wQ.1 hcnt i (bL.2 hi)
    simpa using this
   refine⟨?_,hQ act w ⟨F,own,τ,hI,?_⟩⟩
   .apply lZ.2
    intro i hi
    obtain⟨q1,q2,_⟩:=mem_ready listed i hsz hi
    rw[hall i q1]at q2
    cases q2
   ·have e1:τ.t=tS σ.t l as (fun _=>true) l.length:=by
     rw[ht,hl];exact Cc λj hj=>⟨rfl,hall j hj⟩
    have e2:τ.h=hs l.length:=by
     rw[hh,hl]
     exact(hconst k n hk (aS _) λi h1 h2 h3=>by have:=(hkw i h2 h3).1 (hall i h2);omega).symm
    have:τ=⟨tS σ.t l as (λ_=>true) l.length,hs l.length⟩:=by cases τ;simp only at e1 e2;rw[e1,e2]
    rw[this];exact hK
  |succ fuel ih =>
   intro listed τ F own act w hsz hcl hcnt ⟨k,hk,hkw,hh⟩ ht hI
   refine⟨λhnil=>?_,λi hi=>?_⟩
   .obtain⟨i,h1,h2,h3⟩:=Eu (n:=n) (S:=λi=>listed.getD i false) (by omega)
    have:=yh listed i hsz h1 h2 h3
    rw[hnil]at this
    simp at this
   .obtain⟨hin,hiS,oP⟩:=mem_ready listed i hsz hi
    obtain⟨o,ins,ho,hli,hci,hgd⟩:=nJ i hin
    have b6j:∀s,s∈ins.looks->τ.t.getD s .any=(tS σ.t l as (λ_=>true) i).getD s .any:=λs hs'=>by
     have e1:tS σ.t l as (λ_=>true) i=tS σ.t l as (λj=>decide (j<i)) n:=by
      rw[Jz (S:=λj=>decide (j<i)) (j:=i) (by omega) λj h1 h2=>by simp;omega]
      exact Cc λj hj=>⟨rfl,by simp[hj]⟩
     rw[e1,ht]
     have:(tS σ.t l as (λj=>listed.getD j false) n)[s]?=(tS σ.t l as (λj=>decide (j<i)) n)[s]?:=TL λj hj hdj=>by
      obtain⟨o',ins',_,hl',_,hg'⟩:=nJ j hj
      have hdst:ins'.dst=some s:=by simpa[zh,hl']using hdj
      rcases uM j i with r|r|r
      .rw[bW r]
       refine FM _ hcl i j hin r oP ?_
       rw[hg',hgd]
       simp only[clash,hdst,iI,gM]
       exact .inl (.inl (.inl (.inl hs')))
      .subst r;simp[hiS]
      .rw[dM (by omega)]
       cases hq:listed.getD j false with
       |false=>rfl
       |true =>
        have:=FL _ hcl j i hj r hq (by
         rw[hg',hgd]
         simp only[clash,hdst,iI,gM]
         exact .inl (.inl (.inr hs')))
        rw[hiS]at this;cases this
     rw[bB,bB,this]
    have hheap:ins.i.cls≠0->τ.h=hs i:=λhne=>by
     rw[hh]
     have lo:∀j,j<n->(l.getD j default).i.cls=2->j<i->j<k:=λj hj hc2 hji=>by
      refine(hkw j hj hc2).1 (FM _ hcl i j hin hji oP ?_)
      rw[hgd];exact Ko hc2 hne
     have up:∀j,j<n->(l.getD j default).i.cls=2->i<j->¬j<k:=λj hj hc2 hij hjk=>by
      have hSj:=(hkw j hj hc2).2 hjk
      have:=FL _ hcl j i hj hij hSj (by rw[hgd];exact a6Y hc2 hne)
      rw[hiS]at this;cases this
     have self:(l.getD i default).i.cls=2->¬i<k:=λhc2 hik=>by
      have:=(hkw i hin hc2).2 hik
      rw[hiS]at this;cases this
     rcases Nat.le_total k i with r|r
     .exact(hconst k i r (by omega) λj h1 h2 h3=>by have:=lo j (by omega) h3 h2;omega).symm
     .refine hconst i k r hk λj h1 h2 h3=>?_
      rcases bI i j with q|q
      .exact up j (by omega) h3 q h2
      .have:j=i:=by omega
       subst this;exact self h3 h2
    obtain⟨q0,h'',q1,q2,q3⟩:=Jh (τ:=τ) (σ:=⟨tS σ.t l as (λ_=>true) i,hs i⟩) b6j hheap (hone i ins hli)
    have b2A:fI P Gl true τ ins (λρ=>ρ=St.put ⟨τ.t,h''⟩ ins.dst (as i)):=QI.2 ⟨as i,h'',q1,rfl⟩
    refine wpOp_mono ?_ (nI hI hci b2A Q ho)
    rintro a1 w1 ⟨F1,dO,ρ,hI1,rfl⟩
    rw[put_eq]at hI1
    have hset:∀j,(listed.setIfInBounds i true).getD j false=if j=i then true else listed.getD j false:=λj=>by
     by_cases hji:j=i
     .subst hji
      have:j<listed.size:=by omega
      simp[Array.getD,this]
     .rw[if_neg hji]
      simp only[jl]
      rw[oC (λe=>hji e.symm)]
    refine ih (listed.setIfInBounds i true) ⟨Cr τ.t ins.dst (as i),h''⟩ F1 dO a1 w1 (by simp[hsz]) (λj hj hS d hdj=>?_) ?_ ?_ ?_ hI1
    .rw[hset]at hS ⊢
     split
     .rfl
     .split at hS
      .rename_i hji;subst hji;exact oP d hdj
      .exact hcl j hj hS d hdj
    .have:=count_set (n:=n) (S:=λj=>listed.getD j false) (S':=λj=>(listed.setIfInBounds i true).getD j false) hin hiS (by simp only[hset];simp) (λj hj=>by simp only[hset,if_neg hj])
     omega
    .by_cases hc2:ins.i.cls=2
     .refine⟨i+1,by omega,λj hj hcj=>?_,by rw[q3 hc2]⟩
      rw[hset]
      split
      .rename_i hji;subst hji;simp
      .rename_i hji
       rw[hkw j hj hcj]
       constructor
       .intro hjk
        rcases bI i j with r|r
        .have hSj:=(hkw j hj hcj).2 hjk
         have:=FL _ hcl j i hj r hSj (by rw[hgd];exact Ko hc2 (by omega))
         rw[hiS]at this;cases this
        .omega
       .intro c1A
        refine(hkw j hj hcj).1 (FM _ hcl i j hin (by omega) oP ?_)
        rw[hgd];exact Ko hcj (by omega)
     .refine⟨k,hk,λj hj hcj=>?_,by rw[q2 hc2];exact hh⟩
      rw[hset]
      split
      .rename_i hji;subst hji;rw[hgd]at hcj;exact absurd hcj hc2
      .exact hkw j hj hcj
    .simp only
     apply gX
     intro s
     have hdi:zh l i=ins.dst:=by simp[zh,hli]
     by_cases hds:ins.dst=some s
     ·have e1:(tS σ.t l as (fun j=>(listed.setIfInBounds i true).getD j false) n)[s]?=(tS σ.t l as (fun j=>decide (j<=i)) n)[s]?:=TL fun j hj hdj=>by
       obtain⟨o',ins',_,hl',_,hg'⟩:=nJ j hj
       have hdst:ins'.dst=some s:=by simpa[zh,hl']using hdj
       rw[hset]
       split
       .rename_i hji;subst hji;simp
       .rename_i hji
        rcases bI j i with r|r
        .rw[bW (by omega)]
         refine FM _ hcl i j hin r oP ?_
         rw[hg',hgd];exact Sq hdst hds
        .rw[dM (by omega)]
         cases hq:listed.getD j false with
         |false=>rfl
         |true =>
          have:=FL _ hcl j i hj (by omega) hq (by rw[hg',hgd];exact Sq hds hdst)
          rw[hiS]at this;cases this
      rw[e1,Jz (S:=λj=>decide (j<=i)) (j:=i+1) (by omega) λj h1 h2=>by simp;omega]
      simp only[tS,bW (aS i),if_true,hdi,hds]
      exact KO (by rw[ht,I5,I5])
     .rw[Rq hds,ht]
      exact TL λj hj hdj=>by
       rw[hset]
       split
       .rename_i hji;subst hji;rw[hdi]at hdj;exact absurd hdj hds
       .rfl
 have hrep:∀i,(Array.replicate n false).getD i false=false:=λi=>by
  simp only[jl,tL]
  split<;>rfl
 refine main n (Array.replicate n false) σ F own act w (by simp) (λi _ h=>by rw[hrep]at h;cases h) ?_ ⟨0,by omega,λi hi _=>by simp[hrep],h0.symm⟩ ?_ hI
 .have:((List.range n).countP λi=>!(Array.replicate n false).getD i false)=(List.range n).length:=vR.2 λi _=>by rw[hrep];rfl
  rw[this];simp
 .have:tS σ.t l as (λi=>(Array.replicate n false).getD i false) n=tS σ.t l as (λi=>(Array.replicate n false).getD i false) 0:=Jz (by omega) λi _ _=>hrep i
  rw[this];rfl
end
def I.kZ:I->Bool
 |.call ..=>true
 |_=>false
def I.ids(Gl:Nat->Option (List AV))(σ:St):I->List Nat
 |.load _ _ x=>match σ.val Gl x with|.ptr id _ _ _=>[id]|_=>[]
 |.mQ _ _ _ x _=>match σ.val Gl x with|.ptr id _ _ _=>[id]|_=>[]
 |.b2s x=>match σ.val Gl x with|.row id _ _ _ _=>[id]|_=>[]
 |.call _ args=>(args.map (σ.val Gl)).flatMap dU
 |_=>[]
def agree(N:Nat)(U:List Nat)(h h':List aH):Prop:=∀id,id<N->id∉U->h'[id]?=h[id]?
theorem agree.symm{N:Nat}{U:List Nat}{h h':List aH}(a:agree N U h h'):agree N U h' h:=λid p q=>(a id p q).symm
def fq(p:Nat×Ins):Nat:=match p.1 with
 |0=>p.2.i.cls
 |1=>1
 |_=>2
theorem Yx{p:Nat×Ins}(h:p.1=0):fq p=p.2.i.cls:=by obtain⟨m,i⟩:=p;simp only at h;subst h;rfl
theorem IG{p:Nat×Ins}(h:p.1=1):fq p=1:=by obtain⟨m,i⟩:=p;simp only at h;subst h;rfl
theorem IE{p:Nat×Ins}(h:p.1=2):fq p=2:=by obtain⟨m,i⟩:=p;simp only at h;subst h;rfl
def jE(a b:Nat×Ins):Bool :=
 (match a.2.dst with|some d=>b.2.looks.contains d||b.2.dst==some d|none=>false)||(match b.2.dst with|some d=>a.2.looks.contains d|none=>false)||
 (fq a==2&&fq b != 0&&!(a.1==2&&b.1==1))||(fq b==2&&fq a != 0&&!(b.1==2&&a.1==1))||(a.2.i.kZ&&b.2.i.kZ)
def V9(hc:List Nat):I->Bool
 |.call (.k (.func (.func f) _ _)) _=>hc.any (Nat.beq f)
 |_=>false
def marks(hc:List Nat)(ops:Array Oper)(l:List Ins):List (Nat×Ins) :=
 let bm:=Region.before ops
 let cl:=fun(a:Ins)=>if V9 hc a.i then 2 else a.i.cls
 l.zipIdx.map fun(a,i)=>(if V9 hc a.i then 2 else if cl a != 0&&l.zipIdx.any (fun(b,j)=>cl a+cl b==3&&cl b != 0&&!(tb bm i j||tb bm j i)) then cl a else 0,a)
def zq(ops:Array Oper)(l:List (Nat×Ins)):Bool :=
 let bm:=Region.before ops
 let n:=ops.size
 l.all (λp=>p.1==0||p.1==2||(p.1==1&&Nat.ble p.2.i.cls 1))&&(List.range n).all λi=>(direct ops i).all (λd=>decide (d<i))&&
  (List.range i).all λj=>(!tb bm i j||(direct ops i).contains j||(direct ops i).any λd=>decide (j<d)&&tb bm d j)&&(!jE (l.getD j default) (l.getD i default)||tb bm i j)
theorem Yy(hc:List Nat)(ops:Array Oper)(l:List Ins):(marks hc ops l).length=l.length:=by simp[marks]
theorem a1Y{hc:List Nat}{ops:Array Oper}{l:List Ins}{j:Nat}{i:Ins}(h:l[j]?=some i):∃m,(marks hc ops l)[j]?=some (m,i):=by
 simp only[marks,aT,List.getElem?_zipIdx,h,bq,dD]
 exact⟨_,rfl⟩
def wants(σ:St)(ins:Ins):Prop:=match ins.gd with
 |none=>True
 |some (s,want)=>σ.t.getD s .any=.v (.bool want)
def tV(P:Program)(Gl:Nat->Option (List AV))(N:Nat)(U:List Nat)(p:Nat×Ins)(σ:St)(K:St->Prop):Prop:=match p.1 with
 |0=>fI P Gl true σ p.2 K
 |1=>(wants σ p.2->∀id∈p.2.i.ids Gl σ,id<N/\id∉U)/\fI P Gl true σ p.2 K
 |_=>fI P Gl false σ p.2 λρ=>agree N U σ.h ρ.h/\K ρ
def fZ(P:Program)(Gl:Nat->Option (List AV))(N:Nat)(U:List Nat)(K:St->Prop):List (Nat×Ins)->St->Prop
 |[],σ=>K σ
 |p::r,σ=>tV P Gl N U p σ (fZ P Gl N U K r)
section
variable{P:Program}{Gl:Nat->Option (List AV)}{F:Addr->Option Value}{own:List Ent}{B:Nat}{w0:W0}{σ τ:St}{act:Act}{w:World}{N:Nat}{U:List Nat}
theorem Qo{ops:Array Oper}{l:List (Nat×Ins)}(h:zq ops l=true) :
  (∀i d,i<ops.size->d∈direct ops i->d<i)/\(∀i j,j<i->i<ops.size->tb (Region.before ops) i j=true->j∈direct ops i\/∃d∈direct ops i,j<d/\tb (Region.before ops) d j=true)/\
  (∀i j,j<i->i<ops.size->jE (l.getD j default) (l.getD i default)=true->tb (Region.before ops) i j=true)/\∀p∈l,p.1=0\/p.1=2\/(p.1=1/\p.2.i.cls<=1):=by
 unfold zq at h
 rw[aB]at h
 obtain⟨hm,h⟩:=h
 have h1:∀i,i<ops.size->_:=λi hi=>aD.1 h i (bL.2 hi)
 refine⟨λi d hi hd=>?_,λi j hj hi ht=>?_,λi j hj hi hc=>?_,λp hp=>?_⟩
 .have:=h1 i hi
  rw[aB]at this
  exact of_decide_eq_true (aD.1 this.1 d hd)
 .have:=h1 i hi
  rw[aB]at this
  have:=aD.1 this.2 j (bL.2 hj)
  rw[aB]at this
  have:=this.1
  simp only[ht,oV,uW,iI]at this
  rcases this with q|q
  .exact .inl (gM.1 q)
  .obtain⟨d,hd,hq⟩:=iO.1 q
   rw[aB]at hq
   exact .inr ⟨d,hd,of_decide_eq_true hq.1,hq.2⟩
 .have:=h1 i hi
  rw[aB]at this
  have:=aD.1 this.2 j (bL.2 hj)
  rw[aB]at this
  have:=this.2
  rw[hc]at this
  exact this
 .have:=aD.1 hm p hp
  simp only[iI,aB,rE]at this
  rcases this with(q|q)|⟨q,r⟩
  .exact .inl q
  .exact .inr (.inl q)
  .exact .inr (.inr ⟨q,iZ r⟩)
theorem oU{a b:Nat×Ins}(h:jE a b=false) :
  (∀d,a.2.dst=some d->d∉b.2.looks/\b.2.dst≠some d)/\(∀d,b.2.dst=some d->d∉a.2.looks)/\
  (fq a=2->fq b=0\/(a.1=2/\b.1=1))/\(fq b=2->fq a=0\/(b.1=2/\a.1=1))/\(a.2.i.kZ=true->b.2.i.kZ=false):=by
 unfold jE at h
 simp only[mg]at h
 obtain⟨⟨⟨⟨h1,h2⟩,h3⟩,h4⟩,h5⟩:=h
 refine⟨λd hd=>?_,λd hd=>?_,λhm=>?_,λhm=>?_,λhm=>?_⟩
 .rw[hd]at h1
  simp only[mg,beq_eq_false_iff_ne]at h1
  exact⟨(λq=>by rw[gM.2 q]at h1;cases h1.1),h1.2⟩
 .rw[hd]at h2
  simp only at h2
  exact λq=>by rw[gM.2 q]at h2;cases h2
 .rw[hm]at h3
  simp at h3
  by_cases q:fq b=0
  .exact .inl q
  .exact .inr (h3 q)
 .rw[hm]at h4
  simp at h4
  by_cases q:fq a=0
  .exact .inl q
  .exact .inr (h4 q)
 .rw[hm]at h5
  simpa using h5
def w9(Gl:Nat->Option (List AV))(σ:St)(ins:Ins):Option (Prop×AV×List aH):=match ins.gd with
 |none=>step Gl σ ins.i
 |some (s,want)=>match σ.t.getD s .any with
  |.v (.bool b)=>if b=want then step Gl σ ins.i else some (True,und,σ.h)
  |.v (.tuple _)=>some (True,und,σ.h)
  |_=>none
theorem QJ{d:Bool}{dst:Option Nat}{K:St->Prop}{i:I}(hn:i.kZ=false):fQ P Gl d σ dst K i↔∃q a h',step Gl σ i=some (q,a,h')/\q/\K (St.put ⟨σ.t,h'⟩ dst a):=by
 have e:fQ P Gl d σ dst K i=(match step Gl σ i with|some (p,a,h')=>p/\K (St.put ⟨σ.t,h'⟩ dst a)|none=>False):=by cases i<;>first|rfl|(cases hn;done)
 rw[e]
 cases hs:step Gl σ i with
 |none=>exact⟨λh=>h.elim,fun⟨_,_,_,h,_⟩=>by cases h⟩
 |some q=>obtain⟨p,a,h'⟩:=q;exact⟨λh=>⟨p,a,h',rfl,h⟩,fun⟨_,_,_,h,r⟩=>by cases h;exact r⟩
theorem Dh{d:Bool}{K:St->Prop}{ins:Ins}(hn:ins.i.kZ=false):fI P Gl d σ ins K↔∃q a h',w9 Gl σ ins=some (q,a,h')/\q/\K (St.put ⟨σ.t,h'⟩ ins.dst a):=by
 unfold fI w9
 cases ins.gd with
 |none=>exact QJ hn
 |some g =>
  obtain⟨s,want⟩:=g
  simp only
  have one:∀{X:Prop},K (σ.put ins.dst und)↔∃q a h',some ((True:Prop),und,σ.h)=some (q,a,h')/\q/\K (St.put ⟨σ.t,h'⟩ ins.dst a):=fun{X}=>⟨λh=>⟨_,_,_,rfl,trivial,h⟩,fun⟨_,_,_,h,_,r⟩=>by cases h;exact r⟩
  have no:False↔∃q a h',(none:Option (Prop×AV×List aH))=some (q,a,h')/\q/\K (St.put ⟨σ.t,h'⟩ ins.dst a):=⟨λh=>h.elim,fun⟨_,_,_,h,_⟩=>by cases h⟩
  generalize σ.t.getD s .any=g
  cases g with
  |v x=>cases x with
   |bool b =>
    simp only
    by_cases hb:b=want
    .simp only[if_pos hb];exact QJ hn
    .simp only[if_neg hb];exact one (X:=True)
   |tuple ys=>exact one (X:=True)
   |_=>exact no
  |_=>exact no
theorem NU{i:I}(hc:i.cls<=1)(hn:i.kZ=false)(hl:∀s∈i.reads,τ.t.getD s .any=σ.t.getD s .any)(hi:∀id∈i.ids Gl σ,τ.h[id]?=σ.h[id]?){q:Prop}{a:AV}{h':List aH}(hs:step Gl σ i=some (q,a,h')):h'=σ.h/\step Gl τ i=some (q,a,τ.h):=by
 by_cases h0:i.cls=0
 .exact DC h0 hl hs
 .have e1:step Gl ⟨τ.t,σ.h⟩ i=some (q,a,h'):=by rw[yV (σ:=σ) (τ:=⟨τ.t,σ.h⟩) hl rfl];exact hs
  have hv:∀x:Opd,(∀s∈x.slots,s∈i.reads)->σ.val Gl x=St.val Gl ⟨τ.t,σ.h⟩ x:=λx hx=>(val_congr (σ:=σ) (τ:=⟨τ.t,σ.h⟩) λs hs=>hl s (hx s hs)).symm
  have hvh:∀x:Opd,τ.val Gl x=St.val Gl ⟨τ.t,σ.h⟩ x:=λx=>by cases x<;>rfl
  cases i with
  |load sz ag x =>
   have hvx:=hv x (λs hs=>hs)
   simp only[I.ids,hvx]at hi
   simp only[step,hvh]at e1 ⊢
   split at e1
   .split at e1
    .rename_i hag
     rw[if_pos hag]
     split at e1
     .rename_i hsz;cases e1;rw[if_pos hsz];exact⟨rfl,rfl⟩
     .cases e1
    .rename_i cs _ hag
     rw[if_neg hag]
     cases cs with
     |nil=>cases e1
     |cons c cs=>cases e1;exact⟨rfl,rfl⟩
   .rename_i id G j o hp
    rw[hp]at hi
    rw[hi id (by simp)]
    split at e1
    .rename_i ob hob
     split at e1
     .rename_i hG
      rw[if_pos hG]
      split at e1
      .rename_i hag;cases e1;rw[if_pos hag];exact⟨rfl,rfl⟩
      .rename_i hag;cases e1;rw[if_neg hag];exact⟨rfl,rfl⟩
     .cases e1
    .cases e1
   .cases e1
  |mQ bsz st n x k =>
   have hvx:=hv x (λs hs=>by simp only[I.reads,aG];exact .inl hs)
   simp only[I.ids,hvx]at hi
   simp only[step,hvh]at e1 ⊢
   split at e1
   .rename_i id G j o k' m hp hp2
    rw[hp]at hi
    rw[hi id (by simp)]
    split at e1
    .rename_i ob hob
     split at e1
     .rename_i hG;cases e1;rw[if_pos hG];exact⟨rfl,rfl⟩
     .rename_i hG
      split at e1
      .rename_i hG2;cases e1;rw[if_neg hG,if_pos hG2];exact⟨rfl,rfl⟩
      .cases e1
    .cases e1
   .cases e1;exact⟨rfl,rfl⟩
   .cases e1
  |b2s x =>
   have hvx:=hv x (λs hs=>hs)
   simp only[I.ids,hvx]at hi
   simp only[step,hvh]at e1 ⊢
   have he:iC τ.h 1 (St.val Gl ⟨τ.t,σ.h⟩ x)=iC σ.h 1 (St.val Gl ⟨τ.t,σ.h⟩ x):=by
    cases hx:St.val Gl ⟨τ.t,σ.h⟩ x with
    |row id G sz off len=>rw[hx]at hi;simp only[iC,hi id (by simp)]
    |v y =>
     by_cases hy:y=.slice none 0 0
     .subst hy;rfl
     ·have e0:∀ h:List aH,iC h 1 (.v y)=none:=fun h=>by
       unfold iC
       split
       .rename_i q;cases q
       .rename_i q;cases q;exact absurd rfl hy
       .rename_i q;cases q
       .rfl
      rw[e0,e0]
    |_=>simp only[iC]
   rw[he]
   split at e1
   .rename_i ys hys
    cases hb:bytesOf ys with
    |none=>rw[hb]at e1;cases e1
    |some l=>rw[hb]at e1;cases e1;exact⟨rfl,rfl⟩
   .cases e1
  |call f as=>cases hn
  |_=>first|exact absurd rfl h0|(simp[I.cls]at hc;done)
theorem uP{ins:Ins}(h:∀s∈ins.looks,τ.t.getD s .any=σ.t.getD s .any):∀s∈ins.i.reads,τ.t.getD s .any=σ.t.getD s .any:=λs hs=>h s (by simp[Ins.looks,hs])
theorem CF{ins:Ins}{s:Nat}{want:Bool}(h:∀s∈ins.looks,τ.t.getD s .any=σ.t.getD s .any)(hg:ins.gd=some (s,want)):τ.t.getD s .any=σ.t.getD s .any:=h s (by simp[Ins.looks,hg])
theorem FQ{ins:Ins}(hl:∀s∈ins.looks,τ.t.getD s .any=σ.t.getD s .any):wants τ ins=wants σ ins:=by
 unfold wants
 cases hg:ins.gd with
 |none=>rfl
 |some g=>obtain⟨s,want⟩:=g;simp only;rw[CF hl hg]
theorem OH{ins:Ins}(hc:ins.i.cls<=1)(hn:ins.i.kZ=false)(hl:∀s∈ins.looks,τ.t.getD s .any=σ.t.getD s .any)(hi:wants σ ins->∀id∈ins.i.ids Gl σ,τ.h[id]?=σ.h[id]?){q:Prop}{a:AV}{h':List aH}(hs:w9 Gl σ ins=some (q,a,h')):h'=σ.h/\w9 Gl τ ins=some (q,a,τ.h):=by
 unfold w9 at hs ⊢
 cases hg:ins.gd with
 |none=>rw[hg]at hs;exact NU hc hn (uP hl) (hi (by unfold wants;rw[hg];trivial)) hs
 |some g =>
  obtain⟨s,want⟩:=g
  rw[hg]at hs
  simp only at hs ⊢
  rw[CF hl hg]
  split at hs
  .rename_i b hb
   split at hs
   .rename_i hbw;rw[if_pos hbw];exact NU hc hn (uP hl) (hi (by unfold wants;rw[hg];simp only;rw[hb,hbw])) hs
   .rename_i hbw;rw[if_neg hbw];cases hs;exact⟨rfl,rfl⟩
  .cases hs;exact⟨rfl,rfl⟩
  .cases hs
theorem a5F{ins:Ins}(hl:∀s∈ins.looks,τ.t.getD s .any=σ.t.getD s .any)(hh:τ.h=σ.h):w9 Gl τ ins=w9 Gl σ ins:=by
 unfold w9
 rw[yV (uP hl) hh,hh]
 cases hg:ins.gd with
 |none=>rfl
 |some g=>obtain⟨s,want⟩:=g;simp only;rw[CF hl hg]
theorem OI{ins:Ins}(hc:ins.i.cls<=1)(hn:ins.i.kZ=false){q:Prop}{a:AV}{h':List aH}(hs:w9 Gl σ ins=some (q,a,h')):h'=σ.h:=(OH (τ:=σ) hc hn (λ_ _=>rfl) (λ_ _ _=>rfl) hs).1
theorem Lh{i:I}(hl:∀s∈i.reads,τ.t.getD s .any=σ.t.getD s .any):i.ids Gl τ=i.ids Gl σ:=by
 have hv:∀x:Opd,(∀s∈x.slots,s∈i.reads)->τ.val Gl x=σ.val Gl x:=λx hx=>val_congr λs hs=>hl s (hx s hs)
 cases i with
 |load sz ag x=>simp only[I.ids,hv x (λs hs=>hs)]
 |mQ bsz st n x k=>simp only[I.ids,hv x (λs hs=>by simp only[I.reads,aG];exact .inl hs)]
 |b2s x=>simp only[I.ids,hv x (λs hs=>hs)]
 |call f as=>simp only[I.ids,map_congr (Gl:=Gl) (σ:=σ) (τ:=τ) (xs:=as) λs hs=>hl s (by simp only[I.reads,aG];exact .inr hs)]
 |_=>rfl
def D(Gl:Nat->Option (List AV))(N:Nat)(U:List Nat)(p:Nat×Ins)(σ:St)(v:AV)(h2:List aH):Prop :=
 (∃q,w9 Gl σ p.2=some (q,v,h2)/\q)/\(p.1=1->wants σ p.2->∀id∈p.2.i.ids Gl σ,id<N/\id∉U)/\(2<=p.1->agree N U σ.h h2)
theorem vJ{p:Nat×Ins}(hn:p.2.i.kZ=false){K:St->Prop}:tV P Gl N U p σ K↔∃v h2,D Gl N U p σ v h2/\K (St.put ⟨σ.t,h2⟩ p.2.dst v):=by
 obtain⟨m,ins⟩:=p
 have ph:∀(h2:List aH) (v:AV),(St.put ⟨σ.t,h2⟩ ins.dst v).h=h2:=λh2 v=>by cases ins.dst<;>rfl
 match m with
 |0 =>
  show fI P Gl true σ ins K↔_
  rw[Dh hn]
  constructor
  .rintro⟨q,a,h',e,hq,hK⟩;exact⟨a,h',⟨⟨q,e,hq⟩,(λr=>by cases r),(λr=>absurd r (by simp))⟩,hK⟩
  .rintro⟨a,h',⟨⟨q,e,hq⟩,_,_⟩,hK⟩;exact⟨q,a,h',e,hq,hK⟩
 |1 =>
  show(_/\fI P Gl true σ ins K)↔_
  rw[Dh hn]
  constructor
  .rintro⟨hi,q,a,h',e,hq,hK⟩;exact⟨a,h',⟨⟨q,e,hq⟩,λ_=>hi,(λr=>absurd r (by simp))⟩,hK⟩
  .rintro⟨a,h',⟨⟨q,e,hq⟩,hi,_⟩,hK⟩;exact⟨hi rfl,q,a,h',e,hq,hK⟩
 |m+2 =>
  show fI P Gl false σ ins _↔_
  rw[Dh hn]
  constructor
  .rintro⟨q,a,h',e,hq,hA,hK⟩
   rw[ph]at hA
   exact⟨a,h',⟨⟨q,e,hq⟩,(λr=>absurd r (by simp)),λ_=>hA⟩,hK⟩
  .rintro⟨a,h',⟨⟨q,e,hq⟩,_,hA⟩,hK⟩;exact⟨q,a,h',e,hq,by rw[ph];exact hA (by simp),hK⟩
theorem D.fn{p:Nat×Ins}{v v':AV}{h h':List aH}(a:D Gl N U p σ v h)(b:D Gl N U p σ v' h'):v=v'/\h=h':=by
 obtain⟨⟨q,e,_⟩,_⟩:=a
 obtain⟨⟨q',e',_⟩,_⟩:=b
 rw[e]at e';cases e';exact⟨rfl,rfl⟩
def okM(p:Nat×Ins):Prop:=p.1=0\/p.1=2\/(p.1=1/\p.2.i.cls<=1)
theorem D.tr{p:Nat×Ins}(hm:okM p)(hn:p.2.i.kZ=false)(hl:∀s∈p.2.looks,τ.t.getD s .any=σ.t.getD s .any)(hh:τ.h=σ.h\/fq p=0\/(p.1=1/\agree N U σ.h τ.h)){v:AV}{h2:List aH}(h:D Gl N U p σ v h2) :
  D Gl N U p τ v (if fq p=2 then h2 else τ.h)/\(fq p≠2->h2=σ.h):=by
 obtain⟨⟨q,e,hq⟩,hi,ha⟩:=h
 have hi':p.1=1->wants τ p.2->∀id∈p.2.i.ids Gl τ,id<N/\id∉U:=λr=>by rw[Lh (uP hl),FQ hl];exact hi r
 have low:p.2.i.cls<=1->(wants σ p.2->∀id∈p.2.i.ids Gl σ,τ.h[id]?=σ.h[id]?)->fq p≠2->D Gl N U p τ v (if fq p=2 then h2 else τ.h)/\(fq p≠2->h2=σ.h):=by
  intro hc Vg h2'
  obtain⟨e1,e2⟩:=OH hc hn hl Vg e
  refine⟨?_,λ_=>e1⟩
  rw[if_neg h2']
  refine⟨⟨q,e2,hq⟩,hi',λr=>?_⟩
  exfalso
  rcases hm with m|m|⟨m,_⟩
  .omega
  .exact h2' (IE m)
  .omega
 rcases hh with hh|hh|⟨hh,hag⟩
 .have e':=a5F (Gl:=Gl) hl hh
  rw[e]at e'
  have hc2:fq p≠2->h2=σ.h:=λhne=>by
   rcases hm with m|m|⟨m,c⟩
   .have:=Yx m
    have hle:p.2.i.cls<=2:=by cases p.2.i<;>simp[I.cls]
    exact OI (by omega) hn e
   .exact absurd (IE m) hne
   .exact OI c hn e
  refine⟨⟨⟨q,?_,hq⟩,hi',λr=>?_⟩,hc2⟩
  .split
   .exact e'
   .rename_i hne;rw[hh,<- hc2 hne];exact e'
  .rw[hh]
   split
   .exact ha r
   .exact λ_ _ _=>rfl
 ·have h0:p.1=0:=by
   rcases hm with m|m|⟨m,_⟩
   .exact m
   .rw[IE m]at hh;cases hh
   .rw[IG m]at hh;cases hh
  have hc:p.2.i.cls=0:=by rw[<- Yx h0];exact hh
  refine low (by omega) ?_ (by omega)
  have:p.2.i.ids Gl σ=[]:=by cases hp:p.2.i<;>first|rfl|(rw[hp]at hc;cases hc)
  rw[this];intro _ id hid;cases hid
 ·have hc:p.2.i.cls<=1:=by
   rcases hm with m|m|⟨_,m⟩
   .omega
   .omega
   .exact m
  exact low hc (λhw id hid=>hag id (hi hh hw id hid).1 (hi hh hw id hid).2) (by rw[IG hh];simp)
theorem Lb{h g:List aH}{a:AV}(hr:∀id∈bZ a,g[id]?=h[id]?):jY g a=jY h a:=by
 cases a with
 |row id G sz off len=>simp only[jY];rw[hr id (by simp[bZ])]
 |_=>rfl
theorem YI{h g:List aH}:∀{cs:List AV},(∀id∈cs.flatMap bZ,g[id]?=h[id]?)->jK g cs=jK h cs:=by
 intro cs
 induction cs with
 |nil=>intro _;rfl
 |cons c cs ih =>
  intro hr
  simp only[jK]
  rw[Lb λid hi=>hr id (by simp only[dw,aG];exact .inl hi),ih λid hi=>hr id (by simp only[dw,aG];exact .inr hi)]
theorem YJ{h g:List aH}{a:AV}(hr:∀id∈dU a,g[id]?=h[id]?):gW g a=gW h a:=by
 cases a with
 |agg cs=>simp only[gW];rw[YI hr]
 |row id G sz off len=>exact Lb (a:=.row id G sz off len) hr
 |_=>rfl
theorem V7{h g:List aH}:∀{cs:List AV},(∀id∈cs.flatMap dU,g[id]?=h[id]?)->dV g cs=dV h cs:=by
 intro cs
 induction cs with
 |nil=>intro _;rfl
 |cons c cs ih =>
  intro hr
  simp only[dV]
  rw[YJ λid hi=>hr id (by simp only[dw,aG];exact .inl hi),ih λid hi=>hr id (by simp only[dw,aG];exact .inr hi)]
theorem set_self{α:Type}{l:List α}{i:Nat}{x:α}(h:l[i]?=some x):l.set i x=l:=by
 apply gX
 intro j
 rw[dh]
 split
 .rename_i hj
  subst hj
  split
  .exact h.symm
  .rename_i hl;rw[aX (by omega)]
 .rfl
theorem b23:∀(ids:List Nat) (h:List aH) (j:Nat) (o:aH),(freeze h ids)[j]?=some o->∃o',h[j]?=some o'/\o'.es=o.es/\(j∈ids->o.fz=o.es.length)/\(o.fz=o'.fz\/o.fz=o.es.length):=by
 intro ids
 induction ids with
 |nil=>intro h j o e;exact⟨o,e,rfl,λq=>by simp at q,.inl rfl⟩
 |cons id ids ih =>
  intro h j o e
  simp only[freeze,eX]at e
  cases ho:h[id]? with
  |none =>
   rw[ho]at e
   simp only at e
   obtain⟨o',e1,e2,e3,e4⟩:=ih h j o e
   refine⟨o',e1,e2,λq=>?_,e4⟩
   rcases bD.1 q with r|r
   .subst r;rw[ho]at e1;cases e1
   .exact e3 r
  |some ob =>
   rw[ho]at e
   simp only at e
   obtain⟨o',e1,e2,e3,e4⟩:=ih _ j o e
   rw[dh]at e1
   split at e1
   .rename_i hj
    subst hj
    split at e1
    .cases e1
     refine⟨ob,ho,e2,λ_=>?_,?_⟩
     .rcases e4 with r|r
      .rw[r];simp only at e2 ⊢;rw[e2]
      .exact r
     .rcases e4 with r|r
      .right;rw[r];simp only at e2 ⊢;rw[e2]
      .exact .inr r
    .cases e1
   .rename_i hj
    refine⟨o',e1,e2,λq=>?_,e4⟩
    rcases bD.1 q with r|r
    .exact absurd r.symm hj
    .exact e3 r
theorem YZ:∀(ids:List Nat) (h:List aH),(∀id∈ids,∀o,h[id]?=some o->o.fz=o.es.length)->freeze h ids=h:=by
 intro ids
 induction ids with
 |nil=>intro h _;rfl
 |cons id ids ih =>
  intro h hq
  simp only[freeze,eX]
  cases ho:h[id]? with
  |none=>exact ih h λj hj=>hq j (by simp[hj])
  |some ob =>
   simp only
   have:({ ob with fz:=ob.es.length }:aH)=ob:=by
    have:=hq id (by simp) ob ho
    rw[<- this]
   rw[this,set_self ho]
   exact ih h λj hj=>hq j (by simp[hj])
theorem R5{h g:List aH}{ids:List Nat}(hr:∀id∈ids,g[id]?=h[id]?)(hf:freeze h ids=h):freeze g ids=g:=by
 refine YZ ids g λid hi o ho=>?_
 rw[hr id hi]at ho
 rw[<- hf]at ho
 obtain⟨_,_,_,e3,_⟩:=b23 ids h id o ho
 exact e3 hi
theorem wX{p:Nat×Ins}{K1 K2:St->Prop}(hm:okM p)(hl:∀s∈p.2.looks,τ.t.getD s .any=σ.t.getD s .any)(hh:τ.h=σ.h\/fq p=0\/(p.1=1/\agree N U σ.h τ.h))
  (hK:∀v h1,K1 (St.put ⟨σ.t,h1⟩ p.2.dst v)->(fq p≠2->h1=σ.h)->(2<=p.1->agree N U σ.h h1)->K2 (St.put ⟨τ.t,if fq p=2 then h1 else τ.h⟩ p.2.dst v)) (h:tV P Gl N U p σ K1):tV P Gl N U p τ K2:=by
 by_cases hcall:p.2.i.kZ=true
 case neg =>
  have hn:p.2.i.kZ=false:=by simpa using hcall
  rw[vJ hn]at h ⊢
  obtain⟨v,h2,hD,hk⟩:=h
  obtain⟨d1,d2⟩:=hD.tr hm hn hl hh
  exact⟨v,_,d1,hK v h2 hk d2 hD.2.2⟩
 case pos =>
  obtain⟨m,dst,gd,i⟩:=p
  simp only at hcall hl hh hK
  obtain⟨fo,args,rfl⟩:∃fo args,i=.call fo args:=by cases i<;>first|exact⟨_,_,rfl⟩|cases hcall
  have hr:=uP hl
  have hA:args.map (τ.val Gl)=args.map (σ.val Gl):=map_congr λs hs=>hr s (by simp only[I.reads,aG];exact .inr hs)
  have hO:τ.val Gl fo=σ.val Gl fo:=val_congr λs hs=>hr s (by simp only[I.reads,aG];exact .inl hs)
  have c0u:=Lh (Gl:=Gl) hr
  have hne0:¬fq (m,(⟨dst,gd,.call fo args⟩:Ins))=0:=by
   rcases hm with q|q|⟨q,_⟩<;>(simp only at q;subst q;simp[fq,I.cls])
  have guard:∀(d:Bool) (K1 K2:St->Prop),(wants σ ⟨dst,gd,.call fo args⟩->fQ P Gl d σ dst K1 (.call fo args)->fQ P Gl d τ dst K2 (.call fo args))->(K1 (σ.put dst und)->K2 (τ.put dst und))->fI P Gl d σ ⟨dst,gd,.call fo args⟩ K1->fI P Gl d τ ⟨dst,gd,.call fo args⟩ K2:=by
   intro d K1 K2 he hu h
   unfold fI at h ⊢
   cases hg:gd with
   |none=>subst hg;exact he trivial h
   |some g =>
    obtain⟨s,want⟩:=g
    subst hg
    simp only at h ⊢
    rw[CF hl rfl]
    split at h
    .rename_i b hbb
     split at h
     .rename_i hb;rw[if_pos hb];exact he (by unfold wants;simp only;rw[hbb,hb]) h
     .rename_i hb;rw[if_neg hb];exact hu h
    .exact hu h
    .exact h.elim
  have a81:∀K1 K2:St->Prop,(∀v h1,K1 (St.put ⟨σ.t,h1⟩ dst v)->h1=σ.h->K2 (St.put ⟨τ.t,τ.h⟩ dst v))->K1 (σ.put dst und)->K2 (τ.put dst und):=λK1 K2 hk h=>hk und σ.h h rfl
  have a3T:∀K1 K2:St->Prop,(∀id∈(args.map (σ.val Gl)).flatMap dU,τ.h[id]?=σ.h[id]?)->(∀v h1,K1 (St.put ⟨σ.t,h1⟩ dst v)->h1=σ.h->K2 (St.put ⟨τ.t,τ.h⟩ dst v))->fQ P Gl true σ dst K1 (.call fo args)->fQ P Gl true τ dst K2 (.call fo args):=by
   intro K1 K2 Vg hk h
   obtain⟨f,hf,hcb,(⟨as,res,h1,h2,h3,h4⟩|⟨h1,_⟩)⟩:=h
   .have h3':=h3 rfl
    rw[h3']at h4
    have e3:(if scalar res then τ.h else freeze τ.h ((args.map (τ.val Gl)).flatMap dU))=τ.h:=by
     split
     .rfl
     .rename_i hs
      rw[if_neg hs]at h3'
      rw[hA]
      exact R5 Vg h3'
    refine⟨f,by rw[hO];exact hf,hcb,.inl ⟨as,res,?_,h2,λ_=>e3,?_⟩⟩
    .rw[hA,V7 Vg];exact h1
    .rw[e3];exact hk res _ h4 rfl
   .cases h1
  match m,hm,hh,hK,h,hne0 with
  |0,hm,hh,hK,h,hne0 =>
   have hτ:τ.h=σ.h:=by
    rcases hh with q|q|⟨q,_⟩
    .exact q
    .exact absurd q hne0
    .cases q
   have hk:∀v h1,K1 (St.put ⟨σ.t,h1⟩ dst v)->h1=σ.h->K2 (St.put ⟨τ.t,τ.h⟩ dst v):=λv h1 q e=>hK v h1 q (λ_=>e) (λr=>absurd r (by simp))
   exact guard true K1 K2 (λ_=>a3T K1 K2 (λid _=>by rw[hτ]) hk) (a81 K1 K2 hk) h
  |1,hm,hh,hK,h,hne0 =>
   obtain⟨hi,h⟩:=h
   have hk:∀v h1,K1 (St.put ⟨σ.t,h1⟩ dst v)->h1=σ.h->K2 (St.put ⟨τ.t,τ.h⟩ dst v):=λv h1 q e=>hK v h1 q (λ_=>e) (λr=>absurd r (by simp))
   refine⟨by rw[c0u,FQ hl];exact hi,guard true K1 K2 (λhw=>a3T K1 K2 (λid hid=>?_) hk) (a81 K1 K2 hk) h⟩
   rcases hh with q|q|⟨_,q⟩
   .rw[q]
   .exact absurd q hne0
   .exact q id (hi hw id hid).1 (hi hw id hid).2
  |m+2,hm,hh,hK,h,hne0 =>
   have hτ:τ.h=σ.h:=by
    rcases hh with q|q|⟨q,_⟩
    .exact q
    .exact absurd q hne0
    .cases q
   have ph:∀(t:List AV) (h2:List aH) (v:AV),(St.put ⟨t,h2⟩ dst v).h=h2:=λt h2 v=>by cases dst<;>rfl
   have hk:∀v h1,(agree N U σ.h (St.put ⟨σ.t,h1⟩ dst v).h/\K1 (St.put ⟨σ.t,h1⟩ dst v))->agree N U τ.h (St.put ⟨τ.t,h1⟩ dst v).h/\K2 (St.put ⟨τ.t,h1⟩ dst v):=by
    intro v h1 ⟨q1,q2⟩
    rw[ph]at q1 ⊢
    exact⟨by rw[hτ];exact q1,hK v h1 q2 (λq=>absurd rfl q) (λ_=>q1)⟩
   refine guard false _ _ (λ_ h=>?_) (λh=>?_) h
   .obtain⟨f,hf,hcb,(⟨as,res,h1,h2,h3,h4⟩|⟨_,h1⟩)⟩:=h
    .refine⟨f,by rw[hO];exact hf,hcb,.inl ⟨as,res,by rw[hA,hτ];exact h1,h2,(λq=>by cases q),?_⟩⟩
     rw[hA,hτ]
     have q:=hk res _ h4
     rw[hτ]at q
     exact q
    .refine⟨f,by rw[hO];exact hf,hcb,.inr ⟨rfl,?_⟩⟩
     rw[hA,hτ]
     intro F own B w0 t act w xs hI hR
     refine(h1 F own B w0 t act w xs hI hR).mono ?_
     rintro e w' ⟨v,res,h',F',own',g1,g2,g3,g4⟩
     exact⟨v,res,h',F',own',g1,g2,g3,hτ▸hk res h' g4⟩
   .have:=hk und σ.h h
    have e:(⟨τ.t,σ.h⟩:St)=τ:=by rw[<- hτ]
    rw[e]at this
    exact this
theorem Wh{ops:Array Oper}{k:Nat}{K:Act->World->Prop}(h:wpOp P ops (λ_ _ _=>False) k K act w):∃a1 w1,K a1 w1:=by
 unfold wpOp at h
 split at h
 .exact⟨_,_,h⟩
 .rename_i o ho
  split at h
  .rcases h with h|⟨_,a,w,q⟩
   .unfold Oper.wp at h
    generalize (execOp act.eval o).run P w=r at h
    cases r with
    |ok n w' =>
     cases n<;>simp only[Oper.upon]at h<;>first
      |exact h.elim
      |exact⟨_,_,h⟩
      |skip
     .obtain⟨e,w1,fr,hR,_⟩:=h []
      cases e with
      |returned v=>exact⟨_,_,hR⟩
      |panicked ch=>exact hR.elim
      |outgrown=>obtain⟨_,_,q⟩:=hR;exact q.elim
     .obtain⟨v,w1,hR,_⟩:=h default []
      exact⟨_,_,hR⟩
    |halt s w'=>cases s<;>exact h.elim
   .exact q.elim
  .exact⟨_,_,h⟩
theorem I7{lm:Bool}{ops:Array Oper}{k:Nat}{o:Oper}{p:Nat×Ins}(hm:okM p)(ho:ops[k]?=some o)(hc:jN P lm ops o=some p.2)(hI:Inv Gl F own B w0 σ act w){K:St->Prop}(h:tV P Gl N U p σ K) :
  ∃F1 dO H8 w1 v h1,Inv Gl F1 dO B w0 (St.put ⟨σ.t,h1⟩ p.2.dst v) H8 w1/\K (St.put ⟨σ.t,h1⟩ p.2.dst v)/\(fq p≠2->h1=σ.h)/\(2<=p.1->agree N U σ.h h1):=by
 have h':tV P Gl N U p σ (λρ=>∃v h1,ρ=St.put ⟨σ.t,h1⟩ p.2.dst v/\K ρ/\(fq p≠2->h1=σ.h)/\(2<=p.1->agree N U σ.h h1)):=by
  refine wX (τ:=σ) hm (λ_ _=>rfl) (.inl rfl) (λv h1 k1 k2 k3=>?_) h
  by_cases hq:fq p=2
  .rw[if_pos hq];exact⟨v,h1,rfl,k1,k2,k3⟩
  .rw[if_neg hq];rw[k2 hq]at k1;exact⟨v,σ.h,rfl,k1,λ_=>rfl,λ_ _ _ _=>rfl⟩
 have ex:∃d K',fI P Gl d σ p.2 K'/\∀ρ,K' ρ->∃v h1,ρ=St.put ⟨σ.t,h1⟩ p.2.dst v/\K ρ/\(fq p≠2->h1=σ.h)/\(2<=p.1->agree N U σ.h h1):=by
  obtain⟨m,ins⟩:=p
  match m,h' with
  |0,h'=>exact⟨true,_,h',λ_ q=>q⟩
  |1,h'=>exact⟨true,_,h'.2,λ_ q=>q⟩
  |m+2,h'=>exact⟨false,_,h',λ_ q=>q.2⟩
 obtain⟨d,K',hs,hK'⟩:=ex
 obtain⟨H8,w1,F1,dO,ρ,hI1,hk⟩:=Wh (nI hI hc hs (λ_ _ _=>False) ho)
 obtain⟨v,h1,rfl,k1,k2,k3⟩:=hK' ρ hk
 exact⟨F1,dO,H8,w1,v,h1,hI1,k1,k2,k3⟩
theorem Mj{t:List AV}{h:List aH}{d:Option Nat}{a:AV}{s:Nat}(hs:d≠some s):(St.put ⟨t,h⟩ d a).t.getD s .any=t.getD s .any:=by
 cases d with
 |none=>rfl
 |some i =>
  have:i≠s:=λq=>hs (by rw[q])
  simp only[St.put,List.getD,aC this]
theorem yj{t:List AV}{h:List aH}{d:Option Nat}{a:AV}:(St.put ⟨t,h⟩ d a).h=h:=by cases d<;>rfl
theorem put_comm{t:List AV}{h g k:List aH}{d e:Option Nat}{a b:AV}(hd:∀s,d=some s->e≠some s):St.put ⟨(St.put ⟨t,h⟩ d a).t,k⟩ e b=St.put ⟨(St.put ⟨t,g⟩ e b).t,k⟩ d a:=by
 cases d with
 |none=>cases e<;>rfl
 |some i =>
  cases e with
  |none=>rfl
  |some j =>
   have:i≠j:=λq=>hd i rfl (by rw[q])
   simp only[St.put]
   rw[List.set_comm _ _ this]
theorem GH{a b:Nat×Ins}(hab:jE a b=false)(hma:okM a){h1:List aH}(k2:fq a≠2->h1=σ.h)(k3:2<=a.1->agree N U σ.h h1):h1=σ.h\/fq b=0\/(b.1=1/\agree N U σ.h h1):=by
 by_cases ha:fq a=2
 .rcases(oU hab).2.2.1 ha with q|⟨q1,q2⟩
  .exact .inr (.inl q)
  .exact .inr (.inr ⟨q2,k3 (by omega)⟩)
 .exact .inl (k2 ha)
theorem Li{a b:Nat×Ins}(hab:jE a b=false){h2:List aH}(k2:fq b≠2->h2=σ.h)(k3:2<=b.1->agree N U σ.h h2):h2=σ.h\/fq a=0\/(a.1=1/\agree N U σ.h h2):=by
 by_cases hb:fq b=2
 .rcases(oU hab).2.2.2.1 hb with q|⟨q1,q2⟩
  .exact .inr (.inl q)
  .exact .inr (.inr ⟨q2,k3 (by omega)⟩)
 .exact .inl (k2 hb)
theorem Gg{a b:Nat×Ins}(hab:jE a b=false){h1:List aH}{v:AV}:∀s∈b.2.looks,(St.put ⟨σ.t,h1⟩ a.2.dst v).t.getD s .any=σ.t.getD s .any:=λs hs=>Mj λq=>((oU hab).1 s q).1 hs
theorem O6{a b:Nat×Ins}(hab:jE a b=false){h1:List aH}{v:AV}:∀s∈a.2.looks,(St.put ⟨σ.t,h1⟩ b.2.dst v).t.getD s .any=σ.t.getD s .any:=λs hs=>Mj λq=>(oU hab).2.1 s q hs
theorem Sd{lm:Bool}{ops:Array Oper}{b:Nat×Ins}(hmb:okM b)(hn:b.2.i.kZ=false){post:List (Nat×Ins)}{K:St->Prop}:∀(pre:List (Nat×Ins)),(∀a∈pre,okM a/\jE a b=false/\∃(k:Nat) (o:Oper),ops[k]?=some o/\jN P lm ops o=some a.2)->∀(σ:St) (F:Addr->Option Value) (own:List Ent) (act:Act) (w:World),Inv Gl F own B w0 σ act w->fZ P Gl N U K (pre++b::post) σ->∃v h2,D Gl N U b σ v h2:=by
 intro pre
 induction pre with
 |nil=>intro _ σ F own act w _ h;obtain⟨v,h2,hD,_⟩:=(vJ hn).1 h;exact⟨v,h2,hD⟩
 |cons a pre ih =>
  intro hp σ F own act w hI h
  obtain⟨hma,hab,k,o,ho,hc⟩:=hp a (by simp)
  obtain⟨F1,dO,H8,w1,v,h1,hI1,hK,k2,k3⟩:=I7 hma ho hc hI h
  obtain⟨vb,hb,hD⟩:=ih (λx hx=>hp x (by simp[hx])) _ F1 dO H8 w1 hI1 hK
  have hl:∀s∈b.2.looks,σ.t.getD s .any=(St.put ⟨σ.t,h1⟩ a.2.dst v).t.getD s .any:=λs hs=>(Gg hab s hs).symm
  have hh:σ.h=(St.put ⟨σ.t,h1⟩ a.2.dst v).h\/fq b=0\/(b.1=1/\agree N U (St.put ⟨σ.t,h1⟩ a.2.dst v).h σ.h):=by
   rw[yj]
   rcases GH hab hma k2 k3 with q|q|⟨q,r⟩
   .exact .inl q.symm
   .exact .inr (.inl q)
   .exact .inr (.inr ⟨q,r.symm⟩)
  exact⟨_,_,(hD.tr hmb hn hl hh).1⟩
theorem D5{b:Nat×Ins}(hmb:okM b)(hn:b.2.i.kZ=false){post:List (Nat×Ins)}{K:St->Prop}:∀(pre:List (Nat×Ins)),(∀a∈pre,okM a/\jE a b=false)->∀(σ:St) (v:AV) (h2:List aH),D Gl N U b σ v h2->fZ P Gl N U K (pre++b::post) σ->fZ P Gl N U K (pre++post) (St.put ⟨σ.t,h2⟩ b.2.dst v):=by
 intro pre
 induction pre with
 |nil =>
  intro _ σ v h2 hD h
  obtain⟨v',h2',hD',hk⟩:=(vJ hn).1 h
  obtain⟨rfl,rfl⟩:=hD.fn hD'
  exact hk
 |cons a pre ih =>
  intro hp σ v h2 hD h
  obtain⟨hma,hab⟩:=hp a (by simp)
  have hD2:=(hD.tr (τ:=σ) hmb hn (λ_ _=>rfl) (.inl rfl)).2
  refine wX (σ:=σ) (τ:=St.put ⟨σ.t,h2⟩ b.2.dst v) (K1:=fZ P Gl N U K (pre++b::post)) hma (O6 hab) (by rw[yj];exact Li hab hD2 hD.2.2) ?_ h
  intro va h1 hk k2 k3
  have hD1:=(hD.tr (τ:=St.put ⟨σ.t,h1⟩ a.2.dst va) hmb hn (Gg hab) (by rw[yj];exact GH hab hma k2 k3)).1
  have:=ih (λx hx=>hp x (by simp[hx])) _ v _ hD1 hk
  rw[yj]at this ⊢
  rw[put_comm (g:=h2) λs q=>((oU hab).1 s q).2]at this
  have e:(if fq b=2 then h2 else h1)=(if fq a=2 then h1 else h2):=by
   by_cases ha:fq a=2
   ·have hb:fq b ≠ 2:=by
     rcases(oU hab).2.2.1 ha with q|⟨_,q⟩
     .omega
     .rw[IG q];simp
    rw[if_pos ha,if_neg hb]
   .rw[if_neg ha]
    split
    .rfl
    .rename_i hb;rw[k2 ha,hD2 hb]
  rw[e]at this
  exact this
theorem J6{b:Nat×Ins}(hmb:okM b)(hb:b.2.i.kZ=true){post:List (Nat×Ins)}{K:St->Prop}:∀(pre:List (Nat×Ins)),(∀a∈pre,okM a/\jE a b=false)->∀(σ:St),fZ P Gl N U K (pre++b::post) σ->tV P Gl N U b σ (fZ P Gl N U K (pre++post)):=by
 intro pre
 induction pre with
 |nil=>intro _ σ h;exact h
 |cons a pre ih =>
  intro hp σ h
  obtain⟨hma,hab⟩:=hp a (by simp)
  have hna:a.2.i.kZ=false:=by
   cases q:a.2.i.kZ with
   |false=>rfl
   |true=>have:=(oU hab).2.2.2.2 q;rw[hb]at this;cases this
  obtain⟨va,h1,hD,hk⟩:=(vJ hna).1 h
  have hDs:=(hD.tr (τ:=σ) hma hna (λ_ _=>rfl) (.inl rfl)).2
  have h2:=ih (λx hx=>hp x (by simp[hx])) _ hk
  refine wX (σ:=St.put ⟨σ.t,h1⟩ a.2.dst va) (τ:=σ) (K1:=fZ P Gl N U K (pre++post)) hmb (λs hs=>(Gg hab s hs).symm) ?_ ?_ h2
  .rw[yj]
   rcases GH hab hma hDs hD.2.2 with q|q|⟨q,r⟩
   .exact .inl q.symm
   .exact .inr (.inl q)
   .exact .inr (.inr ⟨q,r.symm⟩)
  .intro vb hb1 hk2 k2 k3
   rw[yj]at k2 k3
   show tV P Gl N U a _ _
   rw[vJ hna]
   have k2':fq b≠2->(if fq b=2 then hb1 else σ.h)=σ.h:=λq=>if_neg q
   have k3':2<=b.1->agree N U σ.h (if fq b=2 then hb1 else σ.h):=λq=>by
    have h2b:fq b=2:=by
     rcases hmb with r|r|⟨r,_⟩
     .omega
     .exact IE r
     .omega
    rw[if_pos h2b]
    have hσ:h1=σ.h:=by
     apply hDs
     intro ha
     rcases(oU hab).2.2.1 ha with r|⟨_,r⟩<;>omega
    rw[<- hσ];exact k3 q
   have hDa:=hD.tr (τ:=St.put ⟨σ.t,if fq b=2 then hb1 else σ.h⟩ b.2.dst vb) hma hna (O6 hab) (by rw[yj];exact Li hab k2' k3')
   refine⟨va,_,hDa.1,?_⟩
   rw[yj]
   rw[put_comm (g:=(if fq b=2 then hb1 else σ.h)) λs q=>((oU hab).1 s q).2]at hk2
   have e:hb1=(if fq a=2 then h1 else(if fq b=2 then hb1 else σ.h)):=by
    by_cases ha:fq a=2
    ·have hb2:fq b ≠ 2:=by
      rcases(oU hab).2.2.1 ha with q|⟨_,q⟩
      .omega
      .rw[IG q];simp
     rw[if_pos ha,k2 hb2]
    .rw[if_neg ha]
     split
     .rfl
     .rename_i hb2;rw[k2 hb2,hDs ha]
   rw[<- e]
   exact hk2
theorem a6H{lm:Bool}{ops:Array Oper}{b:Nat×Ins}{kb:Nat}{ob:Oper}(hmb:okM b)(hob:ops[kb]?=some ob)(hcb:jN P lm ops ob=some b.2){post:List (Nat×Ins)}{K:St->Prop}{Q:Exit->Act->World->Prop}(pre:List (Nat×Ins))(hp:∀a∈pre,okM a/\jE a b=false/\∃(k:Nat) (o:Oper),ops[k]?=some o/\jN P lm ops o=some a.2)(hI:Inv Gl F own B w0 σ act w)(h:fZ P Gl N U K (pre++b::post) σ) :
  wpOp P ops Q kb (lY Gl B w0 (fZ P Gl N U K (pre++post))) act w:=by
 have h':tV P Gl N U b σ (fZ P Gl N U K (pre++post)):=by
  cases hn:b.2.i.kZ with
  |true=>exact J6 hmb hn pre (λa ha=>⟨(hp a ha).1,(hp a ha).2.1⟩) σ h
  |false =>
   obtain⟨v,h2,hD⟩:=Sd hmb hn pre hp σ F own act w hI h
   rw[vJ hn]
   exact⟨v,h2,hD,D5 hmb hn pre (λa ha=>⟨(hp a ha).1,(hp a ha).2.1⟩) σ v h2 hD h⟩
 have ex:∃d,fI P Gl d σ b.2 (fZ P Gl N U K (pre++post))\/fI P Gl d σ b.2 (λρ=>agree N U σ.h ρ.h/\fZ P Gl N U K (pre++post) ρ):=by
  obtain⟨m,ins⟩:=b
  match m,h' with
  |0,h'=>exact⟨true,.inl h'⟩
  |1,h'=>exact⟨true,.inl h'.2⟩
  |m+2,h'=>exact⟨false,.inr h'⟩
 obtain⟨d,h'|h'⟩:=ex
 .exact nI hI hcb h' Q hob
 .refine wpOp_mono ?_ (nI hI hcb h' Q hob)
  rintro a1 w1 ⟨F1,dO,ρ,hI1,_,hk⟩
  exact⟨F1,dO,ρ,hI1,hk⟩
theorem zW{p q:Nat->Bool}{i:Nat}:∀(l:List Nat),l.Pairwise (·<·)->i∈l->p i=true->(∀j,q j=if j=i then false else p j)->∃pre post,l.filter p=pre++i::post/\l.filter q=pre++post/\∀j∈pre,j<i:=by
 intro l
 induction l with
 |nil=>intro _ hi;cases hi
 |cons a l ih =>
  intro hs hi hp hq
  rw[tJ]at hs
  by_cases hai:a=i
  .subst hai
   refine⟨[],l.filter p,by rw[uD hp];rfl,?_,by simp⟩
   rw[uE (by rw[hq];simp)]
   apply List.filter_congr
   intro x hx
   rw[hq,if_neg]
   intro e;have:=hs.1 x hx;omega
  .have hil:i∈l:=by rcases bD.1 hi with r|r;exact absurd r.symm hai;exact r
   obtain⟨pre,post,e1,e2,e3⟩:=ih hs.2 hil hp hq
   have hqa:q a=p a:=by rw[hq,if_neg hai]
   cases hpa:p a with
   |true =>
    refine⟨a::pre,post,by rw[uD hpa,e1];rfl,by rw[uD (by rw[hqa];exact hpa),e2];rfl,λj hj=>?_⟩
    rcases bD.1 hj with r|r
    .subst r;exact hs.1 i hil
    .exact e3 j r
   |false =>
    exact⟨pre,post,by rw[uE (by simp[hpa]),e1],by rw[uE (by simp[hqa,hpa]),e2],e3⟩
theorem Qm{lm:Bool}{ops:Array Oper}{L:List (Nat×Ins)}(hl:L.length=ops.size)(hc:∀(j:Nat) (o:Oper),ops[j]?=some o->∃p,L[j]?=some p/\jN P lm ops o=some p.2)(hd:zq ops L=true){Q:Exit->Act->World->Prop}{K:St->Prop}(hQ:∀a w,lY Gl B w0 K a w->Q .normal a w)
  (ha:fZ P Gl N U K L σ) (hI:Inv Gl F own B w0 σ act w):wpAny P .any ops Q ops.size (Array.replicate ops.size false) act w:=by
 obtain⟨d1,d2,d3,dm⟩:=Qo hd
 generalize hn:ops.size=n at *
 have nJ:∀i,i<n->∃o p,ops[i]?=some o/\L[i]?=some p/\jN P lm ops o=some p.2/\L.getD i default=p/\okM p:=λi hi=>by
  have ho:ops[i]?=some (ops[i]'(by omega)):=aF (by omega)
  obtain⟨ins,e1,e2⟩:=hc i _ ho
  exact⟨_,ins,ho,e1,e2,by simp[List.getD,e1],dm ins (bP e1)⟩
 have ahead:∀(S:Nat->Bool),(∀i,i<n->S i=true->∀d∈direct ops i,S d=true)->∀i j,i<n->(∀d∈direct ops i,S d=true)->tb (Region.before ops) i j=true->j<i->S j=true:=by
  intro S hcl i
  induction i using Nat.strongRecOn with
  |_ i ih =>
   intro j hi oP ht hji
   rcases d2 i j hji hi ht with q|⟨d,hdm,r,q⟩
   .exact oP j q
   .have hdi:=d1 i d hi hdm
    exact ih d hdi j (by omega) (hcl d (by omega) (oP d hdm)) q r
 have mem_ready:∀(listed:Array Bool) (i:Nat),listed.size=n->i∈Region.ready .any ops listed->i<n/\listed.getD i false=false/\∀d∈direct ops i,listed.getD d false=true:=by
  intro listed i hsz hi
  unfold Region.ready at hi
  rw[gL,bL,hn]at hi
  obtain⟨h1,h2⟩:=hi
  rw[aB]at h2
  have e0:listed.getD i false=listed.getD i true:=by
   have:i<listed.size:=by omega
   simp[Array.getD,this]
  refine⟨h1,by rw[e0];simpa using h2.1,λd hd=>?_⟩
  obtain⟨o,ins,ho,_⟩:=nJ i h1
  have h3:=h2.2
  rw[ho]at h3
  simp only[bq,gF]at h3
  unfold direct at hd
  rw[ho]at hd
  simp only at hd
  obtain⟨e,he,hq⟩:=nk.1 hd
  have:=fD.1 h3 e (by simpa using he)
  split at hq
  .rename_i hb
   cases hq
   simpa[hb]using this
  .cases hq
 have yh:∀(listed:Array Bool) (i:Nat),listed.size=n->i<n->listed.getD i false=false->(∀j,j<i->listed.getD j false=true)->i∈Region.ready .any ops listed:=by
  intro listed i hsz hi h1 h2
  unfold Region.ready
  rw[gL,bL,hn]
  refine⟨hi,?_⟩
  have e0:listed.getD i false=listed.getD i true:=by
   have:i<listed.size:=by omega
   simp[Array.getD,this]
  rw[aB]
  refine⟨by rw[<- e0,h1];rfl,?_⟩
  obtain⟨o,ins,ho,_⟩:=nJ i hi
  rw[ho]
  simp only[bq,gF]
  refine fD.2 λe he=>?_
  cases hb:Region.binds .any e with
  |false=>rfl
  |true =>
   have hd:e.on∈direct ops i:=by
    unfold direct
    rw[ho]
    exact nk.2 ⟨e,by simpa using he,by simp[hb]⟩
   have:=h2 e.on (d1 i e.on hi hd)
   simpa using this
 have main:∀ (fuel:Nat) (listed:Array Bool) (τ:St) (F:Addr->Option Value) (own:List Ent) (act:Act) (w:World),listed.size=n->(∀ i,i < n->listed.getD i false=true->∀ d ∈ direct ops i,listed.getD d false=true) ->
   ((List.range n).countP λi=>!listed.getD i false)=fuel->fZ P Gl N U K (((List.range n).filter λi=>!listed.getD i false).map λi=>L.getD i default) τ->
   Inv Gl F own B w0 τ act w->wpAny P .any ops Q fuel listed act w:=by
  intro fuel
  induction fuel with
  |zero =>
   intro listed τ F own act w hsz hcl hcnt hop hI
   have hall:∀i,i<n->listed.getD i false=true:=λi hi=>by
    have:=wQ.1 hcnt i (bL.2 hi)
    simpa using this
   refine⟨?_,hQ act w ⟨F,own,τ,hI,?_⟩⟩
   .apply lZ.2
    intro i hi
    obtain⟨q1,q2,_⟩:=mem_ready listed i hsz hi
    rw[hall i q1]at q2
    cases q2
   .have:(List.range n).filter (λi=>!listed.getD i false)=[]:=List.filter_eq_nil_iff.2 λi hi=>by rw[hall i (bL.1 hi)];simp
    rw[this]at hop;exact hop
  |succ fuel ih =>
   intro listed τ F own act w hsz hcl hcnt hop hI
   refine⟨λhnil=>?_,λi hi=>?_⟩
   .obtain⟨i,h1,h2,h3⟩:=Eu (n:=n) (S:=λi=>listed.getD i false) (by omega)
    have:=yh listed i hsz h1 h2 h3
    rw[hnil]at this
    simp at this
   .obtain⟨hin,hiS,oP⟩:=mem_ready listed i hsz hi
    obtain⟨o,p,ho,hli,hci,hgd,hmp⟩:=nJ i hin
    have hset:∀j,(listed.setIfInBounds i true).getD j false=if j=i then true else listed.getD j false:=λj=>by
     by_cases hji:j=i
     .subst hji
      have:j<listed.size:=by omega
      simp[Array.getD,this]
     .rw[if_neg hji]
      simp only[jl]
      rw[oC (λe=>hji e.symm)]
    obtain⟨pre,post,e1,e2,e3⟩:=zW (p:=λj=>!listed.getD j false) (q:=λj=>!(listed.setIfInBounds i true).getD j false) (i:=i) (List.range n) uS (bL.2 hin) (by simp[hiS]) (λj=>by rw[hset];split<;>simp)
    have hpre:∀j∈pre,j<n/\listed.getD j false=false:=λj hj=>by
     have:j∈(List.range n).filter (λj=>!listed.getD j false):=by rw[e1];simp[hj]
     rw[gL,bL]at this
     exact⟨this.1,by simpa using this.2⟩
    rw[e1,aU,bg,hgd]at hop
    refine wpOp_mono ?_ (a6H (lm:=lm) hmp ho hci (pre.map λi=>L.getD i default) (λa ha=>?_) hI hop)
    .rintro a1 w1 ⟨F1,dO,ρ,hI1,hk⟩
     refine ih (listed.setIfInBounds i true) ρ F1 dO a1 w1 (by simp[hsz]) (λj hj hS d hdj=>?_) ?_ ?_ hI1
     .rw[hset]at hS ⊢
      split
      .rfl
      .split at hS
       .rename_i hji;subst hji;exact oP d hdj
       .exact hcl j hj hS d hdj
     .have:=count_set (n:=n) (S:=λj=>listed.getD j false) (S':=λj=>(listed.setIfInBounds i true).getD j false) hin hiS (by simp only[hset];simp) (λj hj=>by simp only[hset,if_neg hj])
      omega
     .rw[e2,aU];exact hk
    .obtain⟨j,hj,rfl⟩:=bX.1 ha
     obtain⟨hjn,hjS⟩:=hpre j hj
     obtain⟨oj,pj,hoj,hlj,hcj,hgj,hmj⟩:=nJ j hjn
     simp only[hgj]
     refine⟨hmj,?_,j,oj,hoj,hcj⟩
     cases hq:jE pj p with
     |false=>rfl
     |true =>
      have ht:=d3 i j (e3 j hj) hin (by rw[hgj,hgd];exact hq)
      have:=ahead (λk=>listed.getD k false) hcl i j hin oP ht (e3 j hj)
      rw[hjS]at this;cases this
 have hrep:∀i,(Array.replicate n false).getD i false=false:=λi=>by
  simp only[jl,tL]
  split<;>rfl
 refine main n (Array.replicate n false) σ F own act w (by simp) (λi _ h=>by rw[hrep]at h;cases h) ?_ ?_ hI
 .have:((List.range n).countP λi=>!(Array.replicate n false).getD i false)=(List.range n).length:=vR.2 λi _=>by rw[hrep];rfl
  rw[this];simp
 .have e1:(List.range n).filter (λi=>!(Array.replicate n false).getD i false)=List.range n:=List.filter_eq_self.2 λi _=>by rw[hrep];rfl
  have e2:(List.range n).map (λi=>L.getD i default)=L:=by
   apply gX
   intro j
   rw[aT]
   rcases bI j n with q|q
   .obtain⟨_,p,_,e,_,e',_⟩:=nJ j q
    rw[wP q,e];simp only[bq,e']
   .rw[aX (by simpa using q),aX (by omega)];rfl
  rw[e1,e2];exact ha
end
inductive MV where
 |ptr
 |row (G sz:Nat)
def MV.at(n:Nat):MV->AV
 |.ptr=>.ptr n 1 0 0
 |.row G sz=>.row n G sz 0 G
def mkO(Gl:Nat->Option (List AV))(σ:St):I->Option (Prop×MV×aH)
 |.alloc ty zero=>some (True,.ptr,⟨ty,zero.cells.size,0,false,[jO zero]⟩)
 |.mk ty sz bytes zero n=>match σ.val Gl n with
  |.v (.int .i64 n)=>some (0<=n/\n*bytes<=lU/\n<=4611686018427387904,.row n.toNat sz,⟨ty,sz,0,true,List.replicate n.toNat (jO zero)⟩)
  |_=>none
 |.bsc ty xs=>if(xs.map (σ.val Gl)).all sc1=true then some (True,.row xs.length 1,⟨ty,1,0,!rz ty,xs.map (σ.val Gl)⟩) else none
 |_=>none
def a2j:I->Bool
 |.alloc ..|.mk ..|.bsc ..=>true
 |_=>false
def plainO(ob:aH):Bool:=ob.es.all λe=>e.cells.all wK
def xZ(p:Nat×Ins):Bool:=a2j p.2.i&&p.2.gd.isNone&&(p.1==0||p.1==2)&&(match p.2.dst with|some d=>!(p.2.looks.contains d)|none=>false)
def apart(a b:Nat×Ins):Bool:=!((match a.2.dst with|some d=>b.2.looks.contains d||b.2.dst==some d|none=>false)||(match b.2.dst with|some d=>a.2.looks.contains d|none=>false))
def AZ(a b:Nat×Ins):Bool:=xZ b&&apart a b&&fq a==2
def zu(ops:Array Oper)(l:List (Nat×Ins)):Bool :=
 let bm:=Region.before ops
 let n:=ops.size
 l.all (λp=>p.1==0||p.1==2||(p.1==1&&Nat.ble p.2.i.cls 1))&&(List.range n).all λi=>(direct ops i).all (λd=>decide (d<i))&&
  (List.range i).all λj=>(!tb bm i j||(direct ops i).contains j||(direct ops i).any λd=>decide (j<d)&&tb bm d j)&&
   (!jE (l.getD j default) (l.getD i default)||AZ (l.getD j default) (l.getD i default)||(tb bm i j&&(!xZ (l.getD j default)||(List.range j).all λa=>!(fq (l.getD a default)==2)||tb bm i a)))
section
variable{P:Program}{Gl:Nat->Option (List AV)}{F:Addr->Option Value}{own:List Ent}{B:Nat}{w0:W0}{σ τ:St}{act:Act}{w:World}{N:Nat}{U:List Nat}
theorem P5{i:I}{p:Prop}{v:MV}{ob:aH}(h:mkO Gl σ i=some (p,v,ob)):step Gl σ i=some (p,v.at σ.h.length,σ.h++[ob]):=by
 cases i with
 |alloc ty zero=>cases h;rfl
 |mk ty sz bytes zero n =>
  simp only[mkO]at h
  split at h
  .rename_i n hn;cases h;simp only[step,hn];rfl
  .cases h
 |bsc ty xs =>
  simp only[mkO]at h
  split at h
  .rename_i hn;cases h;simp only[step,hn,if_true];rfl
  .cases h
 |_=>cases h
theorem a09{i:I}(hi:a2j i=true){q:Prop×AV×List aH}(h:step Gl σ i=some q):∃v ob,mkO Gl σ i=some (q.1,v,ob):=by
 cases i with
 |alloc ty zero=>cases h;exact⟨_,_,rfl⟩
 |mk ty sz bytes zero n =>
  simp only[step]at h
  split at h
  .rename_i n hn;cases h;simp only[mkO,hn];exact⟨_,_,rfl⟩
  .cases h
 |bsc ty xs =>
  simp only[step]at h
  split at h
  .rename_i hn;cases h;simp only[mkO,hn,if_true];exact⟨_,_,rfl⟩
  .cases h
 |_=>cases hi
theorem Ee{i:I}(h:∀s∈i.reads,τ.t.getD s .any=σ.t.getD s .any):mkO Gl τ i=mkO Gl σ i:=by
 cases i<;>first|rfl|skip
 all_goals(simp only[I.reads,aG,or_imp,forall_and]at h)
 all_goals first
  |(simp only[mkO,val_congr h];done)
  |(simp only[mkO,val_congr h.1,val_congr h.2];done)
  |(simp only[mkO,Aj h];done)
  |(simp only[mkO,map_congr h];done)
theorem Jf(z:Value):(jO z).cells.all wK=true:=by
 rw[wH]
 refine aD.2 λa ha=>?_
 obtain⟨x,_,rfl⟩:=bX.1 ha
 rfl
theorem Yt{i:I}{p:Prop}{v:MV}{ob:aH}(h:mkO Gl σ i=some (p,v,ob)):plainO ob=true/\ob.fz=0:=by
 have rep:∀(n:Nat) (z:Value),((List.replicate n (jO z)).all λe=>e.cells.all wK)=true:=λn z=>aD.2 λa ha=>by
  rw[gI ha];exact Jf z
 cases i with
 |alloc ty zero=>cases h;exact⟨by simp only[plainO,jT,List.all_nil,uX];exact Jf zero,rfl⟩
 |mk ty sz bytes zero n =>
  simp only[mkO]at h
  split at h
  .cases h;exact⟨rep _ _,rfl⟩
  .cases h
 |bsc ty xs =>
  simp only[mkO]at h
  split at h
  .rename_i hn
   cases h
   refine⟨aD.2 λa ha=>?_,rfl⟩
   have:=aD.1 hn a ha
   cases a<;>first|(cases this;done)|rfl
  .cases h
 |_=>cases h
def Tk(n:Nat)(a:AV):Prop:=∀(F:Addr->Option Value) (own:List Ent) (x:Value),R F own x a->R F (own.take n) x a
theorem b4i{F0:Addr->Option Value}{x0:Value}{a:AV}(h:RP F0 x0 a)(n:Nat):Tk n a:=by
 induction h with
 |any=>exact λF own x _=>.pure (.any x)
 |v y=>exact λF own x h=>by rw[h.dK];exact .pure (.v _)
 |nil sz=>exact λF own x h=>.pure h.jG
 |list ad m cap sz xs cv hn hc hz hF hR ih=>exact λF own x h=>.pure h.jG
 |iF ad cs cv hF hR ih=>exact λF own x h=>.pure h.pU
 |agg xs cs hl h1 hR ih =>
  intro F own x h
  obtain⟨ys,rfl,hl',h1',hR'⟩:=h.iX
  refine .agg ys cs hl' h1' λj y a p q=>?_
  have hj:j<xs.size:=by rw[hl];exact(aj.1 q).1
  exact ih j _ a (aF hj) q F own y (hR' j y a p q)
 |tup xs cs hl hR ih =>
  intro F own x h
  obtain⟨ys,rfl,hl',hR'⟩:=h.tQ
  refine .tup ys cs hl' λj y a p q=>?_
  have hj:j<xs.size:=by rw[hl];exact(aj.1 q).1
  exact ih j _ a (aF hj) q F own y (hR' j y a p q)
theorem a9f{F0:Addr->Option Value}{AY:List Ent}{x0:Value}{a:AV}(h:R F0 AY x0 a){n:Nat}(hn:AY.length<=n):Tk n a:=by
 have tk:∀{own:List Ent} {id:Nat} {e e0:Ent},AY[id]?=some e0->own[id]?=some e->(own.take n)[id]?=some e:=fun{own id e e0} h0 h1=>by
  have:=(aj.1 h0).1
  rw[bU,if_pos (by omega)];exact h1
 induction h with
 |pure h=>exact b4i h n
 |row x id G sz off len e he hG hs hx hz =>
  intro F own x h
  obtain⟨e',q1,q2,q3,q4⟩:=h.ny
  exact .row _ _ _ _ _ _ e' (tk he q1) q2 q3 q4 (h.vZ q1)
 |ptr x id G i off e he hG hs hx hz =>
  intro F own x h
  obtain⟨e',q1,q2,q3,q4⟩:=h.nR
  exact .ptr _ _ _ _ _ e' (tk he q1) q2 q3 q4 (h.uN q1)
 |agg xs cs hl h1 hR ih =>
  intro F own x h
  obtain⟨ys,rfl,hl',h1',hR'⟩:=h.iX
  refine .agg ys cs hl' h1' λj y a p q=>?_
  have hj:j<xs.size:=by rw[hl];exact(aj.1 q).1
  exact ih j _ a (aF hj) q F own y (hR' j y a p q)
 |tup xs cs hl hR ih =>
  intro F own x h
  obtain⟨ys,rfl,hl',hR'⟩:=h.tQ
  refine .tup ys cs hl' λj y a p q=>?_
  have hj:j<xs.size:=by rw[hl];exact(aj.1 q).1
  exact ih j _ a (aF hj) q F own y (hR' j y a p q)
theorem OB{e:Ent}{ob:aH}(h:og F own w e ob)(hp:plainO ob=true){obj:Obj}(ho:∀g,e.g=some g->w.heap[g]?=some obj):∀(F':Addr->Option Value) (own':List Ent) (w':World),(∀g,e.g=some g->w'.heap[g]?=some obj/\∀j,F' ⟨g,j,none⟩=none)->og F' own' w' e ob:=by
 intro F' own' w' hw
 have cell:∀(i j:Nat) (x a:AV),ob.es[i]?=some x->x.cells[j]?=some a->∃z,a=.v z:=λi j x a p q =>
  b3G (aD.1 (aD.1 hp x (bP p)) a (bP q))
 obtain⟨k1,k2,k3,k4,k5,k6,k7,k8⟩:=h
 refine⟨k1,k2,k3,k4,k5,k6,k7,?_⟩
 cases hg:e.g with
 |none=>rw[hg]at k8;exact k8
 |some g =>
  rw[hg]at k8
  obtain⟨cs,⟨fr,a1,af⟩,a2,a3,a4⟩:=k8
  obtain⟨b1,b2⟩:=hw g hg
  rw[ho g hg]at a1
  refine⟨cs,⟨fr,b1.trans a1,af⟩,a2,λi j x a p q=>?_,λj _=>b2 j⟩
  obtain⟨y,c1,c2,c3⟩:=a3 i j x a p q
  obtain⟨z,rfl⟩:=cell i j x a p q
  have:=c3.r.dK
  subst this
  refine⟨_,c1,c2,?_⟩
  unfold RC
  split
  .exact .v _
  .exact .pure (.v _)
theorem b3D{v:MV}{n:Nat}{e:Ent}{x:Value}(h:R F own x (v.at n))(he:own[n]?=some e):∀(F':Addr->Option Value) (own':List Ent) (n':Nat),own'[n']?=some e->R F' own' x (v.at n'):=by
 intro F' own' n' he'
 cases v with
 |ptr =>
  obtain⟨e1,q1,q2,q3,q4⟩:=R.nR h
  rw[he]at q1;cases q1
  exact .ptr _ _ _ _ _ e he' q2 q3 q4 (R.uN h he)
 |row G sz =>
  obtain⟨e1,q1,q2,q3,q4⟩:=R.ny h
  rw[he]at q1;cases q1
  exact .row _ _ _ _ _ _ e he' q2 q3 q4 (R.vZ h he)
def W0.mD(w0:W0)(l:List PdE)(h:l.Pairwise λa b=>∀g,a.e.g=some g->b.e.g≠some g):W0:=⟨w0.w,w0.F,w0.N,w0.fr,w0.hfr,l,h,w0.df⟩
theorem Inv.mD(h:Inv Gl F own B w0 σ act w){l:List PdE}(hl:l.Pairwise λa b=>∀g,a.e.g=some g->b.e.g≠some g)(hp:EJ B l F own w):Inv Gl F own B (w0.mD l hl) σ act w :=
  { tl:=h.tl,tr:=h.tr,defers:=h.defers,sub:=h.sub,hl:=h.hl,objs:=h.objs,inj:=h.inj,below:=h.below,base:=h.base,gl:=h.gl,gw:=h.gw,room:=h.room,ext:=h.ext,jI:=h.jI,nl:=h.nl,fr:=h.fr,pd:=hp }
theorem demote{F0:Addr->Option Value}{AY:List Ent}{b3H:Act}{wb:World}(hI0:Inv Gl F0 AY B w0 τ b3H wb){d:Nat}{v:MV}{ob:aH}(hp:plainO ob=true)(hf:ob.fz=0)(h:Inv Gl F own B w0 (St.put ⟨τ.t,τ.h++[ob]⟩ (some d) (v.at τ.h.length)) act w) :
  ∃(x:Value) (q:PdE) (hl:(q::w0.pd).Pairwise λa b=>∀g,a.e.g=some g->b.e.g≠some g),q.ob=ob/\Inv Gl F (own.take τ.h.length) B (w0.mD (q::w0.pd) hl) (τ.put (some d) (.v x)) act w/\(d<τ.t.length->∀(F':Addr->Option Value) (own':List Ent) (n':Nat),own'[n']?=some q.e->R F' own' x (v.at n')):=by
 have hlen:own.length=τ.h.length+1:=by have:=h.hl;simpa[St.put]using this
 have hn:τ.h.length<own.length:=by omega
 have he:own[τ.h.length]?=some own[τ.h.length]:=ah hn
 generalize own[τ.h.length]=e at he
 have hob:(St.put ⟨τ.t,τ.h++[ob]⟩ (some d) (v.at τ.h.length)).h[τ.h.length]?=some ob:=by simp[St.put]
 have hO:=h.objs _ e ob he hob
 have CS:∃obj,∀g,e.g=some g->w.heap[g]?=some obj:=by
  cases hg:e.g with
  |none=>exact⟨.map #[] 0,λg q=>by cases q⟩
  |some g =>
   have hlt:=hO.lt hg
   exact⟨w.heap[g],λg' q=>by cases q;exact aF hlt⟩
 obtain⟨obj,CS⟩:=CS
 have hnew:∀g,e.g=some g->∀q∈w0.pd,q.e.g≠some g:=λg hg q hq hqg=>(h.pd q hq g hqg).2.2.1 _ e he hg
 have hpw:((⟨obj,e,ob,OB hO hp CS⟩:PdE)::w0.pd).Pairwise λa b=>∀g,a.e.g=some g->b.e.g≠some g :=
  tJ.2 ⟨λq hq g hg=>hnew g hg q hq,w0.pdn⟩
 have rQ:∀{id:Nat} {e':Ent},(own.take τ.h.length)[id]?=some e'->id<τ.h.length/\own[id]?=some e':=fun{id e'} q=>by
  rw[bU]at q
  split at q
  .exact⟨by assumption,q⟩
  .cases q
 refine⟨act.tmps.getD d undef,⟨obj,e,ob,OB hO hp CS⟩,hpw,rfl,?_,λhd=>?_⟩
 .refine{ tl:=by have:=h.tl;simpa[St.put]using this,tr:=λi x a p q=>?_,defers:=h.defers,sub:=h.sub,hl:=by simp only[St.put,jR];omega,objs:=λid e' o p q=>?_,inj:=λi j e1 e2 g p q=>h.inj i j e1 e2 g (rQ p).2 (rQ q).2,below:=h.below,base:=λid e' g p=>h.base id e' g (rQ p).2,gl:=h.gl,gw:=h.gw,room:=h.room,ext:=h.ext,jI:=h.jI,nl:=hI0.nl,fr:=λq hq=>?_,pd:=?_ }
  .have q':(τ.t.set d (.v (act.tmps.getD d undef)))[i]?=some a:=q
   rw[dh]at q'
   split at q'
   .rename_i hdi
    subst hdi
    split at q'
    .cases q'
     have:act.tmps.getD d undef=x:=by
      have hlt:=(fC.1 p).1
      rw[aF hlt]at p
      simp[Array.getD,hlt]
      exact aI p
     rw[this];exact .pure (.v _)
    .cases q'
   .rename_i hdi
    have q2:(St.put ⟨τ.t,τ.h++[ob]⟩ (some d) (v.at τ.h.length)).t[i]?=some a:=by
     show(τ.t.set d _)[i]?=some a
     rw[aC hdi];exact q'
    have hi0:i<b3H.tmps.size:=by rw[hI0.tl];exact(aj.1 q').1
    exact a9f (hI0.tr i _ a (aF hi0) q') (iY hI0.hl) F own x (h.tr i x a p q2)
  .obtain⟨hid,hown⟩:=rQ p
   have q':τ.h[id]?=some o:=q
   have q2:(St.put ⟨τ.t,τ.h++[ob]⟩ (some d) (v.at τ.h.length)).h[id]?=some o:=by
    show(τ.h++[ob])[id]?=some o
    rw[au hid];exact q'
   obtain⟨k1,k2,k3,k4,k5,k6,k7,k8⟩:=h.objs id e' o hown q2
   refine⟨k1,k2,k3,k4,k5,k6,k7,?_⟩
   cases hg:e'.g with
   |none=>rw[hg]at k8;exact k8
   |some g =>
    rw[hg]at k8
    obtain⟨cs,a1,a2,a3,a4⟩:=k8
    refine⟨cs,a1,a2,λi j x a r s=>?_,a4⟩
    obtain⟨y,b1,b2,b3⟩:=a3 i j x a r s
    refine⟨y,b1,b2,?_⟩
    unfold RC at b3 ⊢
    split
    .rename_i hpr;rw[if_pos hpr]at b3;exact b3
    .rename_i hpr
     rw[if_neg hpr]at b3
     have c0v:id<AY.length:=by rw[hI0.hl];exact hid
     obtain⟨z1,z2,z3,z4,z5,z6,z7,z8⟩:=hI0.objs id _ o (ah c0v) q'
     cases hg0:AY[id].g with
     |none =>
      rw[hg0]at z8
      have z8:AY[id].cap=0:=z8
      have:=(aj.1 r).1
      omega
     |some g0 =>
      rw[hg0]at z8
      obtain⟨_,_,_,z9,_⟩:=z8
      obtain⟨y0,_,_,c3⟩:=z9 i j x a r s
      exact a9f c3.r (iY hI0.hl) F own y b3
  .have:=h.fr q hq
   have hN:q.1<=τ.h.length:=bF (w0.hfr q hq) hI0.nl
   show R F ((own.take τ.h.length).take q.1) q.2.1 q.2.2
   rw[List.take_take,Nat.min_eq_left hN];exact this
  .intro q hq g hg
   rcases bD.1 hq with rfl|hq
   .have hg:e.g=some g:=hg
    refine⟨CS g hg,λj=>hO.fz hg (by rw[hf,jP];exact bN _),λid e' p r=>?_,h.base _ e g he hg⟩
    obtain⟨p1,p2⟩:=rQ p
    have:=h.inj id τ.h.length e' e g p2 he r hg
    omega
   .obtain⟨p1,p2,p3,p4⟩:=h.pd q hq g hg
    exact⟨p1,p2,λid e' r=>p3 id e' (rQ r).2,p4⟩
 .have hds:d<act.tmps.size:=by rw[h.tl];simpa[St.put]using hd
  have q2:(St.put ⟨τ.t,τ.h++[ob]⟩ (some d) (v.at τ.h.length)).t[d]?=some (v.at τ.h.length):=by
   show(τ.t.set d _)[d]?=_
   rw[aK hd]
  have:=h.tr d _ _ (aF hds) q2
  have e1:act.tmps.getD d undef=act.tmps[d]:=by simp[Array.getD,hds]
  rw[e1]
  exact b3D this he
theorem claim{l1 l2:List PdE}{q:PdE}{hl:(l1++q::l2).Pairwise λa b=>∀g,a.e.g=some g->b.e.g≠some g}(hl':(l1++l2).Pairwise λa b=>∀g,a.e.g=some g->b.e.g≠some g)(h:Inv Gl F own B (w0.mD (l1++q::l2) hl) τ act w){d:Nat}{v:MV}{x:Value}
  (hx:∀a,τ.t[d]?=some a->a=.v x) (hR:d<τ.t.length->∀(F':Addr->Option Value) (own':List Ent) (n':Nat),own'[n']?=some q.e->R F' own' x (v.at n')) :
  Inv Gl F (own++[q.e]) B (w0.mD (l1++l2) hl') (St.put ⟨τ.t,τ.h++[q.ob]⟩ (some d) (v.at τ.h.length)) act w:=by
 have hq:q∈(w0.mD (l1++q::l2) hl).pd:=aG.2 (.inr (bY))
 have hpd:=h.pd q hq
 have get:∀{k:Nat} {f:Ent},(own++[q.e])[k]?=some f->(k=own.length/\f=q.e)\/(k<own.length/\own[k]?=some f):=fun{k f} hf=>by
  rcases bI k own.length with hk|hk
  .rw[au hk]at hf;exact .inr ⟨hk,hf⟩
  .rw[aO hk]at hf
   have h0:k-own.length=0:=by
    rcases eD (k-own.length) with h0|h0
    .exact h0
    .rw[aX (by simp;omega)]at hf;cases hf
   rw[h0]at hf
   simp at hf
   exact .inl ⟨by omega,hf.symm⟩
 have last:(own++[q.e])[own.length]?=some q.e:=by simp
 refine{ tl:=by have:=h.tl;simpa[St.put]using this,tr:=λi y a p r=>?_,defers:=h.defers,sub:=h.sub,hl:=by simp[St.put,h.hl],objs:=λid e' o p r=>?_,inj:=λi j e1 e2 g p r s t=>?_,below:=h.below,base:=λid e' g p r=>?_,gl:=h.gl,gw:=h.gw,room:=h.room,ext:=h.ext,jI:=h.jI,nl:=by have:=h.nl;simp only[St.put,ak];exact bF this (rG _ _),fr:=λz hz=>(h.fr z hz).mono (λ_ _ r=>r) ((Le.snoc _ _).take _),pd:=λz hz g hg=>?_ }
 .have r':(τ.t.set d (v.at τ.h.length))[i]?=some a:=r
  rw[dh]at r'
  split at r'
  .rename_i hdi
   subst hdi
   split at r'
   .rename_i hd
    cases r'
    have hv:=h.tr d y _ p (ah hd)
    rw[hx _ (ah hd)]at hv
    rw[hv.dK]
    exact hR hd F _ _ (by rw[<- h.hl];exact last)
   .cases r'
  .exact(h.tr i y a p r').mono (λ_ _ r=>r) (Le.snoc _ _)
 .have r':(τ.h++[q.ob])[id]?=some o:=r
  rcases get p with⟨rfl,rfl⟩|⟨hk,hf⟩
  .rw[h.hl,aO (aS _)]at r'
   simp at r'
   subst r'
   exact q.ok F _ w λg hg=>⟨(hpd g hg).1,(hpd g hg).2.1⟩
  .rw[au (by rw[<- h.hl];exact hk)]at r'
   have hO:=h.objs id e' o hf r'
   exact hO.mono (λ_ _ r=>r) (Le.snoc _ _) (λg hg=>rfl) (λg j hg hj=>hO.fz hg hj)
 .rcases get p with⟨rfl,rfl⟩|⟨hi,hf⟩<;>rcases get r with⟨rfl,rfl⟩|⟨hj,hf'⟩
  .rfl
  .exact absurd t ((hpd g s).2.2.1 j e2 hf')
  .exact absurd s ((hpd g t).2.2.1 i e1 hf)
  .exact h.inj i j e1 e2 g hf hf' s t
 .rcases get p with⟨rfl,rfl⟩|⟨hk,hf⟩
  .exact(hpd g r).2.2.2
  .exact h.base id e' g hf r
 ·have hz':z ∈ (w0.mD (l1 ++ q :: l2) hl).pd:=by
   rcases aG.1 hz with hz|hz
   .exact aG.2 (.inl hz)
   .exact aG.2 (.inr (bG _ hz))
  obtain⟨p1,p2,p3,p4⟩:=h.pd z hz' g hg
  refine⟨p1,p2,λid e' r s=>?_,p4⟩
  rcases get r with⟨rfl,rfl⟩|⟨hk,hf⟩
  .rw[List.pairwise_append]at hl
   rcases aG.1 hz with hz|hz
   .exact hl.2.2 z hz q (bY) g hg s
   .have:=(tJ.1 hl.2.1).1 z hz g s
    exact this hg
  .exact p3 id e' hf s
end
section
variable{P:Program}{Gl:Nat->Option (List AV)}{F:Addr->Option Value}{own:List Ent}{B:Nat}{w0:W0}{σ τ:St}{act:Act}{w:World}{N:Nat}{U:List Nat}
theorem Cw{b:Nat×Ins}(h:xZ b=true):a2j b.2.i=true/\b.2.gd=none/\(b.1=0\/b.1=2)/\b.2.i.kZ=false/\∃d,b.2.dst=some d/\d∉b.2.looks:=by
 unfold xZ at h
 simp only[aB,iI,rE,Option.isNone_iff_eq_none]at h
 obtain⟨⟨⟨h1,h2⟩,h3⟩,h4⟩:=h
 refine⟨h1,h2,h3,?_,?_⟩
 .cases hi:b.2.i<;>first|rfl|(rw[hi]at h1;cases h1)
 .split at h4
  .rename_i d hd
   exact⟨d,hd,λq=>by rw[gM.2 q]at h4;cases h4⟩
  .cases h4
theorem apart_spec{a b:Nat×Ins}(h:apart a b=true):(∀d,a.2.dst=some d->d∉b.2.looks/\b.2.dst≠some d)/\(∀d,b.2.dst=some d->d∉a.2.looks):=by
 unfold apart at h
 simp only[iT,mg]at h
 obtain⟨h1,h2⟩:=h
 refine⟨λd hd=>?_,λd hd=>?_⟩
 .rw[hd]at h1
  simp only[mg,beq_eq_false_iff_ne]at h1
  exact⟨(λq=>by rw[gM.2 q]at h1;cases h1.1),h1.2⟩
 .rw[hd]at h2
  simp only at h2
  exact λq=>by rw[gM.2 q]at h2;cases h2
def Apart(a b:Nat×Ins):Prop:=(∀d,a.2.dst=some d->d∉b.2.looks/\b.2.dst≠some d)/\(∀d,b.2.dst=some d->d∉a.2.looks)
theorem yN{a b:Nat×Ins}(h:jE a b=false):Apart a b:=⟨(oU h).1,(oU h).2.1⟩
theorem WH{p:Nat×Ins}(hm:okM p){K:St->Prop}(h:tV P Gl N U p σ K):tV P Gl N U p σ λρ=>K ρ/\∃v h1,ρ=St.put ⟨σ.t,h1⟩ p.2.dst v:=by
 refine wX (τ:=σ) hm (λ_ _=>rfl) (.inl rfl) (λv h1 k1 k2 k3=>?_) h
 by_cases hq:fq p=2
 .rw[if_pos hq];exact⟨k1,v,h1,rfl⟩
 .rw[if_neg hq];rw[k2 hq]at k1;exact⟨k1,v,σ.h,rfl⟩
theorem a2v{lm:Bool}{ops:Array Oper}{b:Nat×Ins}{kb:Nat}{ob:Oper}(hmb:okM b)(hob:ops[kb]?=some ob)(hcb:jN P lm ops ob=some b.2){post:List (Nat×Ins)}{K:St->Prop}{Q:Exit->Act->World->Prop}(pre:List (Nat×Ins))(hp:∀a∈pre,okM a/\jE a b=false/\∃(k:Nat) (o:Oper),ops[k]?=some o/\jN P lm ops o=some a.2)(hI:Inv Gl F own B w0 σ act w)(h:fZ P Gl N U K (pre++b::post) σ) :
  wpOp P ops Q kb (lY Gl B w0 λρ=>fZ P Gl N U K (pre++post) ρ/\∃v h1,ρ=St.put ⟨σ.t,h1⟩ b.2.dst v) act w:=by
 have h':tV P Gl N U b σ (fZ P Gl N U K (pre++post)):=by
  cases hn:b.2.i.kZ with
  |true=>exact J6 hmb hn pre (λa ha=>⟨(hp a ha).1,(hp a ha).2.1⟩) σ h
  |false =>
   obtain⟨v,h2,hD⟩:=Sd hmb hn pre hp σ F own act w hI h
   rw[vJ hn]
   exact⟨v,h2,hD,D5 hmb hn pre (λa ha=>⟨(hp a ha).1,(hp a ha).2.1⟩) σ v h2 hD h⟩
 replace h':=WH hmb h'
 have ex:∃d,fI P Gl d σ b.2 (λρ=>fZ P Gl N U K (pre++post) ρ/\∃v h1,ρ=St.put ⟨σ.t,h1⟩ b.2.dst v)\/fI P Gl d σ b.2 (λρ=>agree N U σ.h ρ.h/\fZ P Gl N U K (pre++post) ρ/\∃v h1,ρ=St.put ⟨σ.t,h1⟩ b.2.dst v):=by
  obtain⟨m,ins⟩:=b
  match m,h' with
  |0,h'=>exact⟨true,.inl h'⟩
  |1,h'=>exact⟨true,.inl h'.2⟩
  |m+2,h'=>exact⟨false,.inr h'⟩
 obtain⟨d,h'|h'⟩:=ex
 .exact nI hI hcb h' Q hob
 .refine wpOp_mono ?_ (nI hI hcb h' Q hob)
  rintro a1 w1 ⟨F1,dO,ρ,hI1,_,hk⟩
  exact⟨F1,dO,ρ,hI1,hk⟩
theorem a1c{b:Nat×Ins}(hb:okM b){d:Nat}(hd:b.2.dst=some d)(hnd:d∉b.2.looks){post:List (Nat×Ins)}{K:St->Prop}(x:AV):∀(pre:List (Nat×Ins)),(∀a∈pre,okM a/\Apart a b)->∀(σ:St),fZ P Gl N U K (pre++b::post) σ->fZ P Gl N U K (pre++b::post) (σ.put (some d) x):=by
 have look:∀(σ:St) (s:Nat),s≠d->(σ.put (some d) x).t.getD s .any=σ.t.getD s .any:=λσ s hs=>by
  simp only[St.put,List.getD,aC (Ne.symm hs)]
 intro pre
 induction pre with
 |nil =>
  intro _ σ h
  refine wX (τ:=σ.put (some d) x) hb (λs hs=>look σ s λq=>hnd (q▸hs)) (.inl rfl) (λv h1 k1 k2 k3=>?_) h
  have e:St.put ⟨(σ.put (some d) x).t,if fq b=2 then h1 else(σ.put (some d) x).h⟩ b.2.dst v=St.put ⟨σ.t,h1⟩ b.2.dst v:=by
   rw[hd]
   simp only[St.put,List.set_set]
   split
   .rfl
   .rename_i q;rw[k2 q]
  rw[e];exact k1
 |cons a pre ih =>
  intro hp σ h
  obtain⟨hma,hab⟩:=hp a (by simp)
  refine wX (τ:=σ.put (some d) x) (K1:=fZ P Gl N U K (pre++b::post)) hma (λs hs=>look σ s λq=>hab.2 d hd (q▸hs)) (.inl rfl) (λv h1 k1 k2 k3=>?_) h
  have:=ih (λz hz=>hp z (by simp[hz])) _ k1
  have e:(St.put ⟨σ.t,h1⟩ a.2.dst v).put (some d) x=St.put ⟨(σ.put (some d) x).t,if fq a=2 then h1 else(σ.put (some d) x).h⟩ a.2.dst v:=by
   have hh:(if fq a=2 then h1 else σ.h)=h1:=by
    split
    .rfl
    .rename_i q;rw[k2 q]
   show _=St.put ⟨(σ.t.set d x),if fq a=2 then h1 else σ.h⟩ a.2.dst v
   rw[hh]
   cases hda:a.2.dst with
   |none=>rfl
   |some i =>
    have:i≠d:=λq=>(hab.1 i hda).2 (by rw[hd,q])
    simp only[St.put]
    rw[List.set_comm _ _ this]
  rw[<- e];exact this
theorem a2O{lm:Bool}{ops:Array Oper}{b:Nat×Ins}(hb:xZ b=true){post:List (Nat×Ins)}{K:St->Prop}:∀(pre:List (Nat×Ins)),(∀a∈pre,okM a/\Apart a b/\∃(k:Nat) (o:Oper),ops[k]?=some o/\jN P lm ops o=some a.2)->∀(σ:St) (F:Addr->Option Value) (own:List Ent) (act:Act) (w:World),Inv Gl F own B w0 σ act w->fZ P Gl N U K (pre++b::post) σ->∃pr v ob,mkO Gl σ b.2.i=some (pr,v,ob)/\pr:=by
 obtain⟨b1,b2,b3,b4,d,b5,b6⟩:=Cw hb
 intro pre
 induction pre with
 |nil =>
  intro _ σ F own act w hI h
  have h:tV P Gl N U b σ (fZ P Gl N U K post):=h
  rw[vJ b4]at h
  obtain⟨v,h2,⟨⟨q,e,hq⟩,_⟩,_⟩:=h
  unfold w9 at e
  rw[b2]at e
  obtain⟨v',ob,hmk⟩:=a09 b1 e
  exact⟨q,v',ob,hmk,hq⟩
 |cons a pre ih =>
  intro hp σ F own act w hI h
  obtain⟨hma,hab,k,o,ho,hc⟩:=hp a (by simp)
  obtain⟨F1,dO,H8,w1,v,h1,hI1,hK,_,_⟩:=I7 hma ho hc hI h
  obtain⟨pr,v',ob,hmk,hpr⟩:=ih (λz hz=>hp z (by simp[hz])) _ F1 dO H8 w1 hI1 hK
  refine⟨pr,v',ob,?_,hpr⟩
  rw[<- hmk]
  refine(Ee λs hs=>?_).symm
  exact Mj λq=>(hab.1 s q).1 (by simp[Ins.looks,hs])
theorem Vt{b:Nat×Ins}(hb:xZ b=true){post:List (Nat×Ins)}{K:St->Prop}(pre:List (Nat×Ins))(hp:∀a∈pre,okM a/\jE a b=false)(hN:N<=σ.h.length){pr:Prop}{v:MV}{ob:aH}(hm:mkO Gl σ b.2.i=some (pr,v,ob))(hpr:pr)(h:fZ P Gl N U K (pre++b::post) σ) :
  fZ P Gl N U K (pre++post) (St.put ⟨σ.t,σ.h++[ob]⟩ b.2.dst (v.at σ.h.length)):=by
 obtain⟨b1,b2,b3,b4,d,b5,b6⟩:=Cw hb
 have hok:okM b:=by rcases b3 with q|q;exact .inl q;exact .inr (.inl q)
 refine D5 hok b4 pre hp σ _ _ ⟨⟨pr,?_,hpr⟩,λq=>by omega,λ_ id hid _=>?_⟩ h
 .unfold w9
  rw[b2]
  exact P5 hm
 .rw[au (by omega)]
theorem Qp{ops:Array Oper}{l:List (Nat×Ins)}(h:zu ops l=true) :
  (∀i d,i<ops.size->d∈direct ops i->d<i)/\(∀i j,j<i->i<ops.size->tb (Region.before ops) i j=true->j∈direct ops i\/∃d∈direct ops i,j<d/\tb (Region.before ops) d j=true)/\
  (∀i j,j<i->i<ops.size->jE (l.getD j default) (l.getD i default)=true->AZ (l.getD j default) (l.getD i default)=true\/(tb (Region.before ops) i j=true/\(xZ (l.getD j default)=true->∀a,a<j->fq (l.getD a default)=2->tb (Region.before ops) i a=true)))/\∀p∈l,okM p:=by
 unfold zu at h
 rw[aB]at h
 obtain⟨hm,h⟩:=h
 have h1:∀i,i<ops.size->_:=λi hi=>aD.1 h i (bL.2 hi)
 refine⟨λi d hi hd=>?_,λi j hj hi ht=>?_,λi j hj hi hc=>?_,λp hp=>?_⟩
 .have:=h1 i hi
  rw[aB]at this
  exact of_decide_eq_true (aD.1 this.1 d hd)
 .have:=h1 i hi
  rw[aB]at this
  have:=aD.1 this.2 j (bL.2 hj)
  rw[aB]at this
  have:=this.1
  simp only[ht,oV,uW,iI]at this
  rcases this with q|q
  .exact .inl (gM.1 q)
  .obtain⟨d,hd,hq⟩:=iO.1 q
   rw[aB]at hq
   exact .inr ⟨d,hd,of_decide_eq_true hq.1,hq.2⟩
 .have:=h1 i hi
  rw[aB]at this
  have:=aD.1 this.2 j (bL.2 hj)
  rw[aB]at this
  have:=this.2
  rw[hc]at this
  simp only[oV,uW,iI,aB]at this
  rcases this with q|⟨q,r⟩
  .exact .inl q
  .refine .inr ⟨q,λhg a ha hcl=>?_⟩
   rw[hg]at r
   simp only[oV,dH,false_or]at r
   have:=aD.1 r a (bL.2 ha)
   rw[hcl]at this
   simpa using this
 .have:=aD.1 hm p hp
  simp only[iI,aB,rE]at this
  rcases this with(q|q)|⟨q,r⟩
  .exact .inl q
  .exact .inr (.inl q)
  .exact .inr (.inr ⟨q,iZ r⟩)
def Kz(Gl:Nat->Option (List AV))(L:List (Nat×Ins))(τ:St)(i:Nat)(q:PdE):Prop :=
 xZ (L.getD i default)=true/\∃d v pr x,(L.getD i default).2.dst=some d/\mkO Gl τ (L.getD i default).2.i=some (pr,v,q.ob)/\pr/\(∀a,τ.t[d]?=some a->a=.v x)/\(d<τ.t.length->∀(F':Addr->Option Value) (own':List Ent) (n':Nat),own'[n']?=some q.e->R F' own' x (v.at n'))
theorem Kz.put{L:List (Nat×Ins)}{i:Nat}{q:PdE}(h:Kz Gl L τ i q){dst:Option Nat}{v':AV}{h1:List aH}(hd:∀s,dst=some s->s∉(L.getD i default).2.looks/\(L.getD i default).2.dst≠some s):Kz Gl L (St.put ⟨τ.t,h1⟩ dst v') i q:=by
 obtain⟨h0,d,v,pr,x,k1,k2,k3,k4,k5⟩:=h
 have hne:∀s,dst=some s->s≠d:=λs hs e=>(hd s hs).2 (by rw[k1,e])
 refine⟨h0,d,v,pr,x,k1,?_,k3,λa ha=>?_,λhl=>?_⟩
 .rw[<- k2]
  exact Ee λs hs=>Mj λe=>(hd s e).1 (aG.2 (.inl hs))
 .refine k4 a ?_
  cases dst with
  |none=>exact ha
  |some s =>
   have ha':(τ.t.set s v')[d]?=some a:=ha
   rw[aC (hne s rfl)]at ha'
   exact ha'
 .exact k5 (by cases dst<;>simpa[St.put]using hl)
def lefts(listed:Array Bool)(zs:List (Nat×PdE))(i:Nat):Bool:=!listed.getD i false||zs.any λz=>z.1==i
theorem nP{listed:Array Bool}{zs:List (Nat×PdE)}{i:Nat}:lefts listed zs i=true↔listed.getD i false=false\/∃z∈zs,z.1=i:=by
 unfold lefts
 simp[iI,iO]
theorem greedy{ops:Array Oper}{L:List (Nat×Ins)}{n:Nat}(hd:∀i j,j<i->i<n->jE (L.getD j default) (L.getD i default)=true->AZ (L.getD j default) (L.getD i default)=true\/(tb (Region.before ops) i j=true/\(xZ (L.getD j default)=true->∀a,a<j->fq (L.getD a default)=2->tb (Region.before ops) i a=true)))
  (hok:∀i,i<n->okM (L.getD i default)) {listed:Array Bool} (hah:∀i j,i<n->listed.getD i false=true->tb (Region.before ops) i j=true->j<i->listed.getD j false=true) (hN:N<=w0.N) {K:St->Prop} :
  ∀(m:Nat) (zs:List (Nat×PdE)) (τ:St) (own:List Ent) (hl:(zs.map (·.2)++w0.pd).Pairwise λa b=>∀g,a.e.g=some g->b.e.g≠some g),zs.length=m->(zs.map (·.1)).Nodup->(∀z∈zs,∀y∈zs,z.1<y.1->Apart (L.getD z.1 default) (L.getD y.1 default))->(∀z∈zs,z.1<n/\listed.getD z.1 false=true/\Kz Gl L τ z.1 z.2)->
   fZ P Gl N U K (((List.range n).filter (lefts listed zs)).map λi=>L.getD i default) τ->Inv Gl F own B (w0.mD (zs.map (·.2)++w0.pd) hl) τ act w->
   ∃(zs':List (Nat×PdE)) (τ':St) (own':List Ent) (hl':(zs'.map (·.2)++w0.pd).Pairwise λa b=>∀g,a.e.g=some g->b.e.g≠some g),(zs'.map (·.1)).Nodup/\(∀z∈zs',∀y∈zs',z.1<y.1->Apart (L.getD z.1 default) (L.getD y.1 default))/\(∀z∈zs',z.1<n/\listed.getD z.1 false=true/\Kz Gl L τ' z.1 z.2)/\
    fZ P Gl N U K (((List.range n).filter (lefts listed zs')).map λi=>L.getD i default) τ'/\Inv Gl F own' B (w0.mD (zs'.map (·.2)++w0.pd) hl') τ' act w/\∀z∈zs',∃a,a<z.1/\fq (L.getD a default)=2/\listed.getD a false=false:=by
 intro m
 induction m with
 |zero =>
  intro zs τ own hl h0 hnd hap hz hop hI
  have:zs=[]:=bC.1 h0
  subst this
  exact⟨[],τ,own,hl,hnd,hap,hz,hop,hI,λz q=>by cases q⟩
 |succ m ih =>
  intro zs τ own hl hlen hnd hap hz hop hI
  by_cases hall:∀z∈zs,∃a,a<z.1/\fq (L.getD a default)=2/\listed.getD a false=false
  .exact⟨zs,τ,own,hl,hnd,hap,hz,hop,hI,hall⟩
  ·have hex:∃ i,∃ z ∈ zs,z.1=i/\¬ ∃ a,a < i/\fq (L.getD a default)=2/\listed.getD a false=false:=by
    apply lJ
    intro hno
    apply hall
    intro z hzm
    apply lJ
    intro hna
    exact hno ⟨z.1,z,hzm,rfl,hna⟩
   have b2I:∃i,(∃z∈zs,z.1=i/\¬∃a,a<i/\fq (L.getD a default)=2/\listed.getD a false=false)/\∀z∈zs,i<=z.1:=by
    have key:∀(k i:Nat),i<=k->(∃z∈zs,z.1=i/\¬∃a,a<i/\fq (L.getD a default)=2/\listed.getD a false=false)->∃i,(∃z∈zs,z.1=i/\¬∃a,a<i/\fq (L.getD a default)=2/\listed.getD a false=false)/\∀z∈zs,i<=z.1:=by
     intro k
     induction k with
     |zero=>intro i hi h;exact⟨i,h,λz _=>by omega⟩
     |succ k ihk =>
      intro i hi h
      by_cases hm:∀z∈zs,i<=z.1
      .exact⟨i,h,hm⟩
      .simp only[Classical.not_forall,Nat.not_le]at hm
       obtain⟨z,hzm,hlt⟩:=hm
       obtain⟨_,_,rfl,hna⟩:=h
       exact ihk z.1 (by omega) ⟨z,hzm,rfl,fun⟨a,h1,h2,h3⟩=>hna ⟨a,by omega,h2,h3⟩⟩
    obtain⟨i,h⟩:=hex
    exact key i i (aS _) h
   obtain⟨i,⟨z,hzm,hzi,hna⟩,hmin⟩:=b2I
   subst hzi
   obtain⟨z1,z2,rfl⟩:=List.append_of_mem hzm
   obtain⟨hin,hil,hgo,d,v,pr,x,k1,k2,k3,k4,k5⟩:=hz z hzm
   have b2G:∀y∈z1++z2,y.1≠z.1:=λy hy e=>by
    simp only[aU,bg]at hnd
    rw[dN]at hnd
    obtain⟨_,n2,n3⟩:=hnd
    rw[kM]at n2
    rcases aG.1 hy with q|q
    .exact n3 y.1 (bX.2 ⟨y,q,rfl⟩) z.1 (by simp) e
    .exact n2.1 (bX.2 ⟨y,q,e⟩)
   obtain⟨pre,post,e1,e2,e3⟩:=zW (p:=lefts listed (z1++z::z2)) (q:=lefts listed (z1++z2)) (i:=z.1) (List.range n) uS (bL.2 hin) (nP.2 (.inr ⟨z,hzm,rfl⟩)) (λj=>by
    by_cases hj:j=z.1
    .rw[if_pos hj]
     cases hq:lefts listed (z1++z2) j with
     |false=>rfl
     |true =>
      exfalso
      rcases nP.1 hq with r|⟨y,hy,r⟩
      .rw[hj,hil]at r;cases r
      .exact b2G y hy (r.trans hj)
    .rw[if_neg hj]
     cases hq:lefts listed (z1++z2) j with
     |true =>
      refine(nP.2 ?_).symm
      rcases nP.1 hq with r|⟨y,hy,r⟩
      .exact .inl r
      .refine .inr ⟨y,?_,r⟩
       rcases aG.1 hy with s|s
       .exact aG.2 (.inl s)
       .exact aG.2 (.inr (bG _ s))
     |false =>
      cases hq':lefts listed (z1++z::z2) j with
      |false=>rfl
      |true =>
       exfalso
       have:lefts listed (z1++z2) j=true:=nP.2 (by
        rcases nP.1 hq' with r|⟨y,hy,r⟩
        .exact .inl r
        .refine .inr ⟨y,?_,r⟩
         rcases aG.1 hy with s|s
         .exact aG.2 (.inl s)
         .rcases bD.1 s with s|s
          .subst s;exact absurd r.symm hj
          .exact aG.2 (.inr s))
       rw[this]at hq;cases hq)
   rw[e1,aU,bg]at hop
   have hpre:∀j∈pre,j<n/\j<z.1/\listed.getD j false=false:=λj hj=>by
    have hm:j∈(List.range n).filter (lefts listed (z1++z::z2)):=by rw[e1];simp[hj]
    rw[gL,bL]at hm
    refine⟨hm.1,e3 j hj,?_⟩
    rcases nP.1 hm.2 with r|⟨y,hy,r⟩
    .exact r
    .have:=hmin y hy;have:=e3 j hj;omega
   have hNτ:N<=τ.h.length:=bF hN hI.nl
   have hstep:=Vt hgo (pre.map λi=>L.getD i default) (λa ha=>by
    obtain⟨j,hj,rfl⟩:=bX.1 ha
    obtain⟨hjn,hjz,hjl⟩:=hpre j hj
    refine⟨hok j hjn,?_⟩
    cases hq:jE (L.getD j default) (L.getD z.1 default) with
    |false=>rfl
    |true =>
     exfalso
     rcases hd z.1 j hjz hin hq with r|⟨r,_⟩
     .unfold AZ at r
      simp only[aB,rE]at r
      exact hna ⟨j,hjz,r.2,hjl⟩
     .have:=hah z.1 j hin hil r hjz
      rw[hjl]at this;cases this) hNτ k2 k3 hop
   rw[<- aU,<- e2,k1]at hstep
   have hl2:(z1.map (·.2)++z.2::(z2.map (·.2)++w0.pd)).Pairwise λa b=>∀g,a.e.g=some g->b.e.g≠some g:=by
    have:=hl
    simp only[aU,bg,aZ,Af]at this
    exact this
   have hI':Inv Gl F own B (w0.mD (z1.map (·.2)++z.2::(z2.map (·.2)++w0.pd)) hl2) τ act w:=by
    have e:(z1++z::z2).map (·.2)++w0.pd=z1.map (·.2)++z.2::(z2.map (·.2)++w0.pd):=by simp
    have e':w0.mD ((z1++z::z2).map (·.2)++w0.pd) hl=w0.mD (z1.map (·.2)++z.2::(z2.map (·.2)++w0.pd)) hl2:=by
     unfold W0.mD
     congr 1
    rw[<- e'];exact hI
   have hl3:(z1.map (·.2)++(z2.map (·.2)++w0.pd)).Pairwise λa b=>∀g,a.e.g=some g->b.e.g≠some g :=
    hl2.sublist ((List.Sublist.refl _).append (List.sublist_cons_self _ _))
   have hcl:=claim (hl':=hl3) hI' k4 k5
   have hl4:((z1++z2).map (·.2)++w0.pd).Pairwise λa b=>∀g,a.e.g=some g->b.e.g≠some g:=by
    simpa only[aU,aZ]using hl3
   have hcl':Inv Gl F (own++[z.2.e]) B (w0.mD ((z1++z2).map (·.2)++w0.pd) hl4) (St.put ⟨τ.t,τ.h++[z.2.ob]⟩ (some d) (v.at τ.h.length)) act w:=by
    have e':w0.mD ((z1++z2).map (·.2)++w0.pd) hl4=w0.mD (z1.map (·.2)++(z2.map (·.2)++w0.pd)) hl3:=by
     unfold W0.mD
     congr 1
     simp
    rw[e'];exact hcl
   have hin2:∀y∈z1++z2,y∈z1++z::z2:=λy hy=>by
    rcases aG.1 hy with s|s
    .exact aG.2 (.inl s)
    .exact aG.2 (.inr (bG _ s))
   refine ih (z1++z2) _ _ hl4 (by simp at hlen ⊢;omega) ?_ (λa ha b hb=>hap a (hin2 a ha) b (hin2 b hb)) (λy hy=>?_) hstep hcl'
   .refine List.Nodup.sublist ?_ hnd
    simp only[aU,bg]
    exact(List.Sublist.refl _).append (List.sublist_cons_self _ _)
   .obtain⟨y1,y2,y3⟩:=hz y (hin2 y hy)
    refine⟨y1,y2,y3.put λs hs=>?_⟩
    cases hs
    have hne:=b2G y hy
    have hlt:z.1<y.1:=by have:=hmin y (hin2 y hy);omega
    exact(hap z hzm y (hin2 y hy) hlt).1 d k1
theorem Qn{lm:Bool}{ops:Array Oper}{L:List (Nat×Ins)}(hl:L.length=ops.size)(hc:∀(j:Nat) (o:Oper),ops[j]?=some o->∃p,L[j]?=some p/\jN P lm ops o=some p.2)(hd:zu ops L=true)(hN:N<=w0.N){Q:Exit->Act->World->Prop}{K:St->Prop}(hQ:∀a w,lY Gl B w0 K a w->Q .normal a w)
  (ha:fZ P Gl N U K L σ) (hI:Inv Gl F own B w0 σ act w):wpAny P .any ops Q ops.size (Array.replicate ops.size false) act w:=by
 obtain⟨d1,d2,d3,dm⟩:=Qp hd
 generalize hn:ops.size=n at *
 have nJ:∀i,i<n->∃o p,ops[i]?=some o/\L[i]?=some p/\jN P lm ops o=some p.2/\L.getD i default=p/\okM p:=λi hi=>by
  have ho:ops[i]?=some (ops[i]'(by omega)):=aF (by omega)
  obtain⟨ins,e1,e2⟩:=hc i _ ho
  exact⟨_,ins,ho,e1,e2,by simp[List.getD,e1],dm ins (bP e1)⟩
 have hok:∀i,i<n->okM (L.getD i default):=λi hi=>by
  obtain⟨_,p,_,_,_,e,h⟩:=nJ i hi
  rw[e];exact h
 have ahead:∀(S:Nat->Bool),(∀i,i<n->S i=true->∀d∈direct ops i,S d=true)->∀i j,i<n->(∀d∈direct ops i,S d=true)->tb (Region.before ops) i j=true->j<i->S j=true:=by
  intro S hcl i
  induction i using Nat.strongRecOn with
  |_ i ih =>
   intro j hi oP ht hji
   rcases d2 i j hji hi ht with q|⟨d,hdm,r,q⟩
   .exact oP j q
   .have hdi:=d1 i d hi hdm
    exact ih d hdi j (by omega) (hcl d (by omega) (oP d hdm)) q r
 have mem_ready:∀(listed:Array Bool) (i:Nat),listed.size=n->i∈Region.ready .any ops listed->i<n/\listed.getD i false=false/\∀d∈direct ops i,listed.getD d false=true:=by
  intro listed i hsz hi
  unfold Region.ready at hi
  rw[gL,bL,hn]at hi
  obtain⟨h1,h2⟩:=hi
  rw[aB]at h2
  have e0:listed.getD i false=listed.getD i true:=by
   have:i<listed.size:=by omega
   simp[Array.getD,this]
  refine⟨h1,by rw[e0];simpa using h2.1,λd hd=>?_⟩
  obtain⟨o,ins,ho,_⟩:=nJ i h1
  have h3:=h2.2
  rw[ho]at h3
  simp only[bq,gF]at h3
  unfold direct at hd
  rw[ho]at hd
  simp only at hd
  obtain⟨e,he,hq⟩:=nk.1 hd
  have:=fD.1 h3 e (by simpa using he)
  split at hq
  .rename_i hb
   cases hq
   simpa[hb]using this
  .cases hq
 have yh:∀(listed:Array Bool) (i:Nat),listed.size=n->i<n->listed.getD i false=false->(∀j,j<i->listed.getD j false=true)->i∈Region.ready .any ops listed:=by
  intro listed i hsz hi h1 h2
  unfold Region.ready
  rw[gL,bL,hn]
  refine⟨hi,?_⟩
  have e0:listed.getD i false=listed.getD i true:=by
   have:i<listed.size:=by omega
   simp[Array.getD,this]
  rw[aB]
  refine⟨by rw[<- e0,h1];rfl,?_⟩
  obtain⟨o,ins,ho,_⟩:=nJ i hi
  rw[ho]
  simp only[bq,gF]
  refine fD.2 λe he=>?_
  cases hb:Region.binds .any e with
  |false=>rfl
  |true =>
   have hd:e.on∈direct ops i:=by
    unfold direct
    rw[ho]
    exact nk.2 ⟨e,by simpa using he,by simp[hb]⟩
   have:=h2 e.on (d1 i e.on hi hd)
   simpa using this
 have main:∀ (fuel:Nat) (listed:Array Bool) (zs:List (Nat × PdE)) (τ:St) (F:Addr->Option Value) (own:List Ent) (act:Act) (w:World) (hpl:(zs.map (·.2) ++ w0.pd).Pairwise fun a b=>∀ g,a.e.g=some g->b.e.g ≠ some g),listed.size=n->(∀ i,i < n->listed.getD i false=true->∀ d ∈ direct ops i,listed.getD d false=true) ->
   ((List.range n).countP λi=>!listed.getD i false)=fuel->(zs.map (·.1)).Nodup->(∀z∈zs,∀y∈zs,z.1<y.1->Apart (L.getD z.1 default) (L.getD y.1 default))->(∀z∈zs,z.1<n/\listed.getD z.1 false=true/\Kz Gl L τ z.1 z.2)->
   fZ P Gl N U K (((List.range n).filter (lefts listed zs)).map λi=>L.getD i default) τ->
   Inv Gl F own B (w0.mD (zs.map (·.2)++w0.pd) hpl) τ act w->wpAny P .any ops Q fuel listed act w:=by
  intro fuel
  induction fuel with
  |zero =>
   intro listed zs τ F own act w hpl hsz hcl hcnt hnd hap hz hop hI
   have hall:∀i,i<n->listed.getD i false=true:=λi hi=>by
    have:=wQ.1 hcnt i (bL.2 hi)
    simpa using this
   have hah:∀i j,i<n->listed.getD i false=true->tb (Region.before ops) i j=true->j<i->listed.getD j false=true:=λi j hi _ _ hj=>hall j (by omega)
   obtain⟨zs',τ',own',hl',g1,g2,g3,g4,g5,g6⟩:=greedy d3 hok hah hN zs.length zs τ own hpl rfl hnd hap hz hop hI
   have hnil:zs'=[]:=by
    cases zs' with
    |nil=>rfl
    |cons z zs' =>
     obtain⟨a,h1,_,h3⟩:=g6 z (by simp)
     have:=hall a (by have:=(g3 z (by simp)).1;omega)
     rw[h3]at this;cases this
   subst hnil
   refine⟨?_,hQ act w ⟨F,own',τ',g5,?_⟩⟩
   .apply lZ.2
    intro i hi
    obtain⟨q1,q2,_⟩:=mem_ready listed i hsz hi
    rw[hall i q1]at q2
    cases q2
   .have:(List.range n).filter (lefts listed [])=[]:=List.filter_eq_nil_iff.2 λi hi=>by simp[lefts,hall i (bL.1 hi)]
    rw[this]at g4;exact g4
  |succ fuel ih =>
   intro listed zs τ F own act w hpl hsz hcl hcnt hnd hap hz hop hI
   refine⟨λhnil=>?_,λi hi=>?_⟩
   .obtain⟨i,h1,h2,h3⟩:=Eu (n:=n) (S:=λi=>listed.getD i false) (by omega)
    have:=yh listed i hsz h1 h2 h3
    rw[hnil]at this
    simp at this
   .obtain⟨hin,hiS,oP⟩:=mem_ready listed i hsz hi
    have hah:∀i j,i<n->listed.getD i false=true->tb (Region.before ops) i j=true->j<i->listed.getD j false=true:=λi j hi hli ht hj=>ahead (λk=>listed.getD k false) hcl i j hi (hcl i hi hli) ht hj
    have b2Q:∀j,tb (Region.before ops) i j=true->j<i->listed.getD j false=true:=λj ht hj=>ahead (λk=>listed.getD k false) hcl i j hin oP ht hj
    obtain⟨zs',τ',own',hl',g1,g2,g3,g4,g5,g6⟩:=greedy d3 hok hah hN zs.length zs τ own hpl rfl hnd hap hz hop hI
    clear hop hI hz hap hnd
    obtain⟨o,p,ho,hli,hci,hgd,hmp⟩:=nJ i hin
    have hset:∀j,(listed.setIfInBounds i true).getD j false=if j=i then true else listed.getD j false:=λj=>by
     by_cases hji:j=i
     .subst hji
      have:j<listed.size:=by omega
      simp[Array.getD,this]
     .rw[if_neg hji]
      simp only[jl]
      rw[oC (λe=>hji e.symm)]
    have a2o:∀z∈zs',z.1≠i:=λz hz e=>by
     have:=(g3 z hz).2.1
     rw[e,hiS]at this;cases this
    have a4z:((List.range n).countP λj=>!(listed.setIfInBounds i true).getD j false)=fuel:=by
     have:=count_set (n:=n) (S:=λj=>listed.getD j false) (S':=λj=>(listed.setIfInBounds i true).getD j false) hin hiS (by simp only[hset];simp) (λj hj=>by simp only[hset,if_neg hj])
     omega
    have hcl':∀j,j<n->(listed.setIfInBounds i true).getD j false=true->∀d∈direct ops j,(listed.setIfInBounds i true).getD d false=true:=λj hj hS d hdj=>by
     rw[hset]at hS ⊢
     split
     .rfl
     .split at hS
      .rename_i hji;subst hji;exact oP d hdj
      .exact hcl j hj hS d hdj
    obtain⟨pre,post,e1,e2,e3⟩:=zW (p:=lefts listed zs') (q:=lefts (listed.setIfInBounds i true) zs') (i:=i) (List.range n) uS (bL.2 hin) (nP.2 (.inl hiS)) (λj=>by
     unfold lefts
     rw[hset]
     split
     .rename_i hji
      subst hji
      have:(zs'.any λz=>z.1==j)=false:=by
       rw[qm]
       intro z hz
       simpa using a2o z hz
      simp[this]
     .rfl)
    have hpre:∀j∈pre,j<n/\j<i/\(listed.getD j false=false\/∃z∈zs',z.1=j):=λj hj=>by
     have:j∈(List.range n).filter (lefts listed zs'):=by rw[e1];simp[hj]
     rw[gL,bL]at this
     exact⟨this.1,e3 j hj,nP.1 this.2⟩
    have hcomp:∀j,j<n->∃(k:Nat) (o:Oper),ops[k]?=some o/\jN P lm ops o=some (L.getD j default).2:=λj hj=>by
     obtain⟨oj,pj,hoj,hlj,hcj,hgj,hmj⟩:=nJ j hj
     exact⟨j,oj,hoj,by rw[hgj];exact hcj⟩
    have hcase:∀j∈pre,jE (L.getD j default) (L.getD i default)=false\/AZ (L.getD j default) (L.getD i default)=true:=λj hj=>by
     obtain⟨hjn,hji,hjl⟩:=hpre j hj
     cases hq:jE (L.getD j default) (L.getD i default) with
     |false=>exact .inl rfl
     |true =>
      rcases d3 i j hji hin hq with r|⟨r,r2⟩
      .exact .inr r
      .exfalso
       rcases hjl with s|⟨z,hz,s⟩
       .have:=b2Q j r hji
        rw[s]at this;cases this
       .subst s
        obtain⟨a,h1,h2,h3⟩:=g6 z hz
        have:=b2Q a (r2 (g3 z hz).2.2.1 a h1 h2) (by omega)
        rw[h3]at this;cases this
    have Vd:∀z∈zs',Apart (L.getD i default) (L.getD z.1 default)/\Apart (L.getD z.1 default) (L.getD i default):=λz hz=>by
     have sym:∀a b:Nat×Ins,Apart a b->(∀d,a.2.dst=some d->d∉a.2.looks)->Apart b a\/True:=λ_ _ _ _=>.inr trivial
     obtain⟨hzn,hzl,hzp⟩:=g3 z hz
     rcases uM z.1 i with hlt|heq|hgt
     ·have hm:z.1 ∈ pre:=by
       have:z.1∈(List.range n).filter (lefts listed zs'):=gL.2 ⟨bL.2 hzn,nP.2 (.inr ⟨z,hz,rfl⟩)⟩
       rw[e1]at this
       rcases aG.1 this with s|s
       .exact s
       .exfalso
        have hs:=List.pairwise_lt_range.sublist (List.filter_sublist (p:=lefts listed zs') (l:=List.range n))
        rw[e1,List.pairwise_append]at hs
        rcases bD.1 s with s|s
        .omega
        .have:=(tJ.1 hs.2.1).1 z.1 s;omega
      have CV:Apart (L.getD z.1 default) (L.getD i default):=by
       rcases hcase z.1 hm with s|s
       .exact yN s
       .unfold AZ at s;simp only[aB]at s;exact apart_spec s.1.2
      refine⟨⟨λd hd=>⟨λq=>?_,λq=>?_⟩,λd hd=>(CV.1 d hd).1⟩,CV⟩
      .exact CV.2 d hd q
      .exact(CV.1 d q).2 hd
     .exact absurd heq (a2o z hz)
     ·have CV:Apart (L.getD i default) (L.getD z.1 default):=by
       cases hq:jE (L.getD i default) (L.getD z.1 default) with
       |false=>exact yN hq
       |true =>
        rcases d3 z.1 i hgt hzn hq with s|⟨s,_⟩
        .unfold AZ at s;simp only[aB]at s;exact apart_spec s.1.2
        .have:=hah z.1 i hzn hzl s hgt
         rw[hiS]at this;cases this
      exact⟨CV,⟨λd hd=>⟨λq=>CV.2 d hd q,λq=>(CV.1 d q).2 hd⟩,λd hd=>(CV.1 d hd).1⟩⟩
    by_cases hgo:∀j∈pre,jE (L.getD j default) (L.getD i default)=false
    .rw[e1,aU,bg,hgd]at g4
     refine wpOp_mono ?_ (a2v (lm:=lm) hmp ho hci (pre.map λi=>L.getD i default) (λa ha=>?_) g5 g4)
     .rintro a1 w1 ⟨F1,dO,ρ,hI1,hk,v1,h1,rfl⟩
      refine ih (listed.setIfInBounds i true) zs' _ F1 dO a1 w1 hl' (by simp[hsz]) hcl' a4z g1 g2 (λz hz=>?_) (by rw[e2,aU];exact hk) hI1
      obtain⟨q1,q2,q3⟩:=g3 z hz
      refine⟨q1,by rw[hset];split<;>first|rfl|exact q2,q3.put λs hs=>?_⟩
      have:=(Vd z hz).1
      rw[hgd]at this
      exact this.1 s hs
     .obtain⟨j,hj,rfl⟩:=bX.1 ha
      obtain⟨hjn,hji,_⟩:=hpre j hj
      refine⟨hok j hjn,?_,hcomp j hjn⟩
      rw[<- hgd];exact hgo j hj
    ·obtain ⟨j0,hj0,hc0⟩:∃ j ∈ pre,jE (L.getD j default) (L.getD i default) ≠ false:=by
      apply lJ
      intro hno
      exact hgo λj hj=>lJ λq=>hno ⟨j,hj,q⟩
     have a2n:AZ (L.getD j0 default) (L.getD i default)=true:=(hcase j0 hj0).resolve_left hc0
     have hmay:xZ p=true:=by
      unfold AZ at a2n
      simp only[aB]at a2n
      rw[<- hgd];exact a2n.1.1
     obtain⟨b1,b2,b3,b4,d,b5,b6⟩:=Cw hmay
     have Vf:∀a∈pre.map λi=>L.getD i default,okM a/\Apart a p/\∃(k:Nat) (o:Oper),ops[k]?=some o/\jN P lm ops o=some a.2:=λa ha=>by
      obtain⟨j,hj,rfl⟩:=bX.1 ha
      obtain⟨hjn,hji,_⟩:=hpre j hj
      refine⟨hok j hjn,?_,hcomp j hjn⟩
      rw[<- hgd]
      rcases hcase j hj with s|s
      .exact yN s
      .unfold AZ at s;simp only[aB]at s;exact apart_spec s.1.2
     have g4':=g4
     rw[e1,aU,bg,hgd]at g4'
     obtain⟨pr,v,ob,hmk,hpr⟩:=a2O hmay _ Vf τ' F own' act w g5 g4'
     have hst:fI P Gl true τ' p.2 λρ=>ρ=St.put ⟨τ'.t,τ'.h++[ob]⟩ (some d) (v.at τ'.h.length):=by
      rw[Dh b4]
      have e:w9 Gl τ' p.2=some (pr,v.at τ'.h.length,τ'.h++[ob]):=by
       unfold w9
       rw[b2]
       exact P5 hmk
      exact⟨pr,v.at τ'.h.length,τ'.h++[ob],e,hpr,by rw[b5]⟩
     refine wpOp_mono ?_ (nI g5 hci hst Q ho)
     rintro a1 w1 ⟨F1,dO,ρ,hI1,rfl⟩
     obtain⟨c0p,c0o⟩:=Yt hmk
     obtain⟨x,q,hpl',hqo,hI2,hR2⟩:=demote g5 c0p c0o hI1
     have hop2:=a1c hmp b5 b6 (.v x) _ (λa ha=>⟨(Vf a ha).1,(Vf a ha).2.1⟩) τ' g4'
     have hl3:(((i,q)::zs').map (·.2)++w0.pd).Pairwise λa b=>∀g,a.e.g=some g->b.e.g≠some g:=hpl'
     refine ih (listed.setIfInBounds i true) ((i,q)::zs') (τ'.put (some d) (.v x)) F1 (dO.take τ'.h.length) a1 w1 hl3 (by simp[hsz]) hcl' a4z ?_ ?_ ?_ ?_ hI2
     .simp only[bg,kM]
      refine⟨λq=>?_,g1⟩
      obtain⟨z,hz,e⟩:=bX.1 q
      exact a2o z hz e
     .intro a ha b hb hab
      rcases bD.1 ha with rfl|ha<;>rcases bD.1 hb with rfl|hb
      .omega
      .exact(Vd b hb).1
      .exact(Vd a ha).2
      .exact g2 a ha b hb hab
     .intro z hz
      rcases bD.1 hz with rfl|hz
      .refine⟨hin,by rw[hset,if_pos rfl],by rw[hgd];exact hmay,d,v,pr,x,by rw[hgd];exact b5,?_,hpr,λa ha=>?_,λhd=>hR2 (by simpa[St.put]using hd)⟩
       .rw[hgd,hqo,<- hmk]
        refine Ee λs hs=>?_
        have:d≠s:=λq=>b6 (by rw[q];exact aG.2 (.inl hs))
        simp only[St.put,List.getD,aC this]
       .have ha':(τ'.t.set d (.v x))[d]?=some a:=ha
        rw[dh]at ha'
        simp only[if_true]at ha'
        split at ha'
        .cases ha';rfl
        .cases ha'
      .obtain⟨q1,q2,q3⟩:=g3 z hz
       refine⟨q1,by rw[hset];split<;>first|rfl|exact q2,?_⟩
       have:=q3.put (dst:=some d) (v':=.v x) (h1:=τ'.h) λs hs=>by
        cases hs
        have:=(Vd z hz).1
        rw[hgd]at this
        exact this.1 d b5
       exact this
     ·have e4:(List.range n).filter (lefts (listed.setIfInBounds i true) ((i,q) :: zs'))=(List.range n).filter (lefts listed zs'):=by
       apply List.filter_congr
       intro j _
       unfold lefts
       rw[hset]
       split
       .rename_i hji;subst hji;simp[hiS]
       .rename_i hji
        have:(i==j)=false:=by simpa using λq=>hji q.symm
        simp[this]
      rw[e4,e1,aU,bg,hgd]
      exact hop2
 have hrep:∀i,(Array.replicate n false).getD i false=false:=λi=>by
  simp only[jl,tL]
  split<;>rfl
 refine main n (Array.replicate n false) [] σ F own act w w0.pdn (by simp) (λi _ h=>by rw[hrep]at h;cases h) ?_ uq (λz hz=>by cases hz) (λz hz=>by cases hz) ?_ hI
 .have:((List.range n).countP λi=>!(Array.replicate n false).getD i false)=(List.range n).length:=vR.2 λi _=>by rw[hrep];rfl
  rw[this];simp
 .have e1:(List.range n).filter (lefts (Array.replicate n false) [])=List.range n:=List.filter_eq_self.2 λi _=>by simp[lefts,hrep]
  have e2:(List.range n).map (λi=>L.getD i default)=L:=by
   apply gX
   intro j
   rw[aT]
   rcases bI j n with q|q
   .obtain⟨_,p,_,e,_,e',_⟩:=nJ j q
    rw[wP q,e];simp only[bq,e']
   .rw[aX (by simpa using q),aX (by omega)];rfl
  rw[e1,e2];exact ha
theorem Inv.reN(h:Inv Gl F own B w0 σ act w){n:Nat}(hn:n<=σ.h.length)(hf:∀q∈w0.fr,q.1<=n):Inv Gl F own B ⟨w0.w,w0.F,n,w0.fr,hf,w0.pd,w0.pdn,w0.df⟩ σ act w :=
  { tl:=h.tl,tr:=h.tr,defers:=h.defers,sub:=h.sub,hl:=h.hl,objs:=h.objs,inj:=h.inj,below:=h.below,base:=h.base,gl:=h.gl,gw:=h.gw,room:=h.room,ext:=h.ext,jI:=h.jI,nl:=hn,fr:=h.fr,pd:=h.pd }
theorem Inv.ofN{n:Nat}{hf:∀q∈w0.fr,q.1<=n}(h:Inv Gl F own B ⟨w0.w,w0.F,n,w0.fr,hf,w0.pd,w0.pdn,w0.df⟩ σ act w)(hn:w0.N<=n):Inv Gl F own B w0 σ act w :=
  { tl:=h.tl,tr:=h.tr,defers:=h.defers,sub:=h.sub,hl:=h.hl,objs:=h.objs,inj:=h.inj,below:=h.below,base:=h.base,gl:=h.gl,gw:=h.gw,room:=h.room,ext:=h.ext,jI:=h.jI,nl:=bF hn h.nl,fr:=h.fr,pd:=h.pd }
end
def xH(n:Nat):AV->AV
 |.row id G sz off len=>if id<n then .row id G sz off len else .any
 |.ptr id G i off=>if id<n then .ptr id G i off else .any
 |.agg _=>.any
 |.tup _=>.any
 |a=>a
def vC(n:Nat):AV->AV
 |.agg cs=>.agg (cs.map (xH n))
 |a=>xH n a
def JW(n:Nat):AV->AV
 |.tup vs=>.tup (vs.map (vC n))
 |a=>vC n a
def JY(n:Nat)(o:aH):aH:=if o.pr then o else{ o with es:=o.es.map (vC n) }
def clr(dead:List Nat)(t:List AV):List AV:=dead.foldl (λt i=>t.set i .any) t
def norm(dead:List Nat)(n:Nat)(σ:St):St:=⟨(clr dead σ.t).map (JW n),(σ.h.take n).map (JY n)⟩
def ghost(σ:St)(g:Nat×Nat×Nat):St :=
 match σ.t[g.1]? with
 |some (.v (.slice none 0 0))=>if 0<g.2.2 then⟨σ.t.set g.1 (.row σ.h.length 0 g.2.2 0 0),σ.h++[⟨g.2.1,g.2.2,0,true,[]⟩]⟩ else σ
 |_=>σ
def awp(P:Program)(Gl:Nat->Option (List AV))(N:Nat):C->(Exit->St->Prop)->St->Prop
 |.skip,Q,σ=>Q .normal σ
 |.ops d l,Q,σ=>tH P Gl d (Q .normal) l σ
 |.pO l,Q,σ=>∃U,fZ P Gl σ.h.length U (Q .normal) l σ
 |.seq a b,Q,σ=>awp P Gl N a (λe τ=>match e with|.normal=>awp P Gl N b Q τ|e=>Q e τ) σ
 |.cond c a b,Q,σ=>match σ.val Gl c with
  |.v (.bool t)=>if t=true then awp P Gl N a Q σ else awp P Gl N b Q σ
  |_=>False
 |.block id b,Q,σ=>awp P Gl N b (λe τ=>match e with|.exit i=>if i=id then Q .normal τ else Q (.exit i) τ|e=>Q e τ) σ
 | .loop b,Q,σ=>∃ (dead:List Nat) (gh:List (Nat × Nat × Nat)) (n:Nat) (J:St->Prop) (μ:St->Nat),N<=n/\J (norm dead n (gh.foldl ghost σ)) /\
   ∀τ,J τ->awp P Gl N b (λe ρ=>match e with|.normal=>J (norm dead n ρ)/\μ (norm dead n ρ)<μ τ|e=>Q e ρ) τ
 |.exit id,Q,σ=>Q (.exit id) σ
 |.ret,Q,σ=>Q .ret σ
def cL(P:Program)(lm:Bool)(ops:Array Oper):List Oper->Option (List Ins)
 |[]=>some []
 |o::r=>match jN P lm ops o,cL P lm ops r with
  |some i,some l=>some (i::l)
  |_,_=>none
def ownRd(l:List (Nat×Ins)):Bool:=l.any λp=>p.1==1&&(match p.2.i with
 |.b2s (.t d)=>l.any λq=>q.2.dst==some d&&q.2.i.cls==2
 |_=>false)
def cC(P:Program)(hc:List Nat):Code->Option C
 |.skip=>some .skip
 |.region _ ops false=>(cL P false ops ops.toList).map (.ops false)
 |.region _ ops true=>match cL P false ops ops.toList with
  |some l=>if zZ ops l&&!(l.any λi=>V9 hc i.i) then some (.ops true l) else if(zq ops (marks hc ops l)||zu ops (marks hc ops l))&&!(ownRd (marks hc ops l)) then some (.pO (marks hc ops l)) else match cL P true ops ops.toList with
   |some l'=>if zZ ops l'&&!(l'.any λi=>V9 hc i.i) then some (.ops true l') else if zq ops (marks hc ops l')||zu ops (marks hc ops l') then some (.pO (marks hc ops l')) else if zZ ops l' then some (.ops true l') else none
   |none=>none
  |none=>none
 |.seq a b=>match cC P hc a,cC P hc b with
  |some x,some y=>some (.seq x y)
  |_,_=>none
 |.cond c a b=>match cC P hc a,cC P hc b with
  |some x,some y=>some (.cond (bH c) x y)
  |_,_=>none
 |.block id b=>(cC P hc b).map (.block id)
 |.loop b=>(cC P hc b).map .loop
 |.exit id=>some (.exit id)
 |.ret=>some .ret
 |.scope b=>cC P hc b
 |.label _=>some .skip
 |_=>none
section
variable{P:Program}{Gl:Nat->Option (List AV)}{F:Addr->Option Value}{own:List Ent}{B:Nat}{w0:W0}{σ:St}{act:Act}{w:World}
theorem R.xH{n:Nat}{x:Value}{a:AV}(h:R F own x a):R F (own.take n) x (xH n a):=by
 cases a with
 |any=>exact .pure (.any _)
 |v y=>have:=h.dK;subst this;exact .pure (.v _)
 |list sz xs=>exact .pure h.jG
 |iF cs=>exact .pure h.pU
 |row id G sz off len =>
  obtain⟨e,he,hG,hs,hx⟩:=h.ny
  simp only[Abs.xH]
  split
  .rename_i hid;exact .row _ _ _ _ _ _ e (by rw[bU,if_pos hid];exact he) hG hs hx (h.vZ he)
  .exact .pure (.any _)
 |ptr id G i off =>
  obtain⟨e,he,hG,hs,hx⟩:=h.nR
  simp only[Abs.xH]
  split
  .rename_i hid;exact .ptr _ _ _ _ _ e (by rw[bU,if_pos hid];exact he) hG hs hx (h.uN he)
  .exact .pure (.any _)
 |agg cs=>exact .pure (.any _)
 |tup cs=>exact .pure (.any _)
theorem R.vC{n:Nat}{x:Value}{a:AV}(h:R F own x a):R F (own.take n) x (vC n a):=by
 by_cases ha:∃cs,a=.agg cs
 .obtain⟨cs,rfl⟩:=ha
  obtain⟨xs,rfl,hl,h1,hR⟩:=h.iX
  refine .agg xs _ (by simp[hl]) h1 λj x a p q=>?_
  rw[aT]at q
  cases hc:cs[j]? with
  |none=>rw[hc]at q;cases q
  |some c=>rw[hc]at q;cases q;exact(hR j x c p hc).xH
 .have:Abs.vC n a=Abs.xH n a:=by cases a<;>first|rfl|exact absurd ⟨_,rfl⟩ ha
  rw[this];exact h.xH
theorem R.JW{n:Nat}{x:Value}{a:AV}(h:R F own x a):R F (own.take n) x (JW n a):=by
 by_cases ha:∃cs,a=.tup cs
 .obtain⟨cs,rfl⟩:=ha
  obtain⟨xs,rfl,hl,hR⟩:=h.tQ
  refine .tup xs _ (by simp[hl]) λj x a p q=>?_
  rw[aT]at q
  cases hc:cs[j]? with
  |none=>rw[hc]at q;cases q
  |some c=>rw[hc]at q;cases q;exact(hR j x c p hc).vC
 .have:Abs.JW n a=Abs.vC n a:=by cases a<;>first|rfl|exact absurd ⟨_,rfl⟩ ha
  rw[this];exact h.vC
theorem a6W(dead:List Nat):∀(t:List AV) (i:Nat) (a:AV),(clr dead t)[i]?=some a->a=.any\/t[i]?=some a:=by
 induction dead with
 |nil=>intro t i a h;exact .inr h
 |cons d ds ih =>
  intro t i a h
  rcases ih (t.set d .any) i a h with q|q
  .exact .inl q
  .rw[dh]at q
   split at q
   .split at q
    .cases q;exact .inl rfl
    .cases q
   .exact .inr q
theorem a6V(dead:List Nat):∀t:List AV,(clr dead t).length=t.length:=by
 induction dead with
 |nil=>intro t;rfl
 |cons d ds ih=>intro t;show(clr ds (t.set d .any)).length=_;rw[ih];simp
theorem IV(n:Nat)(a:AV):(vC n a).cells=a.cells.map (xH n):=by
 cases a with
 |row id G sz off len=>by_cases h:id<n<;>simp[vC,xH,AV.cells,h]
 |ptr id G i off=>by_cases h:id<n<;>simp[vC,xH,AV.cells,h]
 |_=>rfl
theorem Inv.norm(h:Inv Gl F own B w0 σ act w)(dead:List Nat)(n:Nat)(hN:w0.N<=n):Inv Gl F (own.take n) B w0 (norm dead n σ) act w:=by
 have rQ:∀{id:Nat} {e:Ent},(own.take n)[id]?=some e->id<n/\own[id]?=some e:=fun{id e} q=>by
  rw[bU]at q
  split at q
  .exact⟨by assumption,q⟩
  .cases q
 refine{ tl:=?_,tr:=λi x a p q=>?_,defers:=h.defers,sub:=h.sub,hl:=?_,objs:=λid e o p q=>?_,inj:=λi j e e' g p q=>h.inj i j e e' g (rQ p).2 (rQ q).2,below:=h.below,base:=λid e g p=>h.base id e g (rQ p).2,gl:=h.gl,gw:=h.gw,room:=h.room,ext:=h.ext,jI:=h.jI,nl:=by have:=h.nl;simp[Abs.norm];omega,fr:=λq hq=>by rw[List.take_take,Nat.min_eq_left (bF (w0.hfr q hq) hN)];exact h.fr q hq,pd:=EJ.turn h.pd (λ_ _ _=>rfl) (λ_ _ _ q=>.inl q) λid e g p q=>.inl λr=>r id e (rQ p).2 q }
 .simp[Abs.norm,a6V,h.tl]
 .have q':((clr dead σ.t).map (JW n))[i]?=some a:=q
  rw[aT]at q'
  cases hc:(clr dead σ.t)[i]? with
  |none=>rw[hc]at q';cases q'
  |some c =>
   rw[hc]at q';cases q'
   rcases a6W dead σ.t i c hc with rfl|hc'
   .exact .pure (.any _)
   .exact(h.tr i x c p hc').JW
 .simp[Abs.norm,h.hl]
 .obtain⟨hid,he⟩:=rQ p
  have q':((σ.h.take n).map (JY n))[id]?=some o:=q
  rw[aT,bU,if_pos hid]at q'
  cases ho:σ.h[id]? with
  |none=>rw[ho]at q';cases q'
  |some ob =>
   rw[ho]at q';cases q'
   have hO:=h.objs id e ob he ho
   by_cases hpr:ob.pr=true
   .have:JY n ob=ob:=by simp[JY,hpr]
    rw[this]
    have hO:=hO
    obtain⟨k1,k2,k3,k4,k5,k6,k7,k8⟩:=hO
    refine⟨k1,k2,k3,k4,k5,k6,k7,?_⟩
    cases hg:e.g with
    |none=>rw[hg]at k8;exact k8
    |some g =>
     rw[hg]at k8
     obtain⟨cs,a1,a2,a3,a4⟩:=k8
     refine⟨cs,a1,a2,λi j x a r s=>?_,a4⟩
     obtain⟨y,b1,b2,b3⟩:=a3 i j x a r s
     refine⟨y,b1,b2,?_⟩
     unfold RC at b3 ⊢
     rw[if_pos hpr]at b3 ⊢
     exact b3
   .have e1:JY n ob={ ob with es:=ob.es.map (vC n) }:=by simp[JY,hpr]
    rw[e1]
    have hO:=hO
    obtain⟨k1,k2,k3,k4,k5,k6,k7,k8⟩:=hO
    have el:∀(i:Nat) (x:AV),(ob.es.map (vC n))[i]?=some x->∃z,ob.es[i]?=some z/\x=vC n z:=λi x q=>by
     rw[aT]at q
     cases hz:ob.es[i]? with
     |none=>rw[hz]at q;cases q
     |some z=>rw[hz]at q;cases q;exact⟨z,rfl,rfl⟩
    refine⟨by simp[k1],k2,k3,k4,⟨k5.1,by simpa using k5.2⟩,by simpa using k6,λi x q=>?_,?_⟩
    .obtain⟨z,hz,rfl⟩:=el i x q
     rw[IV,bA];exact k7 i z hz
    .cases hg:e.g with
     |none=>rw[hg]at k8;exact k8
     |some g =>
      rw[hg]at k8
      obtain⟨cs,a1,a2,a3,a4⟩:=k8
      obtain⟨fr,a1,af⟩:=a1
      refine⟨cs,⟨fr,a1,by rw[bA];exact af⟩,a2,λi j x a r s=>?_,a4⟩
      obtain⟨z,hz,rfl⟩:=el i x r
      rw[IV,aT]at s
      cases hc:z.cells[j]? with
      |none=>rw[hc]at s;cases s
      |some c =>
       rw[hc]at s;cases s
       obtain⟨y,b1,b2,b3⟩:=a3 i j z c hz hc
       refine⟨y,b1,b2,?_⟩
       unfold RC at b3 ⊢
       rw[if_neg hpr]at b3 ⊢
       exact b3.xH
theorem Inv.YW(h:Inv Gl F own B w0 σ act w)(g:Nat×Nat×Nat):∃own',Inv Gl F own' B w0 (ghost σ g) act w:=by
 unfold ghost
 split
 .rename_i hv
  split
  .rename_i hsz
   refine⟨own++[⟨none,0,g.2.2,0⟩],?_⟩
   have hI:=h.Ea g.2.1 g.2.2 true hsz
   have hlt:g.1<act.tmps.size:=by rw[h.tl];exact(aj.1 hv).1
   have hx:=(h.tr g.1 _ _ (aF hlt) hv).dK
   have hrow:R F (own++[⟨none,0,g.2.2,0⟩]) act.tmps[g.1] (.row σ.h.length 0 g.2.2 0 0):=by
    rw[hx,<- h.hl]
    exact .row _ _ _ _ _ _ _ pQ (by simp) ⟨_,_,rfl,by simp,λq=>by simp at q⟩ (λ_=>⟨rfl,by simp,λ_=>⟨_,dD _,by simp⟩⟩) (by first|omega|assumption|(simp;done)|(simp;omega)|(dsimp only;omega))
   have:=hI.put hrow (some g.1)
   have e:act.put (some g.1) act.tmps[g.1]=act:=by
    have hs:act.tmps.setIfInBounds g.1 act.tmps[g.1]=act.tmps:=by
     apply yG
     intro j
     rw[jc]
     split
     .rename_i hj
      subst hj
      rw[aF hlt]
     .rfl
    show({ act with tmps:=act.tmps.setIfInBounds g.1 act.tmps[g.1] }:Act)=act
    rw[hs]
   rw[e]at this
   exact this
  .exact⟨own,h⟩
 .exact⟨own,h⟩
theorem Inv.b2Z(gh:List (Nat×Nat×Nat)):∀{σ:St} {own:List Ent},Inv Gl F own B w0 σ act w->∃own',Inv Gl F own' B w0 (gh.foldl ghost σ) act w:=by
 induction gh with
 |nil=>intro σ own h;exact⟨own,h⟩
 |cons g gh ih=>intro σ own h;obtain⟨own',h'⟩:=h.YW g;exact ih h'
theorem Da{lm:Bool}{ops:Array Oper}:∀(os:List Oper) (l:List Ins),cL P lm ops os=some l->l.length=os.length/\∀(j:Nat) (o:Oper),os[j]?=some o->∃ins,l[j]?=some ins/\jN P lm ops o=some ins:=by
 intro os
 induction os with
 |nil=>intro l h;cases h;exact⟨rfl,λj o q=>by simp at q⟩
 |cons o os ih =>
  intro l h
  simp only[cL]at h
  split at h
  .rename_i i l' h1 h2
   cases h
   obtain⟨l1,l2⟩:=ih l' h2
   refine⟨by simp[l1],λj o' q=>?_⟩
   cases j with
   |zero=>simp at q;subst q;exact⟨i,rfl,h1⟩
   |succ j=>simp at q;obtain⟨ins,a,b⟩:=l2 j o' q;exact⟨ins,by simpa using a,b⟩
  .cases h
def NG(e:Exit):Prop:=∀l,e≠.goto l
theorem mY:NG .normal:=λl h=>by cases h
theorem Bz(i:Nat):NG (.exit i):=λl h=>by cases h
theorem Yp:NG .ret:=λl h=>by cases h
theorem mP(hm:P.follows .mixedOrders=true){hc0:List Nat}{N:Nat}(hN:w0.N=N):∀(code:Code) (c:C),cC P hc0 code=some c->∀(Q:Exit->St->Prop) (σ:St) (F:Addr->Option Value) (own:List Ent) (act:Act) (w:World),awp P Gl N c Q σ->Inv Gl F own B w0 σ act w->code.wp P (λe a w=>NG e/\lY Gl B w0 (Q e) a w) act w:=by
 intro code
 induction code with
 |skip=>intro c hc Q σ F own act w ha hI;cases hc;exact wp_skip ⟨mY,F,own,σ,hI,ha⟩
 |region id ops draw =>
  intro c hc Q σ F own act w ha hI
  cases draw with
  |false =>
   simp only[cC]at hc
   cases hl:cL P false ops ops.toList with
   |none=>rw[hl]at hc;cases hc
   |some l =>
    rw[hl]at hc;cases hc
    obtain⟨l1,l2⟩:=Da _ _ hl
    have hlen:l.length=ops.size:=by simpa using l1
    refine wp_region ?_
    have:=KR (P:=P) (lm:=false) (d:=false) (Q:=λe a w=>NG e/\lY Gl B w0 (Q e) a w) (K:=Q .normal) (λa w h=>⟨mY,h⟩) l 0 (λj hj=>by
     have hj':j<ops.size:=by rw[dD]at hj;exact hj
     have ho:ops[j]?=some ops[j]:=aF hj'
     obtain⟨ins,a1,a2⟩:=l2 j ops[j] (by rw[Array.getElem?_toList];exact ho)
     exact⟨ins,ops[j],a1,by rw[dD];exact ho,a2⟩) (by omega) σ F own act w ha hI
    rw[hlen]at this
    rw[rH];exact this
  |true =>
   simp only[cC]at hc
   have key:∀lm l,cL P lm ops ops.toList=some l->zZ ops l=true->c=.ops true l->(Code.region id ops true).wp P (λe a w=>NG e/\lY Gl B w0 (Q e) a w) act w:=by
    intro lm l hl hd hcc
    subst hcc
    obtain⟨l1,l2⟩:=Da _ _ hl
    have hlen:l.length=ops.size:=by simpa using l1
    refine wp_region_any hm ?_
    exact R7 (lm:=lm) hlen (λj o ho=>l2 j o (by simpa using ho)) hd (λa w h=>⟨mY,h⟩) ha (hI.same rfl rfl rfl rfl)
   have b1Z:∀lm l,cL P lm ops ops.toList=some l->(zq ops (marks hc0 ops l)||zu ops (marks hc0 ops l))=true->c=.pO (marks hc0 ops l)->(Code.region id ops true).wp P (λe a w=>NG e/\lY Gl B w0 (Q e) a w) act w:=by
    intro lm l hl hd hcc
    subst hcc
    obtain⟨U,ha⟩:=ha
    obtain⟨l1,l2⟩:=Da _ _ hl
    have hlen:(marks hc0 ops l).length=ops.size:=by rw[Yy];simpa using l1
    refine wp_region_any hm ?_
    have hcomp:∀(j:Nat) (o:Oper),ops[j]?=some o->∃p,(marks hc0 ops l)[j]?=some p/\jN P lm ops o=some p.2:=λj o ho=>by
     obtain⟨ins,a1,a2⟩:=l2 j o (by simpa using ho)
     obtain⟨m,hm⟩:=a1Y (hc:=hc0) (ops:=ops) a1
     exact⟨_,hm,a2⟩
    have hI':=hI.same (w':=w.drew) rfl rfl rfl rfl
    rw[iI]at hd
    rcases hd with hd|hd
    .exact Qm (lm:=lm) hlen hcomp hd (λa w h=>⟨mY,h⟩) ha hI'
    .have hf:∀q∈w0.fr,q.1<=σ.h.length:=λq hq=>bF (w0.hfr q hq) hI.nl
     exact Qn (lm:=lm) (w0:=⟨w0.w,w0.F,σ.h.length,w0.fr,hf,w0.pd,w0.pdn,w0.df⟩) hlen hcomp hd (aS _) (λa w h=>⟨mY,by obtain⟨F,own,τ,h1,h2⟩:=h;exact⟨F,own,τ,h1.ofN hI.nl,h2⟩⟩) ha (hI'.reN (aS _) hf)
   cases hl:cL P false ops ops.toList with
   |none=>rw[hl]at hc;cases hc
   |some l =>
    rw[hl]at hc
    simp only at hc
    split at hc
    .rename_i hd;cases hc;exact key false l hl (by rw[aB]at hd;exact hd.1) rfl
    .split at hc
     .rename_i hd;cases hc;exact b1Z false l hl (by rw[aB]at hd;exact hd.1) rfl
     .cases hl':cL P true ops ops.toList with
      |none=>rw[hl']at hc;cases hc
      |some l' =>
       rw[hl']at hc
       simp only at hc
       split at hc
       .rename_i hd;cases hc;exact key true l' hl' (by rw[aB]at hd;exact hd.1) rfl
       .split at hc
        .rename_i hd;cases hc;exact b1Z true l' hl' hd rfl
        .split at hc
         .rename_i hd;cases hc;exact key true l' hl' hd rfl
         .cases hc
 |seq a b iha ihb =>
  intro c hc Q σ F own act w ha hI
  simp only[cC]at hc
  split at hc
  .rename_i x y hx hy
   cases hc
   refine wp_seq (wp_mono (iha x hx _ σ F own act w ha hI) ?_)
   rintro e a1 w1 ⟨ng,F1,dO,τ,hI1,hK⟩
   cases e with
   |normal=>exact ihb y hy Q τ F1 dO a1 w1 hK hI1
   |_=>exact⟨ng,F1,dO,τ,hI1,hK⟩
  .cases hc
 |cond c0 a b iha ihb =>
  intro c hc Q σ F own act w ha hI
  simp only[cC]at hc
  split at hc
  .rename_i x y hx hy
   cases hc
   simp only[awp]at ha
   split at ha
   .rename_i t hv
    have he:=hI.ev c0
    rw[hv]at he
    refine wp_cond he.dK ?_
    cases t with
    |true=>simp only[if_true]at ha ⊢;exact iha x hx Q σ F own act w ha hI
    |false=>simp only[dH,if_false]at ha ⊢;exact ihb y hy Q σ F own act w ha hI
   .exact ha.elim
  .cases hc
 |block id b ih =>
  intro c hc Q σ F own act w ha hI
  simp only[cC]at hc
  cases hb:cC P hc0 b with
  |none=>rw[hb]at hc;cases hc
  |some x =>
   rw[hb]at hc;cases hc
   refine wp_block (wp_mono (ih x hb _ σ F own act w ha hI) ?_)
   rintro e a1 w1 ⟨ng,F1,dO,τ,hI1,hK⟩
   cases e with
   |exit i =>
    simp only at hK
    simp only[Exit.inBlock]
    split
    .rename_i hi;rw[if_pos hi]at hK;exact⟨mY,F1,dO,τ,hI1,hK⟩
    .rename_i hi;rw[if_neg hi]at hK;exact⟨Bz _,F1,dO,τ,hI1,hK⟩
   |_=>exact⟨ng,F1,dO,τ,hI1,hK⟩
 |loop b ih =>
  intro c hc Q σ F own act w ha hI
  simp only[cC]at hc
  cases hb:cC P hc0 b with
  |none=>rw[hb]at hc;cases hc
  |some x =>
   rw[hb]at hc;cases hc
   obtain⟨dead,gh,n,J,μ,hn,h0,hr⟩:=ha
   obtain⟨own',hI'⟩:=Inv.b2Z gh hI
   have hI0:=hI'.norm dead n (by omega)
   have key:∀m,∀(τ:St) (F:Addr->Option Value) (own:List Ent) (act:Act) (w:World),μ τ<=m->J τ->Inv Gl F own B w0 τ act w->Code.rounds P b (λe a w=>NG e/\lY Gl B w0 (Q e) a w) (m+1) act w:=by
    intro m
    induction m with
    |zero =>
     intro τ F own act w hm' hJ hI
     rw[rounds_succ]
     refine wp_mono (ih x hb _ τ F own act w (hr τ hJ) hI) ?_
     rintro e a1 w1 ⟨ng,F1,dO,ρ,hI1,hK⟩
     cases e with
     |normal=>exact absurd hK.2 (by omega)
     |_=>exact⟨ng,F1,dO,ρ,hI1,hK⟩
    |succ m ihm =>
     intro τ F own act w hm' hJ hI
     rw[rounds_succ]
     refine wp_mono (ih x hb _ τ F own act w (hr τ hJ) hI) ?_
     rintro e a1 w1 ⟨ng,F1,dO,ρ,hI1,hK⟩
     cases e with
     |normal=>exact ihm _ F1 _ a1 w1 (by have:=hK.2;omega) hK.1 (hI1.norm dead n (by omega))
     |_=>exact⟨ng,F1,dO,ρ,hI1,hK⟩
   exact wp_loop_rounds _ (key _ _ F _ act w (aS _) h0 hI0)
 |exit id=>intro c hc Q σ F own act w ha hI;cases hc;exact wp_exit ⟨Bz _,F,own,σ,hI,ha⟩
 |ret=>intro c hc Q σ F own act w ha hI;cases hc;exact wp_ret ⟨Yp,F,own,σ,hI,ha⟩
 |label l=>intro c hc Q σ F own act w ha hI;cases hc;exact wp_label ⟨mY,F,own,σ,hI,ha⟩
 |scope b ih =>
  intro c hc Q σ F own act w ha hI
  simp only[cC]at hc
  refine wp_scope_straight (wp_mono (ih c hc Q σ F own act w ha hI) ?_)
  rintro e a1 w1 ⟨ng,hK⟩
  cases e with
  |goto l=>exact absurd rfl (ng l)
  |_=>exact⟨ng,hK⟩
 |_=>intro c hc;cases hc
theorem LA(hm:P.follows .mixedOrders=true){hc0:List Nat}{N:Nat}(hN:w0.N=N)(code:Code)(c:C)(hc:cC P hc0 code=some c)(Q:Exit->St->Prop)(σ:St)(F:Addr->Option Value)(own:List Ent)(act:Act)(w:World)(ha:awp P Gl N c Q σ)(hI:Inv Gl F own B w0 σ act w):code.wp P (λe a w=>lY Gl B w0 (Q e) a w) act w :=
 wp_mono (mP hm hN code c hc Q σ F own act w ha hI) λe a w h=>h.2
inductive RV where
 |t (i:Nat)
 |c (i sz:Nat) (ag:Bool)
def sj(P:Program):List ResultVar->Option (List RV)
 |[]=>some []
 |.tmp t::r=>(sj P r).map (.t t::·)
 |.cell a t::r=>match agT P t,sj P r with
  |some (ag,sz),some l=>some (.c a sz ag::l)
  |_,_=>none
def nY(Gl:Nat->Option (List AV))(σ:St):List RV->Option (Prop×List AV)
 |[]=>some (True,[])
 |.t i::r=>(nY Gl σ r).map λq=>(q.1,σ.t.getD i .any::q.2)
 |.c i sz ag::r=>match step Gl σ (.load sz ag (.t i)),nY Gl σ r with
  |some (p,a,_),some q=>some (p/\q.1,a::q.2)
  |_,_=>none
def rZ(Gl:Nat->Option (List AV))(σ:St)(rs:List RV):Option (Prop×AV) :=
 match nY Gl σ rs with
 |some (p,[a])=>some (p,a)
 |some (p,l)=>some (p,.tup l)
 |none=>none
def Wk(a b:AV):Prop:=∀(F:Addr->Option Value) (x:Value),RP F x a->RP F x b
theorem Wk.refl(a:AV):Wk a a:=λ_ _ h=>h
theorem Wk.nil(sz:Nat):Wk (.v (.slice none 0 0)) (.list sz []):=λ_ _ h=>by cases h;exact .nil sz
theorem Wk.tup{as bs:List AV}(hl:as.length=bs.length)(h:∀(j:Nat) (a b:AV),as[j]?=some a->bs[j]?=some b->Wk a b):Wk (.tup as) (.tup bs):=λF x hR=>by
 cases hR with
 |tup xs cs hl' hR' =>
  refine .tup xs bs (by omega) λj x b p q=>?_
  have hj:j<as.length:=by rw[hl];exact(aj.1 q).1
  exact h j as[j] b (ah hj) q F x (hR' j x _ p (ah hj))
theorem Wk.agg{as bs:List AV}(hl:as.length=bs.length)(h:∀(j:Nat) (a b:AV),as[j]?=some a->bs[j]?=some b->Wk a b):Wk (.agg as) (.agg bs):=λF x hR=>by
 cases hR with
 |agg xs cs hl' h1 hR' =>
  refine .agg xs bs (by omega) h1 λj x b p q=>?_
  have hj:j<as.length:=by rw[hl];exact(aj.1 q).1
  exact h j as[j] b (ah hj) q F x (hR' j x _ p (ah hj))
def Ends(Gl:Nat->Option (List AV))(rs:List RV)(res:AV)(e:Exit)(σ:St):Prop :=
 (match e with|.normal=>True|.ret=>True|_=>False)/\∃p a b,rZ Gl σ rs=some (p,a)/\p/\CG σ.h a=some b/\Wk b res
def DV(tmps:Array Value):ResultVar->Sem Value
 |.tmp t=>pure (tmps.getD t undef)
 |.cell a t=>do loadVar t (<- asAddr (tmps.getD a undef))
theorem mJ(fn:Func)(tmps:Array Value):Go.results fn tmps=(do let vs <- fn.results.mapM (DV tmps);pure (if h:vs.size=1 then vs[0] else .tuple vs)):=rfl
theorem yK(h:Inv Gl F own B w0 σ act w):∀(vs:List ResultVar) (rs:List RV) (p:Prop) (l:List AV),sj P vs=some rs->nY Gl σ rs=some (p,l)->p->
  ∃ys:List Value,(vs.mapM (DV act.tmps)).run P w=.ok ys w/\ys.length=l.length/\∀(j:Nat) (y:Value) (a:AV),ys[j]?=some y->l[j]?=some a->R F own y a:=by
 intro vs
 induction vs with
 |nil=>intro rs p l hc hr hp;cases hc;cases hr;exact⟨[],rfl,rfl,λj y a q=>by simp at q⟩
 |cons v vs ih =>
  intro rs p l hc hr hp
  cases v with
  |tmp t =>
   simp only[sj]at hc
   cases hq:sj P vs with
   |none=>rw[hq]at hc;cases hc
   |some rs' =>
    rw[hq]at hc;cases hc
    simp only[nY]at hr
    cases hr':nY Gl σ rs' with
    |none=>rw[hr']at hr;cases hr
    |some q =>
     obtain⟨p',l'⟩:=q
     rw[hr']at hr;cases hr
     obtain⟨ys,e1,e2,e3⟩:=ih rs' _ l' hq hr' hp
     refine⟨act.tmps.getD t undef::ys,?_,by simp[e2],λj y a q q'=>?_⟩
     .rw[uw];simp only[Sem.run_bind,DV,Sem.run_pure,Result.andThen_ok];rw[e1];rfl
     .cases j with
      |zero =>
       have q1:some (act.tmps.getD t undef)=some y:=q
       have q2:some (σ.t.getD t .any)=some a:=q'
       cases q1;cases q2;exact h.ev (.tmp t)
      |succ j=>simp at q q';exact e3 j y a q q'
  |cell ad t =>
   simp only[sj]at hc
   split at hc
   .rename_i ag sz rs' ha hq
    cases hc
    simp only[nY]at hr
    split at hr
    .rename_i p1 a1 h1 q hs hr'
     obtain⟨p2,l2⟩:=q
     cases hr
     obtain⟨ys,e1,e2,e3⟩:=ih rs' p2 l2 hq hr' hp.2
     obtain⟨ad',y0,ex,hy,hR,_⟩:=Px (x:=.tmp ad) h ha hs hp.1
     refine⟨y0::ys,?_,by simp[e2],λj y a q q'=>?_⟩
     .have ex':act.tmps.getD ad undef=.pointer (some ad'):=ex
      have eas:(asAddr (act.tmps.getD ad undef)).run P w=.ok ad' w:=by rw[ex'];rfl
      rw[uw];simp only[Sem.run_bind,DV,eas,Result.andThen_ok,hy];rw[e1];rfl
     .cases j with
      |zero=>simp at q q';subst q q';exact hR
      |succ j=>simp at q q';exact e3 j y a q q'
    .cases hr
   .cases hc
theorem Pure.ofW{f:FuncId}{fn:Func}{code:Code}{rs:List RV}(hf:P.funcs[f]?=some fn)(hb:fn.body=some code)(hr:sj P fn.results.toList=some rs){as:List AV}{res:AV}
  (h:∀(F:Addr->Option Value) (own:List Ent) (B:Nat) (w0:W0) (act:Act) (w:World),w0.N=0->Inv Gl F own B w0 ⟨as++List.replicate (fn.ntmps-as.length) .any,[]⟩ act w->code.wp P (λe a w=>lY Gl B w0 (Ends Gl rs res e) a w) act w):Pure P Gl f as res:=by
 intro w F xs hF hgl hgw hxs
 refine calls_of_wp hf hb ?_
 have hI:Inv Gl F [] w.heap.size ⟨w,F,0,[],(λq hq=>by simp at hq),[],List.Pairwise.nil,[]⟩ ⟨as++List.replicate (fn.ntmps-as.length) .any,[]⟩ { tmps:=xs++Array.replicate (fn.ntmps-xs.size) undef,defers:=[] } w:=by
  refine{ tl:=by simp[hxs.1],tr:=λi x a p q=>?_,defers:=rfl,sub:=hF,hl:=rfl,objs:=λid e o p=>by simp at p,inj:=λi j e e' g p=>by simp at p,below:=Below.refl _ _,base:=λid e g p=>by simp at p,gl:=hgl,gw:=hgw,room:=aS _,ext:=λ_ _ q=>.inl q,jI:=λ_ _ q=>q,nl:=bN _,fr:=(λq hq=>by simp at hq),pd:=λq hq=>by simp at hq }
  simp only at p q
  rcases bI i as.length with hi|hi
  .rw[au hi]at q
   rw[gU (by rw[hxs.1];exact hi)]at p
   exact .pure (hxs.2 i x a p q)
  .rw[aO hi,kD]at q
   split at q
   .cases q;exact .pure (.any _)
   .cases q
 refine wp_mono (h F [] _ _ _ w rfl hI) ?_
 rintro e a1 w1 ⟨F1,dO,τ,hI1,hE,p,a,b,hres,hp,hk,hw⟩
 obtain⟨p',l,hrl,hal⟩:∃p' l,nY Gl τ rs=some (p',l)/\((∃x,l=[x]/\a=x/\p=p')\/((∀x,l≠[x])/\a=.tup l/\p=p')):=by
  unfold rZ at hres
  split at hres
  .rename_i p0 a0 h0;cases hres;exact⟨p,[a],h0,.inl ⟨a,rfl,rfl,rfl⟩⟩
  .rename_i p0 l0 hne h0;cases hres;exact⟨p,l0,h0,.inr ⟨λx e=>hne x e,rfl,rfl⟩⟩
  .cases hres
 have hpp:p':=by rcases hal with⟨_,_,_,e⟩|⟨_,_,e⟩<;>(rw[<- e];exact hp)
 obtain⟨ys,hrun,hyl,hyR⟩:=yK hI1 fn.results.toList rs p' l hr hrl hpp
 have yZ:(fn.results.mapM (DV a1.tmps)).run P w1=.ok ys.toArray w1:=by
  rw[nO]
  simp only[Sem.run_map,hrun,Result.andThen_ok]
 have fin:∀v,(Go.results fn a1.tmps).run P w1=.ok v w1->R F1 dO v a->bodyPost P fn (λe w'=>∃v F',e=.returned v/\(∀ad y,F ad=some y->F' ad=some y)/\(∀ad y,F' ad=some y->w'.cell? ad=some y)/\(∀ad y,F' ad=some y->F ad=some y\/w.heap.size<=ad.block)/\RP F' v res/\Below w.heap.size w w') e a1 w1:=by
  intro v hv hR
  obtain⟨F2,hF2,hI2,hkp⟩:=hI1.um (List.range τ.h.length)
  have Qb:∀id,Kept F2 dO τ.h w1 id:=λid=>by
   intro ob e' g hob
   exact hkp id (bL.2 (aj.1 hob).1) ob e' g hob
  have b2L:RP F2 v b:=by
   by_cases ha:∃vs,a=.tup vs
   .obtain⟨vs,rfl⟩:=ha
    have hk':(dV τ.h vs).map AV.tup=some b:=hk
    cases hq:dV τ.h vs with
    |none=>rw[hq]at hk';cases hk'
    |some ds =>
     rw[hq]at hk';cases hk'
     obtain⟨zs,rfl,z1,z2⟩:=hR.tQ
     obtain⟨l1,l2⟩:=wD hI1 hF2 vs ds hq (λid _=>Qb id)
     refine .tup zs ds (by omega) λj x c p q=>?_
     have hj:j<vs.length:=by rw[l1];exact(aj.1 q).1
     exact(l2 j x vs[j] c (ah hj) q (z2 j x _ p (ah hj))).1
   .have hk':gW τ.h a=some b:=by cases a<;>first|exact hk|exact absurd ⟨_,rfl⟩ ha
    exact(nQ hI1 hF2 hR hk' (λid _=>Qb id)).1
  have hend:(∃v,(Go.results fn a1.tmps).run P w1=.ok v w1/\∃v' F',Ending.returned v=.returned v'/\(∀ad y,F ad=some y->F' ad=some y)/\(∀ad y,F' ad=some y->w1.cell? ad=some y)/\(∀ad y,F' ad=some y->F ad=some y\/w.heap.size<=ad.block)/\RP F' v' res/\Below w.heap.size w w1) :=
   ⟨v,hv,v,F2,rfl,hI2.jI,hI2.sub,hI2.ext,hw F2 v b2L,hI2.below⟩
  cases e with
  |normal=>exact⟨hI1.defers,hend⟩
  |ret=>exact⟨hI1.defers,hend⟩
  |_=>exact hE.elim
 rcases hal with⟨x,rfl,rfl,_⟩|⟨hne,rfl,_⟩
 .have hy1:ys.length=1:=by simpa using hyl
  obtain⟨y,rfl⟩:=mR.1 hy1
  refine fin y ?_ (hyR 0 y a rfl rfl)
  rw[mJ]
  simp only[Sem.run_bind,yZ,Result.andThen_ok]
  rfl
 .refine fin (.tuple ys.toArray) ?_ (.tup _ _ (by simp[hyl]) λj x c p q=>hyR j x c (by simpa using p) q)
  rw[mJ]
  simp only[Sem.run_bind,yZ,Result.andThen_ok]
  have hy1:¬ys.toArray.size=1:=λq=>by
   have:l.length=1:=by rw[<- hyl];simpa using q
   match l,this with
   |[x],_=>exact hne x rfl
  rw[dif_neg hy1]
  rfl
def uy(Gl:Nat->Option (List AV))(rs:List RV)(Q:AV->List aH->Prop)(e:Exit)(σ:St):Prop :=
 (match e with|.normal=>True|.ret=>True|_=>False)/\∃p a,rZ Gl σ rs=some (p,a)/\p/\Q a σ.h
theorem fJ.ofW{f:FuncId}{fn:Func}{code:Code}{rs:List RV}(hf:P.funcs[f]?=some fn)(hb:fn.body=some code)(hr:sj P fn.results.toList=some rs){h0:List aH}{as:List AV}{Q:AV->List aH->Prop}
    (h:∀(F:Addr->Option Value) (own:List Ent) (B:Nat) (w0:W0) (act:Act) (w:World),w0.N=h0.length->Inv Gl F own B w0 ⟨as++List.replicate (fn.ntmps-as.length) .any,h0⟩ act w->code.wp P (λe a w=>lY Gl B w0 (uy Gl rs Q e) a w) act w):fJ P Gl f h0 as Q:=by
  intro F own B w0 t act w xs hI hxs
  refine calls_of_wp hf hb ?_
  let fr':List (Nat×Value×AV):=(List.range t.length).map λi=>(h0.length,act.tmps.getD i undef,t.getD i .any)
  have GD:∀ q ∈ w0.fr ++ fr',q.1<=h0.length:=fun q hq=>by
    rcases aG.1 hq with hq|hq
    .exact bF (w0.hfr q hq) hI.nl
    .obtain⟨i,_,rfl⟩:=bX.1 hq;exact aS _
  have hown:own.take h0.length=own:=eF (by rw[hI.hl];exact aS _)
  have hI1:Inv Gl F own B ⟨w0.w,w0.F,h0.length,w0.fr ++ fr',GD,w0.pd,w0.pdn,[]⟩ ⟨as ++ List.replicate (fn.ntmps - as.length) .any,h0⟩ { tmps:=xs ++ Array.replicate (fn.ntmps - xs.size) undef,defers:=[] } w:=by
    refine{ tl:=by simp[hxs.1],tr:=λi x a p q=>?_,defers:=rfl,sub:=hI.sub,hl:=hI.hl,objs:=hI.objs,inj:=hI.inj,below:=hI.below,base:=hI.base,gl:=hI.gl,gw:=hI.gw,room:=hI.room,ext:=hI.ext,jI:=hI.jI,nl:=aS _,fr:=λq hq=>?_,pd:=hI.pd }
    · simp only at p q
      rcases bI i as.length with hi|hi
      · rw [au hi] at q
        rw[gU (by rw[hxs.1];exact hi)]at p
        exact hxs.2 i x a p q
      · rw [aO hi,kD] at q
        split at q
        .cases q;exact .pure (.any _)
        .cases q
    · rcases aG.1 hq with hq | hq
      .exact hI.fr q hq
      · obtain ⟨i,hi,rfl⟩:=bX.1 hq
        have hi':=bL.1 hi
        have hlt:i<act.tmps.size:=by rw[hI.tl];exact hi'
        rw[hown]
        exact hI.tr i _ _ (by simp[Array.getD,hlt]) (by simp[List.getD,ah hi'])
  refine wp_mono (h F own _ _ _ w rfl hI1) ?_
  rintro e a1 w1 ⟨F1,dO,τ,hI2,hE,p,a,hres,hp,hQ⟩
  obtain ⟨p',l,hrl,hal⟩:∃ p' l,nY Gl τ rs=some (p',l)/\((∃ x,l=[x]/\a=x/\p=p')\/((∀ x,l ≠ [x])/\a=.tup l/\p=p')):=by
    unfold rZ at hres
    split at hres
    .rename_i p0 a0 h0;cases hres;exact⟨p,[a],h0,.inl ⟨a,rfl,rfl,rfl⟩⟩
    .rename_i p0 l0 hne h0;cases hres;exact⟨p,l0,h0,.inr ⟨λx e=>hne x e,rfl,rfl⟩⟩
    .cases hres
  have hpp:p':=by rcases hal with⟨_,_,_,e⟩|⟨_,_,e⟩<;>(rw[<- e];exact hp)
  obtain⟨ys,hrun,hyl,hyR⟩:=yK hI2 fn.results.toList rs p' l hr hrl hpp
  have yZ:(fn.results.mapM (DV a1.tmps)).run P w1=.ok ys.toArray w1:=by
    rw[nO]
    simp only[Sem.run_map,hrun,Result.andThen_ok]
  have hback:Inv Gl F1 dO B w0 ⟨t,τ.h⟩ act w1 :=
    { tl := hI.tl, tr := fun i x a p q => by
        have hi:i<t.length:=(aj.1 q).1
        have hlt:i<act.tmps.size:=by rw[hI.tl];exact hi
        have:=hI2.fr (h0.length,act.tmps.getD i undef,t.getD i .any) (aG.2 (.inr (bX.2 ⟨i,bL.2 hi,rfl⟩)))
        have e1:act.tmps.getD i undef=x:=by simp[Array.getD,hlt];rw[aF hlt]at p;exact aI p
        have e2:t.getD i .any=a:=by
          have q':t[i]?=some a:=q
          simp[List.getD,q']
        rw[e1,e2]at this
        exact this.mono (λ_ _ r=>r) (Le.JI _ _),
      defers:=hI.defers,sub:=hI2.sub,hl:=hI2.hl,objs:=hI2.objs,inj:=hI2.inj,below:=hI2.below,base:=hI2.base,gl:=hI2.gl,gw:=hI.gw,room:=hI2.room,ext:=hI2.ext,jI:=hI2.jI,nl:=bF hI.nl hI2.nl,fr:=λq hq=>hI2.fr q (aG.2 (.inl hq)),pd:=hI2.pd }
  have fin:∀ v,(Go.results fn a1.tmps).run P w1=.ok v w1->R F1 dO v a->bodyPost P fn (fun e w'=>∃ v res h' F' own',e=.returned v/\Inv Gl F' own' B w0 ⟨t,h'⟩ act w'/\R F' own' v res/\Q res h') e a1 w1:=by
    intro v hv hR
    have hend:∃v,(Go.results fn a1.tmps).run P w1=.ok v w1/\∃v' res h' F' own',Ending.returned v=.returned v'/\Inv Gl F' own' B w0 ⟨t,h'⟩ act w1/\R F' own' v' res/\Q res h':=⟨v,hv,v,a,τ.h,F1,dO,rfl,hback,hR,hQ⟩
    cases e with
    |normal=>exact⟨hI2.defers,hend⟩
    |ret=>exact⟨hI2.defers,hend⟩
    |_=>exact hE.elim
  rcases hal with⟨x,rfl,rfl,_⟩|⟨hne,rfl,_⟩
  · have hy1:ys.length=1:=by simpa using hyl
    obtain⟨y,rfl⟩:=mR.1 hy1
    refine fin y ?_ (hyR 0 y a rfl rfl)
    rw[mJ]
    simp only[Sem.run_bind,yZ,Result.andThen_ok]
    rfl
  · refine fin (.tuple ys.toArray) ?_ (.tup _ _ (by simp [hyl]) fun j x c p q=>hyR j x c (by simpa using p) q)
    rw[mJ]
    simp only[Sem.run_bind,yZ,Result.andThen_ok]
    have hy1:¬ ys.toArray.size=1:=fun q=>by
      have:l.length=1:=by rw[<- hyl];simpa using q
      match l,this with
      |[x],_=>exact hne x rfl
    rw[dif_neg hy1]
    rfl
theorem Pure.of(hm:P.follows .mixedOrders=true){f:FuncId}{fn:Func}{code:Code}{c:C}{rs:List RV}{hl:List Nat}(hf:P.funcs[f]?=some fn)(hb:fn.body=some code)(hc:cC P hl code=some c)(hr:sj P fn.results.toList=some rs){as:List AV}{res:AV}
  (h:awp P Gl 0 c (Ends Gl rs res) ⟨as++List.replicate (fn.ntmps-as.length) .any,[]⟩):Pure P Gl f as res :=
 Pure.ofW hf hb hr λF own B w0 act w hN hI=>LA hm hN code c hc _ _ F own act w h hI
theorem fJ.of(hm:P.follows .mixedOrders=true){f:FuncId}{fn:Func}{code:Code}{c:C}{rs:List RV}{hl:List Nat}(hf:P.funcs[f]?=some fn)(hb:fn.body=some code)(hc:cC P hl code=some c)(hr:sj P fn.results.toList=some rs){h0:List aH}{as:List AV}{Q:AV->List aH->Prop}
  (h:awp P Gl h0.length c (uy Gl rs Q) ⟨as++List.replicate (fn.ntmps-as.length) .any,h0⟩):fJ P Gl f h0 as Q :=
 fJ.ofW hf hb hr λF own B w0 act w hN hI=>LA hm hN code c hc _ _ F own act w h hI
end
def bs(l:List UInt8):ByteArray:=⟨l.toArray⟩
def Fn(P:Program)(f n:Nat)(c:C)(rs:List RV):Prop:=∃fn hl,P.funcs[f]?=some fn/\fn.body.bind (cC P hl)=some c/\sj P fn.results.toList=some rs/\fn.ntmps=n/\callable P f=true
theorem Fn.callable{P:Program}{f n:Nat}{c:C}{rs:List RV}(h:Fn P f n c rs):callable P f=true:=by obtain⟨_,_,_,_,_,_,h⟩:=h;exact h
theorem Fn.pure{P:Program}{Gl:Nat->Option (List AV)}(hm:P.follows .mixedOrders=true){f n:Nat}{c:C}{rs:List RV}(h:Fn P f n c rs){as:List AV}{res:AV}{t:List AV}(ht:as++List.replicate (n-as.length) .any=t)(ha:awp P Gl 0 c (Ends Gl rs res) ⟨t,[]⟩):Pure P Gl f as res:=by
 obtain⟨fn,hl,h1,h2,h3,rfl,_⟩:=h
 cases hb:fn.body with
 |none=>rw[hb]at h2;cases h2
 |some code =>
  rw[hb]at h2
  subst ht
  exact Pure.of hm h1 hb h2 h3 ha
def Then(P:Program)(Gl:Nat->Option (List AV))(N:Nat)(b:C)(Q:Exit->St->Prop)(e:Exit)(τ:St):Prop:=match e with|.normal=>awp P Gl N b Q τ|e=>Q e τ
def zx(id:Nat)(Q:Exit->St->Prop)(e:Exit)(τ:St):Prop:=match e with|.exit i=>if i=id then Q .normal τ else Q (.exit i) τ|e=>Q e τ
section
variable{P:Program}{Gl:Nat->Option (List AV)}{N:Nat}{Q:Exit->St->Prop}{σ:St}{K:St->Prop}{d:Bool}
theorem a3k:awp P Gl N .skip Q σ=Q .normal σ:=rfl
theorem a7m{l:List Ins}:awp P Gl N (.ops d l) Q σ=tH P Gl d (Q .normal) l σ:=rfl
theorem a7k{a b:C}:awp P Gl N (.seq a b) Q σ=awp P Gl N a (Then P Gl N b Q) σ:=rfl
theorem Zw{id:Nat}{b:C}:awp P Gl N (.block id b) Q σ=awp P Gl N b (zx id Q) σ:=rfl
theorem a3l{id:Nat}:awp P Gl N (.exit id) Q σ=Q (.exit id) σ:=rfl
theorem a7l:awp P Gl N .ret Q σ=Q .ret σ:=rfl
theorem Vz{c:Opd}{a b:C}(h:σ.val Gl c=.v (.bool true)):awp P Gl N (.cond c a b) Q σ=awp P Gl N a Q σ:=by simp only[awp,h,if_true]
theorem VB{c:Opd}{a b:C}(h:σ.val Gl c=.v (.bool false)):awp P Gl N (.cond c a b) Q σ=awp P Gl N b Q σ:=by simp only[awp,h,dH,if_false]
theorem Rb{b:C}{τ:St}:Then P Gl N b Q .normal τ=awp P Gl N b Q τ:=rfl
theorem ZF{b:C}{i:Nat}{τ:St}:Then P Gl N b Q (.exit i) τ=Q (.exit i) τ:=rfl
theorem a3t{b:C}{τ:St}:Then P Gl N b Q .ret τ=Q .ret τ:=rfl
theorem KC{i:Nat}{τ:St}:zx i Q .normal τ=Q .normal τ:=rfl
theorem QM{i j:Nat}{τ:St}:zx i Q (.exit j) τ=if j=i then Q .normal τ else Q (.exit j) τ:=rfl
theorem Rf{i:Nat}{τ:St}:zx i Q .ret τ=Q .ret τ:=rfl
theorem a3s:tH P Gl d K [] σ=K σ:=rfl
theorem Fn.U5(hm:P.follows .mixedOrders=true){f n:Nat}{c:C}{rs:List RV}(h:Fn P f n c rs){as:List AV}{h0:List aH}{Q:AV->List aH->Prop}{t:List AV}(ht:as++List.replicate (n-as.length) .any=t)(ha:awp P Gl h0.length c (uy Gl rs Q) ⟨t,h0⟩):fJ P Gl f h0 as Q:=by
 obtain⟨fn,hl,h1,h2,h3,rfl,_⟩:=h
 cases hb:fn.body with
 |none=>rw[hb]at h2;cases h2
 |some code =>
  rw[hb]at h2
  subst ht
  exact fJ.of hm h1 hb h2 h3 ha
theorem fJ.mono{f:Nat}{h:List aH}{as:List AV}{Q Q':AV->List aH->Prop}(hP:fJ P Gl f h as Q)(hq:∀a h',Q a h'->Q' a h'):fJ P Gl f h as Q':=by
 intro F own B w0 t act w xs hI hxs
 refine(hP F own B w0 t act w xs hI hxs).mono ?_
 rintro e w' ⟨v,res,h',F',own',a,b,c,q⟩
 exact⟨v,res,h',F',own',a,b,c,hq _ _ q⟩
theorem VK{dst:Option Nat}{i:I}:fI P Gl d σ ⟨dst,none,i⟩ K=fQ P Gl d σ dst K i:=rfl
theorem a3o{dst:Option Nat}{i:I}{s:Nat}(h:σ.t.getD s .any=.v (.bool true)):fI P Gl d σ ⟨dst,some (s,true),i⟩ K=fQ P Gl d σ dst K i:=by simp only[fI,h,if_true]
theorem a3p{dst:Option Nat}{i:I}{s:Nat}(h:σ.t.getD s .any=.v (.bool false)):fI P Gl d σ ⟨dst,some (s,true),i⟩ K=K (σ.put dst und):=by simp only[fI,h];rfl
theorem a3r{dst:Option Nat}{i:I}{s:Nat}(h:σ.t.getD s .any=.v (.bool false)):fI P Gl d σ ⟨dst,some (s,false),i⟩ K=fQ P Gl d σ dst K i:=by simp only[fI,h,if_true]
theorem a3q{dst:Option Nat}{i:I}{s:Nat}(h:σ.t.getD s .any=.v (.bool true)):fI P Gl d σ ⟨dst,some (s,false),i⟩ K=K (σ.put dst und):=by simp only[fI,h];rfl
theorem ZC{i:Ins}{r:List Ins}:tH P Gl d K (i::r) σ=fI P Gl d σ i (tH P Gl d K r):=rfl
def bE(Gl:Nat->Option (List AV))(σ:St)(dst:Option Nat)(K:St->Prop)(i:I):Prop:=match step Gl σ i with
 |some (p,a,h')=>p/\K (St.put ⟨σ.t,h'⟩ dst a)
 |none=>False
theorem b3v{dst:Option Nat}{x}:fQ P Gl d σ dst K (.mov x)=bE Gl σ dst K (.mov x):=rfl
theorem a7i{dst:Option Nat}{c}{a}{b}:fQ P Gl d σ dst K (.pick c a b)=bE Gl σ dst K (.pick c a b):=rfl
theorem b3z{dst:Option Nat}{op}{x}{y}:fQ P Gl d σ dst K (.bin op x y)=bE Gl σ dst K (.bin op x y):=rfl
theorem b6P{dst:Option Nat}{op}{x}:fQ P Gl d σ dst K (.un op x)=bE Gl σ dst K (.un op x):=rfl
theorem b3x{dst:Option Nat}{i}{x}:fQ P Gl d σ dst K (.ext i x)=bE Gl σ dst K (.ext i x):=rfl
theorem a3g{dst:Option Nat}{o}{x}:fQ P Gl d σ dst K (.fO o x)=bE Gl σ dst K (.fO o x):=rfl
theorem a3f{dst:Option Nat}{z}{x}{i}:fQ P Gl d σ dst K (.rA z x i)=bE Gl σ dst K (.rA z x i):=rfl
theorem a7j{dst:Option Nat}{z}{g}{x}:fQ P Gl d σ dst K (.load z g x)=bE Gl σ dst K (.load z g x):=rfl
theorem a3d{dst:Option Nat}{z}{x}{y}:fQ P Gl d σ dst K (.store z x y)=bE Gl σ dst K (.store z x y):=rfl
theorem a3e{dst:Option Nat}{z}{x}{lo}{hi}:fQ P Gl d σ dst K (.slice z x lo hi)=bE Gl σ dst K (.slice z x lo hi):=rfl
theorem b3w{dst:Option Nat}{x}:fQ P Gl d σ dst K (.len x)=bE Gl σ dst K (.len x):=rfl
theorem b3u{dst:Option Nat}{x}:fQ P Gl d σ dst K (.nck x)=bE Gl σ dst K (.nck x):=rfl
theorem a7h{dst:Option Nat}{x}:fQ P Gl d σ dst K (.AQ x)=bE Gl σ dst K (.AQ x):=rfl
theorem b3A{dst:Option Nat}{ty}{z}{b}{x}{y}:fQ P Gl d σ dst K (.app ty z b x y)=bE Gl σ dst K (.app ty z b x y):=rfl
theorem Zv{dst:Option Nat}{ty}{z}{xs}:fQ P Gl d σ dst K (.lI ty z xs)=bE Gl σ dst K (.lI ty z xs):=rfl
theorem a3h{dst:Option Nat}{z}{ps}:fQ P Gl d σ dst K (.build z ps)=bE Gl σ dst K (.build z ps):=rfl
theorem b3y{dst:Option Nat}{ty}{z}{x}:fQ P Gl d σ dst K (.box ty z x)=bE Gl σ dst K (.box ty z x):=rfl
theorem a3i{dst:Option Nat}{ty}{z}:fQ P Gl d σ dst K (.alloc ty z)=bE Gl σ dst K (.alloc ty z):=rfl
theorem wrap64{n:Int}(h1:-9223372036854775808<=n)(h2:n<=9223372036854775807):IntKind.i64.wrap n=n:=IntWalk.i64_in n ⟨h1,h2⟩
theorem a3H{n:Int}(h1:0<=n)(h2:n<=255):IntKind.u8.wrap n=n:=IntWalk.u8_in n ⟨h1,h2⟩
end
def e8(x:Int):AV:=.v (.int .u8 x)
section
variable{Gl:Nat->Option (List AV)}{t:List AV}{h:List aH}{res:AV}{Q:AV->List aH->Prop}
end
theorem Pure.weak{P:Program}{Gl:Nat->Option (List AV)}{f:Nat}{as bs:List AV}{res:AV}(h:Pure P Gl f bs res)(hl:as.length=bs.length)(hw:∀(j:Nat) (a b:AV),as[j]?=some a->bs[j]?=some b->Wk a b):Pure P Gl f as res:=by
 intro w F xs h1 h2 hgw h3
 refine h w F xs h1 h2 hgw ⟨by rw[h3.1,hl],λi x b p q=>?_⟩
 have hi:i<as.length:=by rw[hl];exact(aj.1 q).1
 exact hw i as[i] b (ah hi) q F x (h3.2 i x _ p (ah hi))
theorem Pure.b4f{P:Program}{Gl:Nat->Option (List AV)}{f:Nat}{a b:AV}{l:List AV}{res:AV}(h:Pure P Gl f (b::l) res)(hw:Wk a b):Pure P Gl f (a::l) res :=
 h.weak rfl λj x y p q=>by
  cases j with
  |zero=>simp at p q;subst p q;exact hw
  |succ j=>simp at p q;rw[p]at q;cases q;exact Wk.refl _
theorem Pure.res{P:Program}{Gl:Nat->Option (List AV)}{f:Nat}{as:List AV}{r r':AV}(h:Pure P Gl f as r)(e:r=r'):Pure P Gl f as r':=e▸h
inductive Ty where
 |int (k:IntKind)
 |bool
 |str
 |list (e:Ty)
 |tup (fs:List Ty)
 |fnc (f:Nat)
 |iP (e:Ty)
 |rl (ty sz:Nat)
mutual
def Ty.size:Ty->Nat
 |.tup fs=>Ty.om fs
 |_=>1
def Ty.om:List Ty->Nat
 |[]=>0
 |t::ts=>t.size+Ty.om ts
end
def Ty.oq:Ty->Bool
 |.tup _=>true
 |_=>false
def pack(T:Ty)(cs:List AV):AV:=if T.oq then .agg cs else cs.headD .any
def tyE:Ty:=.tup [.int .i64,.str,.list .str,.int .i64,.int .i64,.rl 34 6]
def tyW:Ty:=.tup [.str,tyE,.rl 63 8]
def JE:Nat->Option Ty:=λn=>if Nat.beq n 34=true then some tyE else if Nat.beq n 63=true then some tyW else none
mutual
def IsZ(Z:Nat->Nat->AV->Prop):Ty->List AV->Prop
 |.int k,l=>∃n,l=[.v (.int k n)]/\(Lit.int k n).wf=true
 |.bool,l=>∃b,l=[.v (.bool b)]
 |.str,l=>∃s:ByteArray,l=[.v (.string s)]/\s.size<=maxLen
 |.list e,l=>∃xss:List (List AV),l=[.list e.size (xss.map (pack e))]/\xss.length<=maxLen/\∀xs∈xss,IsZ Z e xs
 |.tup fs,l=>rM Z fs l
 |.fnc f,l=>l=[.v (.func (.func f) #[] #[])]
 |.iP _,l=>l=[.v (.slice none 0 0)]
 |.rl ty sz,l=>∃xs,l=[.list sz xs]/\Z ty sz (.list sz xs)
def rM(Z:Nat->Nat->AV->Prop):List Ty->List AV->Prop
 |[],l=>l=[]
 |t::ts,l=>∃a b,l=a++b/\IsZ Z t a/\rM Z ts b
end
def ZN:Nat->Nat->Nat->AV->Prop
 |0,ty,sz,a=>∃T,JE ty=some T/\T.size=sz/\a=.list sz []
 |n+1,ty,sz,a=>∃T,JE ty=some T/\T.size=sz/\∃xss:List (List AV),a=.list sz (xss.map (pack T))/\xss.length<=maxLen/\∀xs∈xss,IsZ (ZN n) T xs
def ZA(ty sz:Nat)(a:AV):Prop:=∃n,ZN n ty sz a
mutual
theorem IsZ.mono{Z Z':Nat->Nat->AV->Prop}(hz:∀ty sz a,Z ty sz a->Z' ty sz a):∀{T:Ty} {l:List AV},IsZ Z T l->IsZ Z' T l
 |.int _,l,h=>by simp only[IsZ]at h ⊢;exact h
 |.bool,l,h=>by simp only[IsZ]at h ⊢;exact h
 |.str,l,h=>by simp only[IsZ]at h ⊢;exact h
 |.list e,l,h=>by
  simp only[IsZ]at h ⊢
  obtain⟨xss,a,b,c⟩:=h
  exact⟨xss,a,b,λxs hx=>IsZ.mono hz (c xs hx)⟩
 |.tup fs,l,h=>by simp only[IsZ]at h ⊢;exact rM.mono hz h
 |.fnc f,l,h=>by simp only[IsZ]at h ⊢;exact h
 |.iP e,l,h=>by simp only[IsZ]at h ⊢;exact h
 |.rl ty sz,l,h=>by
  simp only[IsZ]at h ⊢
  obtain⟨xs,a,b⟩:=h
  exact⟨xs,a,hz _ _ _ b⟩
theorem rM.mono{Z Z':Nat->Nat->AV->Prop}(hz:∀ty sz a,Z ty sz a->Z' ty sz a):∀{ts:List Ty} {l:List AV},rM Z ts l->rM Z' ts l
 |[],l,h=>by simp only[rM]at h ⊢;exact h
 |t::ts,l,h=>by
  simp only[rM]at h ⊢
  obtain⟨a,b,e,h1,h2⟩:=h
  exact⟨a,b,e,IsZ.mono hz h1,rM.mono hz h2⟩
end
theorem ZN.succ:∀(n ty sz:Nat) (a:AV),ZN n ty sz a->ZN (n+1) ty sz a
 |0,ty,sz,a,h=>by
  simp only[ZN]at h ⊢
  obtain⟨T,h1,h2,rfl⟩:=h
  exact⟨T,h1,h2,[],rfl,bN _,λxs q=>by simp at q⟩
 |n+1,ty,sz,a,h=>by
  simp only[ZN]at h ⊢
  obtain⟨T,h1,h2,xss,h3,h4,h5⟩:=h
  exact⟨T,h1,h2,xss,h3,h4,λxs q=>(h5 xs q).mono λty sz a=>ZN.succ n ty sz a⟩
abbrev Is(T:Ty)(l:List AV):Prop:=IsZ ZA T l
theorem Is.ofN{n:Nat}{T:Ty}{l:List AV}(h:IsZ (ZN n) T l):Is T l:=h.mono λ_ _ _ q=>⟨n,q⟩
mutual
theorem IsZ.length{Z:Nat->Nat->AV->Prop}:∀{T:Ty} {l:List AV},IsZ Z T l->l.length=T.size
 |.int _,l,h=>by simp only[IsZ]at h;obtain⟨n,rfl,_⟩:=h;rfl
 |.bool,l,h=>by simp only[IsZ]at h;obtain⟨b,rfl⟩:=h;rfl
 |.str,l,h=>by simp only[IsZ]at h;obtain⟨s,rfl,_⟩:=h;rfl
 |.list e,l,h=>by simp only[IsZ]at h;obtain⟨xs,rfl,_⟩:=h;rfl
 |.tup fs,l,h=>by simp only[IsZ]at h;rw[rM.length h];rfl
 |.fnc f,l,h=>by simp only[IsZ]at h;subst h;rfl
 |.iP e,l,h=>by simp only[IsZ]at h;subst h;rfl
 |.rl ty sz,l,h=>by simp only[IsZ]at h;obtain⟨xs,rfl,_⟩:=h;rfl
theorem rM.length{Z:Nat->Nat->AV->Prop}:∀{ts:List Ty} {l:List AV},rM Z ts l->l.length=Ty.om ts
 |[],l,h=>by simp only[rM]at h;subst h;rfl
 |t::ts,l,h=>by
  simp only[rM]at h
  obtain⟨a,b,rfl,h1,h2⟩:=h
  rw[ak,IsZ.length h1,rM.length h2];rfl
end
def Gc(P:Program)(g:TypeId->Option Ty):Nat->List Field->Option (List Ty)
 |_,[]=>some []
 |o,f::fs=>match g f.type with
  | some T=>if f.offset=o/\P.cellsOf f.type=T.size then match Gc P g (o + T.size) fs with
    |some ts=>some (T::ts)
    |none=>none
   else none
  |none=>none
def vU(P:Program):Nat->TypeId->Option Ty
 |0,_=>none
 |d+1,t=>match P.underlying t with
  |some (.int k)=>some (.int k)
  |some .bool=>some .bool
  |some .string=>some .str
  |some (.slice e)=>match JE e with
   |some E=>if P.cellsOf e=E.size/\0<E.size then some (.rl e E.size) else none
   |none=>match vU P d e with
    |some E=>if P.cellsOf e=E.size/\0<E.size then some (.list E) else none
    |none=>none
  |some (.struct fs)=>match Gc P (vU P d) 0 fs.toList with
   |some ts=>if P.cellsOf t=Ty.om ts then some (.tup ts) else none
   |none=>none
  |_=>none
section
variable{H:Type}{enc:TypeId×Value->H}{P:Program}{w:World}
def RdL(w:World)(cs:List Value)(l:List AV):Prop:=cs.length=l.length/\∀(j:Nat) (c:Value) (a:AV),cs[j]?=some c->l[j]?=some a->c.oneCell'=true/\RP (snap w) c a
theorem RdL.app{cs ds:List Value}{l m:List AV}(h:RdL w cs l)(k:RdL w ds m):RdL w (cs++ds) (l++m):=by
 refine⟨by simp[h.1,k.1],λj c a p q=>?_⟩
 rcases bI j cs.length with hj|hj
 .rw[au hj]at p
  rw[au (by rw[<- h.1];exact hj)]at q
  exact h.2 j c a p q
 .rw[aO hj]at p
  rw[aO (by rw[<- h.1];exact hj),<- h.1]at q
  exact k.2 _ c a p q
theorem RdL.one{c:Value}{a:AV}(h1:c.oneCell'=true)(h:RP (snap w) c a):RdL w [c] [a]:=by
 refine⟨rfl,λj c' a' p q=>?_⟩
 cases j with
 |zero=>simp at p q;subst p q;exact⟨h1,h⟩
 |succ j=>simp at p
theorem pack_cells{Z:Nat->Nat->AV->Prop}{T:Ty}{l:List AV}(h:IsZ Z T l):(pack T l).cells=l:=by
 cases T with
 |tup fs=>rfl
 |int k=>simp only[IsZ]at h;obtain⟨n,rfl,_⟩:=h;rfl
 |bool=>simp only[IsZ]at h;obtain⟨b,rfl⟩:=h;rfl
 |str=>simp only[IsZ]at h;obtain⟨s,rfl,_⟩:=h;rfl
 |list e=>simp only[IsZ]at h;obtain⟨xs,rfl,_⟩:=h;rfl
 |fnc f=>simp only[IsZ]at h;subst h;rfl
 |iP e=>simp only[IsZ]at h;subst h;rfl
 |rl ty sz=>simp only[IsZ]at h;obtain⟨xs,rfl,_⟩:=h;rfl
theorem Ig{n:Nat}{e:TypeId}{E:Ty}{t:TypeId}{cs:List Value}{x:DataW H×List MemPlace}(hk:P.underlying t=some (.slice e))(hsz:P.cellsOf e=E.size)
  (ih:∀(cs:List Value) (x:DataW H×List MemPlace),DataW.trod enc P w 0 (λ_=>true) true n e cs=some x->∃l,RdL w cs l/\IsZ (ZN n) E l)
  (hx:DataW.trod enc P w 0 (λ_=>true) true (n+1) t cs=some x):∃xss:List (List AV),RdL w cs [.list E.size (xss.map (pack E))]/\xss.length<=maxLen/\∀xs∈xss,IsZ (ZN n) E xs:=by
 rcases DataW.trod_slice hk hx with⟨rfl,_⟩|⟨a,len,cap,elems,rest,m,hm,rfl,_,_,hlc,hcm,hlen,hel,_,_⟩
 .exact⟨[],RdL.one rfl (.nil _),by simp,λxs h=>by simp at h⟩
 .cases hm
  obtain⟨xss,hxl,hxp⟩:=FT len (λi l=>IsZ (ZN n) E l/\∀(j:Nat) (a':AV),l[j]?=some a'->∃c,w.cell? (a.add (i*E.size+j))=some c/\c.oneCell'=true/\RP (snap w) c a') (λi hi=>by
   have hi':i<elems.length:=by omega
   have he:=hel i hi
   rw[ah hi',gV]at he
   obtain⟨cs',hcs,ht⟩:=he
   obtain⟨l,hr,hI⟩:=ih cs' _ ht
   obtain⟨_,hcl,hat⟩:=World.cells?_some hcs
   refine⟨l,hI,λj a' hj=>?_⟩
   have hjl:j<l.length:=(aj.1 hj).1
   have hjc:j<cs'.length:=by rw[hr.1];exact hjl
   have hc:=hat j (by rw[<- hcl];exact hjc)
   rw[hsz,Ab]at hc
   obtain⟨q1,q2⟩:=hr.2 j cs'[j] a' (ah hjc) hj
   exact⟨cs'[j],by rw[hc];exact ah hjc,q1,q2⟩)
  refine⟨xss,RdL.one rfl ?_,by omega,λxs h=>?_⟩
  ·have get:∀ (i:Nat) (e':AV),(xss.map (pack E))[i]?=some e'->∃ l,xss[i]?=some l/\e'=pack E l/\IsZ (ZN n) E l:=fun i e' h=>by
    rw[aT]at h
    cases hl:xss[i]? with
    |none=>rw[hl]at h;cases h
    |some l=>rw[hl]at h;cases h;exact⟨l,rfl,rfl,(hxp i l hl).1⟩
   refine .list a len cap E.size _ (λk=>(w.cell? (a.add k)).getD undef) (by simp[hxl]) hlc (λi e' h=>?_) (λi j e' a' h h'=>?_) (λi j e' a' h h'=>?_)
   .obtain⟨l,_,rfl,hI⟩:=get i e' h
    rw[pack_cells hI];exact hI.length
   .obtain⟨l,hl,rfl,hI⟩:=get i e' h
    rw[pack_cells hI]at h'
    obtain⟨c,c1,c2,c3⟩:=(hxp i l hl).2 j a' h'
    rw[c1]
    exact⟨c1,c2⟩
   .obtain⟨l,hl,rfl,hI⟩:=get i e' h
    rw[pack_cells hI]at h'
    obtain⟨c,c1,c2,c3⟩:=(hxp i l hl).2 j a' h'
    rw[c1]
    exact c3
  .obtain⟨i,hi⟩:=dP.1 h
   exact(hxp i xs hi).1
def rOk(P:Program):Prop:=∀e T,JE e=some T->∃d,vU P d e=some T
theorem U4(hrt:rOk P):∀(fuel d:Nat) (t:TypeId) (T:Ty),vU P d t=some T->∀(cs:List Value) (x:DataW H×List MemPlace),DataW.trod enc P w 0 (λ_=>true) true fuel t cs=some x->∃l,RdL w cs l/\IsZ (ZN fuel) T l:=by
 intro fuel
 induction fuel with
 |zero=>intro d t T hT cs x hx;simp[DataW.trod]at hx
 |succ n ih =>
  intro d t T hT cs x hx
  have up:∀{T:Ty} {l:List AV},IsZ (ZN n) T l->IsZ (ZN (n+1)) T l:=λh=>h.mono λty sz a=>ZN.succ n ty sz a
  have fields:∀(d:Nat) (fs:List Field) (o:Nat) (ts:List Ty),Gc P (vU P d) o fs=some ts->(∀f∈fs,∃y,DataW.trod enc P w 0 (λ_=>true) true n f.type ((cs.drop f.offset).take (P.cellsOf f.type))=some y)->cs.length=o+Ty.om ts->∃l,RdL w (cs.drop o) l/\rM (ZN (n+1)) ts l:=by
   intro d fs
   induction fs with
   |nil =>
    intro o ts h1 _ h3
    simp only[Gc]at h1
    cases h1
    refine⟨[],?_,rfl⟩
    rw[iN (by simp[Ty.om]at h3;omega)]
    exact⟨rfl,λj c a p=>by simp at p⟩
   |cons f fs ihf =>
    intro o ts h1 h2 h3
    simp only[Gc]at h1
    cases hF:vU P d f.type with
    |none=>rw[hF]at h1;cases h1
    |some T1 =>
     rw[hF]at h1
     simp only at h1
     split at h1
     .rename_i hc
      cases hR:Gc P (vU P d) (o+T1.size) fs with
      |none=>rw[hR]at h1;cases h1
      |some ts' =>
       rw[hR]at h1;cases h1
       obtain⟨y,hy⟩:=h2 f (by simp)
       rw[hc.1,hc.2]at hy
       obtain⟨l1,r1,i1⟩:=ih d f.type T1 hF _ y hy
       obtain⟨l2,r2,i2⟩:=ihf (o+T1.size) ts' hR (λg hg=>h2 g (by simp[hg])) (by simp only[Ty.om]at h3;omega)
       refine⟨l1++l2,?_,l1,l2,rfl,up i1,i2⟩
       have:cs.drop o=(cs.drop o).take T1.size++cs.drop (o+T1.size):=by
        rw[<- List.drop_drop,qL]
       rw[this]
       exact r1.app r2
     .cases h1
  cases d with
  |zero=>simp[vU]at hT
  |succ d =>
  simp only[vU]at hT
  split at hT
  .rename_i k hk
   cases hT
   obtain⟨n,rfl,_,hw⟩:=DataW.trod_int hk hx
   exact⟨[.v (.int k n)],RdL.one rfl (.v _),n,rfl,hw⟩
  .rename_i hk
   cases hT
   obtain⟨b,rfl,_⟩:=DataW.trod_bool hk hx
   exact⟨[.v (.bool b)],RdL.one rfl (.v _),b,rfl⟩
  .rename_i hk
   cases hT
   obtain⟨s,rfl,_,hs⟩:=DataW.trod_string hk hx
   exact⟨[.v (.string s)],RdL.one rfl (.v _),s,rfl,hs⟩
  .rename_i e hk
   cases hr:JE e with
   |some E =>
    rw[hr]at hT
    simp only at hT
    split at hT
    .rename_i hsz
     cases hT
     obtain⟨d',hd⟩:=hrt e E hr
     obtain⟨xss,h1,h2,h3⟩:=Ig hk hsz.1 (λcs x h=>ih d' e E hd cs x h) hx
     exact⟨_,h1,_,rfl,E,hr,rfl,xss,rfl,h2,h3⟩
    .cases hT
   |none =>
    rw[hr]at hT
    simp only at hT
    cases hE:vU P d e with
    |none=>rw[hE]at hT;cases hT
    |some E =>
     rw[hE]at hT
     simp only at hT
     split at hT
     .rename_i hsz
      cases hT
      obtain⟨xss,h1,h2,h3⟩:=Ig hk hsz.1 (λcs x h=>ih d e E hE cs x h) hx
      exact⟨_,h1,xss,rfl,h2,λxs q=>up (h3 xs q)⟩
     .cases hT
  .rename_i fs hk
   cases hF:Gc P (vU P d) 0 fs.toList with
   |none=>rw[hF]at hT;cases hT
   |some ts =>
    rw[hF]at hT
    simp only at hT
    split at hT
    .rename_i hsz
     cases hT
     obtain⟨xs,m,hm,_,hcl,hxl,hf⟩:=DataW.trod_struct hk hx
     cases hm
     obtain⟨l,hr,hI⟩:=fields d fs.toList 0 ts hF (λf hfm=>by
      obtain⟨i,hi⟩:=dP.1 hfm
      have hi':fs[i]?=some f:=by simpa using hi
      have hlt:i<xs.length:=by rw[hxl];exact(fC.1 hi').1
      exact⟨xs[i],by rw[hf i f hi',ah hlt]⟩) (by omega)
     exact⟨l,by simpa using hr,by simp only[IsZ];exact hI⟩
    .cases hT
  .cases hT
def IsV(T:Ty)(a:AV):Prop:=∃l,Is T l/\a=pack T l
theorem a1s{d:Nat}{t:TypeId}{T:Ty}(hrt:rOk P)(hT:vU P d t=some T){r:Reach}{b0:Nat}{v:Value}{D:DataW H}{p:List MemPlace}(hv:Value.okWide P w r b0 t v)(h:DataW.Trod enc P w 0 (λ_=>true) true t v D p):∃a,RP (snap w) v a/\IsV T a:=by
 obtain⟨fuel,hf⟩:=h
 obtain⟨l,hr,hI⟩:=U4 hrt fuel d t T hT _ _ hf
 have hI:=Is.ofN hI
 refine⟨pack T l,?_,l,hI,rfl⟩
 have single:v.cells.toList=[v]->T.oq=false->RP (snap w) v (pack T l):=by
  intro h1 h2
  have hl:=hr.1
  rw[h1]at hr
  have hl1:l.length=1:=by rw[<- hr.1];rfl
  obtain⟨a,rfl⟩:=mR.1 hl1
  have e:pack T [a]=a:=by simp[pack,h2]
  rw[e]
  exact(hr.2 0 v a rfl rfl).2
 have E9:∀{dd:TypeDesc},P.underlying t=some dd->(match dd with|.struct _=>true|.array _ _=>true|_=>false)=false->v.cells.toList=[v]:=by
  intro dd hd hn
  have hv':Cell.okWide P w r b0 t v:=by
   unfold Value.okWide at hv
   rw[hd]at hv
   cases dd<;>first|exact hv|cases hn
  cases v with
  |agg cs =>
   exfalso
   unfold Cell.okWide at hv'
   rw[hd]at hv'
   cases dd<;>first|(cases hn;done)|(simp[Cell.ok,hd]at hv';done)|(simp_all [Cell.ok];done)
  |_=>rfl
 cases d with
 |zero=>simp[vU]at hT
 |succ d =>
  simp only[vU]at hT
  split at hT
  .rename_i k hk;cases hT;exact single (E9 hk rfl) rfl
  .rename_i hk;cases hT;exact single (E9 hk rfl) rfl
  .rename_i hk;cases hT;exact single (E9 hk rfl) rfl
  .rename_i e hk
   split at hT
   .split at hT
    .cases hT;exact single (E9 hk rfl) rfl
    .cases hT
   .split at hT
    .split at hT
     .cases hT;exact single (E9 hk rfl) rfl
     .cases hT
    .cases hT
  .rename_i fs hk
   split at hT
   .split at hT
    .cases hT
     unfold Value.okWide at hv
     rw[hk]at hv
     obtain⟨cs,rfl,_,_⟩:=hv
     have e:∀fs,pack (Ty.tup fs) l=.agg l:=λ_=>rfl
     rw[e]
     have hr':RdL w cs.toList l:=hr
     refine .agg cs l (by have:=hr'.1;simpa using this) (λj x p=>?_) (λj x a p q=>(hr'.2 j x a (by simpa using p) q).2)
     have hj:j<l.length:=by rw[<- hr'.1];have:=(fC.1 p).1;simpa using this
     exact(hr'.2 j x l[j] (by simpa using p) (ah hj)).1
    .cases hT
   .cases hT
  .cases hT
theorem RPL.nil{F:Addr->Option Value}:RPL F #[] []:=⟨rfl,λi x a p=>by simp at p⟩
theorem RPL.cons{F:Addr->Option Value}{x:Value}{a:AV}{xs:List Value}{l:List AV}(h:RP F x a)(k:RPL F xs.toArray l):RPL F (x::xs).toArray (a::l):=by
 refine⟨by have:=k.1;simp at this;simp[this],λi y b p q=>?_⟩
 cases i with
 |zero=>simp at p q;subst p q;exact h
 |succ i=>exact k.2 i y b (by simpa using p) (by simpa using q)
end
mutual
def Ty.den:Ty->Type
 |.int _=>Int
 |.bool=>Bool
 |.str=>ByteArray
 |.list e=>List (Ty.den e)
 |.tup fs=>Ty.bO fs
 |.fnc _=>Unit
 |.iP e=>Option (List (Ty.den e))
 |.rl _ _=>List AV
def Ty.bO:List Ty->Type
 |[]=>Unit
 |t::ts=>Ty.den t×Ty.bO ts
end
mutual
def Ty.enc:(T:Ty)->T.den->AV
 |.int k,n=>.v (.int k n)
 |.bool,b=>.v (.bool b)
 |.str,s=>.v (.string s)
 |.list e,xs=>.list e.size (List.map (Ty.enc e) xs)
 |.tup fs,x=>.agg (Ty.iW fs x)
 |.fnc f,_=>.v (.func (.func f) #[] #[])
 |.iP e,o=>match o with
  |none=>.v (.slice none 0 0)
  |some xs=>.list e.size (List.map (Ty.enc e) xs)
 |.rl _ sz,xs=>.list sz xs
def Ty.iW:(fs:List Ty)->Ty.bO fs->List AV
 |[],_=>[]
 |t::ts,x=>(Ty.enc t x.1).cells++Ty.iW ts x.2
end
mutual
def Ty.dflt:(T:Ty)->T.den
 |.int _=>(0:Int)
 |.bool=>false
 |.str=>ByteArray.empty
 |.list _=>[]
 |.tup fs=>Ty.a4E fs
 |.fnc _=>()
 |.iP _=>none
 |.rl _ _=>[]
def Ty.a4E:(fs:List Ty)->Ty.bO fs
 |[]=>()
 |t::ts=>(Ty.dflt t,Ty.a4E ts)
end
mutual
def Ty.same:Ty->Ty->Bool
 |.int k,.int k'=>decide (k=k')
 |.bool,.bool=>true
 |.str,.str=>true
 |.list a,.list b=>Ty.same a b
 |.tup fs,.tup gs=>Ty.su fs gs
 |.fnc f,.fnc g=>Nat.beq f g
 |.iP a,.iP b=>Ty.same a b
 |.rl a b,.rl c d=>Nat.beq a c&&Nat.beq b d
 |_,_=>false
def Ty.su:List Ty->List Ty->Bool
 |[],[]=>true
 |a::as,b::bs=>Ty.same a b&&Ty.su as bs
 |_,_=>false
end
mutual
theorem Ty.same_eq:∀{a b:Ty},Ty.same a b=true->a=b
 |.int k,b,h=>by cases b<;>simp[Ty.same]at h;rw[h]
 |.bool,b,h=>by cases b<;>simp[Ty.same]at h;rfl
 |.str,b,h=>by cases b<;>simp[Ty.same]at h;rfl
 |.list a,b,h=>by cases b<;>simp[Ty.same]at h;rw[Ty.same_eq h]
 |.tup fs,b,h=>by cases b<;>simp[Ty.same]at h;rw[Ty.Oc h]
 |.fnc f,b,h=>by cases b<;>simp[Ty.same]at h;rw[h]
 |.iP a,b,h=>by cases b<;>simp[Ty.same]at h;rw[Ty.same_eq h]
 |.rl a b,c,h=>by cases c<;>simp[Ty.same]at h;rw[h.1,h.2]
theorem Ty.Oc:∀{a b:List Ty},Ty.su a b=true->a=b
 |[],b,h=>by cases b<;>simp[Ty.su]at h;rfl
 |a::as,b,h=>by
  cases b with
  |nil=>simp[Ty.su]at h
  |cons b bs=>simp[Ty.su]at h;rw[Ty.same_eq h.1,Ty.Oc h.2]
end
def gB{a b:Ty}(x:a.den):Option b.den:=if h:Ty.same a b=true then some ((Ty.same_eq h)▸x) else none
theorem lD{a b:Ty}{x:a.den}{y:b.den}(h:gB x=some y):∃e:a=b,y=e▸x:=by
 unfold gB at h
 split at h
 .rename_i hs;cases h;exact⟨Ty.same_eq hs,rfl⟩
 .cases h
theorem ji:∀(T:Ty) (x:T.den),((Ty.enc T x).cells.length=T.size):=by
 have key:(∀T:Ty,∀x:T.den,(Ty.enc T x).cells.length=T.size)/\True:=⟨?_,trivial⟩
 .exact key.1
 .intro T
  refine Ty.rec (motive_1:=λT=>∀x:T.den,(Ty.enc T x).cells.length=T.size) (motive_2:=λfs=>∀x:Ty.bO fs,(Ty.iW fs x).length=Ty.om fs) ?_ ?_ ?_ ?_ ?_ ?_ ?_ ?_ ?_ ?_ T
  .intro k x;rfl
  .intro x;rfl
  .intro x;rfl
  .intro e _ x;rfl
  .intro fs ih x;exact ih x
  .intro f x;rfl
  .intro e _ x;cases x<;>rfl
  .intro ty sz x;rfl
  .intro x;rfl
  .intro t ts h1 h2 x
   simp only[Ty.iW,ak,h1,h2,Ty.om]
inductive XV where
 |any
 |d (T:Ty) (x:T.den)
 |k (v:Value)
 |row (id:Nat)
 |sub (id off len:Nat)
 |me (id:Nat)
 |ptr (id i off:Nat)
 |lp (T:Ty) (x:T.den) (off:Nat)
 |raw (l:List AV)
 |agg (cs:List XV)
 |tup (vs:List XV)
instance:Inhabited XV:=⟨.any⟩
inductive XO where
 |row (ty:Nat) (T:Ty) (fz:Bool) (es:List T.den)
 |box (ty:Nat) (cs:List XV)
structure XS where
 t:List XV
 h:List XO
def XO.len:XO->Nat
 |.row _ _ _ es=>es.length
 |.box _ _=>1
inductive Wp:AV->AV->Prop
 |refl (a:AV):Wp a a
 |nil (sz:Nat):Wp (.v (.slice none 0 0)) (.list sz [])
 |list (sz:Nat) (xs ys:List AV) (hl:xs.length=ys.length) (h:∀(i:Nat) (x y:AV),xs[i]?=some x->ys[i]?=some y->Wp x y):Wp (.list sz xs) (.list sz ys)
 |agg (xs ys:List AV) (hl:xs.length=ys.length) (h:∀(i:Nat) (x y:AV),xs[i]?=some x->ys[i]?=some y->Wp x y):Wp (.agg xs) (.agg ys)
def bn{α β:Type}(R:α->β->Prop)(xs:List α)(ys:List β):Prop:=xs.length=ys.length/\∀(i:Nat) (x:α) (y:β),xs[i]?=some x->ys[i]?=some y->R x y
section
variable{α β γ:Type}{R:α->β->Prop}
theorem bn.nil:bn R [] []:=⟨rfl,λi x y h=>by simp at h⟩
theorem bn.cons{x:α}{y:β}{xs:List α}{ys:List β}(h:R x y)(t:bn R xs ys):bn R (x::xs) (y::ys) :=
 ⟨by simp[t.1],λi a b p q=>by
  cases i with
  |zero=>simp at p q;subst p q;exact h
  |succ i=>simp at p q;exact t.2 i a b p q⟩
theorem bn.head{x:α}{y:β}{xs:List α}{ys:List β}(h:bn R (x::xs) (y::ys)):R x y:=h.2 0 x y rfl rfl
theorem bn.tail{x:α}{y:β}{xs:List α}{ys:List β}(h:bn R (x::xs) (y::ys)):bn R xs ys:=⟨by have:=h.1;simpa using this,λi a b p q=>h.2 (i+1) a b (by simpa using p) (by simpa using q)⟩
theorem bn.gT{ys:List β}(h:bn R [] ys):ys=[]:=by have:=h.1;simp at this;exact bC.1 this.symm
theorem bn.L6{xs:List α}(h:bn R xs []):xs=[]:=by have:=h.1;simp at this;exact this
theorem bn.cZ{x:α}{xs:List α}{ys:List β}(h:bn R (x::xs) ys):∃y zs,ys=y::zs/\R x y/\bn R xs zs:=by
 cases ys with
 |nil=>have:=h.1;simp at this
 |cons y zs=>exact⟨y,zs,rfl,h.head,h.tail⟩
theorem bn.cons_right{y:β}{xs:List α}{ys:List β}(h:bn R xs (y::ys)):∃x zs,xs=x::zs/\R x y/\bn R zs ys:=by
 cases xs with
 |nil=>have:=h.1;simp at this
 |cons x zs=>exact⟨x,zs,rfl,h.head,h.tail⟩
theorem bn.drop{xs:List α}{ys:List β}(h:bn R xs ys)(n:Nat):bn R (xs.drop n) (ys.drop n) :=
 ⟨by simp[h.1],λi x y p q=>by rw[fT]at p q;exact h.2 _ x y p q⟩
theorem bn.take{xs:List α}{ys:List β}(h:bn R xs ys)(n:Nat):bn R (xs.take n) (ys.take n) :=
 ⟨by simp[h.1],λi x y p q=>by
  rw[bU]at p q
  split at p
  .rename_i hi;rw[if_pos hi]at q;exact h.2 _ x y p q
  .cases p⟩
theorem bn.append{xs xs':List α}{ys ys':List β}(h:bn R xs ys)(k:bn R xs' ys'):bn R (xs++xs') (ys++ys') :=
 ⟨by simp[h.1,k.1],λi x y p q=>by
  rcases bI i xs.length with hi|hi
  .rw[au hi]at p
   rw[au (by rw[<- h.1];exact hi)]at q
   exact h.2 i x y p q
  .rw[aO hi]at p
   rw[aO (by rw[<- h.1];exact hi),<- h.1]at q
   exact k.2 _ x y p q⟩
theorem bn.set{xs:List α}{ys:List β}(h:bn R xs ys){x:α}{y:β}(hr:R x y)(n:Nat):bn R (xs.set n x) (ys.set n y) :=
 ⟨by simp[h.1],λi a b p q=>by
  rw[dh]at p q
  split at p
  .rename_i hi
   rw[if_pos hi]at q
   split at p
   .split at q
    .cases p;cases q;exact hr
    .cases q
   .cases p
  .rename_i hi
   rw[if_neg hi]at q
   exact h.2 i a b p q⟩
theorem bn.getD{xs:List α}{ys:List β}(h:bn R xs ys){n:Nat}(hn:n<ys.length)(u:α)(v:β):R (xs.getD n u) (ys.getD n v):=by
 have hn':n<xs.length:=by rw[h.1];exact hn
 have e1:xs.getD n u=xs[n]:=by simp[List.getD,ah hn']
 have e2:ys.getD n v=ys[n]:=by simp[List.getD,ah hn]
 rw[e1,e2]
 exact h.2 n _ _ (ah hn') (ah hn)
theorem bn.mono{R':α->β->Prop}{xs:List α}{ys:List β}(h:bn R xs ys)(hr:∀x y,R x y->R' x y):bn R' xs ys:=⟨h.1,λi x y p q=>hr x y (h.2 i x y p q)⟩
theorem bn.lq{xs:List α}{ys:List β}(h:bn R xs ys){i:Nat}{x:α}(hx:xs[i]?=some x):∃y,ys[i]?=some y/\R x y:=by
 have hi:i<xs.length:=(aj.1 hx).1
 have hi':i<ys.length:=by rw[<- h.1];exact hi
 exact⟨ys[i],ah hi',h.2 i x _ hx (ah hi')⟩
theorem bn.mZ{xs:List α}{ys:List β}(h:bn R xs ys){i:Nat}{y:β}(hy:ys[i]?=some y):∃x,xs[i]?=some x/\R x y:=by
 have hi:i<ys.length:=(aj.1 hy).1
 have hi':i<xs.length:=by rw[h.1];exact hi
 exact⟨xs[i],ah hi',h.2 i _ y (ah hi') hy⟩
theorem bn.rfl'{R:α->α->Prop}(h:∀x,R x x)(xs:List α):bn R xs xs:=⟨rfl,λi x y p q=>by rw[p]at q;cases q;exact h x⟩
end
theorem Wp.dK{a:AV}{y:Value}(h:Wp a (.v y)):a=.v y:=by
 generalize hb:AV.v y=b at h
 cases h with
 |refl=>rfl
 |_=>cases hb
theorem Wp.jG{a:AV}{sz:Nat}{ys:List AV}(h:Wp a (.list sz ys)):(a=.v (.slice none 0 0)/\ys=[])\/∃xs,a=.list sz xs/\bn Wp xs ys:=by
 generalize hb:AV.list sz ys=b at h
 cases h with
 |refl=>subst hb;exact .inr ⟨ys,rfl,bn.rfl' .refl ys⟩
 |nil=>cases hb;exact .inl ⟨rfl,rfl⟩
 |list _ xs ys' hl h=>cases hb;exact .inr ⟨xs,rfl,hl,h⟩
 |agg=>cases hb
theorem Wp.iX{a:AV}{ys:List AV}(h:Wp a (.agg ys)):∃xs,a=.agg xs/\bn Wp xs ys:=by
 generalize hb:AV.agg ys=b at h
 cases h with
 |refl=>subst hb;exact⟨ys,rfl,bn.rfl' .refl ys⟩
 |agg xs ys' hl h=>cases hb;exact⟨xs,rfl,hl,h⟩
 |_=>cases hb
theorem Wp.cells{a b:AV}(h:Wp a b):bn Wp a.cells b.cells:=by
 cases h with
 |refl=>exact bn.rfl' .refl _
 |nil sz=>exact .cons (.nil sz) .nil
 |list sz xs ys hl h=>exact .cons (.list sz xs ys hl h) .nil
 |agg xs ys hl h=>exact⟨hl,h⟩
theorem Wp.wk2{a b:AV}(h:Wp a b):Wk a b/\∀(j:Nat) (x y:AV),a.cells[j]?=some x->b.cells[j]?=some y->Wk x y:=by
 have one:∀{a b:AV},a.cells=[a]->b.cells=[b]->Wk a b->∀(j:Nat) (x y:AV),a.cells[j]?=some x->b.cells[j]?=some y->Wk x y:=by
  intro a b ha hb hw j x y p q
  rw[ha]at p;rw[hb]at q
  match j with
  |0=>simp at p q;subst p q;exact hw
  |j+1=>simp at p
 induction h with
 |refl a=>exact⟨Wk.refl a,λj x y p q=>by rw[p]at q;cases q;exact Wk.refl _⟩
 |nil sz=>exact⟨Wk.nil sz,one rfl rfl (Wk.nil sz)⟩
 |agg xs ys hl h ih=>exact⟨Wk.agg hl λj a b p q=>(ih j a b p q).1,λj x y p q=>(ih j x y p q).1⟩
 |list sz xs ys hl h ih =>
  have main:Wk (.list sz xs) (.list sz ys):=by
   intro F x hR
   cases hR with
   |nil =>
    have:ys=[]:=bC.1 (by simpa using hl.symm)
    subst this;exact .nil sz
   |list ad n cap _ _ cv hn hc hz hF hRc =>
    have cel:∀(i:Nat) (e:AV),ys[i]?=some e->∃e',xs[i]?=some e'/\Wp e' e:=λi e he=>bn.mZ ⟨hl,h⟩ he
    have at':∀(i j:Nat) (e a:AV),ys[i]?=some e->e.cells[j]?=some a->∃e' a',xs[i]?=some e'/\e'.cells[j]?=some a'/\Wk a' a:=λi j e a he ha=>by
     obtain⟨e',he',hw⟩:=cel i e he
     obtain⟨a',ha',hwa⟩:=hw.cells.mZ ha
     exact⟨e',a',he',ha',(ih i e' e he' he).2 j a' a ha' ha⟩
    refine .list ad n cap sz ys cv (by rw[<- hl];exact hn) hc (λi e he=>?_) (λi j e a he ha=>?_) (λi j e a he ha=>?_)
    .obtain⟨e',he',hw⟩:=cel i e he
     rw[<- hw.cells.1];exact hz i e' he'
    .obtain⟨e',a',he',ha',_⟩:=at' i j e a he ha
     exact hF i j e' a' he' ha'
    .obtain⟨e',a',he',ha',hw⟩:=at' i j e a he ha
     exact hw F _ (hRc i j e' a' he' ha')
  exact⟨main,one rfl rfl main⟩
theorem Wp.wk{a b:AV}(h:Wp a b):Wk a b:=h.wk2.1
theorem Wp.trans{a b c:AV}(h:Wp a b)(k:Wp b c):Wp a c:=by
 induction k generalizing a with
 |refl=>exact h
 |nil sz=>rw[h.dK];exact .nil sz
 |list sz xs ys hl hx ih =>
  rcases h.jG with⟨rfl,rfl⟩|⟨zs,rfl,hz⟩
  .have:ys=[]:=bC.1 (by simpa using hl.symm)
   subst this;exact .nil sz
  .refine .list sz zs ys (by rw[hz.1,hl]) λi x y p q=>?_
   obtain⟨u,hu,huw⟩:=hz.lq p
   exact ih i u y hu q huw
 |agg xs ys hl hx ih =>
  obtain⟨zs,rfl,hz⟩:=h.iX
  refine .agg zs ys (by rw[hz.1,hl]) λi x y p q=>?_
  obtain⟨u,hu,huw⟩:=hz.lq p
  exact ih i u y hu q huw
theorem VH{xs ys zs:List AV}(h:bn Wp xs ys)(k:bn Wp ys zs):bn Wp xs zs:=⟨by rw[h.1,k.1],λi x z p q=>by
 obtain⟨y,hy,hw⟩:=h.lq p
 exact hw.trans (k.2 i y z hy q)⟩
def b9z(cs:List AV):Int:=match cs with
 |[.v (.int _ n)]=>n
 |_=>0
def b6L(cs:List AV):Bool:=match cs with
 |[.v (.bool b)]=>b
 |_=>false
def b9o(cs:List AV):ByteArray:=match cs with
 |[.v (.string s)]=>s
 |_=>ByteArray.empty
def a2M(cs:List AV):List AV:=match cs with
 |[.list _ xs]=>xs
 |_=>[]
mutual
def Es:(T:Ty)->List AV->T.den
 |.int _,cs=>b9z cs
 |.bool,cs=>b6L cs
 |.str,cs=>b9o cs
 |.list e,cs=>(a2M cs).map λa=>Es e a.cells
 |.tup fs,cs=>Vp fs cs
 |.fnc _,_=>()
 |.iP _,_=>none
 |.rl _ _,cs=>a2M cs
def Vp:(fs:List Ty)->List AV->Ty.bO fs
 |[],_=>()
 |t::ts,cs=>(Es t (cs.take t.size),Vp ts (cs.drop t.size))
end
def shp(T:Ty)(a:AV):Bool:=match a with
 |.agg _=>T.oq
 |_=>!T.oq
def Q5(k:IntKind)(cs:List AV):Bool:=match cs with
 |[.v (.int k' _)]=>decide (k=k')
 |_=>false
def K6(cs:List AV):Bool:=match cs with
 |[.v (.bool _)]=>true
 |_=>false
def PZ(cs:List AV):Bool:=match cs with
 |[.v (.string _)]=>true
 |_=>false
mutual
def okC:Ty->List AV->Bool
 |.int k,cs=>Q5 k cs
 |.bool,cs=>K6 cs
 |.str,cs=>PZ cs
 |.list e,cs=>match cs with
  |[.list sz xs]=>Nat.beq sz e.size&&xs.all (λa=>shp e a&&okC e a.cells)
  |_=>false
 |.tup fs,cs=>OV fs cs
 |.fnc _,_=>false
 |.iP _,_=>false
 |.rl _ sz,cs=>match cs with
  |[.list sz' _]=>Nat.beq sz' sz
  |_=>false
def OV:List Ty->List AV->Bool
 |[],cs=>cs.isEmpty
 |t::ts,cs=>okC t (cs.take t.size)&&OV ts (cs.drop t.size)
end
def okD(T:Ty)(a:AV):Bool:=shp T a&&okC T a.cells
def Km(T:Ty)(a:AV):T.den:=Es T a.cells
def b1y(T:Ty)(xs:List AV):Bool:=xs.all (okD T)
def MW(T:Ty)(xs:List AV):List T.den:=xs.map (Km T)
def MS(T:Ty)(xs:List T.den):List AV:=xs.map (Ty.enc T)
theorem RZ(T:Ty)(x:T.den):shp T (Ty.enc T x)=true:=by
 cases T with
 |iP e=>cases x<;>rfl
 |_=>rfl
theorem WT{T:Ty}{a:AV}{x:T.den}(hs:shp T a=true)(h:bn Wp a.cells (Ty.enc T x).cells):Wp a (Ty.enc T x):=by
 have hx:=RZ T x
 generalize Ty.enc T x=b at h hx
 unfold shp at hs hx
 cases a<;>cases b<;>first
  |exact .agg _ _ h.1 h.2
  |(simp_all;done)
  |exact h.2 0 _ _ rfl rfl
theorem a6h(k:IntKind)(cs:List AV):okC (.int k) cs=Q5 k cs:=by simp only[okC]
theorem a6g(fs:List Ty)(cs:List AV):okC (.tup fs) cs=OV fs cs:=by simp only[okC]
theorem a1T(e:Ty)(sz:Nat)(xs:List AV):okC (.list e) [.list sz xs]=(Nat.beq sz e.size&&xs.all (λa=>shp e a&&okC e a.cells)):=by simp only[okC]
theorem Ze(T:Ty):∀cs,okC T cs=true->bn Wp cs (Ty.enc T (Es T cs)).cells:=by
 refine Ty.rec (motive_1:=λT=>∀cs,okC T cs=true->bn Wp cs (Ty.enc T (Es T cs)).cells)
  (motive_2:=λgs=>∀cs,OV gs cs=true->bn Wp cs (Ty.iW gs (Vp gs cs))) ?_ ?_ ?_ ?_ ?_ ?_ ?_ ?_ ?_ ?_ T
 .intro k cs h
  rw[a6h]at h
  unfold Q5 at h
  split at h
  .have:=of_decide_eq_true h;subst this;exact .cons (.refl _) .nil
  .cases h
 .intro cs h
  have h:K6 cs=true:=h
  unfold K6 at h
  split at h
  .exact .cons (.refl _) .nil
  .cases h
 .intro cs h
  have h:PZ cs=true:=h
  unfold PZ at h
  split at h
  .exact .cons (.refl _) .nil
  .cases h
 .intro e ih cs h
  match cs,h with
  |[.list sz xs],h =>
   rw[a1T,aB]at h
   have hs:=fV h.1
   subst hs
   refine .cons (.list _ _ _ (by simp[Es,a2M]) λi x y p q=>?_) .nil
   have q:((xs.map λa=>Es e a.cells).map (Ty.enc e))[i]?=some y:=q
   rw[fH,aT,p]at q
   cases q
   have:=aD.1 h.2 x (bP p)
   rw[aB]at this
   exact WT this.1 (ih _ this.2)
 .intro fs ih cs h
  rw[a6g]at h
  exact ih cs h
 .intro f cs h;cases h
 .intro e _ cs h;cases h
 .intro ty sz cs h
  match cs,h with
  |[.list sz' xs],h =>
   have h:Nat.beq sz' sz=true:=h
   have:=fV h
   subst this
   exact .cons (.refl _) .nil
 .intro cs h
  have h:cs.isEmpty=true:=h
  have:cs=[]:=by simpa using h
  subst this;exact .nil
 .intro t ts h1 h2 cs h
  have h:(okC t (cs.take t.size)&&OV ts (cs.drop t.size))=true:=h
  rw[aB]at h
  have q:=(h1 _ h.1).append (h2 _ h.2)
  rw[qL]at q
  exact q
theorem Sk{T:Ty}{a:AV}(h:okD T a=true):Wp a (Ty.enc T (Km T a)):=by
 unfold okD at h
 rw[aB]at h
 exact WT h.1 (Ze T _ h.2)
theorem a2R{T:Ty}{xs:List AV}(h:b1y T xs=true):bn Wp xs ((MW T xs).map (Ty.enc T)):=by
 refine⟨by simp[MW],λi x y p q=>?_⟩
 simp only[MW,fH,aT,p,bq]at q
 cases q
 exact Sk (aD.1 h x (bP p))
def vx1:Value->XV
 |.int k n=>.d (.int k) n
 |.bool b=>.d .bool b
 |.string s=>.d .str s
 |.func (.func f) a b=>match a.toList,b.toList with
  |[],[]=>.d (.fnc f) ()
  |_,_=>.k (.func (.func f) a b)
 |v=>.k v
def vx:Value->XV
 |.agg cs=>.agg (cs.toList.map vx1)
 |v=>vx1 v
mutual
def flat:(T:Ty)->T.den->List XV
 |.tup fs,x=>MP fs x
 |.int k,x=>[.d (.int k) x]
 |.bool,x=>[.d .bool x]
 |.str,x=>[.d .str x]
 |.list e,x=>[.d (.list e) x]
 |.fnc f,x=>[.d (.fnc f) x]
 |.iP e,x=>[.d (.iP e) x]
 |.rl a b,x=>[.d (.rl a b) x]
def MP:(fs:List Ty)->Ty.bO fs->List XV
 |[],_=>[]
 |t::ts,x=>flat t x.1++MP ts x.2
end
def okX:XV->Bool
 |.d T _=>!T.oq
 |.k v=>v.oneCell'
 |.row _=>true
 |.sub _ _ _=>true
 |.ptr _ _ _=>true
 |_=>false
def A9:XV->Option (List XV)
 |.d T x=>some (flat T x)
 |.agg cs=>if cs.all okX=true then some cs else none
 |.k v=>if v.oneCell' then some [.k v] else none
 |.row id=>some [.row id]
 |.sub id o l=>some [.sub id o l]
 |.ptr id i o=>some [.ptr id i o]
 |_=>none
mutual
def atT:(T:Ty)->T.den->Nat->Nat->Bool->Option XV
 |.tup fs,x,o,sz,ag=>if(Nat.beq o 0&&ag&&Nat.beq sz (Ty.om fs))=true then some (.d (.tup fs) x) else atL fs x o sz ag
 |.int k,x,o,sz,ag=>if(Nat.beq o 0&&!ag)=true then some (.d (.int k) x) else none
 |.bool,x,o,sz,ag=>if(Nat.beq o 0&&!ag)=true then some (.d .bool x) else none
 |.str,x,o,sz,ag=>if(Nat.beq o 0&&!ag)=true then some (.d .str x) else none
 |.list e,x,o,sz,ag=>if(Nat.beq o 0&&!ag)=true then some (.d (.list e) x) else none
 |.fnc f,x,o,sz,ag=>if(Nat.beq o 0&&!ag)=true then some (.d (.fnc f) x) else none
 |.iP e,x,o,sz,ag=>if(Nat.beq o 0&&!ag)=true then some (.d (.iP e) x) else none
 |.rl a b,x,o,sz,ag=>if(Nat.beq o 0&&!ag)=true then some (.d (.rl a b) x) else none
def atL:(fs:List Ty)->Ty.bO fs->Nat->Nat->Bool->Option XV
 |[],_,_,_,_=>none
 |f::fs,x,o,sz,ag=>if Nat.blt o f.size=true then atT f x.1 o sz ag else atL fs x.2 (o-f.size) sz ag
end
mutual
def DF{T':Ty}(y:T'.den):(T:Ty)->T.den->Nat->Option T.den
 |.tup fs,x,o=>if(Nat.beq o 0&&Ty.same T' (.tup fs))=true then gB y else DI y fs x o
 |.int k,x,o=>if Nat.beq o 0=true then gB y else none
 |.bool,x,o=>if Nat.beq o 0=true then gB y else none
 |.str,x,o=>if Nat.beq o 0=true then gB y else none
 |.list e,x,o=>if Nat.beq o 0=true then gB y else none
 |.fnc f,x,o=>if Nat.beq o 0=true then gB y else none
 |.iP e,x,o=>if Nat.beq o 0=true then gB y else none
 |.rl a b,x,o=>if Nat.beq o 0=true then gB y else none
def DI{T':Ty}(y:T'.den):(fs:List Ty)->Ty.bO fs->Nat->Option (Ty.bO fs)
 |[],_,_=>none
 |f::fs,x,o=>if Nat.blt o f.size=true then(DF y f x.1 o).map λz=>(z,x.2) else(DI y fs x.2 (o-f.size)).map λz=>(x.1,z)
end
mutual
def partT:Ty->Nat->Nat->Option Ty
 |.tup fs,o,sz=>if(Nat.beq o 0&&Nat.beq sz (Ty.om fs))=true then some (.tup fs) else a3W fs o sz
 |_,_,_=>none
def a3W:List Ty->Nat->Nat->Option Ty
 |[],_,_=>none
 |f::fs,o,sz=>if Nat.blt o f.size=true then partT f o sz else a3W fs (o-f.size) sz
end
def lst:XV->XV
 |.d (.iP e) o=>.d (.list e) (Option.getD (α:=List e.den) o [])
 |x=>x
mutual
def toD(h:List XO):(T:Ty)->XV->Option T.den
 |.tup fs,c=>match c with
  |.d T' x=>gB x
  |.agg cs=>match vV h fs cs with
   |some (x,[])=>some x
   |_=>none
  |_=>none
 |.list e,c=>match lst c with
  |.d T' x=>gB x
  |.k (.slice none 0 0)=>some []
  |.row id=>match h[id]? with
   |some (.row _ T _ es)=>gB (a:=.list T) es
   |_=>none
  |.sub id off len=>match h[id]? with
   |some (.row _ T _ es)=>gB (a:=.list T) ((List.drop off es).take len)
   |_=>none
  |_=>none
 |.int k,c=>match c with
  |.d T' x=>gB x
  |_=>none
 |.bool,c=>match c with
  |.d T' x=>gB x
  |_=>none
 |.str,c=>match c with
  |.d T' x=>gB x
  |_=>none
 |.fnc f,c=>match c with
  |.d T' x=>gB x
  |_=>none
 |.iP e,c=>match c with
  |.d T' x=>match gB (b:=.iP e) x with
   |some o=>some o
   |none=>match gB (b:=.list e) x with
    |some xs=>some (some xs)
    |none=>none
  |.k (.slice none 0 0)=>some none
  |.row id=>match h[id]? with
   |some (.row _ T _ es)=>match gB (a:=.list T) (b:=.list e) es with
    |some xs=>some (some xs)
    |none=>none
   |_=>none
  |.sub id off len=>match h[id]? with
   |some (.row _ T _ es)=>match gB (a:=.list T) (b:=.list e) ((List.drop off es).take len) with
    |some xs=>some (some xs)
    |none=>none
   |_=>none
  |_=>none
 |.rl ty sz,c=>match c with
  |.d T' x=>gB x
  |.k (.slice none 0 0)=>some []
  |.row id=>match h[id]? with
   |some (.row ty' T _ es)=>if(Nat.beq ty' ty&&Nat.beq T.size sz)=true then some (MS T es) else none
   |_=>none
  |.sub id off len=>match h[id]? with
   |some (.row ty' T _ es)=>if(Nat.beq ty' ty&&Nat.beq T.size sz)=true then some (MS T ((List.drop off es).take len)) else none
   |_=>none
  |_=>none
def vV(h:List XO):(fs:List Ty)->List XV->Option (Ty.bO fs×List XV)
 |[],cs=>some ((),cs)
 |.tup gs::fs,cs=>match vV h gs cs with
  |some (x,r)=>match vV h fs r with
   |some (y,r')=>some ((x,y),r')
   |none=>none
  |none=>none
 |f::fs,cs=>match cs with
  |[]=>none
  |c::r=>match toD h f c with
   |some x=>match vV h fs r with
    |some (y,r')=>some ((x,y),r')
    |none=>none
   |none=>none
end
def Ij:XV->Bool
 |.d T _=>true
 |.k _=>true
 |.row _=>true
 |.sub _ _ _=>true
 |_=>false
def kC:XV->List Nat
 |.row id=>[id]
 |.sub id _ _=>[id]
 |_=>[]
def fE:XV->List Nat
 |.agg cs=>cs.flatMap kC
 |x=>kC x
def Qe:XO->XO
 |.row ty T _ es=>.row ty T true es
 |o=>o
def ko(h:List XO)(ids:List Nat):List XO:=ids.foldl (λh id=>match h[id]? with|some o=>h.set id (Qe o)|none=>h) h
def Gx(h:List XO)(id:Nat):Bool:=match h[id]? with
 |some (.row _ _ fz _)=>fz
 |_=>false
def wC(id:Nat):XV->XV
 |.row j=>if Nat.beq j id=true then .any else .row j
 |.sub j o l=>if Nat.beq j id=true then .any else .sub j o l
 |.me j=>if Nat.beq j id=true then .any else .me j
 |.ptr j i o=>if Nat.beq j id=true then .any else .ptr j i o
 |x=>x
def yY(id:Nat):XV->XV
 |.agg cs=>.agg (cs.map (wC id))
 |x=>wC id x
def Fv(id:Nat):XV->XV
 |.tup vs=>.tup (vs.map (yY id))
 |x=>yY id x
def UW(id:Nat):XO->XO
 |.box ty cs=>.box ty (cs.map (wC id))
 |o=>o
abbrev GXT:=Nat->Option ((T:Ty)×T.den)
def rdG(GX:GXT)(t:List XV):Opd->XV
 |.t i=>t.getD i .any
 |.k v=>vx1 v
 | .g i=>if Nat.blt i 1000000=true then match GX i with
   |some ⟨T,x⟩=>.lp T x 0
   |none=>.any
  else .any
def aR(k:IntKind)(a b:Int):Int:=k.wrap (a+b)
def dQ(k:IntKind)(a b:Int):Int:=k.wrap (a-b)
def vE(k:IntKind)(a b:Int):Int:=k.wrap (a*b)
def K7(k:IntKind)(a b:Int):Int:=k.wrap (a.tdiv b)
def jC(a b:Int):Int:=a.tmod b
def b9D(k:IntKind)(a b:Int):Int:=k.wrap (BitVec.ofInt k.bits a&&& BitVec.ofInt k.bits b).toNat
def iOr(k:IntKind)(a b:Int):Int:=k.wrap (BitVec.ofInt k.bits a||| BitVec.ofInt k.bits b).toNat
def b9A(k:IntKind)(a b:Int):Int:=k.wrap (BitVec.ofInt k.bits a ^^^ BitVec.ofInt k.bits b).toNat
def b9C(k:IntKind)(a b:Int):Int:=k.wrap (a*2^(min b.toNat k.bits))
def b9B(k:IntKind)(a b:Int):Int:=a.fdiv (2^(min b.toNat k.bits))
def Gz(k:IntKind)(a:Int):Int:=k.wrap (0-a)
def iEq(a b:Int):Bool:=a==b
def iNe(a b:Int):Bool:=a != b
def iLt(a b:Int):Bool:=decide (a<b)
def iLe(a b:Int):Bool:=decide (a<=b)
def jv(a b:Int):Int:=min a b
def tu(a b:Int):Int:=max a b
def bEq(a b:Bool):Bool:=a==b
def sEq(a b:ByteArray):Bool:=a.toList==b.toList
def sLt(a b:ByteArray):Bool:=Op.bytesLess a.toList b.toList
def iJ(a b:ByteArray):ByteArray:=a++b
def nu(a b:ByteArray):Bool:=decide (a.size+b.size<=9223372036854775807)
def sAt(s:ByteArray)(n:Int):Int:=((s.data.getD n.toNat 0).toNat:Int)
def sLen(s:ByteArray):Int:=(s.size:Int)
def aA{α:Type}(xs:List α):Int:=(xs.length:Int)
def bnd(n:Int)(len:Int):Bool:=decide (0<=n)&&decide (n<len)
def fits(n bytes:Nat):Bool:=decide (n*bytes<=lU)&&decide (n<=4611686018427387904)
def ze(n:Int)(bytes:Nat):Bool:=decide (0<=n)&&decide (n*bytes<=lU)&&decide (n<=4611686018427387904)
def inB{α:Type}(i:Nat)(xs:List α):Bool:=decide (i<xs.length)
def rD{α:Type}(l u:Int)(xs:List α):List α:=(xs.take u.toNat).drop l.toNat
def lu(l u:Int)(s:ByteArray):ByteArray:=s.extract l.toNat u.toNat
def someE{α:Type}(xs:List α):Bool:=!xs.isEmpty
def leN{α:Type}(n:Nat)(xs:List α):Bool:=decide (n<=xs.length)
def atI{α:Type}(xs:List α)(n:Int)(z:α):α:=xs.getD n.toNat z
def bsI(xs:List Int):ByteArray:=⟨(xs.map λn=>UInt8.ofNat n.toNat).toArray⟩
def aY(s:ByteArray):List Int:=s.data.toList.map λc=>(c.toNat:Int)
def qG(s:ByteArray):List (Ty.den (.int .u8)):=s.data.toList.map λc=>(show Ty.den (.int .u8) from(c.toNat:Int))
def TI(T:Ty):(fs:List Ty)->Ty.bO fs->Option (List T.den)
 |[],_=>some []
 |t::ts,x=>match gB (a:=t) (b:=T) x.1,TI T ts x.2 with
  |some a,some l=>some (a::l)
  |_,_=>none
def TF(k:IntKind)(a b:Int):BinOp->Option (Bool×XV)
 |.add=>some (true,.d (.int k) (aR k a b))
 |.sub=>some (true,.d (.int k) (dQ k a b))
 |.mul=>some (true,.d (.int k) (vE k a b))
 |.quo=>some (iNe b 0,.d (.int k) (K7 k a b))
 |.rem=>some (iNe b 0,.d (.int k) (jC a b))
 |.and=>some (true,.d (.int k) (b9D k a b))
 |.or=>some (true,.d (.int k) (iOr k a b))
 |.xor=>some (true,.d (.int k) (b9A k a b))
 |.eql=>some (true,.d .bool (iEq a b))
 |.neq=>some (true,.d .bool (iNe a b))
 |.lss=>some (true,.d .bool (iLt a b))
 |.leq=>some (true,.d .bool (iLe a b))
 |.gtr=>some (true,.d .bool (iLt b a))
 |.geq=>some (true,.d .bool (iLe b a))
 |_=>none
def TD(a b:ByteArray):BinOp->Option (Bool×XV)
 |.add=>some (nu a b,.d .str (iJ a b))
 |.eql=>some (true,.d .bool (sEq a b))
 |.neq=>some (true,.d .bool (not (sEq a b)))
 |.lss=>some (true,.d .bool (sLt a b))
 |.leq=>some (true,.d .bool (or (sLt a b) (sEq a b)))
 |.gtr=>some (true,.d .bool (not (or (sLt a b) (sEq a b))))
 |.geq=>some (true,.d .bool (not (sLt a b)))
 |_=>none
def a0Y(op:BinOp):XV->XV->Option (Bool×XV)
 |.d (.int k) a,.d (.int k') b=>match op with
  |.shl=>some (iLe 0 b,.d (.int k) (b9C k a b))
  |.shr=>some (iLe 0 b,.d (.int k) (b9B k a b))
  |op=>if k=k' then TF k a b op else none
 |.d .str a,.d .str b=>TD a b op
 |_,_=>none
def a8O:XV->XV->Option Bool
 |.d (.int k) a,.d (.int k') b=>if k=k' then some (iEq a b) else none
 |_,_=>none
def TA(xs ys:List XV):List (Nat×Nat)->Option Bool
 |[]=>some true
 | (i,_) :: fs=>match a8O (xs.getD i .any) (ys.getD i .any),TA xs ys fs with
   |some a,some b=>some (a&&b)
   |_,_=>none
def Js:XV->Option Int
 |.d (.int _) n=>some n
 |_=>none
def nL(l u:Int)(n:Nat):Bool:=decide (0<=l)&&decide (l<=u)&&decide (u<=n)
def wT(n:Nat)(lo hi:Option XV):Option (Bool×Int×Int) :=
 match lo,hi with
 |none,none=>some (true,0,n)
 |none,some b=>match Js b with
  |some h=>some (nL 0 h n,0,h)
  |none=>none
 |some a,none=>match Js a with
  |some l=>some (nL l n n,l,n)
  |none=>none
 |some a,some b=>match Js a,Js b with
  |some l,some h=>some (nL l h n,l,h)
  |_,_=>none
def Kl(h:List XO)(T:Ty):XV->Option (List T.den)
 |.d T' x=>gB (b:=.list T) x
 |.k (.slice none 0 0)=>some []
 |.row id=>match h[id]? with
  |some (.row _ T' _ es)=>gB (a:=.list T') (b:=.list T) es
  |_=>none
 |.sub id off len=>match h[id]? with
  |some (.row _ T' _ es)=>gB (a:=.list T') (b:=.list T) ((List.drop off es).take len)
  |_=>none
 |_=>none
def Qj(h:List XO)(T:Ty)(x:XV):Option (List T.den):=Kl h T (lst x)
def Qk(h:List XO)(ty:Nat)(T:Ty)(x:XV):Option (Bool×List T.den):=match x with
 |.d (.rl ty' sz) xs=>if(Nat.beq ty' ty&&Nat.beq T.size sz)=true then some (b1y T xs,MW T xs) else none
 |x=>match Qj h T x with
  |some ys=>some (true,ys)
  |none=>none
def Dy(h:List XO)(T:Ty):List XV->Option (List T.den)
 |[]=>some []
 |x::xs=>match toD h T x,Dy h T xs with
  |some a,some l=>some (a::l)
  |_,_=>none
def Jb(rd:Opd->XV):List XV->List (Nat×Nat×Opd)->Option (List XV)
 |cs,[]=>some cs
 |cs,(off,sz,x)::r=>match A9 (rd x) with
  |some vs=>if(Nat.beq vs.length sz&&Nat.ble (off+sz) cs.length)=true then Jb rd (cs.take off++vs++cs.drop (off+sz)) r else none
  |none=>none
def VI:XV->Option (List XV)
 |.d (.tup fs) x=>some (MP fs x)
 |.agg cs=>some cs
 |_=>none
def b4q:XV->Bool
 |.d (.int _) _=>true
 |.d .bool _=>true
 |.d .str _=>true
 |_=>false
def ig(tt:Nat->Option Ty)(h:List XO)(rd:Opd->XV):I->Option (Bool×XV×Option Nat×List XO)
 |.mov x=>some (true,rd x,none,h)
 |.pick c a b=>match rd c,rd a,rd b with
  |.d .bool t,.d T x,.d T' y=>match gB (b:=T) y with
   |some y=>some (true,.d T (cond t x y),none,h)
   |none=>none
  |_,_,_=>none
 |.bin op x y=>match a0Y op (rd x) (rd y) with
  |some (p,v)=>some (p,v,none,h)
  |none=>none
 |.aeq neg fs x y=>match VI (rd x),VI (rd y) with
  |some xs,some ys=>match TA xs ys fs with
   |some b=>some (true,.d .bool (if neg=true then not b else b),none,h)
   |none=>none
  |_,_=>none
 |.un op x=>match op,rd x with
  |.neg,.d (.int k) n=>some (true,.d (.int k) (Gz k n),none,h)
  |.not,.d .bool b=>some (true,.d .bool (not b),none,h)
  |_,_=>none
 |.conv k x=>match rd x with
  |.d (.int _) n=>some (true,.d (.int k) (k.wrap n),none,h)
  |_=>none
 |.ext i x=>match rd x with
  |.tup vs=>match vs[i]? with
   |some v=>some (true,v,none,h)
   |none=>none
  |_=>none
 |.fO off x=>match rd x with
  |.ptr id i o=>some (true,.ptr id i (o+off),none,h)
  |.lp T x o=>some (true,.lp T x (o+off),none,h)
  |_=>none
 |.rA sz x i=>match lst (rd x),rd i with
  |.d (.list e) xs,.d (.int _) n=>if Nat.beq e.size sz=true then some (bnd n (aA (show List e.den from xs)),.lp e (atI (show List e.den from xs) n e.dflt) 0,none,h) else none
  |.d (.rl ty sz') xs,.d (.int _) n=>match tt ty with
   |some T=>if(Nat.beq T.size sz&&Nat.beq sz' sz)=true then some (bnd n (aA (show List AV from xs))&&okD T (atI (show List AV from xs) n .any),.lp T (Km T (atI (show List AV from xs) n .any)) 0,none,h) else none
   |none=>none
  |.row id,.d (.int _) n=>match h[id]? with
   |some (.row _ T _ es)=>if Nat.beq T.size sz=true then some (bnd n (aA es),.ptr id (Int.toNat n) 0,none,h) else none
   |_=>none
  |.sub id off len,.d (.int _) n=>match h[id]? with
   |some (.row _ T _ es)=>if Nat.beq T.size sz=true then some (bnd n (len:Nat),.ptr id (off+Int.toNat n) 0,none,h) else none
   |_=>none
  |_,_=>none
 |.load sz ag x=>match rd x with
  |.lp T x o=>match atT T x o sz ag with
   |some v=>some (true,v,none,h)
   |none=>none
  |.ptr id i o=>match h[id]? with
   |some (.row _ T _ es)=>match atT T (List.getD es i T.dflt) o sz ag with
    |some v=>some (inB i es,v,none,h)
    |none=>none
   | some (.box _ cs)=>if ag=true then (if (Nat.beq i 0 && Nat.ble (o + sz) cs.length)=true then some (true,.agg ((cs.drop o).take sz),none,h) else none)
     else(if Nat.beq i 0=true then match cs[o]? with
      |some v=>some (true,v,none,h)
      |none=>none
     else none)
   |none=>none
  |_=>none
 |.store sz x y=>match rd x with
  |.ptr id i o=>match h[id]? with
   |some (.row ty T fz es)=>match fz,rd y with
    | false,.d T' v=>if Nat.beq T'.size sz=true then match DF v T (List.getD es i T.dflt) o with
      |some z=>some (inB i es,.any,none,h.set id (.row ty T false (List.set es i z)))
      |none=>none
     else none
    | false,.agg cs=>if Nat.beq o 0=true then match toD [] T (.agg cs) with
      |some z=>if Nat.beq T.size sz=true then some (inB i es,.any,none,h.set id (.row ty T false (List.set es i z))) else none
      |none=>match toD h T (.agg cs) with
       |some z=>if(Nat.beq T.size sz&&cs.any (λc=>!(kC c).isEmpty)&&!((fE (.agg cs)).any (Nat.beq id)))=true then some (inB i es,.any,none,(ko h (fE (.agg cs))).set id (.row ty T false (List.set es i z))) else none
       |none=>none
     else match partT T o sz with
      |some T'=>match toD [] T' (.agg cs) with
       |some v=>match DF v T (List.getD es i T.dflt) o with
        |some z=>if Nat.beq T'.size sz=true then some (inB i es,.any,none,h.set id (.row ty T false (List.set es i z))) else none
        |none=>none
       |none=>none
      |none=>none
    |_,_=>none
   |some (.box ty cs)=>match A9 (rd y) with
    |some vs=>if(Nat.beq i 0&&Nat.beq vs.length sz&&Nat.ble (o+sz) cs.length&&Nat.blt 0 sz)=true then some (true,.any,none,h.set id (.box ty (cs.take o++vs++cs.drop (o+vs.length)))) else none
    |none=>none
   |none=>none
  |_=>none
 |.slice sz x lo hi=>match lst (rd x) with
  | .d (.list e) xs=>if Nat.beq e.size sz=true then match wT (List.length (show List e.den from xs)) (lo.map rd) (hi.map rd) with
    |some (p,l,u)=>some (p,.d (.list e) (rD l u (show List e.den from xs)),none,h)
    |none=>none
   else none
  | .d (.rl ty sz') xs=>if Nat.beq sz' sz=true then match wT (List.length (show List AV from xs)) (lo.map rd) (hi.map rd) with
    |some (p,l,u)=>some (p,.d (.rl ty sz') (rD l u (show List AV from xs)),none,h)
    |none=>none
   else none
  |.k (.slice none 0 0)=>match wT 0 (lo.map rd) (hi.map rd) with
   |some (p,l,u)=>some (p,.k (.slice none 0 0),none,h)
   |none=>none
  |.row id=>match h[id]? with
   | some (.row _ T _ es)=>if Nat.beq T.size sz=true then match wT (List.length es) (lo.map rd) (hi.map rd) with
     |some (p,l,u)=>some (p,.sub id (Int.toNat l) (Int.toNat (u-l)),none,h)
     |none=>none
    else none
   |_=>none
  |.sub id off len=>match h[id]? with
   | some (.row _ T _ es)=>if Nat.beq T.size sz=true then match wT len (lo.map rd) (hi.map rd) with
     |some (p,l,u)=>some (p,.sub id (off+Int.toNat l) (Int.toNat (u-l)),none,h)
     |none=>none
    else none
   |_=>none
  |_=>none
 |.yg x lo hi=>match rd x with
  |.d .str s=>match wT (ByteArray.size s) (lo.map rd) (hi.map rd) with
   |some (p,l,u)=>some (p,.d .str (lu l u s),none,h)
   |none=>none
  |_=>none
 |.len x=>match lst (rd x) with
  |.d (.list e) xs=>some (true,.d (.int .i64) (aA (show List e.den from xs)),none,h)
  |.d (.rl _ _) xs=>some (true,.d (.int .i64) (aA (show List AV from xs)),none,h)
  |.row id=>match h[id]? with
   |some (.row _ _ _ es)=>some (true,.d (.int .i64) (aA es),none,h)
   |_=>none
  |.sub id off len=>some (true,.d (.int .i64) ((len:Nat):Int),none,h)
  |.k (.slice none 0 0)=>some (true,.d (.int .i64) (0:Int),none,h)
  |_=>none
 |.nck x=>match rd x with
  |.ptr id i o=>some (true,.ptr id i o,none,h)
  |.lp T x o=>some (true,.lp T x o,none,h)
  |_=>none
 |.AQ x=>match rd x with
  |.d .str s=>some (true,.d (.int .i64) (sLen s),none,h)
  |_=>none
 |.idx x i=>match rd x,rd i with
  |.d .str s,.d (.int _) n=>some (bnd n (sLen s),.d (.int .u8) (sAt s n),none,h)
  |_,_=>none
 |.app ty sz bytes s x=>match tt ty with
  |some T=>if Nat.beq T.size sz=true then match Qk h ty T (rd x) with
   |some (q,ys)=>match rd s with
    |.k (.slice none 0 0)=>some (and q (fits ys.length bytes),.row h.length,none,h++[.row ty T false ys])
    |.row id=>match h[id]? with
     |some (.row ty' T' fz es)=>match fz,gB (a:=.list T) (b:=.list T') ys with
      |false,some ys=>if Nat.beq ty ty'=true then some (and q (fits (es.length+(show List T'.den from ys).length) bytes),.row id,some id,h.set id (.row ty T' false (es++(show List T'.den from ys)))) else none
      |_,_=>none
     |_=>none
    |_=>none
   |none=>none
   else none
  |none=>none
 |.apps ty bytes s x=>match tt ty,rd x with
  |some (.int .u8),.d .str b=>match rd s with
   |.k (.slice none 0 0)=>some (fits (qG b).length bytes,.row h.length,none,h++[.row ty (.int .u8) false (qG b)])
   |.row id=>match h[id]? with
    |some (.row ty' (.int .u8) false es)=>if Nat.beq ty ty'=true then some (fits (es.length+(qG b).length) bytes,.row id,some id,h.set id (.row ty (.int .u8) false (es++qG b))) else none
    |_=>none
   |_=>none
  |_,_=>none
 |.b2s x=>match Qj h (.int .u8) (rd x) with
  |some xs=>some (true,.d .str (bsI xs),none,h)
  |none=>none
 |.lI ty sz xs=>match tt ty with
  |some T=>if(Nat.beq T.size sz&&!rz ty)=true then match Dy h T (xs.map rd) with
   |some ys=>some (true,.row h.length,none,ko h ((xs.map rd).flatMap fE)++[.row ty T false ys])
   |none=>none
   else none
  |none=>none
 |.Aq ty sz xs=>match tt ty with
  |some T=>if Nat.beq T.size sz=true then match Dy [] T (xs.map rd) with
   |some ys=>some (true,.d (.list T) ys,none,h)
   |none=>none
   else none
  |none=>none
 |.bsc ty xs=>match tt ty with
  |some T=>if(Nat.beq T.size 1&&!rz ty&&(xs.map rd).all b4q)=true then match Dy [] T (xs.map rd) with
   |some ys=>some (true,.row h.length,none,h++[.row ty T false ys])
   |none=>none
   else none
  |none=>none
 |.build zero parts=>match Jb rd (zero.map vx1) parts with
  |some cs=>some (true,.agg cs,none,h)
  |none=>none
 |.box ty sz x=>match A9 (rd x) with
  |some cs=>if Nat.beq cs.length sz=true then some (true,.ptr h.length 0 0,none,h++[.box ty cs]) else none
  |none=>none
 |.alloc ty zero=>match A9 (vx zero) with
  |some cs=>some (true,.ptr h.length 0 0,none,h++[.box ty cs])
  |none=>none
 |.mk ty sz bytes zero n=>match tt ty,rd n with
  | some T,.d (.int .i64) n=>if Nat.beq T.size sz=true then match toD [] T (vx zero) with
    |some z=>some (ze n bytes,.row h.length,none,h++[.row ty T false (List.replicate (Int.toNat n) z)])
    |none=>none
   else none
  |_,_=>none
 |.mQ bsz st n x i=>match rd x,rd i with
  |.ptr id j o,.d (.int _) m=>match h[id]? with
   | some (.row _ T _ es)=>if (Nat.beq o 0 && Nat.beq T.size bsz)=true then some (bnd m (n:Nat),.ptr id (j + Int.toNat m * st) 0,none,h)
     else if(Nat.beq st 1&&Nat.beq bsz 1)=true then some (bnd m (n:Nat),.ptr id j (o+Int.toNat m),none,h) else none
   |_=>none
  |.lp (.tup (T::ts)) x o,.d (.int _) m=>match TI T (T::ts) x with
   |some xs=>if(Nat.beq o 0&&Nat.beq T.size bsz&&Nat.beq st 1&&Nat.beq xs.length n)=true then some (bnd m (n:Nat),.lp T (atI xs m T.dflt) 0,none,h) else none
   |none=>none
  |_,_=>none
 |.min2 x y=>match rd x,rd y with
  |.d (.int k) a,.d (.int _) b=>some (true,.d (.int k) (jv a b),none,h)
  |_,_=>none
 |.max2 x y=>match rd x,rd y with
  |.d (.int k) a,.d (.int _) b=>some (true,.d (.int k) (tu a b),none,h)
  |_,_=>none
 |.call _ _=>none
end
end
end Abs
end Go.Proofs.YtnhgeocdffhkjaaGreatDoor
