/- Merged and trimmed by a program: AbsB AbsC AbsL AbsT AbsR X0 X1 X2 X3 X4 X5 X6 X7 X8. -/
import Derived.Test.YtnhgeocdffhkjaaGreatDoorZVB
import Derived.LoopN
import Derived.Scope
import Derived.IntWalk
import Derived.Deep.Slices
import Derived.WideShapes
import Derived.Lib.SmallJoins
set_option linter.unusedVariables false
set_option linter.unusedSimpArgs false
set_option linter.defProp false
namespace Go.Proofs.YtnhgeocdffhkjaaGreatDoor
namespace Abs
noncomputable section
section
open Go.RowKit
def qA(n:Nat):AV->AV
 |.row id G sz off len=>if id<n then .row id G sz off len else .any
 |.ptr id G i off=>if id<n then .ptr id G i off else .any
 |.iX _ _ _ _=>.any
 |.mp id=>if id<n then .mp id else .any
 |.clo _ _=>.any
 |.agg _=>.any
 |.tup _=>.any
 |a=>a
def qz(n:Nat):AV->AV
 |.clo f cs=>.clo f (cs.map (qA n))
 |a=>qA n a
def nI(n:Nat):AV->AV
 |.agg cs=>.agg (cs.map (qz n))
 |a=>qz n a
def DZ(n:Nat):AV->AV
 |.tup vs=>.tup (vs.map (nI n))
 |a=>nI n a
def E5(n:Nat)(o:ah):ah:=if o.pr then o else{ o with es:=o.es.map (nI n) }
def clr(dead:List Nat)(t:List AV):List AV:=dead.foldl (λt i=>t.set i .any) t
def norm(dead:List Nat)(n:Nat)(σ:St):St:=⟨(clr dead σ.t).map (DZ n),(σ.h.take n).map (E5 n)⟩
def ghost(σ:St)(g:Nat×Nat×Nat):St :=
 match σ.t[g.1]? with
 |some (.v (.slice none 0 0))=>if 0<g.2.2 then⟨σ.t.set g.1 (.row σ.h.length 0 g.2.2 0 0),σ.h++[⟨g.2.1,g.2.2,0,true,[]⟩]⟩ else σ
 |_=>σ
def awp(P:Program)(Gl:Nat->Option (List AV))(N:Nat):C->(Exit->St->Prop)->St->Prop
 |.skip,Q,σ=>Q .normal σ
 |.ops d l,Q,σ=>vk P Gl d (Q .normal) l σ
 |.kD l,Q,σ=>∃U,bH P Gl σ.h.length U (Q .normal) l σ
 |.seq a b,Q,σ=>awp P Gl N a (λe τ=>match e with|.normal=>awp P Gl N b Q τ|e=>Q e τ) σ
 |.cond c a b,Q,σ=>match σ.val Gl c with
  |.v (.bool t)=>if t=true then awp P Gl N a Q σ else awp P Gl N b Q σ
  |_=>False
 |.block id b,Q,σ=>awp P Gl N b (λe τ=>match e with|.exit i=>if i=id then Q .normal τ else Q (.exit i) τ|e=>Q e τ) σ
 | .loop b,Q,σ=>∃ (dead:List Nat) (gh:List (Nat × Nat × Nat)) (n:Nat) (J:St->Prop) (μ:St->Nat),N<=n/\J (norm dead n (gh.foldl ghost σ)) /\
   ∀τ,J τ->awp P Gl N b (λe ρ=>match e with|.normal=>J (norm dead n ρ)/\μ (norm dead n ρ)<μ τ|e=>Q e ρ) τ
 |.exit id,Q,σ=>Q (.exit id) σ
 |.ret,Q,σ=>Q .ret σ
def cL(P:Program)(lm:Bool)(ops:Array Oper):List Oper->Option (List Ins)
 |[]=>some []
 |o::r=>match dI P lm ops o,cL P lm ops r with
  |some i,some l=>some (i::l)
  |_,_=>none
def ownRd(l:List (Nat×Ins)):Bool:=l.any λp=>p.1==1&&(match p.2.i with
 |.b2s (.t d)=>l.any λq=>q.2.dst==some d&&q.2.i.cls==2
 |_=>false)
def cC(P:Program)(hc:List Nat):Code->Option C
 |.skip=>some .skip
 |.region _ ops false=>(cL P false ops ops.toList).map (.ops false)
 |.region _ ops true=>match cL P false ops ops.toList with
  |some l=>if u6 ops l&&!(l.any λi=>NH hc i.i) then some (.ops true l) else if(oz ops (marks hc ops l)||oC ops (marks hc ops l))&&!(ownRd (marks hc ops l)) then some (.kD (marks hc ops l)) else match cL P true ops ops.toList with
   |some l'=>if u6 ops l'&&!(l'.any λi=>NH hc i.i) then some (.ops true l') else if oz ops (marks hc ops l')||oC ops (marks hc ops l') then some (.kD (marks hc ops l')) else if u6 ops l' then some (.ops true l') else none
   |none=>none
  |none=>none
 |.seq a b=>match cC P hc a,cC P hc b with
  |some x,some y=>some (.seq x y)
  |_,_=>none
 |.cond c a b=>match cC P hc a,cC P hc b with
  |some x,some y=>some (.cond (ak c) x y)
  |_,_=>none
 |.block id b=>(cC P hc b).map (.block id)
 |.loop b=>(cC P hc b).map .loop
 |.exit id=>some (.exit id)
 |.ret=>some .ret
 |.scope b=>cC P hc b
 |.label _=>some .skip
 |_=>none
section
variable{P:Program}{Gl:Nat->Option (List AV)}{F:Addr->Option Value}{own:List Ent}{B:Nat}{w0:W0}{σ:St}{act:Act}{w:World}
theorem R.qA{n:Nat}{x:Value}{a:AV}(h:R F own x a):R F (own.take n) x (qA n a):=by
 cases a with
 |any=>exact .pure (.any _)
 |v y=>have:=h.aH;subst this;exact .pure (.v _)
 |list sz xs=>exact .pure h.dw
 |bO cs=>exact .pure h.jM
 |row id G sz off len =>
  obtain⟨e,he,hG,hs,hx⟩:=h.fP
  simp only[Abs.qA]
  split
  .rename_i hid;exact .row _ _ _ _ _ _ e (by rw[List.getElem?_take,if_pos hid];exact he) hG hs hx (h.iG he)
  .exact .pure (.any _)
 |ptr id G i off =>
  obtain⟨e,he,hG,hs,hx⟩:=h.iT
  simp only[Abs.qA]
  split
  .rename_i hid;exact .ptr _ _ _ _ _ e (by rw[List.getElem?_take,if_pos hid];exact he) hG hs hx (h.gH he)
  .exact .pure (.any _)
 |mp id =>
  obtain⟨e,he,h0,hx⟩:=h.vG
  simp only[Abs.qA]
  split
  .rename_i hid;exact .mp _ _ e (by rw[List.getElem?_take,if_pos hid];exact he) h0 hx
  .exact .pure (.any _)
 |iX=>exact .pure (.any _)
 |clo=>exact .pure (.any _)
 |agg cs=>exact .pure (.any _)
 |tup cs=>exact .pure (.any _)
theorem R.qz{n:Nat}{x:Value}{a:AV}(h:R F own x a):R F (own.take n) x (qz n a):=by
 by_cases ha:∃f cs,a=.clo f cs
 .obtain⟨f,cs,rfl⟩:=ha
  obtain⟨xs,rfl,hl,hR⟩:=h.sQ
  refine .clo f xs _ (by simp[hl]) λj x a p q=>?_
  rw[List.getElem?_map]at q
  cases hc:cs[j]? with
  |none=>rw[hc]at q;cases q
  |some c=>rw[hc]at q;cases q;exact(hR j x c p hc).qA
 .have:Abs.qz n a=Abs.qA n a:=by cases a<;>first|rfl|exact absurd ⟨_,_,rfl⟩ ha
  rw[this];exact h.qA
theorem R.nI{n:Nat}{x:Value}{a:AV}(h:R F own x a):R F (own.take n) x (nI n a):=by
 by_cases ha:∃cs,a=.agg cs
 .obtain⟨cs,rfl⟩:=ha
  obtain⟨xs,rfl,hl,h1,hR⟩:=h.bB
  refine .agg xs _ (by simp[hl]) h1 λj x a p q=>?_
  rw[List.getElem?_map]at q
  cases hc:cs[j]? with
  |none=>rw[hc]at q;cases q
  |some c=>rw[hc]at q;cases q;exact(hR j x c p hc).qz
 .have:Abs.nI n a=Abs.qz n a:=by cases a<;>first|rfl|exact absurd ⟨_,rfl⟩ ha
  rw[this];exact h.qz
theorem R.DZ{n:Nat}{x:Value}{a:AV}(h:R F own x a):R F (own.take n) x (DZ n a):=by
 by_cases ha:∃cs,a=.tup cs
 .obtain⟨cs,rfl⟩:=ha
  obtain⟨xs,rfl,hl,hR⟩:=h.mY
  refine .tup xs _ (by simp[hl]) λj x a p q=>?_
  rw[List.getElem?_map]at q
  cases hc:cs[j]? with
  |none=>rw[hc]at q;cases q
  |some c=>rw[hc]at q;cases q;exact(hR j x c p hc).nI
 .have:Abs.DZ n a=Abs.nI n a:=by cases a<;>first|rfl|exact absurd ⟨_,rfl⟩ ha
  rw[this];exact h.nI
theorem YN(dead:List Nat):∀(t:List AV) (i:Nat) (a:AV),(clr dead t)[i]?=some a->a=.any\/t[i]?=some a:=by
 induction dead with
 |nil=>intro t i a h;exact .inr h
 |cons d ds ih =>
  intro t i a h
  rcases ih (t.set d .any) i a h with q|q
  .exact .inl q
  .rw[List.getElem?_set]at q
   split at q
   .split at q
    .cases q;exact .inl rfl
    .cases q
   .exact .inr q
theorem YM(dead:List Nat):∀t:List AV,(clr dead t).length=t.length:=by
 induction dead with
 |nil=>intro t;rfl
 |cons d ds ih=>intro t;show(clr ds (t.set d .any)).length=_;rw[ih];simp
theorem Cx(n:Nat)(a:AV):(nI n a).cells=a.cells.map (qz n):=by
 cases a with
 |row id G sz off len=>by_cases h:id<n<;>simp[nI,qz,qA,AV.cells,h]
 |ptr id G i off=>by_cases h:id<n<;>simp[nI,qz,qA,AV.cells,h]
 |mp id=>by_cases h:id<n<;>simp[nI,qz,qA,AV.cells,h]
 |_=>rfl
theorem Inv.norm(h:Inv Gl F own B w0 σ act w)(dead:List Nat)(n:Nat)(hN:w0.N<=n):Inv Gl F (own.take n) B w0 (norm dead n σ) act w:=by
 have lu:∀{id:Nat} {e:Ent},(own.take n)[id]?=some e->id<n/\own[id]?=some e:=fun{id e} q=>by
  rw[List.getElem?_take]at q
  split at q
  .exact⟨by assumption,q⟩
  .cases q
 refine{ tl:=?_,tr:=λi x a p q=>?_,defers:=h.defers,sub:=h.sub,hl:=?_,objs:=λid e o p q=>?_,inj:=λi j e e' g p q=>h.inj i j e e' g (lu p).2 (lu q).2,below:=h.below,base:=λid e g p=>h.base id e g (lu p).2,gl:=h.gl,gw:=h.gw,room:=h.room,ext:=h.ext,dW:=h.dW,nl:=by have:=h.nl;simp[Abs.norm];omega,fr:=λq hq=>by rw[List.take_take,Nat.min_eq_left (Nat.le_trans (w0.hfr q hq) hN)];exact h.fr q hq,pd:=yQ.turn h.pd (λ_ _ _=>rfl) (λ_ _ _ q=>.inl q) λid e g p q=>.inl λr=>r id e (lu p).2 q }
 .simp[Abs.norm,YM,h.tl]
 .have q':((clr dead σ.t).map (DZ n))[i]?=some a:=q
  rw[List.getElem?_map]at q'
  cases hc:(clr dead σ.t)[i]? with
  |none=>rw[hc]at q';cases q'
  |some c =>
   rw[hc]at q';cases q'
   rcases YN dead σ.t i c hc with rfl|hc'
   .exact .pure (.any _)
   .exact(h.tr i x c p hc').DZ
 .simp[Abs.norm,h.hl]
 .obtain⟨hid,he⟩:=lu p
  have q':((σ.h.take n).map (E5 n))[id]?=some o:=q
  rw[List.getElem?_map,List.getElem?_take,if_pos hid]at q'
  cases ho:σ.h[id]? with
  |none=>rw[ho]at q';cases q'
  |some ob =>
   rw[ho]at q';cases q'
   have hO:=h.objs id e ob he ho
   by_cases hpr:ob.pr=true
   .have:E5 n ob=ob:=by simp[E5,hpr]
    rw[this]
    rcases hO with⟨k0,hO⟩|hO
    case inr=>exact .inr hO
    obtain⟨k1,k2,k3,k4,k5,k6,k7,k8⟩:=hO
    refine .inl ⟨k0,k1,k2,k3,k4,k5,k6,k7,?_⟩
    cases hg:e.g with
    |none=>rw[hg]at k8;exact k8
    |some g =>
     rw[hg]at k8
     obtain⟨cs,a1,a2,a3,a4⟩:=k8
     refine⟨cs,a1,a2,λi j x a r s=>?_,a4⟩
     obtain⟨y,b1,b2,b3⟩:=a3 i j x a r s
     refine⟨y,b1,b2,?_⟩
     unfold RC at b3 ⊢
     rw[if_pos hpr]at b3 ⊢
     exact b3
   .have e1:E5 n ob={ ob with es:=ob.es.map (nI n) }:=by simp[E5,hpr]
    rw[e1]
    rcases hO with⟨k0,hO⟩|⟨_,_,m2,_⟩
    case inr=>exact absurd m2 hpr
    obtain⟨k1,k2,k3,k4,k5,k6,k7,k8⟩:=hO
    have el:∀(i:Nat) (x:AV),(ob.es.map (nI n))[i]?=some x->∃z,ob.es[i]?=some z/\x=nI n z:=λi x q=>by
     rw[List.getElem?_map]at q
     cases hz:ob.es[i]? with
     |none=>rw[hz]at q;cases q
     |some z=>rw[hz]at q;cases q;exact⟨z,rfl,rfl⟩
    refine .inl ⟨k0,by simp[k1],k2,k3,k4,⟨k5.1,by simpa using k5.2⟩,by simpa using k6,λi x q=>?_,?_⟩
    .obtain⟨z,hz,rfl⟩:=el i x q
     rw[Cx,List.length_map];exact k7 i z hz
    .cases hg:e.g with
     |none=>rw[hg]at k8;exact k8
     |some g =>
      rw[hg]at k8
      obtain⟨cs,a1,a2,a3,a4⟩:=k8
      obtain⟨fr,a1,af⟩:=a1
      refine⟨cs,⟨fr,a1,by rw[List.length_map];exact af⟩,a2,λi j x a r s=>?_,a4⟩
      obtain⟨z,hz,rfl⟩:=el i x r
      rw[Cx,List.getElem?_map]at s
      cases hc:z.cells[j]? with
      |none=>rw[hc]at s;cases s
      |some c =>
       rw[hc]at s;cases s
       obtain⟨y,b1,b2,b3⟩:=a3 i j z c hz hc
       refine⟨y,b1,b2,?_⟩
       unfold RC at b3 ⊢
       rw[if_neg hpr]at b3 ⊢
       exact b3.qz
theorem Inv.QJ(h:Inv Gl F own B w0 σ act w)(g:Nat×Nat×Nat):∃own',Inv Gl F own' B w0 (ghost σ g) act w:=by
 unfold ghost
 split
 .rename_i hv
  split
  .rename_i hsz
   refine⟨own++[⟨none,0,g.2.2,0⟩],?_⟩
   have hI:=h.Ck g.2.1 g.2.2 true hsz
   have hlt:g.1<act.tmps.size:=by rw[h.tl];exact(List.getElem?_eq_some_iff.1 hv).1
   have hx:=(h.tr g.1 _ _ (Array.getElem?_eq_getElem hlt) hv).aH
   have hrow:R F (own++[⟨none,0,g.2.2,0⟩]) act.tmps[g.1] (.row σ.h.length 0 g.2.2 0 0):=by
    rw[hx,<- h.hl]
    exact .row _ _ _ _ _ _ _ eZ (by simp) ⟨_,_,rfl,by simp,λq=>by simp at q⟩ (λ_=>⟨rfl,by simp,λ_=>⟨_,Nat.le_of_eq (Nat.zero_add _),by simp⟩⟩) (by first|omega|assumption|(simp;done)|(simp;omega)|(dsimp only;omega))
   have:=hI.put hrow (some g.1)
   have e:act.put (some g.1) act.tmps[g.1]=act:=by
    have hs:act.tmps.setIfInBounds g.1 act.tmps[g.1]=act.tmps:=by
     apply Array.ext_getElem?
     intro j
     rw[Array.getElem?_setIfInBounds]
     split
     .rename_i hj
      subst hj
      rw[Array.getElem?_eq_getElem hlt]
     .rfl
    show({ act with tmps:=act.tmps.setIfInBounds g.1 act.tmps[g.1] }:Act)=act
    rw[hs]
   rw[e]at this
   exact this
  .exact⟨own,h⟩
 .exact⟨own,h⟩
theorem Inv.a2d(gh:List (Nat×Nat×Nat)):∀{σ:St} {own:List Ent},Inv Gl F own B w0 σ act w->∃own',Inv Gl F own' B w0 (gh.foldl ghost σ) act w:=by
 induction gh with
 |nil=>intro σ own h;exact⟨own,h⟩
 |cons g gh ih=>intro σ own h;obtain⟨own',h'⟩:=h.QJ g;exact ih h'
theorem ug{lm:Bool}{ops:Array Oper}:∀(os:List Oper) (l:List Ins),cL P lm ops os=some l->l.length=os.length/\∀(j:Nat) (o:Oper),os[j]?=some o->∃ins,l[j]?=some ins/\dI P lm ops o=some ins:=by
 intro os
 induction os with
 |nil=>intro l h;cases h;exact⟨rfl,λj o q=>by simp at q⟩
 |cons o os ih =>
  intro l h
  simp only[cL]at h
  split at h
  .rename_i i l' h1 h2
   cases h
   obtain⟨l1,l2⟩:=ih l' h2
   refine⟨by simp[l1],λj o' q=>?_⟩
   cases j with
   |zero=>simp at q;subst q;exact⟨i,rfl,h1⟩
   |succ j=>simp at q;obtain⟨ins,a,b⟩:=l2 j o' q;exact⟨ins,by simpa using a,b⟩
  .cases h
def NG(e:Exit):Prop:=∀l,e≠.goto l
theorem fQ:NG .normal:=λl h=>by cases h
theorem vF(i:Nat):NG (.exit i):=λl h=>by cases h
theorem IQ:NG .ret:=λl h=>by cases h
theorem sK(hm:P.follows .mixedOrders=true){hc0:List Nat}{N:Nat}(hN:w0.N=N):∀(code:Code) (c:C),cC P hc0 code=some c->∀(Q:Exit->St->Prop) (σ:St) (F:Addr->Option Value) (own:List Ent) (act:Act) (w:World),awp P Gl N c Q σ->Inv Gl F own B w0 σ act w->code.wp P (λe a w=>NG e/\fO Gl B w0 (Q e) a w) act w:=by
 intro code
 induction code with
 |skip=>intro c hc Q σ F own act w ha hI;cases hc;exact wp_skip ⟨fQ,F,own,σ,hI,ha⟩
 |region id ops draw =>
  intro c hc Q σ F own act w ha hI
  cases draw with
  |false =>
   simp only[cC]at hc
   cases hl:cL P false ops ops.toList with
   |none=>rw[hl]at hc;cases hc
   |some l =>
    rw[hl]at hc;cases hc
    obtain⟨l1,l2⟩:=ug _ _ hl
    have hlen:l.length=ops.size:=by simpa using l1
    refine wp_region ?_
    have:=ES (P:=P) (lm:=false) (d:=false) (Q:=λe a w=>NG e/\fO Gl B w0 (Q e) a w) (K:=Q .normal) (λa w h=>⟨fQ,h⟩) l 0 (λj hj=>by
     have hj':j<ops.size:=by rw[Nat.zero_add]at hj;exact hj
     have ho:ops[j]?=some ops[j]:=Array.getElem?_eq_getElem hj'
     obtain⟨ins,a1,a2⟩:=l2 j ops[j] (by rw[Array.getElem?_toList];exact ho)
     exact⟨ins,ops[j],a1,by rw[Nat.zero_add];exact ho,a2⟩) (by omega) σ F own act w ha hI
    rw[hlen]at this
    rw[List.range_eq_range'];exact this
  |true =>
   simp only[cC]at hc
   have key:∀lm l,cL P lm ops ops.toList=some l->u6 ops l=true->c=.ops true l->(Code.region id ops true).wp P (λe a w=>NG e/\fO Gl B w0 (Q e) a w) act w:=by
    intro lm l hl hd hcc
    subst hcc
    obtain⟨l1,l2⟩:=ug _ _ hl
    have hlen:l.length=ops.size:=by simpa using l1
    refine wp_region_any hm ?_
    exact Kh (lm:=lm) hlen (λj o ho=>l2 j o (by simpa using ho)) hd (λa w h=>⟨fQ,h⟩) ha (hI.same rfl rfl rfl rfl)
   have a1K:∀lm l,cL P lm ops ops.toList=some l->(oz ops (marks hc0 ops l)||oC ops (marks hc0 ops l))=true->c=.kD (marks hc0 ops l)->(Code.region id ops true).wp P (λe a w=>NG e/\fO Gl B w0 (Q e) a w) act w:=by
    intro lm l hl hd hcc
    subst hcc
    obtain⟨U,ha⟩:=ha
    obtain⟨l1,l2⟩:=ug _ _ hl
    have hlen:(marks hc0 ops l).length=ops.size:=by rw[F7];simpa using l1
    refine wp_region_any hm ?_
    have hcomp:∀(j:Nat) (o:Oper),ops[j]?=some o->∃p,(marks hc0 ops l)[j]?=some p/\dI P lm ops o=some p.2:=λj o ho=>by
     obtain⟨ins,a1,a2⟩:=l2 j o (by simpa using ho)
     obtain⟨m,hm⟩:=IV (hc:=hc0) (ops:=ops) a1
     exact⟨_,hm,a2⟩
    have hI':=hI.same (w':=w.drew) rfl rfl rfl rfl
    rw[Bool.or_eq_true]at hd
    rcases hd with hd|hd
    .exact JC (lm:=lm) hlen hcomp hd (λa w h=>⟨fQ,h⟩) ha hI'
    .have hf:∀q∈w0.fr,q.1<=σ.h.length:=λq hq=>Nat.le_trans (w0.hfr q hq) hI.nl
     exact JD (lm:=lm) (w0:=⟨w0.w,w0.F,σ.h.length,w0.fr,hf,w0.pd,w0.pdn,w0.df⟩) hlen hcomp hd (Nat.le_refl _) (λa w h=>⟨fQ,by obtain⟨F,own,τ,h1,h2⟩:=h;exact⟨F,own,τ,h1.ofN hI.nl,h2⟩⟩) ha (hI'.reN (Nat.le_refl _) hf)
   cases hl:cL P false ops ops.toList with
   |none=>rw[hl]at hc;cases hc
   |some l =>
    rw[hl]at hc
    simp only at hc
    split at hc
    .rename_i hd;cases hc;exact key false l hl (by rw[Bool.and_eq_true]at hd;exact hd.1) rfl
    .split at hc
     .rename_i hd;cases hc;exact a1K false l hl (by rw[Bool.and_eq_true]at hd;exact hd.1) rfl
     .cases hl':cL P true ops ops.toList with
      |none=>rw[hl']at hc;cases hc
      |some l' =>
       rw[hl']at hc
       simp only at hc
       split at hc
       .rename_i hd;cases hc;exact key true l' hl' (by rw[Bool.and_eq_true]at hd;exact hd.1) rfl
       .split at hc
        .rename_i hd;cases hc;exact a1K true l' hl' hd rfl
        .split at hc
         .rename_i hd;cases hc;exact key true l' hl' hd rfl
         .cases hc
 |seq a b iha ihb =>
  intro c hc Q σ F own act w ha hI
  simp only[cC]at hc
  split at hc
  .rename_i x y hx hy
   cases hc
   refine wp_seq (wp_mono (iha x hx _ σ F own act w ha hI) ?_)
   rintro e a1 w1 ⟨ng,F1,aQ,τ,hI1,hK⟩
   cases e with
   |normal=>exact ihb y hy Q τ F1 aQ a1 w1 hK hI1
   |_=>exact⟨ng,F1,aQ,τ,hI1,hK⟩
  .cases hc
 |cond c0 a b iha ihb =>
  intro c hc Q σ F own act w ha hI
  simp only[cC]at hc
  split at hc
  .rename_i x y hx hy
   cases hc
   simp only[awp]at ha
   split at ha
   .rename_i t hv
    have he:=hI.ev c0
    rw[hv]at he
    refine wp_cond he.aH ?_
    cases t with
    |true=>simp only[if_true]at ha ⊢;exact iha x hx Q σ F own act w ha hI
    |false=>simp only[Bool.false_eq_true,if_false]at ha ⊢;exact ihb y hy Q σ F own act w ha hI
   .exact ha.elim
  .cases hc
 |block id b ih =>
  intro c hc Q σ F own act w ha hI
  simp only[cC]at hc
  cases hb:cC P hc0 b with
  |none=>rw[hb]at hc;cases hc
  |some x =>
   rw[hb]at hc;cases hc
   refine wp_block (wp_mono (ih x hb _ σ F own act w ha hI) ?_)
   rintro e a1 w1 ⟨ng,F1,aQ,τ,hI1,hK⟩
   cases e with
   |exit i =>
    simp only at hK
    simp only[Exit.inBlock]
    split
    .rename_i hi;rw[if_pos hi]at hK;exact⟨fQ,F1,aQ,τ,hI1,hK⟩
    .rename_i hi;rw[if_neg hi]at hK;exact⟨vF _,F1,aQ,τ,hI1,hK⟩
   |_=>exact⟨ng,F1,aQ,τ,hI1,hK⟩
 |loop b ih =>
  intro c hc Q σ F own act w ha hI
  simp only[cC]at hc
  cases hb:cC P hc0 b with
  |none=>rw[hb]at hc;cases hc
  |some x =>
   rw[hb]at hc;cases hc
   obtain⟨dead,gh,n,J,μ,hn,h0,hr⟩:=ha
   obtain⟨own',hI'⟩:=Inv.a2d gh hI
   have hI0:=hI'.norm dead n (by omega)
   have key:∀m,∀(τ:St) (F:Addr->Option Value) (own:List Ent) (act:Act) (w:World),μ τ<=m->J τ->Inv Gl F own B w0 τ act w->Code.rounds P b (λe a w=>NG e/\fO Gl B w0 (Q e) a w) (m+1) act w:=by
    intro m
    induction m with
    |zero =>
     intro τ F own act w hm' hJ hI
     rw[rounds_succ]
     refine wp_mono (ih x hb _ τ F own act w (hr τ hJ) hI) ?_
     rintro e a1 w1 ⟨ng,F1,aQ,ρ,hI1,hK⟩
     cases e with
     |normal=>exact absurd hK.2 (by omega)
     |_=>exact⟨ng,F1,aQ,ρ,hI1,hK⟩
    |succ m ihm =>
     intro τ F own act w hm' hJ hI
     rw[rounds_succ]
     refine wp_mono (ih x hb _ τ F own act w (hr τ hJ) hI) ?_
     rintro e a1 w1 ⟨ng,F1,aQ,ρ,hI1,hK⟩
     cases e with
     |normal=>exact ihm _ F1 _ a1 w1 (by have:=hK.2;omega) hK.1 (hI1.norm dead n (by omega))
     |_=>exact⟨ng,F1,aQ,ρ,hI1,hK⟩
   exact wp_loop_rounds _ (key _ _ F _ act w (Nat.le_refl _) h0 hI0)
 |exit id=>intro c hc Q σ F own act w ha hI;cases hc;exact wp_exit ⟨vF _,F,own,σ,hI,ha⟩
 |ret=>intro c hc Q σ F own act w ha hI;cases hc;exact wp_ret ⟨IQ,F,own,σ,hI,ha⟩
 |label l=>intro c hc Q σ F own act w ha hI;cases hc;exact wp_label ⟨fQ,F,own,σ,hI,ha⟩
 |scope b ih =>
  intro c hc Q σ F own act w ha hI
  simp only[cC]at hc
  refine wp_scope_straight (wp_mono (ih c hc Q σ F own act w ha hI) ?_)
  rintro e a1 w1 ⟨ng,hK⟩
  cases e with
  |goto l=>exact absurd rfl (ng l)
  |_=>exact⟨ng,hK⟩
 |_=>intro c hc;cases hc
theorem FT(hm:P.follows .mixedOrders=true){hc0:List Nat}{N:Nat}(hN:w0.N=N)(code:Code)(c:C)(hc:cC P hc0 code=some c)(Q:Exit->St->Prop)(σ:St)(F:Addr->Option Value)(own:List Ent)(act:Act)(w:World)(ha:awp P Gl N c Q σ)(hI:Inv Gl F own B w0 σ act w):code.wp P (λe a w=>fO Gl B w0 (Q e) a w) act w :=
 wp_mono (sK hm hN code c hc Q σ F own act w ha hI) λe a w h=>h.2
inductive RV where
 |t (i:Nat)
 |c (i sz:Nat) (ag:Bool)
def jR(P:Program):List ResultVar->Option (List RV)
 |[]=>some []
 |.tmp t::r=>(jR P r).map (.t t::·)
 |.cell a t::r=>match agT P t,jR P r with
  |some (ag,sz),some l=>some (.c a sz ag::l)
  |_,_=>none
def nE(Gl:Nat->Option (List AV))(σ:St):List RV->Option (Prop×List AV)
 |[]=>some (True,[])
 |.t i::r=>(nE Gl σ r).map λq=>(q.1,σ.t.getD i .any::q.2)
 |.c i sz ag::r=>match step Gl σ (.load sz ag (.t i)),nE Gl σ r with
  |some (p,a,_),some q=>some (p/\q.1,a::q.2)
  |_,_=>none
def rH(Gl:Nat->Option (List AV))(σ:St)(rs:List RV):Option (Prop×AV) :=
 match nE Gl σ rs with
 |some (p,[a])=>some (p,a)
 |some (p,l)=>some (p,.tup l)
 |none=>none
def Wk(a b:AV):Prop:=∀(F:Addr->Option Value) (x:Value),RP F x a->RP F x b
theorem Wk.refl(a:AV):Wk a a:=λ_ _ h=>h
theorem Wk.nil(sz:Nat):Wk (.v (.slice none 0 0)) (.list sz []):=λ_ _ h=>by cases h;exact .nil sz
theorem Wk.tup{as bs:List AV}(hl:as.length=bs.length)(h:∀(j:Nat) (a b:AV),as[j]?=some a->bs[j]?=some b->Wk a b):Wk (.tup as) (.tup bs):=λF x hR=>by
 cases hR with
 |tup xs cs hl' hR' =>
  refine .tup xs bs (by omega) λj x b p q=>?_
  have hj:j<as.length:=by rw[hl];exact(List.getElem?_eq_some_iff.1 q).1
  exact h j as[j] b (List.getElem?_eq_getElem hj) q F x (hR' j x _ p (List.getElem?_eq_getElem hj))
theorem Wk.agg{as bs:List AV}(hl:as.length=bs.length)(h:∀(j:Nat) (a b:AV),as[j]?=some a->bs[j]?=some b->Wk a b):Wk (.agg as) (.agg bs):=λF x hR=>by
 cases hR with
 |agg xs cs hl' h1 hR' =>
  refine .agg xs bs (by omega) h1 λj x b p q=>?_
  have hj:j<as.length:=by rw[hl];exact(List.getElem?_eq_some_iff.1 q).1
  exact h j as[j] b (List.getElem?_eq_getElem hj) q F x (hR' j x _ p (List.getElem?_eq_getElem hj))
def Ends(Gl:Nat->Option (List AV))(rs:List RV)(res:AV)(e:Exit)(σ:St):Prop :=
 (match e with|.normal=>True|.ret=>True|_=>False)/\∃p a b,rH Gl σ rs=some (p,a)/\p/\qP σ.h a=some b/\Wk b res
def xO(tmps:Array Value):ResultVar->Sem Value
 |.tmp t=>pure (tmps.getD t undef)
 |.cell a t=>do loadVar t (<- asAddr (tmps.getD a undef))
theorem gU(fn:Func)(tmps:Array Value):Go.results fn tmps=(do let vs <- fn.results.mapM (xO tmps);pure (if h:vs.size=1 then vs[0] else .tuple vs)):=rfl
theorem rG (h:Inv Gl F own B w0 σ act w):∀ (vs:List ResultVar) (rs:List RV) (p:Prop) (l:List AV),jR P vs=some rs->nE Gl σ rs=some (p,l)->p ->
  ∃ys:List Value,(vs.mapM (xO act.tmps)).run P w=.ok ys w/\ys.length=l.length/\∀(j:Nat) (y:Value) (a:AV),ys[j]?=some y->l[j]?=some a->R F own y a:=by
 intro vs
 induction vs with
 |nil=>intro rs p l hc hr hp;cases hc;cases hr;exact⟨[],rfl,rfl,λj y a q=>by simp at q⟩
 |cons v vs ih =>
  intro rs p l hc hr hp
  cases v with
  |tmp t =>
   simp only[jR]at hc
   cases hq:jR P vs with
   |none=>rw[hq]at hc;cases hc
   |some rs' =>
    rw[hq]at hc;cases hc
    simp only[nE]at hr
    cases hr':nE Gl σ rs' with
    |none=>rw[hr']at hr;cases hr
    |some q =>
     obtain⟨p',l'⟩:=q
     rw[hr']at hr;cases hr
     obtain⟨ys,e1,e2,e3⟩:=ih rs' _ l' hq hr' hp
     refine⟨act.tmps.getD t undef::ys,?_,by simp[e2],λj y a q q'=>?_⟩
     .rw[List.mapM_cons];simp only[Sem.run_bind,xO,Sem.run_pure,Result.andThen_ok];rw[e1];rfl
     .cases j with
      |zero =>
       have q1:some (act.tmps.getD t undef)=some y:=q
       have q2:some (σ.t.getD t .any)=some a:=q'
       cases q1;cases q2;exact h.ev (.tmp t)
      |succ j=>simp at q q';exact e3 j y a q q'
  |cell ad t =>
   simp only[jR]at hc
   split at hc
   .rename_i ag sz rs' ha hq
    cases hc
    simp only[nE]at hr
    split at hr
    .rename_i p1 a1 h1 q hs hr'
     obtain⟨p2,l2⟩:=q
     cases hr
     obtain⟨ys,e1,e2,e3⟩:=ih rs' p2 l2 hq hr' hp.2
     obtain⟨ad',y0,ex,hy,hR,_⟩:=J6 (x:=.tmp ad) h ha hs hp.1
     refine⟨y0::ys,?_,by simp[e2],λj y a q q'=>?_⟩
     .have ex':act.tmps.getD ad undef=.pointer (some ad'):=ex
      have eas:(asAddr (act.tmps.getD ad undef)).run P w=.ok ad' w:=by rw[ex'];rfl
      rw[List.mapM_cons];simp only[Sem.run_bind,xO,eas,Result.andThen_ok,hy];rw[e1];rfl
     .cases j with
      |zero=>simp at q q';subst q q';exact hR
      |succ j=>simp at q q';exact e3 j y a q q'
    .cases hr
   .cases hc
theorem Pure.ofW {f:FuncId} {fn:Func} {code:Code} {rs:List RV} (hf:P.funcs[f]?=some fn) (hb:fn.body=some code) (hr:jR P fn.results.toList=some rs) {as:List AV} {res:AV}
  (h:∀(F:Addr->Option Value) (own:List Ent) (B:Nat) (w0:W0) (act:Act) (w:World),w0.N=0->Inv Gl F own B w0 ⟨as++List.replicate (fn.ntmps-as.length) .any,[]⟩ act w->code.wp P (λe a w=>fO Gl B w0 (Ends Gl rs res e) a w) act w):Pure P Gl f as res:=by
 intro w F xs hF hgl hgw hxs
 refine calls_of_wp hf hb ?_
 have hI:Inv Gl F [] w.heap.size ⟨w,F,0,[],(λq hq=>by simp at hq),[],List.Pairwise.nil,[]⟩ ⟨as++List.replicate (fn.ntmps-as.length) .any,[]⟩ { tmps:=xs++Array.replicate (fn.ntmps-xs.size) undef,defers:=[] } w:=by
  refine{ tl:=by simp[hxs.1],tr:=λi x a p q=>?_,defers:=rfl,sub:=hF,hl:=rfl,objs:=λid e o p=>by simp at p,inj:=λi j e e' g p=>by simp at p,below:=Below.refl _ _,base:=λid e g p=>by simp at p,gl:=hgl,gw:=hgw,room:=Nat.le_refl _,ext:=λ_ _ q=>.inl q,dW:=λ_ _ q=>q,nl:=Nat.zero_le _,fr:=(λq hq=>by simp at hq),pd:=λq hq=>by simp at hq }
  simp only at p q
  rcases Nat.lt_or_ge i as.length with hi|hi
  .rw[List.getElem?_append_left hi]at q
   rw[Array.getElem?_append_left (by rw[hxs.1];exact hi)]at p
   exact .pure (hxs.2 i x a p q)
  .rw[List.getElem?_append_right hi,List.getElem?_replicate]at q
   split at q
   .cases q;exact .pure (.any _)
   .cases q
 refine wp_mono (h F [] _ _ _ w rfl hI) ?_
 rintro e a1 w1 ⟨F1,aQ,τ,hI1,hE,p,a,b,hres,hp,hk,hw⟩
 obtain⟨p',l,hrl,hal⟩:∃p' l,nE Gl τ rs=some (p',l)/\((∃x,l=[x]/\a=x/\p=p')\/((∀x,l≠[x])/\a=.tup l/\p=p')):=by
  unfold rH at hres
  split at hres
  .rename_i p0 a0 h0;cases hres;exact⟨p,[a],h0,.inl ⟨a,rfl,rfl,rfl⟩⟩
  .rename_i p0 l0 hne h0;cases hres;exact⟨p,l0,h0,.inr ⟨λx e=>hne x e,rfl,rfl⟩⟩
  .cases hres
 have hpp:p':=by rcases hal with⟨_,_,_,e⟩|⟨_,_,e⟩<;>(rw[<- e];exact hp)
 obtain⟨ys,hrun,hyl,hyR⟩:=rG hI1 fn.results.toList rs p' l hr hrl hpp
 have sD:(fn.results.mapM (xO a1.tmps)).run P w1=.ok ys.toArray w1:=by
  rw[Array.mapM_eq_mapM_toList]
  simp only[Sem.run_map,hrun,Result.andThen_ok]
 have fin:∀v,(Go.results fn a1.tmps).run P w1=.ok v w1->R F1 aQ v a->bodyPost P fn (λe w'=>∃v F',e=.returned v/\(∀ad y,F ad=some y->F' ad=some y)/\(∀ad y,F' ad=some y->w'.cell? ad=some y)/\(∀ad y,F' ad=some y->F ad=some y\/w.heap.size<=ad.block)/\RP F' v res/\Below w.heap.size w w') e a1 w1:=by
  intro v hv hR
  obtain⟨F2,hF2,hI2,hkp⟩:=hI1.lF (List.range τ.h.length)
  have Jj:∀id,Kept F2 aQ τ.h w1 id:=λid=>by
   intro ob e' g hob
   exact hkp id (List.mem_range.2 (List.getElem?_eq_some_iff.1 hob).1) ob e' g hob
  have a15:RP F2 v b:=by
   by_cases ha:∃vs,a=.tup vs
   .obtain⟨vs,rfl⟩:=ha
    have hk':(aX τ.h vs).map AV.tup=some b:=hk
    cases hq:aX τ.h vs with
    |none=>rw[hq]at hk';cases hk'
    |some ds =>
     rw[hq]at hk';cases hk'
     obtain⟨zs,rfl,z1,z2⟩:=hR.mY
     obtain⟨l1,l2⟩:=mR hI1 hF2 vs ds hq (λid _=>Jj id)
     refine .tup zs ds (by omega) λj x c p q=>?_
     have hj:j<vs.length:=by rw[l1];exact(List.getElem?_eq_some_iff.1 q).1
     exact(l2 j x vs[j] c (List.getElem?_eq_getElem hj) q (z2 j x _ p (List.getElem?_eq_getElem hj))).1
   .have hk':dN τ.h a=some b:=by cases a<;>first|exact hk|exact absurd ⟨_,rfl⟩ ha
    exact(iQ hI1 hF2 hR hk' (λid _=>Jj id)).1
  have hend:(∃v,(Go.results fn a1.tmps).run P w1=.ok v w1/\∃v' F',Ending.returned v=.returned v'/\(∀ad y,F ad=some y->F' ad=some y)/\(∀ad y,F' ad=some y->w1.cell? ad=some y)/\(∀ad y,F' ad=some y->F ad=some y\/w.heap.size<=ad.block)/\RP F' v' res/\Below w.heap.size w w1) :=
   ⟨v,hv,v,F2,rfl,hI2.dW,hI2.sub,hI2.ext,hw F2 v a15,hI2.below⟩
  cases e with
  |normal=>exact⟨hI1.defers,hend⟩
  |ret=>exact⟨hI1.defers,hend⟩
  |_=>exact hE.elim
 rcases hal with⟨x,rfl,rfl,_⟩|⟨hne,rfl,_⟩
 .have hy1:ys.length=1:=by simpa using hyl
  obtain⟨y,rfl⟩:=List.length_eq_one_iff.1 hy1
  refine fin y ?_ (hyR 0 y a rfl rfl)
  rw[gU]
  simp only[Sem.run_bind,sD,Result.andThen_ok]
  rfl
 .refine fin (.tuple ys.toArray) ?_ (.tup _ _ (by simp[hyl]) λj x c p q=>hyR j x c (by simpa using p) q)
  rw[gU]
  simp only[Sem.run_bind,sD,Result.andThen_ok]
  have hy1:¬ys.toArray.size=1:=λq=>by
   have:l.length=1:=by rw[<- hyl];simpa using q
   match l,this with
   |[x],_=>exact hne x rfl
  rw[dif_neg hy1]
  rfl
def WX(Gl:Nat->Option (List AV))(rs:List RV)(Q:AV->List ah->Prop)(e:Exit)(σ:St):Prop :=
 (match e with|.normal=>True|.ret=>True|_=>False)/\∃p a,rH Gl σ rs=some (p,a)/\p/\Q a σ.h
theorem gW.ofW {f : FuncId} {fn : Func} {code : Code} {rs : List RV} (hf : P.funcs[f]? = some fn) (hb : fn.body = some code) (hr : jR P fn.results.toList = some rs) {h0 : List ah} {as : List AV} {Q : AV -> List ah -> Prop}
    (h:∀(F:Addr->Option Value) (own:List Ent) (B:Nat) (w0:W0) (act:Act) (w:World),w0.N=h0.length->Inv Gl F own B w0 ⟨as++List.replicate (fn.ntmps-as.length) .any,h0⟩ act w->code.wp P (λe a w=>fO Gl B w0 (WX Gl rs Q e) a w) act w):gW P Gl f h0 as Q:=by
  intro F own B w0 t act w xs hI hxs
  refine calls_of_wp hf hb ?_
  let fr':List (Nat×Value×AV):=(List.range t.length).map λi=>(h0.length,act.tmps.getD i undef,t.getD i .any)
  have AL:∀ q ∈ w0.fr ++ fr',q.1<=h0.length:=fun q hq=>by
    rcases List.mem_append.1 hq with hq|hq
    .exact Nat.le_trans (w0.hfr q hq) hI.nl
    .obtain⟨i,_,rfl⟩:=List.mem_map.1 hq;exact Nat.le_refl _
  have hown:own.take h0.length=own:=List.take_of_length_le (by rw[hI.hl];exact Nat.le_refl _)
  have hI1:Inv Gl F own B ⟨w0.w,w0.F,h0.length,w0.fr ++ fr',AL,w0.pd,w0.pdn,[]⟩ ⟨as ++ List.replicate (fn.ntmps - as.length) .any,h0⟩ { tmps:=xs ++ Array.replicate (fn.ntmps - xs.size) undef,defers:=[] } w:=by
    refine{ tl:=by simp[hxs.1],tr:=λi x a p q=>?_,defers:=rfl,sub:=hI.sub,hl:=hI.hl,objs:=hI.objs,inj:=hI.inj,below:=hI.below,base:=hI.base,gl:=hI.gl,gw:=hI.gw,room:=hI.room,ext:=hI.ext,dW:=hI.dW,nl:=Nat.le_refl _,fr:=λq hq=>?_,pd:=hI.pd }
    · simp only at p q
      rcases Nat.lt_or_ge i as.length with hi|hi
      · rw [List.getElem?_append_left hi] at q
        rw[Array.getElem?_append_left (by rw[hxs.1];exact hi)]at p
        exact hxs.2 i x a p q
      · rw [List.getElem?_append_right hi,List.getElem?_replicate] at q
        split at q
        .cases q;exact .pure (.any _)
        .cases q
    · rcases List.mem_append.1 hq with hq | hq
      .exact hI.fr q hq
      · obtain ⟨i,hi,rfl⟩:=List.mem_map.1 hq
        have hi':=List.mem_range.1 hi
        have hlt:i<act.tmps.size:=by rw[hI.tl];exact hi'
        rw[hown]
        exact hI.tr i _ _ (by simp[Array.getD,hlt]) (by simp[List.getD,List.getElem?_eq_getElem hi'])
  refine wp_mono (h F own _ _ _ w rfl hI1) ?_
  rintro e a1 w1 ⟨F1,aQ,τ,hI2,hE,p,a,hres,hp,hQ⟩
  obtain ⟨p',l,hrl,hal⟩:∃ p' l,nE Gl τ rs=some (p',l)/\((∃ x,l=[x]/\a=x/\p=p')\/((∀ x,l ≠ [x])/\a=.tup l/\p=p')):=by
    unfold rH at hres
    split at hres
    .rename_i p0 a0 h0;cases hres;exact⟨p,[a],h0,.inl ⟨a,rfl,rfl,rfl⟩⟩
    .rename_i p0 l0 hne h0;cases hres;exact⟨p,l0,h0,.inr ⟨λx e=>hne x e,rfl,rfl⟩⟩
    .cases hres
  have hpp:p':=by rcases hal with⟨_,_,_,e⟩|⟨_,_,e⟩<;>(rw[<- e];exact hp)
  obtain⟨ys,hrun,hyl,hyR⟩:=rG hI2 fn.results.toList rs p' l hr hrl hpp
  have sD:(fn.results.mapM (xO a1.tmps)).run P w1=.ok ys.toArray w1:=by
    rw[Array.mapM_eq_mapM_toList]
    simp only[Sem.run_map,hrun,Result.andThen_ok]
  have hback:Inv Gl F1 aQ B w0 ⟨t,τ.h⟩ act w1 :=
    { tl := hI.tl, tr := fun i x a p q => by
        have hi:i<t.length:=(List.getElem?_eq_some_iff.1 q).1
        have hlt:i<act.tmps.size:=by rw[hI.tl];exact hi
        have:=hI2.fr (h0.length,act.tmps.getD i undef,t.getD i .any) (List.mem_append.2 (.inr (List.mem_map.2 ⟨i,List.mem_range.2 hi,rfl⟩)))
        have e1:act.tmps.getD i undef=x:=by simp[Array.getD,hlt];rw[Array.getElem?_eq_getElem hlt]at p;exact Option.some.inj p
        have e2:t.getD i .any=a:=by
          have q':t[i]?=some a:=q
          simp[List.getD,q']
        rw[e1,e2]at this
        exact this.mono (λ_ _ r=>r) (Le.DR _ _),
      defers:=hI.defers,sub:=hI2.sub,hl:=hI2.hl,objs:=hI2.objs,inj:=hI2.inj,below:=hI2.below,base:=hI2.base,gl:=hI2.gl,gw:=hI.gw,room:=hI2.room,ext:=hI2.ext,dW:=hI2.dW,nl:=Nat.le_trans hI.nl hI2.nl,fr:=λq hq=>hI2.fr q (List.mem_append.2 (.inl hq)),pd:=hI2.pd }
  have fin:∀ v,(Go.results fn a1.tmps).run P w1=.ok v w1->R F1 aQ v a->bodyPost P fn (fun e w'=>∃ v res h' F' own',e=.returned v/\Inv Gl F' own' B w0 ⟨t,h'⟩ act w'/\R F' own' v res/\Q res h') e a1 w1:=by
    intro v hv hR
    have hend:∃v,(Go.results fn a1.tmps).run P w1=.ok v w1/\∃v' res h' F' own',Ending.returned v=.returned v'/\Inv Gl F' own' B w0 ⟨t,h'⟩ act w1/\R F' own' v' res/\Q res h':=⟨v,hv,v,a,τ.h,F1,aQ,rfl,hback,hR,hQ⟩
    cases e with
    |normal=>exact⟨hI2.defers,hend⟩
    |ret=>exact⟨hI2.defers,hend⟩
    |_=>exact hE.elim
  rcases hal with⟨x,rfl,rfl,_⟩|⟨hne,rfl,_⟩
  · have hy1:ys.length=1:=by simpa using hyl
    obtain⟨y,rfl⟩:=List.length_eq_one_iff.1 hy1
    refine fin y ?_ (hyR 0 y a rfl rfl)
    rw[gU]
    simp only[Sem.run_bind,sD,Result.andThen_ok]
    rfl
  · refine fin (.tuple ys.toArray) ?_ (.tup _ _ (by simp [hyl]) fun j x c p q=>hyR j x c (by simpa using p) q)
    rw[gU]
    simp only[Sem.run_bind,sD,Result.andThen_ok]
    have hy1:¬ ys.toArray.size=1:=fun q=>by
      have:l.length=1:=by rw[<- hyl];simpa using q
      match l,this with
      |[x],_=>exact hne x rfl
    rw[dif_neg hy1]
    rfl
theorem Pure.of (hm:P.follows .mixedOrders=true) {f:FuncId} {fn:Func} {code:Code} {c:C} {rs:List RV} {hl:List Nat} (hf:P.funcs[f]?=some fn) (hb:fn.body=some code) (hc:cC P hl code=some c) (hr:jR P fn.results.toList=some rs) {as:List AV} {res:AV}
  (h:awp P Gl 0 c (Ends Gl rs res) ⟨as++List.replicate (fn.ntmps-as.length) .any,[]⟩):Pure P Gl f as res :=
 Pure.ofW hf hb hr λF own B w0 act w hN hI=>FT hm hN code c hc _ _ F own act w h hI
theorem gW.of (hm:P.follows .mixedOrders=true) {f:FuncId} {fn:Func} {code:Code} {c:C} {rs:List RV} {hl:List Nat} (hf:P.funcs[f]?=some fn) (hb:fn.body=some code) (hc:cC P hl code=some c) (hr:jR P fn.results.toList=some rs) {h0:List ah} {as:List AV} {Q:AV->List ah->Prop}
  (h:awp P Gl h0.length c (WX Gl rs Q) ⟨as++List.replicate (fn.ntmps-as.length) .any,h0⟩):gW P Gl f h0 as Q :=
 gW.ofW hf hb hr λF own B w0 act w hN hI=>FT hm hN code c hc _ _ F own act w h hI
end
def bs(l:List UInt8):ByteArray:=⟨l.toArray⟩
def Fn(P:Program)(f n:Nat)(c:C)(rs:List RV):Prop:=∃fn hl,P.funcs[f]?=some fn/\fn.body.bind (cC P hl)=some c/\jR P fn.results.toList=some rs/\fn.ntmps=n/\callable P f=true
theorem Fn.callable{P:Program}{f n:Nat}{c:C}{rs:List RV}(h:Fn P f n c rs):callable P f=true:=by obtain⟨_,_,_,_,_,_,h⟩:=h;exact h
theorem Fn.pure{P:Program}{Gl:Nat->Option (List AV)}(hm:P.follows .mixedOrders=true){f n:Nat}{c:C}{rs:List RV}(h:Fn P f n c rs){as:List AV}{res:AV}{t:List AV}(ht:as++List.replicate (n-as.length) .any=t)(ha:awp P Gl 0 c (Ends Gl rs res) ⟨t,[]⟩):Pure P Gl f as res:=by
 obtain⟨fn,hl,h1,h2,h3,rfl,_⟩:=h
 cases hb:fn.body with
 |none=>rw[hb]at h2;cases h2
 |some code =>
  rw[hb]at h2
  subst ht
  exact Pure.of hm h1 hb h2 h3 ha
section
variable{P:Program}{Gl:Nat->Option (List AV)}{N:Nat}{Q:Exit->St->Prop}{σ:St}{K:St->Prop}{d:Bool}
theorem Z4{l:List Ins}:awp P Gl N (.ops d l) Q σ=vk P Gl d (Q .normal) l σ:=rfl
theorem gW.mono{f:Nat}{h:List ah}{as:List AV}{Q Q':AV->List ah->Prop}(hP:gW P Gl f h as Q)(hq:∀a h',Q a h'->Q' a h'):gW P Gl f h as Q':=by
 intro F own B w0 t act w xs hI hxs
 refine(hP F own B w0 t act w xs hI hxs).mono ?_
 rintro e w' ⟨v,res,h',F',own',a,b,c,q⟩
 exact⟨v,res,h',F',own',a,b,c,hq _ _ q⟩
theorem wrap64{n:Int}(h1:-9223372036854775808<=n)(h2:n<=9223372036854775807):IntKind.i64.wrap n=n:=IntWalk.i64_in n ⟨h1,h2⟩
theorem a2K{n:Int}(h1:0<=n)(h2:n<=255):IntKind.u8.wrap n=n:=IntWalk.u8_in n ⟨h1,h2⟩
end
def e8(x:Int):AV:=.v (.int .u8 x)
section
variable{Gl:Nat->Option (List AV)}{t:List AV}{h:List ah}{res:AV}{Q:AV->List ah->Prop}
end
theorem Pure.weak{P:Program}{Gl:Nat->Option (List AV)}{f:Nat}{as bs:List AV}{res:AV}(h:Pure P Gl f bs res)(hl:as.length=bs.length)(hw:∀(j:Nat) (a b:AV),as[j]?=some a->bs[j]?=some b->Wk a b):Pure P Gl f as res:=by
 intro w F xs h1 h2 hgw h3
 refine h w F xs h1 h2 hgw ⟨by rw[h3.1,hl],λi x b p q=>?_⟩
 have hi:i<as.length:=by rw[hl];exact(List.getElem?_eq_some_iff.1 q).1
 exact hw i as[i] b (List.getElem?_eq_getElem hi) q F x (h3.2 i x _ p (List.getElem?_eq_getElem hi))
theorem Pure.res{P:Program}{Gl:Nat->Option (List AV)}{f:Nat}{as:List AV}{r r':AV}(h:Pure P Gl f as r)(e:r=r'):Pure P Gl f as r':=e▸h
inductive Ty where
 |int (k:IntKind)
 |bool
 |str
 |list (e:Ty)
 |tup (fs:List Ty)
 |fnc (f:Nat)
 |cZ (e:Ty)
 |rl (ty sz:Nat)
mutual
def Ty.size:Ty->Nat
 |.tup fs=>Ty.iy fs
 |_=>1
def Ty.iy:List Ty->Nat
 |[]=>0
 |t::ts=>t.size+Ty.iy ts
end
def Ty.dL:Ty->Bool
 |.tup _=>true
 |_=>false
def pack(T:Ty)(cs:List AV):AV:=if T.dL then .agg cs else cs.headD .any
def tyE:Ty:=.tup [.int .i64,.str,.list .str,.int .i64,.int .i64,.rl 34 6]
def tyW:Ty:=.tup [.str,tyE,.rl 63 8]
def Am:Nat->Option Ty:=λn=>if Nat.beq n 34=true then some tyE else if Nat.beq n 63=true then some tyW else none
mutual
def IsZ(Z:Nat->Nat->AV->Prop):Ty->List AV->Prop
 |.int k,l=>∃n,l=[.v (.int k n)]/\(Lit.int k n).wf=true
 |.bool,l=>∃b,l=[.v (.bool b)]
 |.str,l=>∃s:ByteArray,l=[.v (.string s)]/\s.size<=maxLen
 |.list e,l=>∃xss:List (List AV),l=[.list e.size (xss.map (pack e))]/\xss.length<=maxLen/\∀xs∈xss,IsZ Z e xs
 |.tup fs,l=>l8 Z fs l
 |.fnc f,l=>l=[.v (.func (.func f) #[] #[])]
 |.cZ _,l=>l=[.v (.slice none 0 0)]
 |.rl ty sz,l=>∃xs,l=[.list sz xs]/\Z ty sz (.list sz xs)
def l8(Z:Nat->Nat->AV->Prop):List Ty->List AV->Prop
 |[],l=>l=[]
 |t::ts,l=>∃a b,l=a++b/\IsZ Z t a/\l8 Z ts b
end
def ZN:Nat->Nat->Nat->AV->Prop
 |0,ty,sz,a=>∃T,Am ty=some T/\T.size=sz/\a=.list sz []
 |n+1,ty,sz,a=>∃T,Am ty=some T/\T.size=sz/\∃xss:List (List AV),a=.list sz (xss.map (pack T))/\xss.length<=maxLen/\∀xs∈xss,IsZ (ZN n) T xs
def ZA(ty sz:Nat)(a:AV):Prop:=∃n,ZN n ty sz a
mutual
theorem IsZ.mono{Z Z':Nat->Nat->AV->Prop}(hz:∀ty sz a,Z ty sz a->Z' ty sz a):∀{T:Ty} {l:List AV},IsZ Z T l->IsZ Z' T l
 |.int _,l,h=>by simp only[IsZ]at h ⊢;exact h
 |.bool,l,h=>by simp only[IsZ]at h ⊢;exact h
 |.str,l,h=>by simp only[IsZ]at h ⊢;exact h
 |.list e,l,h=>by
  simp only[IsZ]at h ⊢
  obtain⟨xss,a,b,c⟩:=h
  exact⟨xss,a,b,λxs hx=>IsZ.mono hz (c xs hx)⟩
 |.tup fs,l,h=>by simp only[IsZ]at h ⊢;exact l8.mono hz h
 |.fnc f,l,h=>by simp only[IsZ]at h ⊢;exact h
 |.cZ e,l,h=>by simp only[IsZ]at h ⊢;exact h
 |.rl ty sz,l,h=>by
  simp only[IsZ]at h ⊢
  obtain⟨xs,a,b⟩:=h
  exact⟨xs,a,hz _ _ _ b⟩
theorem l8.mono{Z Z':Nat->Nat->AV->Prop}(hz:∀ty sz a,Z ty sz a->Z' ty sz a):∀{ts:List Ty} {l:List AV},l8 Z ts l->l8 Z' ts l
 |[],l,h=>by simp only[l8]at h ⊢;exact h
 |t::ts,l,h=>by
  simp only[l8]at h ⊢
  obtain⟨a,b,e,h1,h2⟩:=h
  exact⟨a,b,e,IsZ.mono hz h1,l8.mono hz h2⟩
end
theorem ZN.succ:∀(n ty sz:Nat) (a:AV),ZN n ty sz a->ZN (n+1) ty sz a
 |0,ty,sz,a,h=>by
  simp only[ZN]at h ⊢
  obtain⟨T,h1,h2,rfl⟩:=h
  exact⟨T,h1,h2,[],rfl,Nat.zero_le _,λxs q=>by simp at q⟩
 |n+1,ty,sz,a,h=>by
  simp only[ZN]at h ⊢
  obtain⟨T,h1,h2,xss,h3,h4,h5⟩:=h
  exact⟨T,h1,h2,xss,h3,h4,λxs q=>(h5 xs q).mono λty sz a=>ZN.succ n ty sz a⟩
abbrev Is(T:Ty)(l:List AV):Prop:=IsZ ZA T l
theorem Is.ofN{n:Nat}{T:Ty}{l:List AV}(h:IsZ (ZN n) T l):Is T l:=h.mono λ_ _ _ q=>⟨n,q⟩
mutual
theorem IsZ.length{Z:Nat->Nat->AV->Prop}:∀{T:Ty} {l:List AV},IsZ Z T l->l.length=T.size
 |.int _,l,h=>by simp only[IsZ]at h;obtain⟨n,rfl,_⟩:=h;rfl
 |.bool,l,h=>by simp only[IsZ]at h;obtain⟨b,rfl⟩:=h;rfl
 |.str,l,h=>by simp only[IsZ]at h;obtain⟨s,rfl,_⟩:=h;rfl
 |.list e,l,h=>by simp only[IsZ]at h;obtain⟨xs,rfl,_⟩:=h;rfl
 |.tup fs,l,h=>by simp only[IsZ]at h;rw[l8.length h];rfl
 |.fnc f,l,h=>by simp only[IsZ]at h;subst h;rfl
 |.cZ e,l,h=>by simp only[IsZ]at h;subst h;rfl
 |.rl ty sz,l,h=>by simp only[IsZ]at h;obtain⟨xs,rfl,_⟩:=h;rfl
theorem l8.length{Z:Nat->Nat->AV->Prop}:∀{ts:List Ty} {l:List AV},l8 Z ts l->l.length=Ty.iy ts
 |[],l,h=>by simp only[l8]at h;subst h;rfl
 |t::ts,l,h=>by
  simp only[l8]at h
  obtain⟨a,b,rfl,h1,h2⟩:=h
  rw[List.length_append,IsZ.length h1,l8.length h2];rfl
end
def Ag(P:Program)(g:TypeId->Option Ty):Nat->List Field->Option (List Ty)
 |_,[]=>some []
 |o,f::fs=>match g f.type with
  | some T=>if f.offset=o/\P.cellsOf f.type=T.size then match Ag P g (o + T.size) fs with
    |some ts=>some (T::ts)
    |none=>none
   else none
  |none=>none
def oF(P:Program):Nat->TypeId->Option Ty
 |0,_=>none
 |d+1,t=>match P.underlying t with
  |some (.int k)=>some (.int k)
  |some .bool=>some .bool
  |some .string=>some .str
  |some (.slice e)=>match Am e with
   |some E=>if P.cellsOf e=E.size/\0<E.size then some (.rl e E.size) else none
   |none=>match oF P d e with
    |some E=>if P.cellsOf e=E.size/\0<E.size then some (.list E) else none
    |none=>none
  |some (.struct fs)=>match Ag P (oF P d) 0 fs.toList with
   |some ts=>if P.cellsOf t=Ty.iy ts then some (.tup ts) else none
   |none=>none
  |_=>none
section
variable{H:Type}{enc:TypeId×Value->H}{P:Program}{w:World}
def RdL(w:World)(cs:List Value)(l:List AV):Prop:=cs.length=l.length/\∀(j:Nat) (c:Value) (a:AV),cs[j]?=some c->l[j]?=some a->c.oneCell'=true/\RP (snap w) c a
theorem RdL.app{cs ds:List Value}{l m:List AV}(h:RdL w cs l)(k:RdL w ds m):RdL w (cs++ds) (l++m):=by
 refine⟨by simp[h.1,k.1],λj c a p q=>?_⟩
 rcases Nat.lt_or_ge j cs.length with hj|hj
 .rw[List.getElem?_append_left hj]at p
  rw[List.getElem?_append_left (by rw[<- h.1];exact hj)]at q
  exact h.2 j c a p q
 .rw[List.getElem?_append_right hj]at p
  rw[List.getElem?_append_right (by rw[<- h.1];exact hj),<- h.1]at q
  exact k.2 _ c a p q
theorem RdL.one{c:Value}{a:AV}(h1:c.oneCell'=true)(h:RP (snap w) c a):RdL w [c] [a]:=by
 refine⟨rfl,λj c' a' p q=>?_⟩
 cases j with
 |zero=>simp at p q;subst p q;exact⟨h1,h⟩
 |succ j=>simp at p
theorem pack_cells{Z:Nat->Nat->AV->Prop}{T:Ty}{l:List AV}(h:IsZ Z T l):(pack T l).cells=l:=by
 cases T with
 |tup fs=>rfl
 |int k=>simp only[IsZ]at h;obtain⟨n,rfl,_⟩:=h;rfl
 |bool=>simp only[IsZ]at h;obtain⟨b,rfl⟩:=h;rfl
 |str=>simp only[IsZ]at h;obtain⟨s,rfl,_⟩:=h;rfl
 |list e=>simp only[IsZ]at h;obtain⟨xs,rfl,_⟩:=h;rfl
 |fnc f=>simp only[IsZ]at h;subst h;rfl
 |cZ e=>simp only[IsZ]at h;subst h;rfl
 |rl ty sz=>simp only[IsZ]at h;obtain⟨xs,rfl,_⟩:=h;rfl
theorem Ca {n:Nat} {e:TypeId} {E:Ty} {t:TypeId} {cs:List Value} {x:DataW H × List MemPlace} (hk:P.underlying t=some (.slice e)) (hsz:P.cellsOf e=E.size)
  (ih:∀(cs:List Value) (x:DataW H×List MemPlace),DataW.trod enc P w 0 (λ_=>true) true n e cs=some x->∃l,RdL w cs l/\IsZ (ZN n) E l)
  (hx:DataW.trod enc P w 0 (λ_=>true) true (n+1) t cs=some x):∃xss:List (List AV),RdL w cs [.list E.size (xss.map (pack E))]/\xss.length<=maxLen/\∀xs∈xss,IsZ (ZN n) E xs:=by
 rcases DataW.trod_slice hk hx with⟨rfl,_⟩|⟨a,len,cap,elems,rest,m,hm,rfl,_,_,hlc,hcm,hlen,hel,_,_⟩
 .exact⟨[],RdL.one rfl (.nil _),by simp,λxs h=>by simp at h⟩
 .cases hm
  obtain⟨xss,hxl,hxp⟩:=zV len (λi l=>IsZ (ZN n) E l/\∀(j:Nat) (a':AV),l[j]?=some a'->∃c,w.cell? (a.add (i*E.size+j))=some c/\c.oneCell'=true/\RP (snap w) c a') (λi hi=>by
   have hi':i<elems.length:=by omega
   have he:=hel i hi
   rw[List.getElem?_eq_getElem hi',Option.bind_eq_some_iff]at he
   obtain⟨cs',hcs,ht⟩:=he
   obtain⟨l,hr,hI⟩:=ih cs' _ ht
   obtain⟨_,hcl,hat⟩:=World.cells?_some hcs
   refine⟨l,hI,λj a' hj=>?_⟩
   have hjl:j<l.length:=(List.getElem?_eq_some_iff.1 hj).1
   have hjc:j<cs'.length:=by rw[hr.1];exact hjl
   have hc:=hat j (by rw[<- hcl];exact hjc)
   rw[hsz,uh]at hc
   obtain⟨q1,q2⟩:=hr.2 j cs'[j] a' (List.getElem?_eq_getElem hjc) hj
   exact⟨cs'[j],by rw[hc];exact List.getElem?_eq_getElem hjc,q1,q2⟩)
  refine⟨xss,RdL.one rfl ?_,by omega,λxs h=>?_⟩
  ·have get:∀ (i:Nat) (e':AV),(xss.map (pack E))[i]?=some e'->∃ l,xss[i]?=some l/\e'=pack E l/\IsZ (ZN n) E l:=fun i e' h=>by
    rw[List.getElem?_map]at h
    cases hl:xss[i]? with
    |none=>rw[hl]at h;cases h
    |some l=>rw[hl]at h;cases h;exact⟨l,rfl,rfl,(hxp i l hl).1⟩
   refine .list a len cap E.size _ (λk=>(w.cell? (a.add k)).getD undef) (by simp[hxl]) hlc (λi e' h=>?_) (λi j e' a' h h'=>?_) (λi j e' a' h h'=>?_)
   .obtain⟨l,_,rfl,hI⟩:=get i e' h
    rw[pack_cells hI];exact hI.length
   .obtain⟨l,hl,rfl,hI⟩:=get i e' h
    rw[pack_cells hI]at h'
    obtain⟨c,c1,c2,c3⟩:=(hxp i l hl).2 j a' h'
    rw[c1]
    exact⟨c1,c2⟩
   .obtain⟨l,hl,rfl,hI⟩:=get i e' h
    rw[pack_cells hI]at h'
    obtain⟨c,c1,c2,c3⟩:=(hxp i l hl).2 j a' h'
    rw[c1]
    exact c3
  .obtain⟨i,hi⟩:=List.mem_iff_getElem?.1 h
   exact(hxp i xs hi).1
def rOk(P:Program):Prop:=∀e T,Am e=some T->∃d,oF P d e=some T
theorem MI(hrt:rOk P):∀(fuel d:Nat) (t:TypeId) (T:Ty),oF P d t=some T->∀(cs:List Value) (x:DataW H×List MemPlace),DataW.trod enc P w 0 (λ_=>true) true fuel t cs=some x->∃l,RdL w cs l/\IsZ (ZN fuel) T l:=by
 intro fuel
 induction fuel with
 |zero=>intro d t T hT cs x hx;simp[DataW.trod]at hx
 |succ n ih =>
  intro d t T hT cs x hx
  have up:∀{T:Ty} {l:List AV},IsZ (ZN n) T l->IsZ (ZN (n+1)) T l:=λh=>h.mono λty sz a=>ZN.succ n ty sz a
  have fields:∀(d:Nat) (fs:List Field) (o:Nat) (ts:List Ty),Ag P (oF P d) o fs=some ts->(∀f∈fs,∃y,DataW.trod enc P w 0 (λ_=>true) true n f.type ((cs.drop f.offset).take (P.cellsOf f.type))=some y)->cs.length=o+Ty.iy ts->∃l,RdL w (cs.drop o) l/\l8 (ZN (n+1)) ts l:=by
   intro d fs
   induction fs with
   |nil =>
    intro o ts h1 _ h3
    simp only[Ag]at h1
    cases h1
    refine⟨[],?_,rfl⟩
    rw[List.drop_eq_nil_of_le (by simp[Ty.iy]at h3;omega)]
    exact⟨rfl,λj c a p=>by simp at p⟩
   |cons f fs ihf =>
    intro o ts h1 h2 h3
    simp only[Ag]at h1
    cases hF:oF P d f.type with
    |none=>rw[hF]at h1;cases h1
    |some T1 =>
     rw[hF]at h1
     simp only at h1
     split at h1
     .rename_i hc
      cases hR:Ag P (oF P d) (o+T1.size) fs with
      |none=>rw[hR]at h1;cases h1
      |some ts' =>
       rw[hR]at h1;cases h1
       obtain⟨y,hy⟩:=h2 f (by simp)
       rw[hc.1,hc.2]at hy
       obtain⟨l1,r1,i1⟩:=ih d f.type T1 hF _ y hy
       obtain⟨l2,r2,i2⟩:=ihf (o+T1.size) ts' hR (λg hg=>h2 g (by simp[hg])) (by simp only[Ty.iy]at h3;omega)
       refine⟨l1++l2,?_,l1,l2,rfl,up i1,i2⟩
       have:cs.drop o=(cs.drop o).take T1.size++cs.drop (o+T1.size):=by
        rw[<- List.drop_drop,List.take_append_drop]
       rw[this]
       exact r1.app r2
     .cases h1
  cases d with
  |zero=>simp[oF]at hT
  |succ d =>
  simp only[oF]at hT
  split at hT
  .rename_i k hk
   cases hT
   obtain⟨n,rfl,_,hw⟩:=DataW.trod_int hk hx
   exact⟨[.v (.int k n)],RdL.one rfl (.v _),n,rfl,hw⟩
  .rename_i hk
   cases hT
   obtain⟨b,rfl,_⟩:=DataW.trod_bool hk hx
   exact⟨[.v (.bool b)],RdL.one rfl (.v _),b,rfl⟩
  .rename_i hk
   cases hT
   obtain⟨s,rfl,_,hs⟩:=DataW.trod_string hk hx
   exact⟨[.v (.string s)],RdL.one rfl (.v _),s,rfl,hs⟩
  .rename_i e hk
   cases hr:Am e with
   |some E =>
    rw[hr]at hT
    simp only at hT
    split at hT
    .rename_i hsz
     cases hT
     obtain⟨d',hd⟩:=hrt e E hr
     obtain⟨xss,h1,h2,h3⟩:=Ca hk hsz.1 (λcs x h=>ih d' e E hd cs x h) hx
     exact⟨_,h1,_,rfl,E,hr,rfl,xss,rfl,h2,h3⟩
    .cases hT
   |none =>
    rw[hr]at hT
    simp only at hT
    cases hE:oF P d e with
    |none=>rw[hE]at hT;cases hT
    |some E =>
     rw[hE]at hT
     simp only at hT
     split at hT
     .rename_i hsz
      cases hT
      obtain⟨xss,h1,h2,h3⟩:=Ca hk hsz.1 (λcs x h=>ih d e E hE cs x h) hx
      exact⟨_,h1,xss,rfl,h2,λxs q=>up (h3 xs q)⟩
     .cases hT
  .rename_i fs hk
   cases hF:Ag P (oF P d) 0 fs.toList with
   |none=>rw[hF]at hT;cases hT
   |some ts =>
    rw[hF]at hT
    simp only at hT
    split at hT
    .rename_i hsz
     cases hT
     obtain⟨xs,m,hm,_,hcl,hxl,hf⟩:=DataW.trod_struct hk hx
     cases hm
     obtain⟨l,hr,hI⟩:=fields d fs.toList 0 ts hF (λf hfm=>by
      obtain⟨i,hi⟩:=List.mem_iff_getElem?.1 hfm
      have hi':fs[i]?=some f:=by simpa using hi
      have hlt:i<xs.length:=by rw[hxl];exact(Array.getElem?_eq_some_iff.1 hi').1
      exact⟨xs[i],by rw[hf i f hi',List.getElem?_eq_getElem hlt]⟩) (by omega)
     exact⟨l,by simpa using hr,by simp only[IsZ];exact hI⟩
    .cases hT
  .cases hT
def IsV(T:Ty)(a:AV):Prop:=∃l,Is T l/\a=pack T l
theorem wz{d:Nat}{t:TypeId}{T:Ty}(hrt:rOk P)(hT:oF P d t=some T){r:Reach}{b0:Nat}{v:Value}{D:DataW H}{p:List MemPlace}(hv:Value.okWide P w r b0 t v)(h:DataW.Trod enc P w 0 (λ_=>true) true t v D p):∃a,RP (snap w) v a/\IsV T a:=by
 obtain⟨fuel,hf⟩:=h
 obtain⟨l,hr,hI⟩:=MI hrt fuel d t T hT _ _ hf
 have hI:=Is.ofN hI
 refine⟨pack T l,?_,l,hI,rfl⟩
 have single:v.cells.toList=[v]->T.dL=false->RP (snap w) v (pack T l):=by
  intro h1 h2
  have hl:=hr.1
  rw[h1]at hr
  have hl1:l.length=1:=by rw[<- hr.1];rfl
  obtain⟨a,rfl⟩:=List.length_eq_one_iff.1 hl1
  have e:pack T [a]=a:=by simp[pack,h2]
  rw[e]
  exact(hr.2 0 v a rfl rfl).2
 have xW:∀{dd:TypeDesc},P.underlying t=some dd->(match dd with|.struct _=>true|.array _ _=>true|_=>false)=false->v.cells.toList=[v]:=by
  intro dd hd hn
  have hv':Cell.okWide P w r b0 t v:=by
   unfold Value.okWide at hv
   rw[hd]at hv
   cases dd<;>first|exact hv|cases hn
  cases v with
  |agg cs =>
   exfalso
   unfold Cell.okWide at hv'
   rw[hd]at hv'
   cases dd<;>first|(cases hn;done)|(simp[Cell.ok,hd]at hv';done)|(simp_all [Cell.ok];done)
  |_=>rfl
 cases d with
 |zero=>simp[oF]at hT
 |succ d =>
  simp only[oF]at hT
  split at hT
  .rename_i k hk;cases hT;exact single (xW hk rfl) rfl
  .rename_i hk;cases hT;exact single (xW hk rfl) rfl
  .rename_i hk;cases hT;exact single (xW hk rfl) rfl
  .rename_i e hk
   split at hT
   .split at hT
    .cases hT;exact single (xW hk rfl) rfl
    .cases hT
   .split at hT
    .split at hT
     .cases hT;exact single (xW hk rfl) rfl
     .cases hT
    .cases hT
  .rename_i fs hk
   split at hT
   .split at hT
    .cases hT
     unfold Value.okWide at hv
     rw[hk]at hv
     obtain⟨cs,rfl,_,_⟩:=hv
     have e:∀fs,pack (Ty.tup fs) l=.agg l:=λ_=>rfl
     rw[e]
     have hr':RdL w cs.toList l:=hr
     refine .agg cs l (by have:=hr'.1;simpa using this) (λj x p=>?_) (λj x a p q=>(hr'.2 j x a (by simpa using p) q).2)
     have hj:j<l.length:=by rw[<- hr'.1];have:=(Array.getElem?_eq_some_iff.1 p).1;simpa using this
     exact(hr'.2 j x l[j] (by simpa using p) (List.getElem?_eq_getElem hj)).1
    .cases hT
   .cases hT
  .cases hT
theorem RPL.nil{F:Addr->Option Value}:RPL F #[] []:=⟨rfl,λi x a p=>by simp at p⟩
theorem RPL.cons{F:Addr->Option Value}{x:Value}{a:AV}{xs:List Value}{l:List AV}(h:RP F x a)(k:RPL F xs.toArray l):RPL F (x::xs).toArray (a::l):=by
 refine⟨by have:=k.1;simp at this;simp[this],λi y b p q=>?_⟩
 cases i with
 |zero=>simp at p q;subst p q;exact h
 |succ i=>exact k.2 i y b (by simpa using p) (by simpa using q)
end
mutual
def Ty.den:Ty->Type
 |.int _=>Int
 |.bool=>Bool
 |.str=>ByteArray
 |.list e=>List (Ty.den e)
 |.tup fs=>Ty.aD fs
 |.fnc _=>Unit
 |.cZ e=>Option (List (Ty.den e))
 |.rl _ _=>List AV
def Ty.aD:List Ty->Type
 |[]=>Unit
 |t::ts=>Ty.den t×Ty.aD ts
end
mutual
def Ty.enc:(T:Ty)->T.den->AV
 |.int k,n=>.v (.int k n)
 |.bool,b=>.v (.bool b)
 |.str,s=>.v (.string s)
 |.list e,xs=>.list e.size (List.map (Ty.enc e) xs)
 |.tup fs,x=>.agg (Ty.bM fs x)
 |.fnc f,_=>.v (.func (.func f) #[] #[])
 |.cZ e,o=>match o with
  |none=>.v (.slice none 0 0)
  |some xs=>.list e.size (List.map (Ty.enc e) xs)
 |.rl _ sz,xs=>.list sz xs
def Ty.bM:(fs:List Ty)->Ty.aD fs->List AV
 |[],_=>[]
 |t::ts,x=>(Ty.enc t x.1).cells++Ty.bM ts x.2
end
mutual
def Ty.dflt:(T:Ty)->T.den
 |.int _=>(0:Int)
 |.bool=>false
 |.str=>ByteArray.empty
 |.list _=>[]
 |.tup fs=>Ty.WM fs
 |.fnc _=>()
 |.cZ _=>none
 |.rl _ _=>[]
def Ty.WM:(fs:List Ty)->Ty.aD fs
 |[]=>()
 |t::ts=>(Ty.dflt t,Ty.WM ts)
end
mutual
def Ty.same:Ty->Ty->Bool
 |.int k,.int k'=>decide (k=k')
 |.bool,.bool=>true
 |.str,.str=>true
 |.list a,.list b=>Ty.same a b
 |.tup fs,.tup gs=>Ty.jy fs gs
 |.fnc f,.fnc g=>Nat.beq f g
 |.cZ a,.cZ b=>Ty.same a b
 |.rl a b,.rl c d=>Nat.beq a c&&Nat.beq b d
 |_,_=>false
def Ty.jy:List Ty->List Ty->Bool
 |[],[]=>true
 |a::as,b::bs=>Ty.same a b&&Ty.jy as bs
 |_,_=>false
end
mutual
theorem Ty.same_eq:∀{a b:Ty},Ty.same a b=true->a=b
 |.int k,b,h=>by cases b<;>simp[Ty.same]at h;rw[h]
 |.bool,b,h=>by cases b<;>simp[Ty.same]at h;rfl
 |.str,b,h=>by cases b<;>simp[Ty.same]at h;rfl
 |.list a,b,h=>by cases b<;>simp[Ty.same]at h;rw[Ty.same_eq h]
 |.tup fs,b,h=>by cases b<;>simp[Ty.same]at h;rw[Ty.I4 h]
 |.fnc f,b,h=>by cases b<;>simp[Ty.same]at h;rw[h]
 |.cZ a,b,h=>by cases b<;>simp[Ty.same]at h;rw[Ty.same_eq h]
 |.rl a b,c,h=>by cases c<;>simp[Ty.same]at h;rw[h.1,h.2]
theorem Ty.I4:∀{a b:List Ty},Ty.jy a b=true->a=b
 |[],b,h=>by cases b<;>simp[Ty.jy]at h;rfl
 |a::as,b,h=>by
  cases b with
  |nil=>simp[Ty.jy]at h
  |cons b bs=>simp[Ty.jy]at h;rw[Ty.same_eq h.1,Ty.I4 h.2]
end
def bC{a b:Ty}(x:a.den):Option b.den:=if h:Ty.same a b=true then some ((Ty.same_eq h)▸x) else none
theorem dR{a b:Ty}{x:a.den}{y:b.den}(h:bC x=some y):∃e:a=b,y=e▸x:=by
 unfold bC at h
 split at h
 .rename_i hs;cases h;exact⟨Ty.same_eq hs,rfl⟩
 .cases h
theorem bV:∀(T:Ty) (x:T.den),((Ty.enc T x).cells.length=T.size):=by
 have key:(∀T:Ty,∀x:T.den,(Ty.enc T x).cells.length=T.size)/\True:=⟨?_,trivial⟩
 .exact key.1
 .intro T
  refine Ty.rec (motive_1:=λT=>∀x:T.den,(Ty.enc T x).cells.length=T.size) (motive_2:=λfs=>∀x:Ty.aD fs,(Ty.bM fs x).length=Ty.iy fs) ?_ ?_ ?_ ?_ ?_ ?_ ?_ ?_ ?_ ?_ T
  .intro k x;rfl
  .intro x;rfl
  .intro x;rfl
  .intro e _ x;rfl
  .intro fs ih x;exact ih x
  .intro f x;rfl
  .intro e _ x;cases x<;>rfl
  .intro ty sz x;rfl
  .intro x;rfl
  .intro t ts h1 h2 x
   simp only[Ty.bM,List.length_append,h1,h2,Ty.iy]
inductive XV where
 |any
 |d (T:Ty) (x:T.den)
 |k (v:Value)
 |row (id:Nat)
 |sub (id off len:Nat)
 |nK (id len:Nat)
 |pW (id:Nat)
 |me (id:Nat)
 |mp (id:Nat)
 |ptr (id i off:Nat)
 |lp (T:Ty) (x:T.den) (off:Nat)
 |agg (cs:List XV)
 |tup (vs:List XV)
instance:Inhabited XV:=⟨.any⟩
inductive XO where
 |row (ty:Nat) (T:Ty) (fz:Bool) (es:List T.den)
 |box (ty:Nat) (cs:List XV)
 |vec (ty:Nat) (cs:List XV)
 |map (ty:Nat) (K V:Ty) (es:List (Ty.den (.tup [K,V])))
structure XS where
 t:List XV
 h:List XO
def XO.len:XO->Nat
 |.row _ _ _ es=>es.length
 |.box _ _=>1
 |.vec _ cs=>cs.length
 |.map _ _ _ _=>0
inductive Wp:AV->AV->Prop
 |refl (a:AV):Wp a a
 |nil (sz:Nat):Wp (.v (.slice none 0 0)) (.list sz [])
 |list (sz:Nat) (xs ys:List AV) (hl:xs.length=ys.length) (h:∀(i:Nat) (x y:AV),xs[i]?=some x->ys[i]?=some y->Wp x y):Wp (.list sz xs) (.list sz ys)
 |agg (xs ys:List AV) (hl:xs.length=ys.length) (h:∀(i:Nat) (x y:AV),xs[i]?=some x->ys[i]?=some y->Wp x y):Wp (.agg xs) (.agg ys)
def au{α β:Type}(R:α->β->Prop)(xs:List α)(ys:List β):Prop:=xs.length=ys.length/\∀(i:Nat) (x:α) (y:β),xs[i]?=some x->ys[i]?=some y->R x y
section
variable{α β γ:Type}{R:α->β->Prop}
theorem au.nil:au R [] []:=⟨rfl,λi x y h=>by simp at h⟩
theorem au.cons{x:α}{y:β}{xs:List α}{ys:List β}(h:R x y)(t:au R xs ys):au R (x::xs) (y::ys) :=
 ⟨by simp[t.1],λi a b p q=>by
  cases i with
  |zero=>simp at p q;subst p q;exact h
  |succ i=>simp at p q;exact t.2 i a b p q⟩
theorem au.head{x:α}{y:β}{xs:List α}{ys:List β}(h:au R (x::xs) (y::ys)):R x y:=h.2 0 x y rfl rfl
theorem au.tail{x:α}{y:β}{xs:List α}{ys:List β}(h:au R (x::xs) (y::ys)):au R xs ys:=⟨by have:=h.1;simpa using this,λi a b p q=>h.2 (i+1) a b (by simpa using p) (by simpa using q)⟩
theorem au.fK{ys:List β}(h:au R [] ys):ys=[]:=by have:=h.1;simp at this;exact List.length_eq_zero_iff.1 this.symm
theorem au.qW{xs:List α}(h:au R xs []):xs=[]:=by have:=h.1;simp at this;exact this
theorem au.dK{x:α}{xs:List α}{ys:List β}(h:au R (x::xs) ys):∃y zs,ys=y::zs/\R x y/\au R xs zs:=by
 cases ys with
 |nil=>have:=h.1;simp at this
 |cons y zs=>exact⟨y,zs,rfl,h.head,h.tail⟩
theorem au.cons_right{y:β}{xs:List α}{ys:List β}(h:au R xs (y::ys)):∃x zs,xs=x::zs/\R x y/\au R zs ys:=by
 cases xs with
 |nil=>have:=h.1;simp at this
 |cons x zs=>exact⟨x,zs,rfl,h.head,h.tail⟩
theorem au.drop{xs:List α}{ys:List β}(h:au R xs ys)(n:Nat):au R (xs.drop n) (ys.drop n) :=
 ⟨by simp[h.1],λi x y p q=>by rw[List.getElem?_drop]at p q;exact h.2 _ x y p q⟩
theorem au.take{xs:List α}{ys:List β}(h:au R xs ys)(n:Nat):au R (xs.take n) (ys.take n) :=
 ⟨by simp[h.1],λi x y p q=>by
  rw[List.getElem?_take]at p q
  split at p
  .rename_i hi;rw[if_pos hi]at q;exact h.2 _ x y p q
  .cases p⟩
theorem au.append{xs xs':List α}{ys ys':List β}(h:au R xs ys)(k:au R xs' ys'):au R (xs++xs') (ys++ys') :=
 ⟨by simp[h.1,k.1],λi x y p q=>by
  rcases Nat.lt_or_ge i xs.length with hi|hi
  .rw[List.getElem?_append_left hi]at p
   rw[List.getElem?_append_left (by rw[<- h.1];exact hi)]at q
   exact h.2 i x y p q
  .rw[List.getElem?_append_right hi]at p
   rw[List.getElem?_append_right (by rw[<- h.1];exact hi),<- h.1]at q
   exact k.2 _ x y p q⟩
theorem au.set{xs:List α}{ys:List β}(h:au R xs ys){x:α}{y:β}(hr:R x y)(n:Nat):au R (xs.set n x) (ys.set n y) :=
 ⟨by simp[h.1],λi a b p q=>by
  rw[List.getElem?_set]at p q
  split at p
  .rename_i hi
   rw[if_pos hi]at q
   split at p
   .split at q
    .cases p;cases q;exact hr
    .cases q
   .cases p
  .rename_i hi
   rw[if_neg hi]at q
   exact h.2 i a b p q⟩
theorem au.getD{xs:List α}{ys:List β}(h:au R xs ys){n:Nat}(hn:n<ys.length)(u:α)(v:β):R (xs.getD n u) (ys.getD n v):=by
 have hn':n<xs.length:=by rw[h.1];exact hn
 have e1:xs.getD n u=xs[n]:=by simp[List.getD,List.getElem?_eq_getElem hn']
 have e2:ys.getD n v=ys[n]:=by simp[List.getD,List.getElem?_eq_getElem hn]
 rw[e1,e2]
 exact h.2 n _ _ (List.getElem?_eq_getElem hn') (List.getElem?_eq_getElem hn)
theorem au.mono{R':α->β->Prop}{xs:List α}{ys:List β}(h:au R xs ys)(hr:∀x y,R x y->R' x y):au R' xs ys:=⟨h.1,λi x y p q=>hr x y (h.2 i x y p q)⟩
theorem au.eD{xs:List α}{ys:List β}(h:au R xs ys){i:Nat}{x:α}(hx:xs[i]?=some x):∃y,ys[i]?=some y/\R x y:=by
 have hi:i<xs.length:=(List.getElem?_eq_some_iff.1 hx).1
 have hi':i<ys.length:=by rw[<- h.1];exact hi
 exact⟨ys[i],List.getElem?_eq_getElem hi',h.2 i x _ hx (List.getElem?_eq_getElem hi')⟩
theorem au.fU{xs:List α}{ys:List β}(h:au R xs ys){i:Nat}{y:β}(hy:ys[i]?=some y):∃x,xs[i]?=some x/\R x y:=by
 have hi:i<ys.length:=(List.getElem?_eq_some_iff.1 hy).1
 have hi':i<xs.length:=by rw[h.1];exact hi
 exact⟨xs[i],List.getElem?_eq_getElem hi',h.2 i _ y (List.getElem?_eq_getElem hi') hy⟩
theorem au.rfl'{R:α->α->Prop}(h:∀x,R x x)(xs:List α):au R xs xs:=⟨rfl,λi x y p q=>by rw[p]at q;cases q;exact h x⟩
end
theorem Wp.aH{a:AV}{y:Value}(h:Wp a (.v y)):a=.v y:=by
 generalize hb:AV.v y=b at h
 cases h with
 |refl=>rfl
 |_=>cases hb
theorem Wp.dw{a:AV}{sz:Nat}{ys:List AV}(h:Wp a (.list sz ys)):(a=.v (.slice none 0 0)/\ys=[])\/∃xs,a=.list sz xs/\au Wp xs ys:=by
 generalize hb:AV.list sz ys=b at h
 cases h with
 |refl=>subst hb;exact .inr ⟨ys,rfl,au.rfl' .refl ys⟩
 |nil=>cases hb;exact .inl ⟨rfl,rfl⟩
 |list _ xs ys' hl h=>cases hb;exact .inr ⟨xs,rfl,hl,h⟩
 |agg=>cases hb
theorem Wp.bB{a:AV}{ys:List AV}(h:Wp a (.agg ys)):∃xs,a=.agg xs/\au Wp xs ys:=by
 generalize hb:AV.agg ys=b at h
 cases h with
 |refl=>subst hb;exact⟨ys,rfl,au.rfl' .refl ys⟩
 |agg xs ys' hl h=>cases hb;exact⟨xs,rfl,hl,h⟩
 |_=>cases hb
theorem Wp.cells{a b:AV}(h:Wp a b):au Wp a.cells b.cells:=by
 cases h with
 |refl=>exact au.rfl' .refl _
 |nil sz=>exact .cons (.nil sz) .nil
 |list sz xs ys hl h=>exact .cons (.list sz xs ys hl h) .nil
 |agg xs ys hl h=>exact⟨hl,h⟩
theorem Wp.wk2{a b:AV}(h:Wp a b):Wk a b/\∀(j:Nat) (x y:AV),a.cells[j]?=some x->b.cells[j]?=some y->Wk x y:=by
 have one:∀{a b:AV},a.cells=[a]->b.cells=[b]->Wk a b->∀(j:Nat) (x y:AV),a.cells[j]?=some x->b.cells[j]?=some y->Wk x y:=by
  intro a b ha hb hw j x y p q
  rw[ha]at p;rw[hb]at q
  match j with
  |0=>simp at p q;subst p q;exact hw
  |j+1=>simp at p
 induction h with
 |refl a=>exact⟨Wk.refl a,λj x y p q=>by rw[p]at q;cases q;exact Wk.refl _⟩
 |nil sz=>exact⟨Wk.nil sz,one rfl rfl (Wk.nil sz)⟩
 |agg xs ys hl h ih=>exact⟨Wk.agg hl λj a b p q=>(ih j a b p q).1,λj x y p q=>(ih j x y p q).1⟩
 |list sz xs ys hl h ih =>
  have main:Wk (.list sz xs) (.list sz ys):=by
   intro F x hR
   cases hR with
   |nil =>
    have:ys=[]:=List.length_eq_zero_iff.1 (by simpa using hl.symm)
    subst this;exact .nil sz
   |list ad n cap _ _ cv hn hc hz hF hRc =>
    have cel:∀(i:Nat) (e:AV),ys[i]?=some e->∃e',xs[i]?=some e'/\Wp e' e:=λi e he=>au.fU ⟨hl,h⟩ he
    have at':∀(i j:Nat) (e a:AV),ys[i]?=some e->e.cells[j]?=some a->∃e' a',xs[i]?=some e'/\e'.cells[j]?=some a'/\Wk a' a:=λi j e a he ha=>by
     obtain⟨e',he',hw⟩:=cel i e he
     obtain⟨a',ha',hwa⟩:=hw.cells.fU ha
     exact⟨e',a',he',ha',(ih i e' e he' he).2 j a' a ha' ha⟩
    refine .list ad n cap sz ys cv (by rw[<- hl];exact hn) hc (λi e he=>?_) (λi j e a he ha=>?_) (λi j e a he ha=>?_)
    .obtain⟨e',he',hw⟩:=cel i e he
     rw[<- hw.cells.1];exact hz i e' he'
    .obtain⟨e',a',he',ha',_⟩:=at' i j e a he ha
     exact hF i j e' a' he' ha'
    .obtain⟨e',a',he',ha',hw⟩:=at' i j e a he ha
     exact hw F _ (hRc i j e' a' he' ha')
  exact⟨main,one rfl rfl main⟩
theorem Wp.wk{a b:AV}(h:Wp a b):Wk a b:=h.wk2.1
theorem Wp.trans{a b c:AV}(h:Wp a b)(k:Wp b c):Wp a c:=by
 induction k generalizing a with
 |refl=>exact h
 |nil sz=>rw[h.aH];exact .nil sz
 |list sz xs ys hl hx ih =>
  rcases h.dw with⟨rfl,rfl⟩|⟨zs,rfl,hz⟩
  .have:ys=[]:=List.length_eq_zero_iff.1 (by simpa using hl.symm)
   subst this;exact .nil sz
  .refine .list sz zs ys (by rw[hz.1,hl]) λi x y p q=>?_
   obtain⟨u,hu,huw⟩:=hz.eD p
   exact ih i u y hu q huw
 |agg xs ys hl hx ih =>
  obtain⟨zs,rfl,hz⟩:=h.bB
  refine .agg zs ys (by rw[hz.1,hl]) λi x y p q=>?_
  obtain⟨u,hu,huw⟩:=hz.eD p
  exact ih i u y hu q huw
theorem OA{xs ys zs:List AV}(h:au Wp xs ys)(k:au Wp ys zs):au Wp xs zs:=⟨by rw[h.1,k.1],λi x z p q=>by
 obtain⟨y,hy,hw⟩:=h.eD p
 exact hw.trans (k.2 i y z hy q)⟩
def a8a(cs:List AV):Int:=match cs with
 |[.v (.int _ n)]=>n
 |_=>0
def a4U(cs:List AV):Bool:=match cs with
 |[.v (.bool b)]=>b
 |_=>false
def a7D(cs:List AV):ByteArray:=match cs with
 |[.v (.string s)]=>s
 |_=>ByteArray.empty
def Ve(cs:List AV):List AV:=match cs with
 |[.list _ xs]=>xs
 |_=>[]
mutual
def yH:(T:Ty)->List AV->T.den
 |.int _,cs=>a8a cs
 |.bool,cs=>a4U cs
 |.str,cs=>a7D cs
 |.list e,cs=>(Ve cs).map λa=>yH e a.cells
 |.tup fs,cs=>Oh fs cs
 |.fnc _,_=>()
 |.cZ _,_=>none
 |.rl _ _,cs=>Ve cs
def Oh:(fs:List Ty)->List AV->Ty.aD fs
 |[],_=>()
 |t::ts,cs=>(yH t (cs.take t.size),Oh ts (cs.drop t.size))
end
def shp(T:Ty)(a:AV):Bool:=match a with
 |.agg _=>T.dL
 |_=>!T.dL
def Jd(k:IntKind)(cs:List AV):Bool:=match cs with
 |[.v (.int k' _)]=>decide (k=k')
 |_=>false
def Ea(cs:List AV):Bool:=match cs with
 |[.v (.bool _)]=>true
 |_=>false
def Jb(cs:List AV):Bool:=match cs with
 |[.v (.string _)]=>true
 |_=>false
mutual
def okC:Ty->List AV->Bool
 |.int k,cs=>Jd k cs
 |.bool,cs=>Ea cs
 |.str,cs=>Jb cs
 |.list e,cs=>match cs with
  |[.list sz xs]=>Nat.beq sz e.size&&xs.all (λa=>shp e a&&okC e a.cells)
  |_=>false
 |.tup fs,cs=>IG fs cs
 |.fnc _,_=>false
 |.cZ _,_=>false
 |.rl _ sz,cs=>match cs with
  |[.list sz' _]=>Nat.beq sz' sz
  |_=>false
def IG:List Ty->List AV->Bool
 |[],cs=>cs.isEmpty
 |t::ts,cs=>okC t (cs.take t.size)&&IG ts (cs.drop t.size)
end
def okD(T:Ty)(a:AV):Bool:=shp T a&&okC T a.cells
def Er(T:Ty)(a:AV):T.den:=yH T a.cells
def Uj(T:Ty)(xs:List AV):Bool:=xs.all (okD T)
def D6(T:Ty)(xs:List AV):List T.den:=xs.map (Er T)
def zH(T:Ty)(xs:List T.den):List AV:=xs.map (Ty.enc T)
theorem Lh(T:Ty)(x:T.den):shp T (Ty.enc T x)=true:=by
 cases T with
 |cZ e=>cases x<;>rfl
 |_=>rfl
theorem Pj{T:Ty}{a:AV}{x:T.den}(hs:shp T a=true)(h:au Wp a.cells (Ty.enc T x).cells):Wp a (Ty.enc T x):=by
 have hx:=Lh T x
 generalize Ty.enc T x=b at h hx
 unfold shp at hs hx
 cases a<;>cases b<;>first
  |exact .agg _ _ h.1 h.2
  |(simp_all;done)
  |exact h.2 0 _ _ rfl rfl
theorem Yd(k:IntKind)(cs:List AV):okC (.int k) cs=Jd k cs:=by simp only[okC]
theorem Yc(fs:List Ty)(cs:List AV):okC (.tup fs) cs=IG fs cs:=by simp only[okC]
theorem Uk(e:Ty)(sz:Nat)(xs:List AV):okC (.list e) [.list sz xs]=(Nat.beq sz e.size&&xs.all (λa=>shp e a&&okC e a.cells)):=by simp only[okC]
theorem Ra(T:Ty):∀cs,okC T cs=true->au Wp cs (Ty.enc T (yH T cs)).cells:=by
 refine Ty.rec (motive_1:=λT=>∀cs,okC T cs=true->au Wp cs (Ty.enc T (yH T cs)).cells)
  (motive_2:=λgs=>∀cs,IG gs cs=true->au Wp cs (Ty.bM gs (Oh gs cs))) ?_ ?_ ?_ ?_ ?_ ?_ ?_ ?_ ?_ ?_ T
 .intro k cs h
  rw[Yd]at h
  unfold Jd at h
  split at h
  .have:=of_decide_eq_true h;subst this;exact .cons (.refl _) .nil
  .cases h
 .intro cs h
  have h:Ea cs=true:=h
  unfold Ea at h
  split at h
  .exact .cons (.refl _) .nil
  .cases h
 .intro cs h
  have h:Jb cs=true:=h
  unfold Jb at h
  split at h
  .exact .cons (.refl _) .nil
  .cases h
 .intro e ih cs h
  match cs,h with
  |[.list sz xs],h =>
   rw[Uk,Bool.and_eq_true]at h
   have hs:=Nat.eq_of_beq_eq_true h.1
   subst hs
   refine .cons (.list _ _ _ (by simp[yH,Ve]) λi x y p q=>?_) .nil
   have q:((xs.map λa=>yH e a.cells).map (Ty.enc e))[i]?=some y:=q
   rw[List.map_map,List.getElem?_map,p]at q
   cases q
   have:=List.all_eq_true.1 h.2 x (List.mem_of_getElem? p)
   rw[Bool.and_eq_true]at this
   exact Pj this.1 (ih _ this.2)
 .intro fs ih cs h
  rw[Yc]at h
  exact ih cs h
 .intro f cs h;cases h
 .intro e _ cs h;cases h
 .intro ty sz cs h
  match cs,h with
  |[.list sz' xs],h =>
   have h:Nat.beq sz' sz=true:=h
   have:=Nat.eq_of_beq_eq_true h
   subst this
   exact .cons (.refl _) .nil
 .intro cs h
  have h:cs.isEmpty=true:=h
  have:cs=[]:=by simpa using h
  subst this;exact .nil
 .intro t ts h1 h2 cs h
  have h:(okC t (cs.take t.size)&&IG ts (cs.drop t.size))=true:=h
  rw[Bool.and_eq_true]at h
  have q:=(h1 _ h.1).append (h2 _ h.2)
  rw[List.take_append_drop]at q
  exact q
theorem Ll{T:Ty}{a:AV}(h:okD T a=true):Wp a (Ty.enc T (Er T a)):=by
 unfold okD at h
 rw[Bool.and_eq_true]at h
 exact Pj h.1 (Ra T _ h.2)
theorem Vk{T:Ty}{xs:List AV}(h:Uj T xs=true):au Wp xs ((D6 T xs).map (Ty.enc T)):=by
 refine⟨by simp[D6],λi x y p q=>?_⟩
 simp only[D6,List.map_map,List.getElem?_map,p,Option.map_some]at q
 cases q
 exact Ll (List.all_eq_true.1 h x (List.mem_of_getElem? p))
def vx1:Value->XV
 |.int k n=>.d (.int k) n
 |.bool b=>.d .bool b
 |.string s=>.d .str s
 |.func (.func f) a b=>match a.toList,b.toList with
  |[],[]=>.d (.fnc f) ()
  |_,_=>.k (.func (.func f) a b)
 |v=>.k v
def vx:Value->XV
 |.agg cs=>.agg (cs.toList.map vx1)
 |v=>vx1 v
mutual
def flat:(T:Ty)->T.den->List XV
 |.tup fs,x=>sG fs x
 |.int k,x=>[.d (.int k) x]
 |.bool,x=>[.d .bool x]
 |.str,x=>[.d .str x]
 |.list e,x=>[.d (.list e) x]
 |.fnc f,x=>[.d (.fnc f) x]
 |.cZ e,x=>[.d (.cZ e) x]
 |.rl a b,x=>[.d (.rl a b) x]
def sG:(fs:List Ty)->Ty.aD fs->List XV
 |[],_=>[]
 |t::ts,x=>flat t x.1++sG ts x.2
end
def okX:XV->Bool
 |.d T _=>!T.dL
 |.k v=>v.oneCell'
 |.row _=>true
 |.sub _ _ _=>true
 |.ptr _ _ _=>true
 |.mp _=>true
 |_=>false
def uf:XV->Option (List XV)
 |.d T x=>some (flat T x)
 |.agg cs=>if cs.all okX=true then some cs else none
 |.k v=>if v.oneCell' then some [.k v] else none
 |.row id=>some [.row id]
 |.sub id o l=>some [.sub id o l]
 |.ptr id i o=>some [.ptr id i o]
 |.mp id=>some [.mp id]
 |_=>none
mutual
def atT:(T:Ty)->T.den->Nat->Nat->Bool->Option XV
 |.tup fs,x,o,sz,ag=>if(Nat.beq o 0&&ag&&Nat.beq sz (Ty.iy fs))=true then some (.d (.tup fs) x) else atL fs x o sz ag
 |.int k,x,o,sz,ag=>if(Nat.beq o 0&&!ag)=true then some (.d (.int k) x) else none
 |.bool,x,o,sz,ag=>if(Nat.beq o 0&&!ag)=true then some (.d .bool x) else none
 |.str,x,o,sz,ag=>if(Nat.beq o 0&&!ag)=true then some (.d .str x) else none
 |.list e,x,o,sz,ag=>if(Nat.beq o 0&&!ag)=true then some (.d (.list e) x) else none
 |.fnc f,x,o,sz,ag=>if(Nat.beq o 0&&!ag)=true then some (.d (.fnc f) x) else none
 |.cZ e,x,o,sz,ag=>if(Nat.beq o 0&&!ag)=true then some (.d (.cZ e) x) else none
 |.rl a b,x,o,sz,ag=>if(Nat.beq o 0&&!ag)=true then some (.d (.rl a b) x) else none
def atL:(fs:List Ty)->Ty.aD fs->Nat->Nat->Bool->Option XV
 |[],_,_,_,_=>none
 |f::fs,x,o,sz,ag=>if Nat.blt o f.size=true then atT f x.1 o sz ag else atL fs x.2 (o-f.size) sz ag
end
mutual
def xC{T':Ty}(y:T'.den):(T:Ty)->T.den->Nat->Option T.den
 |.tup fs,x,o=>if(Nat.beq o 0&&Ty.same T' (.tup fs))=true then bC y else xD y fs x o
 |.int k,x,o=>if Nat.beq o 0=true then bC y else none
 |.bool,x,o=>if Nat.beq o 0=true then bC y else none
 |.str,x,o=>if Nat.beq o 0=true then bC y else none
 |.list e,x,o=>if Nat.beq o 0=true then bC y else none
 |.fnc f,x,o=>if Nat.beq o 0=true then bC y else none
 |.cZ e,x,o=>if Nat.beq o 0=true then bC y else none
 |.rl a b,x,o=>if Nat.beq o 0=true then bC y else none
def xD{T':Ty}(y:T'.den):(fs:List Ty)->Ty.aD fs->Nat->Option (Ty.aD fs)
 |[],_,_=>none
 |f::fs,x,o=>if Nat.blt o f.size=true then(xC y f x.1 o).map λz=>(z,x.2) else(xD y fs x.2 (o-f.size)).map λz=>(x.1,z)
end
mutual
def partT:Ty->Nat->Nat->Option Ty
 |.tup fs,o,sz=>if(Nat.beq o 0&&Nat.beq sz (Ty.iy fs))=true then some (.tup fs) else VK fs o sz
 |_,_,_=>none
def VK:List Ty->Nat->Nat->Option Ty
 |[],_,_=>none
 |f::fs,o,sz=>if Nat.blt o f.size=true then partT f o sz else VK fs (o-f.size) sz
end
def lst:XV->XV
 |.d (.cZ e) o=>.d (.list e) (Option.getD (α:=List e.den) o [])
 |x=>x
mutual
def toD(h:List XO):(T:Ty)->XV->Option T.den
 |.tup fs,c=>match c with
  |.d T' x=>bC x
  |.agg cs=>match oH h fs cs with
   |some (x,[])=>some x
   |_=>none
  |_=>none
 |.list e,c=>match lst c with
  |.d T' x=>bC x
  |.k (.slice none 0 0)=>some []
  |.row id=>match h[id]? with
   |some (.row _ T _ es)=>bC (a:=.list T) es
   |_=>none
  |.sub id off len=>match h[id]? with
   |some (.row _ T _ es)=>bC (a:=.list T) ((List.drop off es).take len)
   |_=>none
  |_=>none
 |.int k,c=>match c with
  |.d T' x=>bC x
  |_=>none
 |.bool,c=>match c with
  |.d T' x=>bC x
  |_=>none
 |.str,c=>match c with
  |.d T' x=>bC x
  |_=>none
 |.fnc f,c=>match c with
  |.d T' x=>bC x
  |_=>none
 |.cZ e,c=>match c with
  |.d T' x=>match bC (b:=.cZ e) x with
   |some o=>some o
   |none=>match bC (b:=.list e) x with
    |some xs=>some (some xs)
    |none=>none
  |.k (.slice none 0 0)=>some none
  |.row id=>match h[id]? with
   |some (.row _ T _ es)=>match bC (a:=.list T) (b:=.list e) es with
    |some xs=>some (some xs)
    |none=>none
   |_=>none
  |.sub id off len=>match h[id]? with
   |some (.row _ T _ es)=>match bC (a:=.list T) (b:=.list e) ((List.drop off es).take len) with
    |some xs=>some (some xs)
    |none=>none
   |_=>none
  |_=>none
 |.rl ty sz,c=>match c with
  |.d T' x=>bC x
  |.k (.slice none 0 0)=>some []
  |.row id=>match h[id]? with
   |some (.row ty' T _ es)=>if(Nat.beq ty' ty&&Nat.beq T.size sz)=true then some (zH T es) else none
   |_=>none
  |.sub id off len=>match h[id]? with
   |some (.row ty' T _ es)=>if(Nat.beq ty' ty&&Nat.beq T.size sz)=true then some (zH T ((List.drop off es).take len)) else none
   |_=>none
  |_=>none
def oH(h:List XO):(fs:List Ty)->List XV->Option (Ty.aD fs×List XV)
 |[],cs=>some ((),cs)
 |.tup gs::fs,cs=>match oH h gs cs with
  |some (x,r)=>match oH h fs r with
   |some (y,r')=>some ((x,y),r')
   |none=>none
  |none=>none
 |f::fs,cs=>match cs with
  |[]=>none
  |c::r=>match toD h f c with
   |some x=>match oH h fs r with
    |some (y,r')=>some ((x,y),r')
    |none=>none
   |none=>none
end
def Ce:XV->Bool
 |.d T _=>true
 |.k _=>true
 |.row _=>true
 |.sub _ _ _=>true
 |_=>false
def dX:XV->List Nat
 |.row id=>[id]
 |.sub id _ _=>[id]
 |_=>[]
def bq:XV->List Nat
 |.agg cs=>cs.flatMap dX
 |x=>dX x
def Jq:XO->XO
 |.row ty T _ es=>.row ty T true es
 |o=>o
def dU(h:List XO)(ids:List Nat):List XO:=ids.foldl (λh id=>match h[id]? with|some o=>h.set id (Jq o)|none=>h) h
def AJ(h:List XO)(id:Nat):Bool:=match h[id]? with
 |some (.row _ _ fz _)=>fz
 |_=>false
def nT(id:Nat):XV->XV
 |.row j=>if Nat.beq j id=true then .any else .row j
 |.sub j o l=>if Nat.beq j id=true then .any else .sub j o l
 |.nK j l=>if Nat.beq j id=true then .any else .nK j l
 |.pW j=>if Nat.beq j id=true then .any else .pW j
 |.me j=>if Nat.beq j id=true then .any else .me j
 |.mp j=>if Nat.beq j id=true then .any else .mp j
 |.ptr j i o=>if Nat.beq j id=true then .any else .ptr j i o
 |x=>x
def sw(id:Nat):XV->XV
 |.agg cs=>.agg (cs.map (nT id))
 |x=>nT id x
def su(id:Nat):XV->XV
 |.tup vs=>.tup (vs.map (sw id))
 |x=>sw id x
def wH(id:Nat):XO->XO
 |.box ty cs=>.box ty (cs.map (nT id))
 |.vec ty cs=>.vec ty (cs.map (nT id))
 |o=>o
abbrev GXT:=Nat->Option ((T:Ty)×T.den)
def rdG(GX:GXT)(t:List XV):Opd->XV
 |.t i=>t.getD i .any
 |.k v=>vx1 v
 | .g i=>if Nat.blt i 1000000=true then match GX i with
   |some ⟨T,x⟩=>.lp T x 0
   |none=>.any
  else .any
def aB(k:IntKind)(a b:Int):Int:=k.wrap (a+b)
def bf(k:IntKind)(a b:Int):Int:=k.wrap (a-b)
def a1W(k:IntKind)(a b:Int):Int:=k.wrap (a*b)
def UG(k:IntKind)(a b:Int):Int:=k.wrap (a.tdiv b)
def eY(a b:Int):Int:=a.tmod b
def a8g(k:IntKind)(a b:Int):Int:=k.wrap (BitVec.ofInt k.bits a&&& BitVec.ofInt k.bits b).toNat
def iOr(k:IntKind)(a b:Int):Int:=k.wrap (BitVec.ofInt k.bits a||| BitVec.ofInt k.bits b).toNat
def a8b(k:IntKind)(a b:Int):Int:=k.wrap (BitVec.ofInt k.bits a ^^^ BitVec.ofInt k.bits b).toNat
def a8d(k:IntKind)(a b:Int):Int:=k.wrap (a*2^(min b.toNat k.bits))
def a8c(k:IntKind)(a b:Int):Int:=a.fdiv (2^(min b.toNat k.bits))
def a8e(k:IntKind)(a:Int):Int:=k.wrap (0-a)
def iEq(a b:Int):Bool:=a==b
def iNe(a b:Int):Bool:=a != b
def iLt(a b:Int):Bool:=decide (a<b)
def iLe(a b:Int):Bool:=decide (a<=b)
def dG(a b:Int):Int:=min a b
def uV(a b:Int):Int:=max a b
def bEq(a b:Bool):Bool:=a==b
def sEq(a b:ByteArray):Bool:=a.toList==b.toList
def sLt(a b:ByteArray):Bool:=Op.bytesLess a.toList b.toList
def wo(a b:ByteArray):ByteArray:=a++b
def zf(a b:ByteArray):Bool:=decide (a.size+b.size<=9223372036854775807)
def sAt(s:ByteArray)(n:Int):Int:=((s.data.getD n.toNat 0).toNat:Int)
def sLen(s:ByteArray):Int:=(s.size:Int)
def aj{α:Type}(xs:List α):Int:=(xs.length:Int)
def bnd(n:Int)(len:Int):Bool:=decide (0<=n)&&decide (n<len)
def fits(n bytes:Nat):Bool:=decide (n*bytes<=fu)&&decide (n<=4611686018427387904)
def sH(n:Int)(bytes:Nat):Bool:=decide (0<=n)&&decide (n*bytes<=fu)&&decide (n<=4611686018427387904)
def inB{α:Type}(i:Nat)(xs:List α):Bool:=decide (i<xs.length)
def jQ{α:Type}(l u:Int)(xs:List α):List α:=(xs.take u.toNat).drop l.toNat
def a8Z(l u:Int)(s:ByteArray):ByteArray:=s.extract l.toNat u.toNat
def someE{α:Type}(xs:List α):Bool:=!xs.isEmpty
def leN{α:Type}(n:Nat)(xs:List α):Bool:=decide (n<=xs.length)
def cpy{α:Type}(xs:List α)(off len:Nat)(ys:List α):List α:=xs.take off++ys.take len++xs.drop (off+(ys.take len).length)
def atI{α:Type}(xs:List α)(n:Int)(z:α):α:=xs.getD n.toNat z
def bsI(xs:List Int):ByteArray:=⟨(xs.map λn=>UInt8.ofNat n.toNat).toArray⟩
def jG(s:ByteArray):List (Ty.den (.int .u8)):=s.data.toList.map λc=>(show Ty.den (.int .u8) from(c.toNat:Int))
def a7E(s:ByteArray):Bool:=decide (s.size<=4611686018427387904)
def Nb{α β:Type}(eq:α->α->Bool)(k:α):List (α×β×Unit)->Option β
 |[]=>none
 |e::es=>cond (eq k e.1) (some e.2.1) (Nb eq k es)
def Na{α β:Type}(eq:α->α->Bool)(k:α)(es:List (α×β×Unit))(z:β):β:=(Nb eq k es).getD z
def Uq{α β:Type}(eq:α->α->Bool)(k:α)(es:List (α×β×Unit)):Bool:=(Nb eq k es).isSome
def DV{α β:Type}(eq:α->α->Bool)(k:α)(v:β):List (α×β×Unit)->List (α×β×Unit)
 |[]=>[(k,v,())]
 |e::es=>cond (eq k e.1) ((k,v,())::es) (e::DV eq k v es)
mutual
def eqT:(T:Ty)->T.den->T.den->Bool
 |.int _,a,b=>iEq a b
 |.str,a,b=>sEq a b
 |.tup fs,a,b=>V7 fs a b
 |_,_,_=>false
def V7:(fs:List Ty)->Ty.aD fs->Ty.aD fs->Bool
 |[],_,_=>true
 |t::ts,a,b=>eqT t a.1 b.1&&V7 ts a.2 b.2
end
def KT.ty:KT->Ty
 |.int k=>.int k
 |.str=>.str
 |.arr n k=>.tup (List.replicate n (.int k))
def qw(kt:KT)(K V:Ty):Bool:=Ty.same K kt.ty&&!V.dL&&(match kt with|.arr n _=>!(Nat.beq n 1)|_=>true)
def Dw(T:Ty):(fs:List Ty)->Ty.aD fs->Option (List T.den)
 |[],_=>some []
 |t::ts,x=>match bC (a:=t) (b:=T) x.1,Dw T ts x.2 with
  |some a,some l=>some (a::l)
  |_,_=>none
def LU(k:IntKind)(a b:Int):BinOp->Option (Bool×XV)
 |.add=>some (true,.d (.int k) (aB k a b))
 |.sub=>some (true,.d (.int k) (bf k a b))
 |.mul=>some (true,.d (.int k) (a1W k a b))
 |.quo=>some (iNe b 0,.d (.int k) (UG k a b))
 |.rem=>some (iNe b 0,.d (.int k) (eY a b))
 |.and=>some (true,.d (.int k) (a8g k a b))
 |.or=>some (true,.d (.int k) (iOr k a b))
 |.xor=>some (true,.d (.int k) (a8b k a b))
 |.eql=>some (true,.d .bool (iEq a b))
 |.neq=>some (true,.d .bool (iNe a b))
 |.lss=>some (true,.d .bool (iLt a b))
 |.leq=>some (true,.d .bool (iLe a b))
 |.gtr=>some (true,.d .bool (iLt b a))
 |.geq=>some (true,.d .bool (iLe b a))
 |_=>none
def LP(a b:ByteArray):BinOp->Option (Bool×XV)
 |.add=>some (zf a b,.d .str (wo a b))
 |.eql=>some (true,.d .bool (sEq a b))
 |.neq=>some (true,.d .bool (not (sEq a b)))
 |.lss=>some (true,.d .bool (sLt a b))
 |.leq=>some (true,.d .bool (or (sLt a b) (sEq a b)))
 |.gtr=>some (true,.d .bool (not (or (sLt a b) (sEq a b))))
 |.geq=>some (true,.d .bool (not (sLt a b)))
 |_=>none
def Sm(op:BinOp):XV->XV->Option (Bool×XV)
 |.d (.int k) a,.d (.int k') b=>match op with
  |.shl=>some (iLe 0 b,.d (.int k) (a8d k a b))
  |.shr=>some (iLe 0 b,.d (.int k) (a8c k a b))
  |op=>if k=k' then LU k a b op else none
 |.d .str a,.d .str b=>LP a b op
 |_,_=>none
def Zu:Nat->XV->XV->Option Bool
 |1,.d (.int k) a,.d (.int k') b=>if k=k' then some (iEq a b) else none
 |2,.d .bool a,.d .bool b=>some (bEq a b)
 |3,.d .str a,.d .str b=>some (sEq a b)
 |_,_,_=>none
def H8(xs ys:List XV):List (Nat×Nat)->Option Bool
 |[]=>some true
 | (i,c) :: fs=>if c=0 then H8 xs ys fs else match Zu c (xs.getD i .any) (ys.getD i .any),H8 xs ys fs with
   |some a,some b=>some (a&&b)
   |_,_=>none
def Dp:XV->Option Int
 |.d (.int _) n=>some n
 |_=>none
def pI(l u:Int)(n:Nat):Bool:=decide (0<=l)&&decide (l<=u)&&decide (u<=n)
def nA(n:Nat)(lo hi:Option XV):Option (Bool×Int×Int) :=
 match lo,hi with
 |none,none=>some (true,0,n)
 |none,some b=>match Dp b with
  |some h=>some (pI 0 h n,0,h)
  |none=>none
 |some a,none=>match Dp a with
  |some l=>some (pI l n n,l,n)
  |none=>none
 |some a,some b=>match Dp a,Dp b with
  |some l,some h=>some (pI l h n,l,h)
  |_,_=>none
def Eo(h:List XO)(T:Ty):XV->Option (List T.den)
 |.d T' x=>bC (b:=.list T) x
 |.k (.slice none 0 0)=>some []
 |.row id=>match h[id]? with
  |some (.row _ T' _ es)=>bC (a:=.list T') (b:=.list T) es
  |_=>none
 |.sub id off len=>match h[id]? with
  |some (.row _ T' _ es)=>bC (a:=.list T') (b:=.list T) ((List.drop off es).take len)
  |_=>none
 |_=>none
def qY(h:List XO)(T:Ty)(x:XV):Option (List T.den):=Eo h T (lst x)
def JA(h:List XO)(ty:Nat)(T:Ty)(x:XV):Option (Bool×List T.den):=match x with
 |.d (.rl ty' sz) xs=>if(Nat.beq ty' ty&&Nat.beq T.size sz)=true then some (Uj T xs,D6 T xs) else none
 |x=>match qY h T x with
  |some ys=>some (true,ys)
  |none=>none
def uO(h:List XO)(T:Ty):List XV->Option (List T.den)
 |[]=>some []
 |x::xs=>match toD h T x,uO h T xs with
  |some a,some l=>some (a::l)
  |_,_=>none
def Dc(rd:Opd->XV):List XV->List (Nat×Nat×Opd)->Option (List XV)
 |cs,[]=>some cs
 |cs,(off,sz,x)::r=>match uf (rd x) with
  |some vs=>if(Nat.beq vs.length sz&&Nat.ble (off+sz) cs.length)=true then Dc rd (cs.take off++vs++cs.drop (off+sz)) r else none
  |none=>none
def V4(off sz:Nat)(ag:Bool):XV->Option XV
 |.d (.tup fs) x=>atT (.tup fs) x off sz ag
 |.agg cs=>if ag=true then(if Nat.ble (off+sz) cs.length=true then some (.agg ((cs.drop off).take sz)) else none) else cs[off]?
 |_=>none
def OB:XV->Option (List XV)
 |.d (.tup fs) x=>some (sG fs x)
 |.agg cs=>some cs
 |_=>none
def lV:XV->Bool
 |.d (.int _) _=>true
 |.d .bool _=>true
 |.d .str _=>true
 |_=>false
def aY(tt:Nat->Option Ty)(h:List XO)(rd:Opd->XV):I->Option (Bool×XV×Option Nat×List XO)
 |.mov x=>some (true,rd x,none,h)
 |.pick c a b=>match rd c,rd a,rd b with
  |.d .bool t,.d T x,.d T' y=>match bC (b:=T) y with
   |some y=>some (true,.d T (cond t x y),none,h)
   |none=>none
  |_,_,_=>none
 |.bin op x y=>match Sm op (rd x) (rd y) with
  |some (p,v)=>some (p,v,none,h)
  |none=>none
 |.beq neg x y=>match rd x,rd y with
  |.d .bool a,.d .bool b=>some (true,.d .bool (if neg=true then not (bEq a b) else bEq a b),none,h)
  |_,_=>none
 |.qy neg x=>match rd x with
  |.d (.list e) xs=>some (someE (show List e.den from xs),.d .bool neg,none,h)
  |.d (.cZ e) o=>some (match(show Option (List e.den) from o) with|none=>true|some xs=>someE xs,.d .bool (if neg=true then Option.isSome (show Option (List e.den) from o) else Option.isNone (show Option (List e.den) from o)),none,h)
  |.d (.rl _ _) xs=>some (someE (show List AV from xs),.d .bool neg,none,h)
  |.k (.slice none 0 0)=>some (true,.d .bool (not neg),none,h)
  |.row id=>match h[id]? with
   |some (.row _ _ _ es)=>some (someE es,.d .bool neg,none,h)
   |_=>none
  |_=>none
 |.aeq neg fs x y=>match OB (rd x),OB (rd y) with
  |some xs,some ys=>match H8 xs ys fs with
   |some b=>some (true,.d .bool (if neg=true then not b else b),none,h)
   |none=>none
  |_,_=>none
 |.un op x=>match op,rd x with
  |.neg,.d (.int k) n=>some (true,.d (.int k) (a8e k n),none,h)
  |.not,.d .bool b=>some (true,.d .bool (not b),none,h)
  |_,_=>none
 |.conv k x=>match rd x with
  |.d (.int _) n=>some (true,.d (.int k) (k.wrap n),none,h)
  |_=>none
 |.fld off sz ag x=>match V4 off sz ag (rd x) with
  |some v=>some (true,v,none,h)
  |none=>none
 |.ext i x=>match rd x with
  |.tup vs=>match vs[i]? with
   |some v=>some (true,v,none,h)
   |none=>none
  |_=>none
 |.nu off x=>match rd x with
  |.ptr id i o=>some (true,.ptr id i (o+off),none,h)
  |.lp T x o=>some (true,.lp T x (o+off),none,h)
  |_=>none
 |.jD sz x i=>match lst (rd x),rd i with
  |.d (.list e) xs,.d (.int _) n=>if Nat.beq e.size sz=true then some (bnd n (aj (show List e.den from xs)),.lp e (atI (show List e.den from xs) n e.dflt) 0,none,h) else none
  |.d (.rl ty sz') xs,.d (.int _) n=>match tt ty with
   |some T=>if(Nat.beq T.size sz&&Nat.beq sz' sz)=true then some (bnd n (aj (show List AV from xs))&&okD T (atI (show List AV from xs) n .any),.lp T (Er T (atI (show List AV from xs) n .any)) 0,none,h) else none
   |none=>none
  |.row id,.d (.int _) n=>match h[id]? with
   |some (.row _ T _ es)=>if Nat.beq T.size sz=true then some (bnd n (aj es),.ptr id (Int.toNat n) 0,none,h) else none
   |_=>none
  |.sub id off len,.d (.int _) n=>match h[id]? with
   |some (.row _ T _ es)=>if Nat.beq T.size sz=true then some (bnd n (len:Nat),.ptr id (off+Int.toNat n) 0,none,h) else none
   |_=>none
  |.pW id,.d (.int _) n=>match h[id]? with
   |some (.vec _ cs)=>if Nat.beq sz 1=true then some (bnd n (aj cs),.ptr id (Int.toNat n) 0,none,h) else none
   |_=>none
  |_,_=>none
 |.load sz ag x=>match rd x with
  |.lp T x o=>match atT T x o sz ag with
   |some v=>some (true,v,none,h)
   |none=>none
  |.ptr id i o=>match h[id]? with
   |some (.row _ T _ es)=>match atT T (List.getD es i T.dflt) o sz ag with
    |some v=>some (inB i es,v,none,h)
    |none=>none
   | some (.box _ cs)=>if ag=true then (if (Nat.beq i 0 && Nat.ble (o + sz) cs.length)=true then some (true,.agg ((cs.drop o).take sz),none,h) else none)
     else(if Nat.beq i 0=true then match cs[o]? with
      |some v=>some (true,v,none,h)
      |none=>none
     else none)
   | some (.vec _ cs)=>if (!ag && Nat.beq o 0)=true then match cs[i]? with
     |some v=>some (true,v,none,h)
     |none=>none
    else none
   |some (.map _ _ _ _)=>none
   |none=>none
  |_=>none
 |.store sz x y=>match rd x with
  |.ptr id i o=>match h[id]? with
   |some (.row ty T fz es)=>match fz,rd y with
    | false,.d T' v=>if Nat.beq T'.size sz=true then match xC v T (List.getD es i T.dflt) o with
      |some z=>some (inB i es,.any,none,h.set id (.row ty T false (List.set es i z)))
      |none=>none
     else none
    | false,.agg cs=>if Nat.beq o 0=true then match toD [] T (.agg cs) with
      |some z=>if Nat.beq T.size sz=true then some (inB i es,.any,none,h.set id (.row ty T false (List.set es i z))) else none
      |none=>match toD h T (.agg cs) with
       |some z=>if(Nat.beq T.size sz&&cs.any (λc=>!(dX c).isEmpty)&&!((bq (.agg cs)).any (Nat.beq id)))=true then some (inB i es,.any,none,(dU h (bq (.agg cs))).set id (.row ty T false (List.set es i z))) else none
       |none=>none
     else match partT T o sz with
      |some T'=>match toD [] T' (.agg cs) with
       |some v=>match xC v T (List.getD es i T.dflt) o with
        |some z=>if Nat.beq T'.size sz=true then some (inB i es,.any,none,h.set id (.row ty T false (List.set es i z))) else none
        |none=>none
       |none=>none
      |none=>none
    |_,_=>none
   |some (.vec _ _)=>none
   |some (.map _ _ _ _)=>none
   |some (.box ty cs)=>match uf (rd y) with
    |some vs=>if(Nat.beq i 0&&Nat.beq vs.length sz&&Nat.ble (o+sz) cs.length&&Nat.blt 0 sz)=true then some (true,.any,none,h.set id (.box ty (cs.take o++vs++cs.drop (o+vs.length)))) else none
    |none=>none
   |none=>none
  |_=>none
 |.slice sz x lo hi=>match lst (rd x) with
  | .d (.list e) xs=>if Nat.beq e.size sz=true then match nA (List.length (show List e.den from xs)) (lo.map rd) (hi.map rd) with
    |some (p,l,u)=>some (p,.d (.list e) (jQ l u (show List e.den from xs)),none,h)
    |none=>none
   else none
  | .d (.rl ty sz') xs=>if Nat.beq sz' sz=true then match nA (List.length (show List AV from xs)) (lo.map rd) (hi.map rd) with
    |some (p,l,u)=>some (p,.d (.rl ty sz') (jQ l u (show List AV from xs)),none,h)
    |none=>none
   else none
  |.k (.slice none 0 0)=>match nA 0 (lo.map rd) (hi.map rd) with
   |some (p,l,u)=>some (p,.k (.slice none 0 0),none,h)
   |none=>none
  |.row id=>match h[id]? with
   | some (.row _ T _ es)=>if Nat.beq T.size sz=true then match nA (List.length es) (lo.map rd) (hi.map rd) with
     |some (p,l,u)=>some (p,.sub id (Int.toNat l) (Int.toNat (u-l)),none,h)
     |none=>none
    else none
   |_=>none
  |.sub id off len=>match h[id]? with
   | some (.row _ T _ es)=>if Nat.beq T.size sz=true then match nA len (lo.map rd) (hi.map rd) with
     |some (p,l,u)=>some (p,.sub id (off+Int.toNat l) (Int.toNat (u-l)),none,h)
     |none=>none
    else none
   |_=>none
  |_=>none
 |.slice3 sz x hi mx=>match rd x,rd hi,rd mx with
  |.row id,.d (.int _) n,.d (.int _) m=>match h[id]? with
   |some (.row _ T _ es)=>if Nat.beq T.size sz=true then some (pI 0 n (List.length es)&&iEq m n,.nK id (Int.toNat n),none,h) else none
   |_=>none
  |_,_,_=>none
 |.jw x lo hi=>match rd x with
  |.d .str s=>match nA (ByteArray.size s) (lo.map rd) (hi.map rd) with
   |some (p,l,u)=>some (p,.d .str (a8Z l u s),none,h)
   |none=>none
  |_=>none
 |.len x=>match lst (rd x) with
  |.d (.list e) xs=>some (true,.d (.int .i64) (aj (show List e.den from xs)),none,h)
  |.d (.rl _ _) xs=>some (true,.d (.int .i64) (aj (show List AV from xs)),none,h)
  |.row id=>match h[id]? with
   |some (.row _ _ _ es)=>some (true,.d (.int .i64) (aj es),none,h)
   |_=>none
  |.sub id off len=>some (true,.d (.int .i64) ((len:Nat):Int),none,h)
  |.pW id=>match h[id]? with
   |some (.vec _ cs)=>some (true,.d (.int .i64) (aj cs),none,h)
   |_=>none
  |.k (.slice none 0 0)=>some (true,.d (.int .i64) (0:Int),none,h)
  |_=>none
 |.nck x=>match rd x with
  |.ptr id i o=>some (true,.ptr id i o,none,h)
  |.lp T x o=>some (true,.lp T x o,none,h)
  |_=>none
 |.qd x=>match rd x with
  |.d .str s=>some (true,.d (.int .i64) (sLen s),none,h)
  |_=>none
 |.idx x i=>match rd x,rd i with
  |.d .str s,.d (.int _) n=>some (bnd n (sLen s),.d (.int .u8) (sAt s n),none,h)
  |_,_=>none
 |.rV sz ag n x i=>match rd x,rd i with
  |.d (.tup (T::ts)) y,.d (.int _) m=>match Dw T (T::ts) y with
   |some xs=>if(Nat.beq T.size sz&&Nat.beq xs.length n&&(ag==T.dL))=true then some (bnd m (n:Nat),.d T (atI xs m T.dflt),none,h) else none
   |none=>none
  | .agg cs,.d (.int _) m=>if (Nat.beq sz 1 && !ag && Nat.beq cs.length n)=true then match cs[Int.toNat m]? with
    |some v=>some (bnd m (n:Nat),v,none,h)
    |none=>none
   else none
  |_,_=>none
 |.app ty sz bytes s x=>match tt ty with
  |some T=>if Nat.beq T.size sz=true then match JA h ty T (rd x) with
   |some (q,ys)=>match rd s with
    |.k (.slice none 0 0)=>some (and q (fits ys.length bytes),.row h.length,none,h++[.row ty T false ys])
    |.row id=>match h[id]? with
     |some (.row ty' T' fz es)=>match fz,bC (a:=.list T) (b:=.list T') ys with
      |false,some ys=>if Nat.beq ty ty'=true then some (and q (fits (es.length+(show List T'.den from ys).length) bytes),.row id,some id,h.set id (.row ty T' false (es++(show List T'.den from ys)))) else none
      |_,_=>none
     |_=>none
    |_=>none
   |none=>none
   else none
  |none=>none
 |.apps ty bytes s x=>match tt ty,rd x with
  |some (.int .u8),.d .str b=>match rd s with
   |.k (.slice none 0 0)=>some (fits (jG b).length bytes,.row h.length,none,h++[.row ty (.int .u8) false (jG b)])
   |.row id=>match h[id]? with
    |some (.row ty' (.int .u8) false es)=>if Nat.beq ty ty'=true then some (fits (es.length+(jG b).length) bytes,.row id,some id,h.set id (.row ty (.int .u8) false (es++jG b))) else none
    |_=>none
   |_=>none
  |_,_=>none
 |.b2s x=>match qY h (.int .u8) (rd x) with
  |some xs=>some (true,.d .str (bsI xs),none,h)
  |none=>none
 |.s2b ty x=>match tt ty,rd x with
  |some (.int .u8),.d .str b=>some (a7E b,.row h.length,none,h++[.row ty (.int .u8) false (jG b)])
  |_,_=>none
 |.gI ty sz xs=>match tt ty with
  |some T=>if Nat.beq T.size sz=true then match uO h T (xs.map rd) with
   |some ys=>some (true,.row h.length,none,dU h ((xs.map rd).flatMap bq)++[.row ty T false ys])
   |none=>none
   else none
  |none=>none
 |.sJ ty sz xs=>match tt ty with
  |some T=>if Nat.beq T.size sz=true then match uO [] T (xs.map rd) with
   |some ys=>some (true,.d (.list T) ys,none,h)
   |none=>none
   else none
  |none=>none
 |.uZ ty xs=>if(xs.map rd).all okX=true then some (true,.pW h.length,none,h++[.vec ty (xs.map rd)]) else none
 |.bsc ty xs=>match tt ty with
  |some T=>if(Nat.beq T.size 1&&(xs.map rd).all lV)=true then match uO [] T (xs.map rd) with
   |some ys=>some (true,.row h.length,none,h++[.row ty T false ys])
   |none=>none
   else none
  |none=>none
 |.build zero parts=>match Dc rd (zero.map vx1) parts with
  |some cs=>some (true,.agg cs,none,h)
  |none=>none
 |.box ty sz x=>match uf (rd x) with
  |some cs=>if Nat.beq cs.length sz=true then some (true,.ptr h.length 0 0,none,h++[.box ty cs]) else none
  |none=>none
 |.vg ty sz k x=>match toD [] (.tup (List.replicate sz (.int k))) (rd x) with
  |some z=>if Nat.ble 2 sz=true then some (true,.ptr h.length 0 0,none,h++[.row ty (.tup (List.replicate sz (.int k))) true [z]]) else none
  |none=>none
 |.alloc ty zero=>match uf (vx zero) with
  |some cs=>some (true,.ptr h.length 0 0,none,h++[.box ty cs])
  |none=>none
 |.mk ty sz bytes zero n=>match tt ty,rd n with
  | some T,.d (.int .i64) n=>if Nat.beq T.size sz=true then match toD [] T (vx zero) with
    |some z=>some (sH n bytes,.row h.length,none,h++[.row ty T false (List.replicate (Int.toNat n) z)])
    |none=>none
   else none
  |_,_=>none
 |.alloca ty sz n zero=>match tt ty with
  | some T=>if Nat.beq T.size sz=true then match toD [] T (vx zero) with
    |some z=>some (true,.ptr h.length 0 0,none,h++[.row ty T false (List.replicate n z)])
    |none=>none
   else none
  |none=>none
 |.jf bsz st n x i=>match rd x,rd i with
  |.ptr id j o,.d (.int _) m=>match h[id]? with
   | some (.row _ T _ es)=>if (Nat.beq o 0 && Nat.beq T.size bsz)=true then some (bnd m (n:Nat),.ptr id (j + Int.toNat m * st) 0,none,h)
     else if(Nat.beq st 1&&Nat.beq bsz 1)=true then some (bnd m (n:Nat),.ptr id j (o+Int.toNat m),none,h) else none
   |_=>none
  |.lp (.tup (T::ts)) x o,.d (.int _) m=>match Dw T (T::ts) x with
   |some xs=>if(Nat.beq o 0&&Nat.beq T.size bsz&&Nat.beq st 1&&Nat.beq xs.length n)=true then some (bnd m (n:Nat),.lp T (atI xs m T.dflt) 0,none,h) else none
   |none=>none
  |_,_=>none
 |.aslice bsz n x lo hi=>match rd x with
  |.ptr id j o=>match h[id]? with
   | some (.row _ T fz es)=>if (Nat.beq o 0 && Nat.beq T.size bsz && Nat.beq j 0)=true then match nA n (lo.map rd) (hi.map rd) with
     |some (p,l,u)=>some (p&&leN n es,.sub id (Int.toNat l) (Int.toNat (u-l)),none,h)
     |none=>none
    else if(Nat.beq bsz 1&&Nat.ble 2 T.size&&fz&&Nat.ble (o+n) T.size&&(flat T (List.getD es j T.dflt)).all lV)=true then match uO [] (.int .i64) (((flat T (List.getD es j T.dflt)).drop o).take n),nA n (lo.map rd) (hi.map rd) with
     |some ys,some (p,l,u)=>some (p&&inB j es,.d (.list (.int .i64)) (jQ l u (show List Int from ys)),none,h)
     |_,_=>none
    else none
   |_=>none
  |_=>none
 |.om n x lo hi=>match rd x with
  |.ptr id i o=>match h[id]? with
   |some (.box ty cs)=>match tt ty with
    |some T=>match toD [] T (.agg cs),uO [] (.int .i64) ((cs.drop o).take n),nA n (lo.map rd) (hi.map rd) with
     |some z,some ys,some (p,l,u)=>if(Nat.beq i 0&&Nat.ble 2 cs.length&&Nat.ble (o+n) cs.length&&cs.all lV)=true then some (p,.d (.list (.int .i64)) (jQ l u (show List Int from ys)),none,h.set id (.row ty T true [z])) else none
     |_,_,_=>none
    |none=>none
   |_=>none
  |_=>none
 |.copy sz d s=>match rd d with
  |.sub id off len=>match h[id]? with
   |some (.row ty T fz es)=>match fz,qY h T (rd s) with
    |false,some ys=>if Nat.beq T.size sz=true then some (leN (off+len) es,.d (.int .i64) ((min ys.length len:Nat):Int),none,h.set id (.row ty T false (cpy es off len ys))) else none
    |_,_=>none
   |_=>none
  |.row id=>match h[id]? with
   |some (.row ty T fz es)=>match fz,qY h T (rd s) with
    |false,some ys=>if Nat.beq T.size sz=true then some (true,.d (.int .i64) ((min ys.length es.length:Nat):Int),none,h.set id (.row ty T false (cpy es 0 es.length ys))) else none
    |_,_=>none
   |_=>none
  |_=>none
 |.mk2 ty sz bytes zero l c=>match tt ty,rd l,rd c with
  | some T,.d (.int .i64) l,.d (.int .i64) c=>if Nat.beq T.size sz=true then match toD [] T (vx zero) with
    |some z=>some (iLe 0 l&&iLe l c&&sH c bytes,.row h.length,none,h++[.row ty T false (List.replicate (Int.toNat l) z)])
    |none=>none
   else none
  |_,_,_=>none
 |.mmk ty hint=>match tt ty with
  |some (.tup [K,V])=>match hint.map rd with
   |none=>some (true,.mp h.length,none,h++[.map ty K V []])
   |some (.d (.int _) _)=>some (true,.mp h.length,none,h++[.map ty K V []])
   |_=>none
  |_=>none
 |.og kt ok zero m k=>match rd m with
  |.mp id=>match h[id]? with
   |some (.map _ K V es)=>match toD [] K (rd k),toD [] V (vx1 zero) with
    |some key,some z=>if qw kt K V=true then some (true,if ok=true then .tup [.d V (Na (eqT K) key es z),.d .bool (Uq (eqT K) key es)] else .d V (Na (eqT K) key es z),none,h) else none
    |_,_=>none
   |_=>none
  |_=>none
 |.mJ kt m k v=>match rd m with
  |.mp id=>match h[id]? with
   |some (.map ty K V es)=>match toD [] K (rd k),toD [] V (rd v) with
    |some key,some v=>if qw kt K V=true then some (true,.any,none,h.set id (.map ty K V (DV (eqT K) key v es))) else none
    |_,_=>none
   |_=>none
  |_=>none
 |.min2 x y=>match rd x,rd y with
  |.d (.int k) a,.d (.int _) b=>some (true,.d (.int k) (dG a b),none,h)
  |_,_=>none
 |.max2 x y=>match rd x,rd y with
  |.d (.int k) a,.d (.int _) b=>some (true,.d (.int k) (uV a b),none,h)
  |_,_=>none
 |.clo _ _=>none
 |.call _ _=>none
def qo{S R:Type}(step:S->Option (S⊕R)):Nat->S->Option R
 |0,_=>none
 |n+1,s=>match step s with
  |some (.inl s')=>qo step n s'
  |some (.inr r)=>some r
  |none=>none
open Classical in
def aJ{S R:Type}(step:S->Option (S⊕R))(s:S):Option R :=
 if h:∃n r,qo step n s=some r then qo step h.choose s else none
def zx:(ps:List Ty)->Ty.aD ps->List XV
 |[],_=>[]
 |T::ps,x=>.d T x.1::zx ps x.2
def sM(h:List XO):(ps:List Ty)->List XV->Option (Ty.aD ps)
 |[],[]=>some ()
 |T::ps,v::vs=>match toD h T v,sM h ps vs with
  |some x,some y=>some (x,y)
  |_,_=>none
 |_,_=>none
def Al(rs:List Ty)(y:Ty.aD rs):XV:=match zx rs y with
 |[v]=>v
 |vs=>.tup vs
mutual
def Jm:Ty->Bool
 |.cZ _=>true
 |.tup fs=>nV fs
 |_=>false
def nV:List Ty->Bool
 |[]=>false
 |t::ts=>Jm t||nV ts
end
mutual
def yZ:Ty->Bool
 |.list _=>false
 |.cZ _=>false
 |.rl _ _=>false
 |.tup fs=>qN fs
 |_=>true
def qN:List Ty->Bool
 |[]=>true
 |t::ts=>yZ t&&qN ts
end
structure PI where
 f:Nat
 ps:List Ty
 rs:List Ty
 run:Ty.aD ps->Option (Ty.aD rs)
inductive SC where
 |d (T:Ty)
 |row (j:Nat)
 |ptr (j i off:Nat)
 |me (j:Nat)
 |mp (j:Nat)
 |nil
 |any
inductive SR where
 |row (j:Nat)
 |sub (j off len:Nat)
 |mp (j:Nat)
 |ptr (j i off:Nat)
 |nil
 |agg (cs:List SC)
 |cst (k:IntKind) (n:Int)
inductive SO where
 |row (ty:Nat) (T:Ty) (fz:Bool)
 |box (ty:Nat) (cs:List SC)
 |map (ty:Nat) (K V:Ty)
structure Sh where
 n:Nat
 vars:List (Nat×Ty)
 refs:List (Nat×SR)
 objs:List SO
def SC.tys:List SC->List Ty->List Ty
 |[],r=>r
 |.d T::cs,r=>T::SC.tys cs r
 |.row _::cs,r=>SC.tys cs r
 |.ptr _ _ _::cs,r=>SC.tys cs r
 |.me _::cs,r=>SC.tys cs r
 |.mp _::cs,r=>SC.tys cs r
 |.nil::cs,r=>SC.tys cs r
 |.any::cs,r=>SC.tys cs r
def SO.tys:List SO->List Ty
 |[]=>[]
 |.row _ T _::os=>.list T::SO.tys os
 |.box _ cs::os=>SC.tys cs (SO.tys os)
 |.map _ K V::os=>.list (.tup [K,V])::SO.tys os
def sZ:List (Nat×Ty)->List Ty->List Ty
 |[],r=>r
 |(_,T)::vs,r=>T::sZ vs r
def bX:List (Nat×SR)->List Ty->List Ty
 |[],r=>r
 |(_,.row _)::l,r=>bX l r
 |(_,.sub _ _ _)::l,r=>bX l r
 |(_,.mp _)::l,r=>bX l r
 |(_,.ptr _ _ _)::l,r=>bX l r
 |(_,.nil)::l,r=>bX l r
 |(_,.cst _ _)::l,r=>bX l r
 |(_,.agg cs)::l,r=>SC.tys cs (bX l r)
def Sh.tys(sh:Sh):List Ty:=sZ sh.vars (bX sh.refs (SO.tys sh.objs))
def qG:(vs:List (Nat×Ty))->(r:List Ty)->Ty.aD (sZ vs r)->List XV->List XV×Ty.aD r
 |[],r,x,t=>(t,x)
 |(i,T)::vs,r,x,t=>qG vs r x.2 (t.set i (.d T x.1))
def fI:(cs:List SC)->(r:List Ty)->Ty.aD (SC.tys cs r)->List XV×Ty.aD r
 |[],r,x=>([],x)
 |.d T::cs,r,x=>(.d T x.1::(fI cs r x.2).1,(fI cs r x.2).2)
 |.row j::cs,r,x=>(.row j::(fI cs r x).1,(fI cs r x).2)
 |.ptr j i o::cs,r,x=>(.ptr j i o::(fI cs r x).1,(fI cs r x).2)
 |.me j::cs,r,x=>(.me j::(fI cs r x).1,(fI cs r x).2)
 |.mp j::cs,r,x=>(.mp j::(fI cs r x).1,(fI cs r x).2)
 |.nil::cs,r,x=>(.k (.slice none 0 0)::(fI cs r x).1,(fI cs r x).2)
 |.any::cs,r,x=>(.any::(fI cs r x).1,(fI cs r x).2)
def fA:(os:List SO)->Ty.aD (SO.tys os)->List XO
 |[],_=>[]
 |.row ty T fz::os,x=>.row ty T fz x.1::fA os x.2
 |.box ty cs::os,x=>.box ty (fI cs (SO.tys os) x).1::fA os (fI cs (SO.tys os) x).2
 |.map ty K V::os,x=>.map ty K V x.1::fA os x.2
def gV:(refs:List (Nat×SR))->(r:List Ty)->Ty.aD (bX refs r)->List XV->List XV×Ty.aD r
 |[],r,x,t=>(t,x)
 |(s,.row j)::l,r,x,t=>gV l r x (t.set s (.row j))
 |(s,.sub j o n)::l,r,x,t=>gV l r x (t.set s (.sub j o n))
 |(s,.mp j)::l,r,x,t=>gV l r x (t.set s (.mp j))
 |(s,.ptr j i o)::l,r,x,t=>gV l r x (t.set s (.ptr j i o))
 |(s,.nil)::l,r,x,t=>gV l r x (t.set s (.k (.slice none 0 0)))
 |(s,.cst k n)::l,r,x,t=>gV l r x (t.set s (.d (.int k) n))
 |(s,.agg cs)::l,r,x,t=>gV l r (fI cs (bX l r) x).2 (t.set s (.agg (fI cs (bX l r) x).1))
def tZ(sh:Sh)(x:Ty.aD sh.tys):List XV×Ty.aD (SO.tys sh.objs) :=
 gV sh.refs (SO.tys sh.objs) (qG sh.vars (bX sh.refs (SO.tys sh.objs)) x (List.replicate sh.n .any)).2 (qG sh.vars (bX sh.refs (SO.tys sh.objs)) x (List.replicate sh.n .any)).1
def emb(sh:Sh)(x:Ty.aD sh.tys):XS:=⟨(tZ sh x).1,fA sh.objs (tZ sh x).2⟩
def asg(foc:List (Option Nat))(j id:Nat):Option (List (Option Nat)):=match foc[j]? with
 |some none=>some (foc.set j (some id))
 |some (some id')=>if Nat.beq id id'=true then some foc else none
 |none=>none
def vK:XV->Bool
 |.k (.slice none 0 0)=>true
 |_=>false
def Um:Value->Bool
 |.pointer none=>true
 |_=>false
def uU:XV->Option (Option Nat)
 |.me id=>some (some id)
 |.ptr id i o=>if(Nat.beq i 0&&Nat.beq o 0)=true then some (some id) else none
 |.k v=>if Um v=true then some none else none
 |_=>none
def extC:(cs:List SC)->(r:List Ty)->List XV->List (Option Nat)->Option (List (Option Nat)×(Ty.aD r->Ty.aD (SC.tys cs r)))
 |[],r,vs,foc=>match vs with
  |[]=>some (foc,λx=>x)
  |_::_=>none
 |.d T::cs,r,vs,foc=>match vs with
  |[]=>none
  |v::vs=>match toD [] T v,extC cs r vs foc with
   |some x,some (foc,g)=>some (foc,λy=>(x,g y))
   |_,_=>none
 |.row j::cs,r,vs,foc=>match vs with
  |.row id::vs=>match asg foc j id with
   |some foc=>extC cs r vs foc
   |none=>none
  |_=>none
 |.ptr j i o::cs,r,vs,foc=>match vs with
  |.ptr id i' o'::vs=>if(Nat.beq i i'&&Nat.beq o o')=true then match asg foc j id with
   |some foc=>extC cs r vs foc
   |none=>none
   else none
  |_=>none
 |.me j::cs,r,vs,foc=>match vs with
  |[]=>none
  |v::vs=>match uU v with
   |some (some id)=>match asg foc j id with
    |some foc=>extC cs r vs foc
    |none=>none
   |some none=>extC cs r vs foc
   |none=>none
 |.mp j::cs,r,vs,foc=>match vs with
  |.mp id::vs=>match asg foc j id with
   |some foc=>extC cs r vs foc
   |none=>none
  |_=>none
 |.nil::cs,r,vs,foc=>match vs with
  |[]=>none
  |v::vs=>if vK v=true then extC cs r vs foc else none
 |.any::cs,r,vs,foc=>match vs with
  |[]=>none
  |_::vs=>extC cs r vs foc
def isC(k:IntKind)(n:Int):XV->Bool
 |.d (.int k') m=>decide (k=k')&&iEq m n
 |_=>false
def jr(t:List XV):(refs:List (Nat×SR))->(r:List Ty)->List (Option Nat)->Option (List (Option Nat)×(Ty.aD r->Ty.aD (bX refs r)))
 |[],r,foc=>some (foc,λy=>y)
 |(s,.row j)::l,r,foc=>match t.getD s .any with
  |.row id=>match asg foc j id with
   |some foc=>jr t l r foc
   |none=>none
  |_=>none
 |(s,.sub j o n)::l,r,foc=>match t.getD s .any with
  |.sub id o' n'=>if(Nat.beq o o'&&Nat.beq n n')=true then match asg foc j id with
   |some foc=>jr t l r foc
   |none=>none
   else none
  |_=>none
 |(s,.mp j)::l,r,foc=>match t.getD s .any with
  |.mp id=>match asg foc j id with
   |some foc=>jr t l r foc
   |none=>none
  |_=>none
 |(s,.ptr j i o)::l,r,foc=>match t.getD s .any with
  |.ptr id i' o'=>if(Nat.beq i i'&&Nat.beq o o')=true then match asg foc j id with
   |some foc=>jr t l r foc
   |none=>none
   else none
  |_=>none
 |(s,.nil)::l,r,foc=>if vK (t.getD s .any)=true then jr t l r foc else none
 |(s,.cst k n)::l,r,foc=>if isC k n (t.getD s .any)=true then jr t l r foc else none
 |(s,.agg cs)::l,r,foc=>match t.getD s .any with
  |.agg vs=>match extC cs (bX l r) vs foc with
   |some (foc,g)=>match jr t l r foc with
    |some (foc,g')=>some (foc,λy=>g (g' y))
    |none=>none
   |none=>none
  |_=>none
def wP(h:List XO):(os:List SO)->Nat->List (Option Nat)->Option (List (Option Nat)×Ty.aD (SO.tys os))
 |[],_,foc=>some (foc,())
 |.row ty T fz::os,j,foc=>match foc[j]? with
  |some (some id)=>match h[id]? with
   |some (.row ty' T' fz' es)=>if(Nat.beq ty ty'&&(fz==fz'))=true then match bC (a:=.list T') (b:=.list T) es,wP h os (j+1) foc with
    |some es,some (foc,y)=>some (foc,(es,y))
    |_,_=>none
    else none
   |_=>none
  |_=>none
 |.map ty K V::os,j,foc=>match foc[j]? with
  |some (some id)=>match h[id]? with
   |some (.map ty' K' V' es)=>if Nat.beq ty ty'=true then match bC (a:=.list (.tup [K',V'])) (b:=.list (.tup [K,V])) es,wP h os (j+1) foc with
    |some es,some (foc,y)=>some (foc,(es,y))
    |_,_=>none
    else none
   |_=>none
  |_=>none
 |.box ty cs::os,j,foc=>match foc[j]? with
  |some (some id)=>match h[id]? with
   |some (.box ty' vs)=>if Nat.beq ty ty'=true then match extC cs (SO.tys os) vs foc with
    |some (foc,g)=>match wP h os (j+1) foc with
     |some (foc,y)=>some (foc,g y)
     |none=>none
    |none=>none
    else none
   |_=>none
  |_=>none
def Jw(t:List XV):(vs:List (Nat×Ty))->(r:List Ty)->Ty.aD r->Option (Ty.aD (sZ vs r))
 |[],r,y=>some y
 |(s,T)::vs,r,y=>match toD [] T (t.getD s .any),Jw t vs r y with
  |some x,some z=>some (x,z)
  |_,_=>none
def vR:List (Option Nat)->Option (List Nat)
 |[]=>some []
 |some a::l=>match vR l with
  |some m=>some (a::m)
  |none=>none
 |none::_=>none
def nodupB:List Nat->Bool
 |[]=>true
 |a::l=>!(l.any (Nat.beq a))&&nodupB l
def ou:Nat->Nat->List Nat->Bool
 |0,_,_=>true
 |n+1,j,a::l=>Nat.beq a j&&ou n (j+1) l
 |_+1,_,[]=>false
def Gv(nf:Nat):Nat->Nat->List (Option Nat)
 |_,0=>[]
 |j,n+1=>(if Nat.blt j nf=true then some j else none)::Gv nf (j+1) n
def ext(nf:Nat)(sh:Sh)(X:XS):Option (List Nat×Ty.aD sh.tys):=match jr X.t sh.refs (SO.tys sh.objs) (Gv nf 0 sh.objs.length) with
 |some (foc,g)=>match wP X.h sh.objs 0 foc with
  |some (foc,y)=>match vR foc,Jw X.t sh.vars (bX sh.refs (SO.tys sh.objs)) (g y) with
   |some foc,some x=>if nodupB foc=true then some (foc,x) else none
   |_,_=>none
  |none=>none
 |none=>none
inductive Pre where
 |gh (s ty:Nat) (T:Ty)
 |fz (s:Nat) (T:Ty)
 |ghc (s o ty:Nat) (T:Ty)
 |gha (s o ty:Nat) (T:Ty)
 |tr (s:Nat)
 |fzc (s o:Nat) (T:Ty)
def uE(nf:Nat)(X:XS):Pre->XS
 |.gh s ty T=>match X.t.getD s .any with
  |.k (.slice none 0 0)=>if Nat.blt 0 T.size=true then⟨X.t.set s (.row X.h.length),X.h++[.row ty T false []]⟩ else X
  |_=>X
 |.fz s T=>match toD X.h T (X.t.getD s .any) with
  |some x=>⟨X.t.set s (.d T x),dU X.h (bq (X.t.getD s .any))⟩
  |none=>X
 |.ghc s o ty T=>match X.t.getD s .any with
  |.ptr id i off=>match X.h[id]? with
   |some (.box ty' cs)=>match cs[o]? with
    |some (.k (.slice none 0 0))=>if Nat.blt 0 T.size=true then⟨X.t,(X.h++[XO.row ty T false []]).set id (.box ty' (cs.set o (.row X.h.length)))⟩ else X
    |_=>X
   |_=>X
  |_=>X
 |.gha s o ty T=>match X.t.getD s .any with
  |.agg cs=>match cs[o]? with
   |some (.k (.slice none 0 0))=>if Nat.blt 0 T.size=true then⟨X.t.set s (.agg (cs.set o (.row X.h.length))),X.h++[XO.row ty T false []]⟩ else X
   |_=>X
  |_=>X
 |.tr s=>match X.t.getD s .any with
  |.sub id off len=>match X.h[id]? with
   |some (.row ty T fz es)=>if(Nat.beq off 0&&Nat.ble nf id&&!fz)=true then⟨(X.t.map (su id)).set s (.row id),(X.h.map (wH id)).set id (.row ty T false (es.take len))⟩ else X
   |_=>X
  |_=>X
 |.fzc s o T=>match X.t.getD s .any with
  |.ptr id i off=>match X.h[id]? with
   |some (.box ty' cs)=>match cs[o]? with
    |some c=>match toD X.h T c with
     |some x=>if T.dL=true then X else⟨X.t,(dU X.h (bq c)).set id (.box ty' (cs.set o (.d T x)))⟩
     |none=>X
    |none=>X
   |_=>X
  |_=>X
def qp(nf:Nat)(l:List Pre)(X:XS):XS:=l.foldl (uE nf) X
structure HI where
 f:Nat
 ish:Sh
 osh:Sh
 run:Ty.aD ish.tys->Option (Ty.aD osh.tys)
 kp:List Nat
structure Cfg where
 tt:Nat->Option Ty
 GX:GXT
 pis:List PI
 his:List HI
def Ie(foc:List Nat)(base:Nat):XV->XV
 |.row j=>.row (if Nat.blt j foc.length=true then foc.getD j 0 else base+(j-foc.length))
 |.ptr j i o=>.ptr (if Nat.blt j foc.length=true then foc.getD j 0 else base+(j-foc.length)) i o
 |.sub _ _ _=>.any
 |.nK _ _=>.any
 |.pW _=>.any
 |.me j=>.me (if Nat.blt j foc.length=true then foc.getD j 0 else base+(j-foc.length))
 |.mp j=>.mp (if Nat.blt j foc.length=true then foc.getD j 0 else base+(j-foc.length))
 |x=>x
def Ic(foc:List Nat)(base:Nat):XV->XV
 |.agg cs=>.agg (cs.map (Ie foc base))
 |x=>Ie foc base x
def uR(foc:List Nat)(base:Nat):XO->XO
 |.box ty cs=>.box ty (cs.map (Ie foc base))
 |o=>o
def gY(foc:List Nat)(base:Nat):List Nat->List XO->List XO->List XO
 |[],h,os=>h++os.map (uR foc base)
 |id::l,h,o::os=>gY foc base l (h.set id (uR foc base o)) os
 |_::_,h,[]=>h
def iH(kp:List Nat):Nat->List Nat->List SO->List Nat
 |j,id::l,.row ..::os=>if kp.any (Nat.beq j)=true then iH kp (j+1) l os else id::iH kp (j+1) l os
 |j,_::l,_::os=>iH kp (j+1) l os
 |_,_,_=>[]
def qB(kp:List Nat)(hi ho:List XO):Bool:=match kp with
 |[]=>true
 |j::l=>match hi[j]?,ho[j]? with
  |some (.row ty T _ es),some (.row ty' T' _ es')=>(if(Nat.beq ty ty'&&Ty.same T T')=true then Nat.beq (List.length es) (List.length es') else false)&&qB l hi ho
  |_,_=>false
def kinds:List SO->List SO->Bool
 |[],_=>true
 |.row _ _ _::os,.row _ _ _::os'=>kinds os os'
 |.box _ _::os,.box _ _::os'=>kinds os os'
 |.map _ K V::os,.map _ K' V'::os'=>Ty.same K K'&&Ty.same V V'&&kinds os os'
 |_,_=>false
def TW(foc:List Nat)(base:Nat)(t:List XV):XV:=match t with
 |[v]=>Ic foc base v
 |vs=>.tup (vs.map (Ic foc base))
def Oz:Nat->Bool:=λ_=>true
def Im:XV->Bool
 |.agg cs=>cs.all Ce
 |x=>Ce x
def leaves(ok:Nat->Bool)(rd:Opd->XV):I->Bool
 |.store _ x y=>match rd x with
  |.ptr id _ _=>ok id&&(bq (rd y)).all ok
  |_=>false
 |.app _ _ _ s _=>match rd s with
  |.row id=>ok id
  |.k _=>true
  |.nK _ _=>true
  |_=>false
 |.apps _ _ s _=>match rd s with
  |.row id=>ok id
  |.k _=>true
  |_=>false
 |.copy ..=>false
 |.mJ _ m _ _=>match rd m with
  |.mp id=>ok id
  |_=>false
 |.om _ x _ _=>match rd x with
  |.ptr id _ _=>ok id
  |_=>false
 |.gI _ _ xs=>((xs.map rd).flatMap bq).all ok
 |.call _ args=>((args.map rd).flatMap bq).all ok
 |_=>true
def jV(kl:List Nat)(h:List XO):List XO:=kl.foldl (λh id=>h.map (wH id)) h
section
variable{β:Type}
def xk(f:Nat)(ok:Nat->Bool)(h:List XO)(vs:List XV)(K:XV->List Nat->List XO->Option β):List HI->Option β
 |[]=>none
 | p :: ps=>if (Nat.beq p.f f && Nat.beq p.ish.n vs.length && kinds p.ish.objs p.osh.objs)=true then match ext 0 p.ish ⟨vs,h⟩ with
   |some (foc,x)=>if foc.all ok=true then(p.run x).bind λy=>cond (qB p.kp (emb p.ish x).h (emb p.osh y).h) (K (TW foc h.length (emb p.osh y).t) (iH p.kp 0 foc p.ish.objs) (gY foc h.length foc (jV (iH p.kp 0 foc p.ish.objs) h) (emb p.osh y).h)) none else none
   |none=>xk f ok h vs K ps
  else xk f ok h vs K ps
def xg(f:Nat)(d:Bool)(h:List XO)(vs:List XV)(K:XV->List Nat->List XO->Option β)(o:Option β):List PI->Option β
 |[]=>o
 | p :: ps=>if Nat.beq p.f f=true then match sM h p.ps vs with
   |some x=>if qN p.rs=true then(p.run x).bind λy=>K (Al p.rs y) [] h
    else if((!d&&!(nV p.rs))||(vs.flatMap bq).all (AJ h))=true then(p.run x).bind λy=>K (Al p.rs y) [] (dU h (vs.flatMap bq)) else none
   |none=>xg f d h vs K o ps
  else xg f d h vs K o ps
def yS(c:Cfg)(d:Bool)(ok:Nat->Bool)(h:List XO)(rd:Opd->XV)(K:XV->List Nat->List XO->Option β):I->Option β
 |.call fo args=>match rd fo with
  |.d (.fnc f) _=>xg f d h (args.map rd) K (if d=true then none else xk f ok h (args.map rd) K c.his) c.pis
  |_=>none
 |.app ty sz bytes s x=>match rd s with
  |.nK id len=>match c.tt ty,h[id]? with
   | some T,some (.row _ T' _ es)=>if Nat.beq T.size sz=true then match qY h T (rd x),bC (a:=.list T') (b:=.list T) es with
     |some ys,some es=>cond (someE ys) (cond (fits (len+List.length ys) bytes) (K (.row h.length) [] (h++[.row ty T false (List.take len es++ys)])) none) (K (.sub id 0 len) [] h)
     |_,_=>none
    else none
   |_,_=>none
  |_=>match aY c.tt h rd (.app ty sz bytes s x) with
   |some (p,v,kl,h')=>cond p (K v kl.toList (jV kl.toList h')) none
   |none=>none
 |i=>match aY c.tt h rd i with
  |some (p,v,kl,h')=>cond p (K v kl.toList (jV kl.toList h')) none
  |none=>none
abbrev Sp:=List (Nat×Nat×Bool×XV)
def rdC(GX:GXT)(sp:Sp)(ctx:List (Nat×Bool))(t:List XV):Opd->XV
 |.t i=>match sp.find? (λq=>Nat.beq q.1 i&&ctx.any λg=>Nat.beq g.1 q.2.1&&(g.2==q.2.2.1)) with
  |some q=>q.2.2.2
  |none=>t.getD i .any
 |o=>rdG GX t o
def kU:XV:=.k (.tuple #[])
def mK(s:Nat)(v:Bool)(sp:Sp)(t:List XV):List XV:=sp.foldl (λt q=>if Nat.beq q.2.1 s=true then t.set q.1 (if(q.2.2.1==v)=true then q.2.2.2 else kU) else t) (t.set s (.d .bool v))
def oW(s:Nat)(sp:Sp):Sp:=sp.filter λq=>!(Nat.beq q.2.1 s)
def zA(kl:List Nat)(t:List XV):List XV:=kl.foldl (λt id=>t.map (su id)) t
def zy(kl:List Nat)(sp:Sp):Sp:=kl.foldl (λsp id=>sp.map λq=>(q.1,q.2.1,q.2.2.1,su id q.2.2.2)) sp
def nH(t:List XV)(dst:Option Nat)(v:XV):List XV:=match dst with
 |some i=>t.set i v
 |none=>t
def dP(dst:Option Nat)(sp:Sp):Sp:=match dst with
 |some i=>sp.filter λq=>!(Nat.beq q.1 i)&&!(Nat.beq q.2.1 i)
 |none=>sp
def BK:I->Bool
 |.call ..|.store ..|.app ..|.apps ..|.s2b ..|.gI ..|.uZ ..|.bsc ..|.box ..|.vg ..|.alloc ..|.alloca ..|.copy ..|.mk ..|.om ..|.mk2 ..|.mmk ..|.mJ ..=>false
 |_=>true
def mrg:Bool->XV->XV->Option XV
 |t,.d T x,.d T' y=>match bC (b:=T) y with
  |some y=>some (.d T (cond t x y))
  |none=>none
 |_,_,_=>none
def Vz(X:XS)(sp:Sp)(dst:Option Nat)(s:Nat)(c a b:XV)(K:XS->Sp->Option β):Option β:=match c with
 |.d .bool t=>match mrg t a b with
  |some v=>K ⟨nH X.t dst v,X.h⟩ (dP dst sp)
  |none=>cond t (K ⟨nH (mK s true sp X.t) dst a,X.h⟩ (dP dst (oW s sp))) (K ⟨nH (mK s false sp X.t) dst b,X.h⟩ (dP dst (oW s sp)))
 |_=>none
def xun(c:Cfg)(d:Bool)(ok:Nat->Bool)(X:XS)(sp:Sp)(dst:Option Nat)(K:XS->Sp->Option β):I->Option β
 |.pick (.t s) a b=>Vz X sp dst s (rdG c.GX X.t (.t s)) (rdC c.GX sp [(s,true)] X.t a) (rdC c.GX sp [(s,false)] X.t b) K
 |i=>yS c d ok X.h (rdG c.GX X.t) (λx kl h'=>K ⟨nH (zA kl X.t) dst x,h'⟩ (dP dst (zy kl sp))) i
def vo(c:Cfg)(d:Bool)(ok:Nat->Bool)(X:XS)(sp:Sp)(dst:Option Nat)(s:Nat)(want:Bool)(i:I)(K:XS->Sp->Option β)(v:Bool):Option β :=
 if(v==want)=true then xun c d ok ⟨mK s v sp X.t,X.h⟩ (oW s sp) dst K i
 else K ⟨nH (mK s v sp X.t) dst kU,X.h⟩ (dP dst (oW s sp))
def Bv(GX:GXT)(tt:Nat->Option Ty)(h:List XO)(t:List XV)(sp:Sp)(s:Nat)(want:Bool):I->Option (Bool×XV)
 |.pick (.t s') a b=>match rdC GX sp [(s,want)] t (.t s') with
  |.d .bool t'=>match mrg t' (rdC GX sp [(s',true),(s,want)] t a) (rdC GX sp [(s',false),(s,want)] t b) with
   |some v=>some (true,v)
   |none=>none
  |_=>none
 |i=>match aY tt h (rdC GX sp [(s,want)] t) i with
  |some (p,v,_,_)=>some (p,v)
  |none=>none
def rC(c:Cfg)(d:Bool)(ok:Nat->Bool):Nat->XS->Sp->(XS->Sp->Option β)->Ins->Option β
 |0,_,_,_,_=>none
 |n+1,X,sp,K,ins=>match ins.gd with
  |none=>xun c d ok X sp ins.dst K ins.i
  |some (s,want)=>match X.t.getD s .any with
   |.d .bool b=>match BK ins.i,ins.dst,Bv c.GX c.tt X.h X.t sp s want ins.i with
    |true,some u,some (p,v)=>if(Nat.blt u X.t.length&&!(Nat.beq u s))=true then cond (p||not (bEq b want)) (K ⟨X.t.set u .any,X.h⟩ ((u,s,want,v)::dP (some u) sp)) none else none
    |_,_,_=>cond b (vo c d ok X sp ins.dst s want ins.i K true) (vo c d ok X sp ins.dst s want ins.i K false)
   |.k (.tuple _)=>K ⟨nH X.t ins.dst kU,X.h⟩ (dP ins.dst sp)
   |.any=>match sp.find? (λq=>Nat.beq q.1 s) with
    |some q=>match X.t.getD q.2.1 .any with
     |.d .bool b=>cond b (rC c d ok n ⟨mK q.2.1 true sp X.t,X.h⟩ (oW q.2.1 sp) K ins) (rC c d ok n ⟨mK q.2.1 false sp X.t,X.h⟩ (oW q.2.1 sp) K ins)
     |_=>none
    |none=>none
   |_=>none
def Si(c:Cfg)(d:Bool)(K:XS->Option β):List Ins->XS->Sp->Option β
 |[],X,_=>K X
 |i::r,X,sp=>rC c d Oz 8 X sp (λX' sp'=>Si c d K r X' sp') i
def Eb(ok:Nat->Bool)(rd:Opd->XV):I->Bool
 |.load _ _ x=>match rd x with
  |.ptr id _ _=>ok id
  |.lp _ _ _=>true
  |_=>false
 |.jf _ _ _ x _=>match rd x with
  |.ptr id _ _=>ok id
  |.lp _ _ _=>true
  |_=>false
 |.b2s x=>match rd x with
  |.row id=>ok id
  |.sub id _ _=>ok id
  |.d _ _=>true
  |.k _=>true
  |_=>false
 |.aslice _ _ x _ _=>match rd x with
  |.ptr id _ _=>ok id
  |_=>false
 |.og _ _ _ x _=>match rd x with
  |.mp id=>ok id
  |_=>false
 |.call _ args=>(args.map rd).all Im&&((args.map rd).flatMap bq).all ok
 |_=>true
def xrd(c:Cfg)(ok:Nat->Bool)(X:XS)(sp:Sp)(K:XS->Sp->Option β)(ins:Ins):Option β:=match ins.gd with
 |none=>if Eb ok (rdG c.GX X.t) ins.i=true then xun c true Oz X sp ins.dst K ins.i else none
 |some (s,want)=>match X.t.getD s .any with
  |.d .bool b=>match BK ins.i,ins.dst,Bv c.GX c.tt X.h X.t sp s want ins.i with
   |true,some u,some (p,v)=>if(Nat.blt u X.t.length&&!(Nat.beq u s)&&Eb ok (rdC c.GX sp [(s,want)] X.t) ins.i)=true then cond (p||not (bEq b want)) (K ⟨X.t.set u .any,X.h⟩ ((u,s,want,v)::dP (some u) sp)) none else none
   |_,_,_=>none
  |_=>none
def xwr(c:Cfg)(ok:Nat->Bool)(X:XS)(sp:Sp)(dst:Option Nat)(s:Nat)(want:Bool)(i:I)(K:XS->Sp->Option β)(v:Bool):Option β :=
 if(v==want)=true then(if leaves ok (rdG c.GX (mK s v sp X.t)) i=true then xun c false ok ⟨mK s v sp X.t,X.h⟩ (oW s sp) dst K i else none)
 else K ⟨nH (mK s v sp X.t) dst kU,X.h⟩ (dP dst (oW s sp))
def kM(c:Cfg)(m:Nat)(U:List Nat)(K:XS->Option β):List (Nat×Ins)->XS->Sp->Option β
 |[],X,_=>K X
 |(0,i)::r,X,sp=>rC c true Oz 8 X sp (λX' sp'=>kM c m U K r X' sp') i
 |(1,i)::r,X,sp=>if Nat.ble i.i.cls 1=true then xrd c (λid=>Nat.blt id m&&!(U.any (Nat.beq id))) X sp (λX' sp'=>kM c m U K r X' sp') i else none
 |(_,i)::r,X,sp=>match i.gd with
  |none=>if leaves (λid=>Nat.ble m id||U.any (Nat.beq id)) (rdG c.GX X.t) i.i=true then rC c false (λid=>Nat.ble m id||U.any (Nat.beq id)) 8 X sp (λX' sp'=>kM c m U K r X' sp') i else none
  |some (s,want)=>match X.t.getD s .any with
   |.d .bool b=>cond b (xwr c (λid=>Nat.ble m id||U.any (Nat.beq id)) X sp i.dst s want i.i (λX' sp'=>kM c m U K r X' sp') true) (xwr c (λid=>Nat.ble m id||U.any (Nat.beq id)) X sp i.dst s want i.i (λX' sp'=>kM c m U K r X' sp') false)
   |_=>none
end
inductive XC where
 |skip
 |ops (draw:Bool) (l:List Ins)
 |kD (U:List Nat) (l:List (Nat×Ins))
 |seq (a b:XC)
 |Ma (pre:List Pre) (sh:Sh) (a b:XC)
 |cond (c:Opd) (a b:XC)
 |block (id:Nat) (b:XC)
 |loop (pre:List Pre) (sh:Sh) (b:XC)
 |Cy (n:Nat) (b:XC)
 |Dz (s:Nat) (k:IntKind) (ns:List Int) (b:XC)
 |exit (id:Nat)
 |ret
def XC.er:XC->C
 |.skip=>.skip
 |.ops d l=>.ops d l
 |.kD _ l=>.kD l
 |.seq a b=>.seq a.er b.er
 |.Ma _ _ a b=>.seq a.er b.er
 |.cond c a b=>.cond c a.er b.er
 |.block id b=>.block id b.er
 |.loop _ _ b=>.loop b.er
 |.Cy _ b=>.loop b.er
 |.Dz _ _ _ b=>b.er
 |.exit id=>.exit id
 |.ret=>.ret
def E8(o:Opd)(v:Bool)(X:XS):XS:=match o with
 |.t i=>⟨X.t.set i (.d .bool v),X.h⟩
 |_=>X
def tY(nf:Nat)(pre:List Pre)(sh:Sh)(X:XS):Option (Ty.aD sh.tys):=match ext nf sh (qp nf pre X) with
 |some (foc,x)=>if(ou nf 0 foc&&Nat.beq X.t.length sh.n)=true then some x else none
 |none=>none
def yX{β:Type}(f:(XS->Option β)->XS->Option β):Nat->XS->Option β
 |0,_=>none
 |n+1,X=>f (yX f n) X
def G8{β:Type}(f:XS->Option β)(s:Nat)(k:IntKind)(m:Int)(X:XS):List Int->Option β
 |[]=>none
 |n::ns=>cond (iEq m n) (f ⟨X.t.set s (.d (.int k) n),X.h⟩) (G8 f s k m X ns)
def jW{S R:Type}(o:Option (S⊕R))(f:S->Option R):Option R:=match o with
 |some (.inl s)=>f s
 |some (.inr r)=>some r
 |none=>none
def xwp (c:Cfg) (nf:Nat):XC->(β:Type)->(Exit->XS->Option β)->XS->Option β
  |.skip,β,K,X=>K .normal X
  |.ops d l,β,K,X=>Si c d (K .normal) l X []
  |.kD U l,β,K,X=>kM c X.h.length U (K .normal) l X []
  |.seq a b,β,K,X=>xwp c nf a β (λe Y=>match e with|.normal=>xwp c nf b β K Y|e=>K e Y) X
  | .Ma pre sh a b, β, K, X => jW (xwp c nf a (Ty.aD sh.tys ⊕ β) (fun e Y => match e with
        | .normal=>match tY nf pre sh Y with
          |some s'=>some (.inl s')
          |none=>none
        |e=>Option.map Sum.inr (K e Y)) X) (λs=>xwp c nf b β K (emb sh s))
  | .cond o a b,β,K,X=>match rdG c.GX X.t o with
    |.d .bool t=>cond t (xwp c nf a β K (E8 o true X)) (xwp c nf b β K (E8 o false X))
    |_=>none
  |.block id b,β,K,X=>xwp c nf b β (λe Y=>match e with|.exit i=>if Nat.beq i id=true then K .normal Y else K (.exit i) Y|e=>K e Y) X
  | .loop pre sh b,β,K,X=>match tY nf pre sh X with
    | some s => aJ (fun s => xwp c nf b (Ty.aD sh.tys ⊕ β) (fun e Y => match e with
        | .normal=>match tY nf pre sh Y with
          |some s'=>some (.inl s')
          |none=>none
        |e=>Option.map Sum.inr (K e Y)) (emb sh s)) s
    |none=>none
  |.Cy n b,β,K,X=>yX (λk Y=>xwp c nf b β (λe Z=>match e with|.normal=>k Z|e=>K e Z) Y) n X
  | .Dz s k ns b,β,K,X=>match X.t.getD s .any with
    |.d (.int k') m=>if decide (k=k')=true then G8 (λY=>xwp c nf b β K Y) s k m X ns else none
    |_=>none
  |.exit id,β,K,X=>K (.exit id) X
  |.ret,β,K,X=>K .ret X
def qL(c:Cfg)(X:XS):List RV->Option (List XV)
 |[]=>some []
 |.t i::r=>match qL c X r with
  |some l=>some (X.t.getD i .any::l)
  |none=>none
 |.c i sz ag::r=>match aY c.tt X.h (rdG c.GX X.t) (.load sz ag (.t i)),qL c X r with
  |some (true,v,_,_),some l=>some (v::l)
  |_,_=>none
def LM(c:Cfg)(rv:List RV)(rs:List Ty)(e:Exit)(X:XS):Option (Ty.aD rs):=match e with
 |.normal=>match qL c X rv with
  |some vs=>sM X.h rs vs
  |none=>none
 |.ret=>match qL c X rv with
  |some vs=>sM X.h rs vs
  |none=>none
 |_=>none
def Zt(c:Cfg)(xc:XC)(n:Nat)(rv:List RV)(ps rs:List Ty)(x:Ty.aD ps):Option (Ty.aD rs) :=
 xwp c 0 xc (Ty.aD rs) (LM c rv rs) ⟨zx ps x++List.replicate (n-ps.length) .any,[]⟩
def VD(c:Cfg)(xc:XC)(n:Nat)(rv:List RV)(pre:List Pre)(ish osh:Sh)(x:Ty.aD ish.tys):Option (Ty.aD osh.tys) :=
 xwp c ish.objs.length xc (Ty.aD osh.tys) (λe X=>match(match e with|.normal=>true|.ret=>true|_=>false),qL c (qp ish.objs.length pre X) rv with
  |true,some vs=>tY ish.objs.length [] osh ⟨vs,(qp ish.objs.length pre X).h⟩
  |_,_=>none) ⟨(emb ish x).t++List.replicate (n-ish.n) .any,(emb ish x).h⟩
def OH(c:Cfg)(xc:XC)(n:Nat)(rv:List RV)(pre:List Pre)(T:Ty)(ish osh:Sh)(x:Ty.aD ish.tys):Option (Ty.aD osh.tys) :=
 xwp c ish.objs.length xc (Ty.aD osh.tys) (λe X=>match(match e with|.normal=>true|.ret=>true|_=>false),qL c (qp ish.objs.length pre X) rv with
  |true,some [v]=>match toD (qp ish.objs.length pre X).h T v with
   |some z=>tY ish.objs.length [] osh ⟨[.d T z],dU (qp ish.objs.length pre X).h (bq v)⟩
   |none=>none
  |_,_=>none) ⟨(emb ish x).t++List.replicate (n-ish.n) .any,(emb ish x).h⟩
theorem pJ{a b:Nat}(h:Nat.blt a b=true):a<b:=Nat.le_of_ble_eq_true h
theorem Ov{a b:Nat}(h:¬Nat.blt a b=true):b<=a:=Nat.le_of_lt_succ (Nat.lt_of_not_le (Nat.not_le_of_not_ble_eq_true h))
def gx (GX:GXT):Nat->Option (List AV):=fun g=>if Nat.blt g 1000000=true then match GX g with
  |some ⟨T,x⟩=>some (Ty.enc T x).cells
  |none=>match GX (g+1000000) with
   |some ⟨.list (.int .i64),[te,b,o]⟩=>some [.v (.iface te.toNat (.pointer (some ⟨b.toNat,o.toNat,none⟩)))]
   |_=>none
 else none
def V1(ρ:List Nat)(h:List XO):XV->AV->Prop
 |.any,_=>True
 |.d T x,a=>Wp a (Ty.enc T x)
 |.k v,a=>a=.v v
 |.row id,a=>∃ty T fz es,h[id]?=some (.row ty T fz es)/\a=.row (ρ.getD id 0) es.length T.size 0 es.length
 |.sub id off len,a=>∃ty T fz es,h[id]?=some (.row ty T fz es)/\a=.row (ρ.getD id 0) es.length T.size off len
 |.nK id len,a=>∃ty T fz es,h[id]?=some (.row ty T fz es)/\a=.iX (ρ.getD id 0) es.length T.size len/\len<=es.length
 |.pW id,a=>∃ty cs,h[id]?=some (.vec ty cs)/\a=.row (ρ.getD id 0) cs.length 1 0 cs.length
 |.me id,a=>a=.v (.pointer none)\/∃o,h[id]?=some o/\a=.ptr (ρ.getD id 0) o.len 0 0
 |.mp id,a=>∃ty K V es,h[id]?=some (.map ty K V es)/\a=.mp (ρ.getD id 0)
 |.ptr id i off,a=>∃o,h[id]?=some o/\a=.ptr (ρ.getD id 0) o.len i off
 |.lp T x off,a=>∃cs,a=.bO cs/\au Wp cs ((Ty.enc T x).cells.drop off)
 |.agg _,_=>False
 |.tup _,_=>False
def VA(ρ:List Nat)(h:List XO):XV->AV->Prop
 |.agg cs,a=>∃as,a=.agg as/\au (V1 ρ h) cs as
 |x,a=>V1 ρ h x a
def VT(ρ:List Nat)(h:List XO):XV->AV->Prop
 |.tup vs,a=>∃as,a=.tup as/\au (VA ρ h) vs as
 |x,a=>VA ρ h x a
def mW(ρ:List Nat)(h:List XO):XO->ah->Prop
 |.row ty T fz es,O=>O.ty=ty/\O.sz=T.size/\O.pr=true/\O.fz=(if fz=true then es.length else 0)/\au Wp O.es (es.map (Ty.enc T))
 |.box ty cs,O=>O.ty=ty/\O.sz=cs.length/\O.pr=false/\O.fz=0/\∃e,O.es=[e]/\au (V1 ρ h) cs e.cells
 |.map ty K V es,O=>O.ty=ty/\O.sz=0/\O.pr=true/\O.fz=0/\au Wp O.es (es.map (Ty.enc (.tup [K,V])))
 |.vec ty cs,O=>O.ty=ty/\O.sz=1/\O.pr=false/\O.fz=0/\au (λc e=>e.cells=[e]/\V1 ρ h c e) cs O.es
structure HS (ρ:List Nat) (h:List XO) (H:List ah):Prop where
 rl:ρ.length=h.length
 nd:ρ.Nodup
 hr:∀(i:Nat) (o:XO),h[i]?=some o->∃O,H[ρ.getD i 0]?=some O/\mW ρ h o O
structure Sim (ρ:List Nat) (X:XS) (σ:St):Prop where
 t:au (VT ρ X.h) X.t σ.t
 h:HS ρ X.h σ.h
def Pl1(a:AV):Prop:=(∃y,a=.v y/\y.oneCell'=true)\/∃sz xs,a=.list sz xs
theorem Pl1.keep{a:AV}(h:Pl1 a)(H:List ah):iM H a=some a:=by
 rcases h with⟨y,rfl,hy⟩|⟨sz,xs,rfl⟩
 .simp[iM,hy]
 .rfl
theorem Pl1.rows{a:AV}(h:Pl1 a):jc a=[]:=by
 rcases h with⟨y,rfl,hy⟩|⟨sz,xs,rfl⟩<;>rfl
theorem Pl1.st{a:AV}(h:Pl1 a)(pr:Bool):st1 pr a=true:=by
 rcases h with⟨y,rfl,hy⟩|⟨sz,xs,rfl⟩
 .simpa[st1]using hy
 .rfl
theorem Pl1.of_wp{a b:AV}(h:Pl1 b)(hw:Wp a b):Pl1 a:=by
 rcases h with⟨y,rfl,hy⟩|⟨sz,xs,rfl⟩
 .rw[hw.aH];exact .inl ⟨y,rfl,hy⟩
 .rcases hw.dw with⟨rfl,_⟩|⟨ys,rfl,_⟩
  .exact .inl ⟨_,rfl,rfl⟩
  .exact .inr ⟨_,_,rfl⟩
theorem Pl1.cells{a:AV}(h:Pl1 a):a.cells=[a]:=by
 rcases h with⟨y,rfl,hy⟩|⟨sz,xs,rfl⟩<;>rfl
theorem Ju(T:Ty):∀x:T.den,au (λf c=>∃(T':Ty) (x':T'.den),f=XV.d T' x'/\c=Ty.enc T' x'/\T'.dL=false/\Pl1 c) (flat T x) (Ty.enc T x).cells:=by
 refine Ty.rec (motive_1:=λT=>∀x:T.den,au (λf c=>∃(T':Ty) (x':T'.den),f=XV.d T' x'/\c=Ty.enc T' x'/\T'.dL=false/\Pl1 c) (flat T x) (Ty.enc T x).cells)
  (motive_2:=λfs=>∀x:Ty.aD fs,au (λf c=>∃(T':Ty) (x':T'.den),f=XV.d T' x'/\c=Ty.enc T' x'/\T'.dL=false/\Pl1 c) (sG fs x) (Ty.bM fs x)) ?_ ?_ ?_ ?_ ?_ ?_ ?_ ?_ ?_ ?_ T
 .intro k x;exact .cons ⟨.int k,x,rfl,rfl,rfl,.inl ⟨_,rfl,rfl⟩⟩ .nil
 .intro x;exact .cons ⟨.bool,x,rfl,rfl,rfl,.inl ⟨_,rfl,rfl⟩⟩ .nil
 .intro x;exact .cons ⟨.str,x,rfl,rfl,rfl,.inl ⟨_,rfl,rfl⟩⟩ .nil
 .intro e _ x;exact .cons ⟨.list e,x,rfl,rfl,rfl,.inr ⟨_,_,rfl⟩⟩ .nil
 .intro fs ih x;exact ih x
 .intro f x;exact .cons ⟨.fnc f,x,rfl,rfl,rfl,.inl ⟨_,rfl,rfl⟩⟩ .nil
 .intro e _ x
  cases x with
  |none=>exact .cons ⟨.cZ e,none,rfl,rfl,rfl,.inl ⟨_,rfl,rfl⟩⟩ .nil
  |some xs=>exact .cons ⟨.cZ e,some xs,rfl,rfl,rfl,.inr ⟨_,_,rfl⟩⟩ .nil
 .intro ty sz x;exact .cons ⟨.rl ty sz,x,rfl,rfl,rfl,.inr ⟨_,_,rfl⟩⟩ .nil
 .intro x;exact .nil
 .intro t ts h1 h2 x;exact(h1 x.1).append (h2 x.2)
theorem TK{T:Ty}{x:T.den}{c:AV}(h:c∈(Ty.enc T x).cells):Pl1 c:=by
 obtain⟨i,hi⟩:=List.mem_iff_getElem?.1 h
 obtain⟨f,_,_,_,_,_,_,hp⟩:=(Ju T x).fU hi
 exact hp
theorem yU{T:Ty}{x:T.den}{a:AV}(hw:Wp a (Ty.enc T x)){c:AV}(h:c∈a.cells):Pl1 c:=by
 obtain⟨i,hi⟩:=List.mem_iff_getElem?.1 h
 obtain⟨b,hb,hwb⟩:=hw.cells.eD hi
 exact(TK (List.mem_of_getElem? hb)).of_wp hwb
theorem CP{ρ:List Nat}{h:List XO}{T:Ty}{x:T.den}{a:AV}(hw:Wp a (Ty.enc T x)):au (V1 ρ h) (flat T x) a.cells:=by
 have hf:=Ju T x
 have hc:=hw.cells
 refine⟨by rw[hf.1,hc.1],λi f c p q=>?_⟩
 obtain⟨b,hb,T',x',rfl,rfl,_,_⟩:=hf.eD p
 exact hc.2 i c _ q hb
theorem iB{T:Ty}{x:T.den}:(T.dL=true/\∃cs,Ty.enc T x=.agg cs)\/(T.dL=false/\Pl1 (Ty.enc T x)):=by
 cases T with
 |tup fs=>exact .inl ⟨rfl,_,rfl⟩
 |int k=>exact .inr ⟨rfl,.inl ⟨_,rfl,rfl⟩⟩
 |bool=>exact .inr ⟨rfl,.inl ⟨_,rfl,rfl⟩⟩
 |str=>exact .inr ⟨rfl,.inl ⟨_,rfl,rfl⟩⟩
 |list e=>exact .inr ⟨rfl,.inr ⟨_,_,rfl⟩⟩
 |fnc f=>exact .inr ⟨rfl,.inl ⟨_,rfl,rfl⟩⟩
 |rl ty sz=>exact .inr ⟨rfl,.inr ⟨_,_,rfl⟩⟩
 |cZ e =>
  cases x with
  |none=>exact .inr ⟨rfl,.inl ⟨_,rfl,rfl⟩⟩
  |some xs=>exact .inr ⟨rfl,.inr ⟨_,_,rfl⟩⟩
theorem yV{T:Ty}{x:T.den}{a:AV}(hw:Wp a (Ty.enc T x))(H:List ah):dN H a=some a/\aR a=[]:=by
 have kl:∀l:List AV,(∀c∈l,Pl1 c)->gu H l=some l/\l.flatMap jc=[]:=by
  intro l
  induction l with
  |nil=>intro _;exact⟨rfl,rfl⟩
  |cons c l ih =>
   intro h
   obtain⟨i1,i2⟩:=ih λc hc=>h c (by simp[hc])
   have hp:=h c (by simp)
   exact⟨by simp only[gu,hp.keep H,i1],by simp[hp.rows,i2]⟩
 rcases iB (x:=x) with⟨_,cs,he⟩|⟨_,hp⟩
 .rw[he]at hw
  obtain⟨as,rfl,_⟩:=hw.bB
  rw[<- he]at hw
  obtain⟨k1,k2⟩:=kl as λc hc=>yU hw hc
  exact⟨by simp[dN,k1],k2⟩
 .have hp':=hp.of_wp hw
  rcases hp' with⟨y,rfl,hy⟩|⟨sz,xs,rfl⟩
  .exact⟨by simp[dN,iM,hy],rfl⟩
  .exact⟨rfl,rfl⟩
theorem Bw{T:Ty}{x:T.den}{a:AV}(hw:Wp a (Ty.enc T x))(pr:Bool):bJ pr a=some a.cells:=by
 rcases iB (x:=x) with⟨_,cs,he⟩|⟨_,hp⟩
 .rw[he]at hw
  obtain⟨as,rfl,_⟩:=hw.bB
  rw[<- he]at hw
  have:as.all (st1 pr)=true:=List.all_eq_true.2 λc hc=>(yU hw hc).st pr
  simp[bJ,this,AV.cells]
 .have hp':=hp.of_wp hw
  have:=hp'.st pr
  rcases hp' with⟨y,rfl,hy⟩|⟨sz,xs,rfl⟩<;>simp[bJ,AV.cells]<;>exact this
theorem Vd(fs:List Ty)(x:Ty.aD fs):(Ty.bM fs x).length=Ty.iy fs:=bV (.tup fs) x
theorem Ew(T:Ty):∀(x:T.den) (o sz:Nat) (ag:Bool) (v:XV),atT T x o sz ag=some v->∃(T':Ty) (x':T'.den),v=.d T' x'/\(if ag=true then o+sz<=(Ty.enc T x).cells.length/\Ty.enc T' x'=.agg (((Ty.enc T x).cells.drop o).take sz) else(Ty.enc T x).cells[o]?=some (Ty.enc T' x')):=by
 have one:∀(T:Ty) (x:T.den) (o:Nat) (ag:Bool) (v:XV),(Ty.enc T x).cells=[Ty.enc T x]->(if(Nat.beq o 0&&!ag)=true then some (XV.d T x) else none)=some v->∃(T':Ty) (x':T'.den),v=.d T' x'/\∀sz,(if ag=true then o+sz<=(Ty.enc T x).cells.length/\Ty.enc T' x'=.agg (((Ty.enc T x).cells.drop o).take sz) else(Ty.enc T x).cells[o]?=some (Ty.enc T' x')):=by
  intro T x o ag v hc h
  split at h
  .rename_i hb
   simp only[Bool.and_eq_true,Bool.not_eq_true']at hb
   cases h
   have ho:=Nat.eq_of_beq_eq_true hb.1
   subst ho
   refine⟨T,x,rfl,λsz=>?_⟩
   rw[hb.2,hc];rfl
  .cases h
 refine Ty.rec (motive_1:=λT=>∀(x:T.den) (o sz:Nat) (ag:Bool) (v:XV),atT T x o sz ag=some v->∃(T':Ty) (x':T'.den),v=.d T' x'/\(if ag=true then o+sz<=(Ty.enc T x).cells.length/\Ty.enc T' x'=.agg (((Ty.enc T x).cells.drop o).take sz) else(Ty.enc T x).cells[o]?=some (Ty.enc T' x')))
  (motive_2:=λfs=>∀(x:Ty.aD fs) (o sz:Nat) (ag:Bool) (v:XV),atL fs x o sz ag=some v->∃(T':Ty) (x':T'.den),v=.d T' x'/\(if ag=true then o+sz<=(Ty.bM fs x).length/\Ty.enc T' x'=.agg (((Ty.bM fs x).drop o).take sz) else(Ty.bM fs x)[o]?=some (Ty.enc T' x'))) ?_ ?_ ?_ ?_ ?_ ?_ ?_ ?_ ?_ ?_ T
 .intro k x o sz ag v h;obtain⟨T',x',a,b⟩:=one (.int k) x o ag v rfl h;exact⟨T',x',a,b sz⟩
 .intro x o sz ag v h;obtain⟨T',x',a,b⟩:=one .bool x o ag v rfl h;exact⟨T',x',a,b sz⟩
 .intro x o sz ag v h;obtain⟨T',x',a,b⟩:=one .str x o ag v rfl h;exact⟨T',x',a,b sz⟩
 .intro e _ x o sz ag v h;obtain⟨T',x',a,b⟩:=one (.list e) x o ag v rfl h;exact⟨T',x',a,b sz⟩
 .intro fs ih x o sz ag v h
  simp only[atT]at h
  split at h
  .rename_i hb
   simp only[Bool.and_eq_true]at hb
   cases h
   have ho:=Nat.eq_of_beq_eq_true hb.1.1
   have hs:=Nat.eq_of_beq_eq_true hb.2
   subst ho hs
   refine⟨.tup fs,x,rfl,?_⟩
   rw[hb.1.2]
   have hlen:(Ty.bM fs x).length=Ty.iy fs:=Vd fs x
   show(if true=true then 0+Ty.iy fs<=(Ty.bM fs x).length/\AV.agg (Ty.bM fs x)=.agg (((Ty.bM fs x).drop 0).take (Ty.iy fs)) else _)
   rw[if_pos rfl]
   exact⟨by omega,by rw[List.drop_zero,List.take_of_length_le (by omega)]⟩
  .exact ih x o sz ag v h
 .intro f x o sz ag v h;obtain⟨T',x',a,b⟩:=one (.fnc f) x o ag v rfl h;exact⟨T',x',a,b sz⟩
 .intro e _ x o sz ag v h;obtain⟨T',x',a,b⟩:=one (.cZ e) x o ag v (by cases x<;>rfl) h;exact⟨T',x',a,b sz⟩
 .intro ty' sz' x o sz ag v h;obtain⟨T',x',a,b⟩:=one (.rl ty' sz') x o ag v rfl h;exact⟨T',x',a,b sz⟩
 .intro x o sz ag v h;simp[atL]at h
 .intro t ts h1 h2 x o sz ag v h
  simp only[atL]at h
  have hl:(Ty.enc t x.1).cells.length=t.size:=bV t x.1
  split at h
  .rename_i ho
   have ho:o<t.size:=pJ ho
   obtain⟨T',x',rfl,hq⟩:=h1 x.1 o sz ag v h
   refine⟨T',x',rfl,?_⟩
   simp only[Ty.bM]
   cases ag with
   |true =>
    simp only[if_true]at hq ⊢
    refine⟨by rw[List.length_append];omega,?_⟩
    rw[hq.2,List.drop_append_of_le_length (by omega),List.take_append_of_le_length (by rw[List.length_drop];omega)]
   |false =>
    simp only[Bool.false_eq_true,if_false]at hq ⊢
    rw[List.getElem?_append_left (by rw[hl];exact ho)];exact hq
  .rename_i ho
   have ho:t.size<=o:=Ov ho
   obtain⟨T',x',rfl,hq⟩:=h2 x.2 (o-t.size) sz ag v h
   refine⟨T',x',rfl,?_⟩
   simp only[Ty.bM]
   cases ag with
   |true =>
    simp only[if_true]at hq ⊢
    refine⟨by rw[List.length_append];omega,?_⟩
    have e1:(Ty.enc t x.1).cells.drop o=[]:=List.drop_eq_nil_of_le (by omega)
    rw[hq.2,List.drop_append,e1,List.nil_append,hl]
   |false =>
    simp only[Bool.false_eq_true,if_false]at hq ⊢
    rw[List.getElem?_append_right (by omega),hl];exact hq
theorem D9{A B:Ty}{x:A.den}{y:B.den}(h:bC x=some y):Ty.enc B y=Ty.enc A x/\A=B:=by
 obtain⟨rfl,rfl⟩:=dR h;exact⟨rfl,rfl⟩
theorem Tf{U:Ty}(y:U.den)(T:Ty):∀(x:T.den) (o:Nat) (z:T.den),xC y T x o=some z->o+U.size<=T.size/\(Ty.enc T z).cells=(Ty.enc T x).cells.take o++(Ty.enc U y).cells++(Ty.enc T x).cells.drop (o+U.size)/\(T.dL=false->o=0/\U.size=1):=by
 have whole:∀(T:Ty) (x z:T.den),bC y=some z->0+U.size<=T.size/\(Ty.enc T z).cells=(Ty.enc T x).cells.take 0++(Ty.enc U y).cells++(Ty.enc T x).cells.drop (0+U.size):=by
  intro T x z h
  obtain⟨e1,e2⟩:=D9 h
  subst e2
  refine⟨by omega,?_⟩
  rw[e1,List.take_zero,List.nil_append,List.drop_eq_nil_of_le (by rw[bV];omega),List.append_nil]
 have one:∀(T:Ty) (x z:T.den) (o:Nat),T.size=1->(if Nat.beq o 0=true then bC y else none)=some z->o+U.size<=T.size/\(Ty.enc T z).cells=(Ty.enc T x).cells.take o++(Ty.enc U y).cells++(Ty.enc T x).cells.drop (o+U.size)/\(T.dL=false->o=0/\U.size=1):=by
  intro T x z o hs h
  split at h
  .rename_i ho
   have ho:=Nat.eq_of_beq_eq_true ho
   subst ho
   obtain⟨a,b⟩:=whole T x z h
   refine⟨a,b,λ_=>⟨rfl,?_⟩⟩
   rw[(D9 h).2];exact hs
  .cases h
 refine Ty.rec (motive_1:=λT=>∀(x:T.den) (o:Nat) (z:T.den),xC y T x o=some z->o+U.size<=T.size/\(Ty.enc T z).cells=(Ty.enc T x).cells.take o++(Ty.enc U y).cells++(Ty.enc T x).cells.drop (o+U.size)/\(T.dL=false->o=0/\U.size=1))
  (motive_2:=λfs=>∀(x:Ty.aD fs) (o:Nat) (z:Ty.aD fs),xD y fs x o=some z->o+U.size<=Ty.iy fs/\Ty.bM fs z=(Ty.bM fs x).take o++(Ty.enc U y).cells++(Ty.bM fs x).drop (o+U.size)) ?_ ?_ ?_ ?_ ?_ ?_ ?_ ?_ ?_ ?_ T
 .intro k x o z h;exact one (.int k) x z o rfl h
 .intro x o z h;exact one .bool x z o rfl h
 .intro x o z h;exact one .str x z o rfl h
 .intro e _ x o z h;exact one (.list e) x z o rfl h
 .intro fs ih x o z h
  have h':(if(Nat.beq o 0&&Ty.same U (.tup fs))=true then bC (b:=.tup fs) y else(show Option (Ty.den (.tup fs)) from xD y fs x o))=some z:=h
  by_cases hb:(Nat.beq o 0&&Ty.same U (.tup fs))=true
  .rw[if_pos hb]at h'
   simp only[Bool.and_eq_true]at hb
   have ho:=Nat.eq_of_beq_eq_true hb.1
   subst ho
   obtain⟨a,b⟩:=whole (.tup fs) x z h'
   exact⟨a,b,λq=>by cases q⟩
  .rw[if_neg hb]at h'
   obtain⟨a,b⟩:=ih x o z h'
   exact⟨a,b,λq=>by cases q⟩
 .intro f x o z h;exact one (.fnc f) x z o rfl h
 .intro e _ x o z h;exact one (.cZ e) x z o rfl h
 .intro ty' sz' x o z h;exact one (.rl ty' sz') x z o rfl h
 .intro x o z h;simp[xD]at h
 .intro t ts h1 h2 x o z h
  have hl:(Ty.enc t x.1).cells.length=t.size:=bV t x.1
  simp only[xD]at h
  split at h
  .rename_i ho
   have ho:o<t.size:=pJ ho
   obtain⟨u,hu,rfl⟩:∃u,xC y t x.1 o=some u/\z=(u,x.2):=by
    cases hu:xC y t x.1 o with
    |none=>rw[hu]at h;cases h
    |some u=>rw[hu]at h;cases h;exact⟨u,rfl,rfl⟩
   obtain⟨a,b,_⟩:=h1 x.1 o u hu
   refine⟨by simp only[Ty.iy];omega,?_⟩
   simp only[Ty.bM]
   rw[b,List.take_append_of_le_length (by omega),List.drop_append_of_le_length (by omega)]
   simp only[List.append_assoc]
  .rename_i ho
   have ho:t.size<=o:=Ov ho
   obtain⟨u,hu,rfl⟩:∃u,xD y ts x.2 (o-t.size)=some u/\z=(x.1,u):=by
    cases hu:xD y ts x.2 (o-t.size) with
    |none=>rw[hu]at h;cases h
    |some u=>rw[hu]at h;cases h;exact⟨u,rfl,rfl⟩
   obtain⟨a,b⟩:=h2 x.2 (o-t.size) u hu
   refine⟨by simp only[Ty.iy];omega,?_⟩
   simp only[Ty.bM]
   have e1:(Ty.enc t x.1).cells.take o=(Ty.enc t x.1).cells:=List.take_of_length_le (by omega)
   have e2:(Ty.enc t x.1).cells.drop (o+U.size)=[]:=List.drop_eq_nil_of_le (by omega)
   rw[b,List.take_append,e1,hl,List.drop_append,e2,List.nil_append,hl]
   simp only[List.append_assoc]
   rw[show o+U.size-t.size=o-t.size+U.size by omega]
def lW:XO->XO->Prop
 |.row ty T _ es,.row ty' T' _ es'=>ty=ty'/\T=T'/\es.length=es'.length
 |.box _ _,.box _ _=>True
 |.box _ _,.row _ _ _ es=>es.length=1
 |.vec _ cs,.vec _ cs'=>cs.length=cs'.length
 |.map _ _ _ _,.map _ _ _ _=>True
 |_,_=>False
theorem lW.refl(o:XO):lW o o:=by cases o<;>simp[lW]
theorem lW.len{o o':XO}(h:lW o o'):o'.len=o.len:=by
 cases o<;>cases o'<;>simp[lW]at h
 .simp only[XO.len];exact h.2.2.symm
 .simp only[XO.len];exact h
 .rfl
 .simp only[XO.len];exact h.symm
 .rfl
def hit(kl:List Nat):XV->Bool
 |.row j=>kl.contains j
 |.sub j _ _=>kl.contains j
 |.nK j _=>kl.contains j
 |.pW j=>kl.contains j
 |.me j=>kl.contains j
 |.mp j=>kl.contains j
 |.ptr j _ _=>kl.contains j
 |_=>false
def iq(kl:List Nat)(x:XV):XV:=kl.foldl (λx id=>nT id x) x
def nR(kl:List Nat)(x:XV):XV:=kl.foldl (λx id=>sw id x) x
def nQ(kl:List Nat)(x:XV):XV:=kl.foldl (λx id=>su id x) x
theorem Nu(kl:List Nat):iq kl .any=.any:=by
 induction kl with
 |nil=>rfl
 |cons k kl ih=>exact ih
theorem Az(id:Nat)(x:XV):nT id x=if hit [id] x=true then .any else x:=by
 have key:∀j,(Nat.beq j id=true)↔([id].contains j=true):=λj=>by simp
 cases x<;>simp only[nT,hit,key]<;>rfl
theorem Fe(kl:List Nat):∀x,iq kl x=if hit kl x=true then .any else x:=by
 induction kl with
 |nil=>intro x;cases x<;>rfl
 |cons k kl ih =>
  intro x
  show iq kl (nT k x)=_
  rw[Az]
  have hc:hit (k::kl) x=(hit [k] x||hit kl x):=by
   cases x<;>simp[hit,List.contains_cons]
  rw[hc]
  by_cases h1:hit [k] x=true
  .rw[if_pos h1,Nu,h1];rfl
  .rw[if_neg h1,ih]
   simp only[Bool.not_eq_true]at h1
   rw[h1];rfl
theorem CG(kl:List Nat):∀cs,nR kl (.agg cs)=.agg (cs.map (iq kl)):=by
 induction kl with
 |nil=>intro cs;show XV.agg cs=.agg (cs.map λx=>x);simp
 |cons k kl ih =>
  intro cs
  show nR kl (.agg (cs.map (nT k)))=_
  rw[ih,List.map_map];rfl
theorem zT(kl:List Nat):∀x,(∀cs,x≠.agg cs)->nR kl x=iq kl x:=by
 induction kl with
 |nil=>intro x _;rfl
 |cons k kl ih =>
  intro x hx
  have e:sw k x=nT k x:=by cases x<;>first|rfl|exact absurd rfl (hx _)
  show nR kl (sw k x)=iq kl (nT k x)
  rw[e]
  refine ih _ λcs q=>?_
  rw[Az]at q
  split at q
  .cases q
  .exact hx cs q
theorem Cz(kl:List Nat):∀vs,nQ kl (.tup vs)=.tup (vs.map (nR kl)):=by
 induction kl with
 |nil=>intro cs;show XV.tup cs=.tup (cs.map λx=>x);simp
 |cons k kl ih =>
  intro cs
  show nQ kl (.tup (cs.map (sw k)))=_
  rw[ih,List.map_map];rfl
theorem zS(kl:List Nat):∀x,(∀vs,x≠.tup vs)->nQ kl x=nR kl x:=by
 induction kl with
 |nil=>intro x _;rfl
 |cons k kl ih =>
  intro x hx
  have e:su k x=sw k x:=by cases x<;>first|rfl|exact absurd rfl (hx _)
  show nQ kl (su k x)=nR kl (sw k x)
  rw[e]
  refine ih _ λvs q=>?_
  by_cases ha:∃cs,x=.agg cs
  .obtain⟨cs,rfl⟩:=ha;cases q
  .have e2:sw k x=nT k x:=by cases x<;>first|rfl|exact absurd ⟨_,rfl⟩ ha
   rw[e2,Az]at q
   split at q
   .cases q
   .exact hx vs q
theorem Fb(kl:List Nat):∀t,zA kl t=t.map (nQ kl):=by
 induction kl with
 |nil=>intro t;show t=t.map λx=>x;simp
 |cons k kl ih =>
  intro t
  show zA kl (t.map (su k))=_
  rw[ih,List.map_map];rfl
section
variable{ρ ρ' ρ'':List Nat}{h h' h'':List XO}{H H' H'':List ah}
theorem VA.of1{x:XV}{a:AV}(hv:V1 ρ h x a):VA ρ h x a:=by
 cases x<;>first|exact hv|exact hv.elim
theorem VT.ofA{x:XV}{a:AV}(hv:VA ρ h x a):VT ρ h x a:=by
 cases x<;>first|exact hv|exact hv.elim
theorem VT.of1{x:XV}{a:AV}(hv:V1 ρ h x a):VT ρ h x a:=VT.ofA (VA.of1 hv)
def Trn(ρ:List Nat)(h:List XO)(ρ':List Nat)(h':List XO)(kl:List Nat):Prop:=∀x a,V1 ρ h x a->V1 ρ' h' (iq kl x) a
theorem Trn.A{kl:List Nat}(ht:Trn ρ h ρ' h' kl){x:XV}{a:AV}(hv:VA ρ h x a):VA ρ' h' (nR kl x) a:=by
 by_cases ha:∃cs,x=.agg cs
 .obtain⟨cs,rfl⟩:=ha
  obtain⟨as,rfl,hc⟩:=hv
  rw[CG]
  refine⟨as,rfl,by simp[hc.1],λi y b p q=>?_⟩
  rw[List.getElem?_map]at p
  cases hy:cs[i]? with
  |none=>rw[hy]at p;cases p
  |some z=>rw[hy]at p;cases p;exact ht z b (hc.2 i z b hy q)
 .rw[zT kl x λcs q=>ha ⟨cs,q⟩]
  exact VA.of1 (ht x a (by cases x<;>first|exact hv|exact absurd ⟨_,rfl⟩ ha))
theorem Trn.T{kl:List Nat}(ht:Trn ρ h ρ' h' kl){x:XV}{a:AV}(hv:VT ρ h x a):VT ρ' h' (nQ kl x) a:=by
 by_cases ha:∃cs,x=.tup cs
 .obtain⟨cs,rfl⟩:=ha
  obtain⟨as,rfl,hc⟩:=hv
  rw[Cz]
  refine⟨as,rfl,by simp[hc.1],λi y b p q=>?_⟩
  rw[List.getElem?_map]at p
  cases hy:cs[i]? with
  |none=>rw[hy]at p;cases p
  |some z=>rw[hy]at p;cases p;exact ht.A (hc.2 i z b hy q)
 .rw[zS kl x λcs q=>ha ⟨cs,q⟩]
  exact VT.ofA (ht.A (by cases x<;>first|exact hv|exact absurd ⟨_,rfl⟩ ha))
theorem Trn.trans{kl kl':List Nat}(h1:Trn ρ h ρ' h' kl)(h2:Trn ρ' h' ρ'' h'' kl'):Trn ρ h ρ'' h'' (kl++kl'):=λx a hv=>by
 have:iq (kl++kl') x=iq kl' (iq kl x):=by simp[iq,List.foldl_append]
 rw[this];exact h2 _ _ (h1 x a hv)
theorem Trn.mk{kl:List Nat}(hh:∀id o,h[id]?=some o->id∉kl->∃o',h'[id]?=some o'/\lW o o')(hr:∀id,id<h.length->ρ'.getD id 0=ρ.getD id 0):Trn ρ h ρ' h' kl:=λx a hv=>by
 rw[Fe]
 split
 .trivial
 .rename_i hh1
  have lt:∀{id:Nat} {o:XO},h[id]?=some o->id<h.length:=λq=>(List.getElem?_eq_some_iff.1 q).1
  cases x with
  |row id =>
   obtain⟨ty,T,fz,es,e1,rfl⟩:=hv
   obtain⟨o',e2,hs⟩:=hh id _ e1 (by simpa[hit]using hh1)
   cases o' with
   |box ty' cs=>exact hs.elim
   |vec ty' cs=>exact hs.elim
   |map=>exact hs.elim
   |row ty' T' fz' es' =>
    obtain⟨rfl,rfl,hl⟩:=hs
    exact⟨_,_,_,es',e2,by rw[hr id (lt e1),hl]⟩
  |nK id len =>
   obtain⟨ty,T,fz,es,e1,rfl,hle⟩:=hv
   obtain⟨o',e2,hs⟩:=hh id _ e1 (by simpa[hit]using hh1)
   cases o' with
   |box ty' cs=>exact hs.elim
   |vec ty' cs=>exact hs.elim
   |map=>exact hs.elim
   |row ty' T' fz' es' =>
    obtain⟨rfl,rfl,hl⟩:=hs
    exact⟨_,_,_,es',e2,by rw[hr id (lt e1),hl],by rw[<- hl];exact hle⟩
  |pW id =>
   obtain⟨ty,cs,e1,rfl⟩:=hv
   obtain⟨o',e2,hs⟩:=hh id _ e1 (by simpa[hit]using hh1)
   cases o' with
   |box ty' cs=>exact hs.elim
   |row=>exact hs.elim
   |map=>exact hs.elim
   |vec ty' cs' =>
    have hl:cs.length=cs'.length:=hs
    exact⟨_,cs',e2,by rw[hr id (lt e1),hl]⟩
  |sub id off len =>
   obtain⟨ty,T,fz,es,e1,rfl⟩:=hv
   obtain⟨o',e2,hs⟩:=hh id _ e1 (by simpa[hit]using hh1)
   cases o' with
   |box ty' cs=>exact hs.elim
   |vec ty' cs=>exact hs.elim
   |map=>exact hs.elim
   |row ty' T' fz' es' =>
    obtain⟨rfl,rfl,hl⟩:=hs
    exact⟨_,_,_,es',e2,by rw[hr id (lt e1),hl]⟩
  |mp id =>
   obtain⟨ty,K,V,es,e1,rfl⟩:=hv
   obtain⟨o',e2,hs⟩:=hh id _ e1 (by simpa[hit]using hh1)
   cases o' with
   |map ty' K' V' es'=>exact⟨_,_,_,es',e2,by rw[hr id (lt e1)]⟩
   |_=>exact hs.elim
  |me id =>
   rcases hv with hv|⟨o,e1,rfl⟩
   .exact .inl hv
   .obtain⟨o',e2,hs⟩:=hh id _ e1 (by simpa[hit]using hh1)
    exact .inr ⟨o',e2,by rw[hr id (lt e1),hs.len]⟩
  |ptr id i off =>
   obtain⟨o,e1,rfl⟩:=hv
   obtain⟨o',e2,hs⟩:=hh id _ e1 (by simpa[hit]using hh1)
   exact⟨o',e2,by rw[hr id (lt e1),hs.len]⟩
  |_=>exact hv
theorem mM(cs:List XV):cs.map (iq [])=cs:=by show cs.map (λx=>x)=cs;simp
theorem Trn.cells{kl:List Nat}(ht:Trn ρ h ρ' h' kl){cs:List XV}{as:List AV}(hc:au (V1 ρ h) cs as):au (V1 ρ' h') (cs.map (iq kl)) as :=
 ⟨by simp[hc.1],λi y b p q=>by
  rw[List.getElem?_map]at p
  cases hy:cs[i]? with
  |none=>rw[hy]at p;cases p
  |some z=>rw[hy]at p;cases p;exact ht z b (hc.2 i z b hy q)⟩
def eT(kl:List Nat):XO->XO
 |.box ty cs=>.box ty (cs.map (iq kl))
 |.vec ty cs=>.vec ty (cs.map (iq kl))
 |o=>o
theorem Trn.obj{kl:List Nat}(ht:Trn ρ h ρ' h' kl){o:XO}{O:ah}(ho:mW ρ h o O):mW ρ' h' (eT kl o) O:=by
 cases o with
 |row ty T fz es=>exact ho
 |map ty K V es=>exact ho
 |box ty cs =>
  obtain⟨a,b,c,d,e,he,hc⟩:=ho
  exact⟨a,by simpa using b,c,d,e,he,ht.cells hc⟩
 |vec ty cs =>
  obtain⟨a,b,c,d,hc⟩:=ho
  refine⟨a,b,c,d,by simp[hc.1],λi y b p q=>?_⟩
  rw[List.getElem?_map]at p
  cases hy:cs[i]? with
  |none=>rw[hy]at p;cases p
  |some z=>rw[hy]at p;cases p;exact⟨(hc.2 i z b hy q).1,ht z b (hc.2 i z b hy q).2⟩
theorem oZ(o:XO):eT [] o=o:=by
 cases o with
 |row=>rfl
 |map=>rfl
 |box ty cs=>simp only[eT,mM]
 |vec ty cs=>simp only[eT,mM]
theorem mQ(kl:List Nat):∀h,jV kl h=h.map (eT kl):=by
 induction kl with
 |nil=>intro h;show h=h.map (eT []);rw[show eT []=λo=>o from funext oZ];simp
 |cons k kl ih =>
  intro h
  show jV kl (h.map (wH k))=_
  rw[ih,List.map_map]
  congr 1
  funext o
  cases o with
  |row=>rfl
  |map=>rfl
  |box ty cs=>simp only[Function.comp,wH,eT,List.map_map];rfl
  |vec ty cs=>simp only[Function.comp,wH,eT,List.map_map];rfl
theorem HS.lt(hs:HS ρ h H){i:Nat}(hi:i<h.length):ρ.getD i 0<H.length:=by
 obtain⟨O,hO,_⟩:=hs.hr i h[i] (List.getElem?_eq_getElem hi)
 exact(List.getElem?_eq_some_iff.1 hO).1
theorem HS.Qq(hs:HS ρ h H){x:Nat}(hx:x∈ρ):x<H.length:=by
 obtain⟨i,hi⟩:=List.mem_iff_getElem?.1 hx
 have hl:i<ρ.length:=(List.getElem?_eq_some_iff.1 hi).1
 have:=hs.lt (i:=i) (by rw[<- hs.rl];exact hl)
 simpa[List.getD,hi]using this
theorem HS.inj(hs:HS ρ h H){i j:Nat}(hi:i<h.length)(hj:j<h.length)(he:ρ.getD i 0=ρ.getD j 0):i=j:=by
 have hi':i<ρ.length:=by rw[hs.rl];exact hi
 have hj':j<ρ.length:=by rw[hs.rl];exact hj
 simp only[List.getD,List.getElem?_eq_getElem hi',List.getElem?_eq_getElem hj',Option.getD_some]at he
 have hp:=List.pairwise_iff_getElem.1 hs.nd
 rcases Nat.lt_trichotomy i j with q|q|q
 .exact absurd he (hp i j hi' hj' q)
 .exact q
 .exact absurd he.symm (hp j i hj' hi' q)
structure Upd (ρ:List Nat) (h:List XO) (H:List ah) (ρ':List Nat) (h':List XO) (H':List ah) (kl tch:List Nat):Prop where
 hs:HS ρ' h' H'
 tr:Trn ρ h ρ' h' kl
 ge:H.length<=H'.length
 fr:∀j,j<H.length->(∀id∈tch,id<h.length->ρ.getD id 0≠j)->H'[j]?=H[j]?
 ap:∃news,ρ'=ρ++news/\∀x∈news,H.length<=x
 hl:h.length<=h'.length
theorem Upd.same(hs:HS ρ h H):Upd ρ h H ρ h H [] []:=⟨hs,λx a hv=>hv,Nat.le_refl _,λ_ _ _=>rfl,⟨[],by simp,by simp⟩,Nat.le_refl _⟩
theorem fD{l l':List Nat}{i:Nat}(hi:i<l.length):(l++l').getD i 0=l.getD i 0:=by simp[List.getD,List.getElem?_append_left hi]
theorem Upd.new(hs:HS ρ h H){o:XO}{O:ah}(ho:mW ρ h o O):Upd ρ h H (ρ++[H.length]) (h++[o]) (H++[O]) [] []:=by
 have ht:Trn ρ h (ρ++[H.length]) (h++[o]) []:=Trn.mk (λid o' e _=>⟨o',by rw[List.getElem?_append_left (List.getElem?_eq_some_iff.1 e).1];exact e,lW.refl _⟩) (λid hid=>fD (by rw[hs.rl];exact hid))
 refine⟨⟨by simp[hs.rl],?_,λi o' e=>?_⟩,ht,by simp,λj hj _=>List.getElem?_append_left hj,⟨[H.length],rfl,by simp⟩,by simp⟩
 .rw[List.nodup_append]
  refine⟨hs.nd,by simp,λa ha b hb=>?_⟩
  simp at hb
  have:=hs.Qq ha
  omega
 .rcases Nat.lt_or_ge i h.length with hi|hi
  .rw[List.getElem?_append_left hi]at e
   obtain⟨O',hO',hR⟩:=hs.hr i o' e
   refine⟨O',by rw[fD (by rw[hs.rl];exact hi),List.getElem?_append_left (hs.lt hi)];exact hO',?_⟩
   have:=ht.obj hR
   rw[oZ]at this;exact this
  .have hi':i=h.length:=by have:=(List.getElem?_eq_some_iff.1 e).1;simp at this;omega
   subst hi'
   rw[List.getElem?_append_right (Nat.le_refl _)]at e
   simp at e
   subst e
   refine⟨O,by rw[<- hs.rl];simp[List.getD],?_⟩
   have:=ht.obj ho
   rw[oZ]at this;exact this
theorem Upd.set(hs:HS ρ h H){id:Nat}{o o':XO}{O':ah}(he:h[id]?=some o)(hs2:lW o o')(ho:mW ρ h o' O'):Upd ρ h H ρ (h.set id o') (H.set (ρ.getD id 0) O') [] [id]:=by
 have hid:id<h.length:=(List.getElem?_eq_some_iff.1 he).1
 have ht:Trn ρ h ρ (h.set id o') []:=Trn.mk (λj oj e _=>by
  by_cases hj:id=j
  .subst hj;rw[he]at e;cases e;exact⟨o',by rw[List.getElem?_set_self hid],hs2⟩
  .exact⟨oj,by rw[List.getElem?_set_ne hj];exact e,lW.refl _⟩) (λ_ _=>rfl)
 refine⟨⟨by simp[hs.rl],hs.nd,λi oi e=>?_⟩,ht,by simp,λj hj hn=>?_,⟨[],by simp,by simp⟩,by simp⟩
 .by_cases hi:id=i
  .subst hi
   rw[List.getElem?_set_self hid]at e
   cases e
   refine⟨O',by rw[List.getElem?_set_self (hs.lt hid)],?_⟩
   have:=ht.obj ho
   rw[oZ]at this;exact this
  .rw[List.getElem?_set_ne hi]at e
   have hil:=(List.getElem?_eq_some_iff.1 e).1
   obtain⟨O1,hO1,hR⟩:=hs.hr i oi e
   refine⟨O1,by rw[List.getElem?_set_ne (λq=>hi (hs.inj hid hil q))];exact hO1,?_⟩
   have:=ht.obj hR
   rw[oZ]at this;exact this
 .rw[List.getElem?_set_ne (hn id (by simp) hid)]
theorem Upd.app(hs:HS ρ h H){id ty:Nat}{T:Ty}{fz fz':Bool}{es es':List T.den}{O':ah}(he:h[id]?=some (.row ty T fz es))(ho:mW ρ h (.row ty T fz' es') O'):Upd ρ h H ρ (jV [id] (h.set id (.row ty T fz' es'))) (H.set (ρ.getD id 0) O') [id] [id]:=by
 have hid:id<h.length:=(List.getElem?_eq_some_iff.1 he).1
 rw[mQ]
 have ht:Trn ρ h ρ ((h.set id (.row ty T fz' es')).map (eT [id])) [id]:=Trn.mk (λj oj e hj=>by
  refine⟨eT [id] oj,by rw[List.getElem?_map,List.getElem?_set_ne (by simpa using λq=>hj (by simp[q])),e];rfl,?_⟩
  cases oj<;>simp[lW,eT]) (λ_ _=>rfl)
 refine⟨⟨by simp[hs.rl],hs.nd,λi oi e=>?_⟩,ht,by simp,λj hj hn=>?_,⟨[],by simp,by simp⟩,by simp⟩
 .rw[List.getElem?_map]at e
  by_cases hi:id=i
  .subst hi
   rw[List.getElem?_set_self hid]at e
   cases e
   exact⟨O',by rw[List.getElem?_set_self (hs.lt hid)],ho⟩
  .rw[List.getElem?_set_ne hi]at e
   cases hx:h[i]? with
   |none=>rw[hx]at e;cases e
   |some ox =>
    rw[hx]at e;cases e
    have hil:=(List.getElem?_eq_some_iff.1 hx).1
    obtain⟨O1,hO1,hR⟩:=hs.hr i ox hx
    exact⟨O1,by rw[List.getElem?_set_ne (λq=>hi (hs.inj hid hil q))];exact hO1,ht.obj hR⟩
 .rw[List.getElem?_set_ne (hn id (by simp) hid)]
theorem Upd.trans{kl kl' tch ZH:List Nat}(h1:Upd ρ h H ρ' h' H' kl tch)(h2:Upd ρ' h' H' ρ'' h'' H'' kl' ZH)(hρ:ρ.length=h.length):Upd ρ h H ρ'' h'' H'' (kl++kl') (tch++ZH):=by
 obtain⟨n1,e1,q1⟩:=h1.ap
 obtain⟨n2,e2,q2⟩:=h2.ap
 refine⟨h2.hs,h1.tr.trans h2.tr,Nat.le_trans h1.ge h2.ge,λj hj hn=>?_,⟨n1++n2,by rw[e2,e1,List.append_assoc],λx hx=>?_⟩,Nat.le_trans h1.hl h2.hl⟩
 .rw[h2.fr j (Nat.lt_of_lt_of_le hj h1.ge) (λid hid hlt=>?_),h1.fr j hj (λid hid=>hn id (by simp[hid]))]
  rcases Nat.lt_or_ge id h.length with hl|hl
  .rw[e1,fD (by rw[hρ];exact hl)];exact hn id (by simp[hid]) hl
  .intro hq
   have hl':id<ρ'.length:=by rw[h1.hs.rl];exact hlt
   have:ρ'.getD id 0∈n1:=by
    rw[e1]at hl' ⊢
    simp only[List.length_append]at hl'
    have:(ρ++n1).getD id 0=n1[id-ρ.length]'(by omega):=by
     simp only[List.getD]
     rw[List.getElem?_append_right (by omega),List.getElem?_eq_getElem (by omega)];rfl
    rw[this];exact List.getElem_mem _
   have:=q1 _ this
   omega
 .rcases List.mem_append.1 hx with hx|hx
  .exact q1 x hx
  .exact Nat.le_trans h1.ge (q2 x hx)
def isRow(h:List XO)(id:Nat):Prop:=∃ty T fz es,h[id]?=some (.row ty T fz es)
theorem Upd.frz:∀(ids:List Nat) {h:List XO} {H:List ah},HS ρ h H->(∀id∈ids,isRow h id)->Upd ρ h H ρ (dU h ids) (freeze H (ids.map λid=>ρ.getD id 0)) [] ids:=by
 intro ids
 induction ids with
 |nil=>intro h H hs _;exact Upd.same hs
 |cons id ids ih =>
  intro h H hs hr
  obtain⟨ty,T,fz,es,e⟩:=hr id (by simp)
  obtain⟨O,hO,o1,o2,o3,o4,o5⟩:=hs.hr id _ e
  have hlen:O.es.length=es.length:=by have:=o5.1;simpa using this
  have u1:Upd ρ h H ρ (h.set id (.row ty T true es)) (H.set (ρ.getD id 0) { O with fz:=O.es.length }) [] [id] :=
   Upd.set hs e ⟨rfl,rfl,rfl⟩ ⟨o1,o2,o3,by simp[hlen],o5⟩
  have u2:=ih u1.hs (λj hj=>by
   obtain⟨ty',T',fz',es',e'⟩:=hr j (by simp[hj])
   by_cases hij:id=j
   .subst hij;exact⟨ty,T,true,es,by rw[List.getElem?_set_self (List.getElem?_eq_some_iff.1 e).1]⟩
   .exact⟨ty',T',fz',es',by rw[List.getElem?_set_ne hij];exact e'⟩)
  have e1:dU h (id::ids)=dU (h.set id (.row ty T true es)) ids:=by simp only[dU,List.foldl_cons,e];rfl
  have e2:freeze H ((id::ids).map λid=>ρ.getD id 0)=freeze (H.set (ρ.getD id 0) { O with fz:=O.es.length }) (ids.map λid=>ρ.getD id 0):=by simp only[freeze,List.map_cons,List.foldl_cons,hO]
  rw[e1,e2]
  exact u1.trans u2 hs.rl
end
section
variable{ρ:List Nat}{h:List XO}{H:List ah}
def rz(ρ:List Nat)(h:List XO)(H:List ah)(x:XV)(a e:AV):Prop :=
 ∃b,dN H a=some b/\Wp b e/\aR a=(bq x).map (λid=>ρ.getD id 0)/\∀id∈bq x,isRow h id
theorem a1I{x:XV}{a:AV}(hv:V1 ρ h x a):V1 ρ h (lst x) a:=by
 unfold lst
 split
 .rename_i e o
  cases o with
  |none=>have:=Wp.aH hv;subst this;exact Wp.nil _
  |some xs=>exact hv
 .exact hv
theorem J4{x:XV}{a:AV}(hv:VA ρ h x a):VA ρ h (lst x) a:=by
 by_cases ha:∃cs,x=.agg cs
 .obtain⟨cs,rfl⟩:=ha;exact hv
 .exact VA.of1 (a1I (by cases x<;>first|exact hv|exact absurd ⟨_,rfl⟩ ha))
theorem Cw{x:XV}{a:AV}(hv:VT ρ h x a):VT ρ h (lst x) a:=by
 by_cases ha:∃cs,x=.tup cs
 .obtain⟨cs,rfl⟩:=ha;exact hv
 .exact VT.ofA (J4 (by cases x<;>first|exact hv|exact absurd ⟨_,rfl⟩ ha))
theorem Uy(x:XV):bq (lst x)=bq x:=by
 unfold lst
 split<;>rfl
def DLs(ρ:List Nat)(h:List XO)(H:List ah)(fs:List Ty):Prop :=
 ∀(cs:List XV) (as:List AV) (z:Ty.aD fs) (r:List XV),au (V1 ρ h) cs as->oH h fs cs=some (z,r)->
  ∃cs1 as1 as2 bs,cs=cs1++r/\as=as1++as2/\au (V1 ρ h) r as2/\gu H as1=some bs/\au Wp bs (Ty.bM fs z)/\as1.flatMap jc=(cs1.flatMap dX).map (λid=>ρ.getD id 0)/\∀id∈cs1.flatMap dX,isRow h id
theorem Ny:∀{l m l' m':List AV},gu H l=some l'->gu H m=some m'->gu H (l++m)=some (l'++m'):=by
 intro l
 induction l with
 |nil=>intro m l' m' h1 h2;cases h1;exact h2
 |cons a l ih =>
  intro m l' m' h1 h2
  simp only[gu]at h1
  split at h1
  .rename_i b n hb hn
   cases h1
   simp only[List.cons_append,gu,hb,ih hn h2]
  .cases h1
theorem vJ{T T':Ty}{y:T'.den}{z:T.den}{a:AV}(hc:bC y=some z)(hv:VA ρ h (.d T' y) a):rz ρ h H (.d T' y) a (Ty.enc T z):=by
 obtain⟨rfl,rfl⟩:=dR hc
 obtain⟨k1,k2⟩:=yV (x:=z) hv H
 exact⟨a,k1,hv,k2,by simp[bq,dX]⟩
theorem EI {t:Ty} (ht:¬ ∃ gs,t=.tup gs) (ts:List Ty) (cs:List XV):oH h (t :: ts) cs=match cs with
  |[]=>none
  |c::r=>match toD h t c with
   |some x=>match oH h ts r with
    |some (y,r')=>some ((x,y),r')
    |none=>none
   |none=>none:=by
 cases t<;>first|exact absurd ⟨_,rfl⟩ ht|(cases cs<;>rfl)
theorem qC(hs:HS ρ h H){id off len ty:Nat}{T:Ty}{fz:Bool}{es:List T.den}(he:h[id]?=some (.row ty T fz es)):iM H (.row (ρ.getD id 0) es.length T.size off len)=some (.list T.size ((((H[ρ.getD id 0]?).map (·.es)).getD []).drop off |>.take len))/\Wp (.list T.size ((((H[ρ.getD id 0]?).map (·.es)).getD []).drop off |>.take len)) (Ty.enc (.list T) ((es.drop off).take len)):=by
 obtain⟨O,hO,o1,o2,o3,o4,o5⟩:=hs.hr id _ he
 have hlen:O.es.length=es.length:=by have:=o5.1;simpa using this
 refine⟨by simp only[iM,hO,hlen,o2,o3,true_and,and_self,if_true,Option.map_some,Option.getD_some],?_⟩
 simp only[hO,Option.map_some,Option.getD_some]
 have:=(o5.drop off).take len
 show Wp _ (.list T.size (((es.drop off).take len).map (Ty.enc T)))
 rw[List.map_take,List.map_drop]
 exact .list _ _ _ this.1 this.2
theorem OX{e:Ty}{v:Value}{z:Ty.den (.cZ e)}(hx:toD h (.cZ e) (.k v)=some z):v=.slice none 0 0/\z=none:=by
 cases v with
 |slice ad n c =>
  cases ad with
  |some _=>cases hx
  |none =>
   cases n with
   |succ n=>cases hx
   |zero =>
    cases c with
    |succ c=>cases hx
    |zero=>exact⟨rfl,(Option.some.inj hx).symm⟩
 |_=>cases hx
theorem OW{ty sz:Nat}{v:Value}{z:Ty.den (.rl ty sz)}(hx:toD h (.rl ty sz) (.k v)=some z):v=.slice none 0 0/\z=[]:=by
 cases v with
 |slice ad n c =>
  cases ad with
  |some _=>cases hx
  |none =>
   cases n with
   |succ n=>cases hx
   |zero =>
    cases c with
    |succ c=>cases hx
    |zero=>exact⟨rfl,(Option.some.inj hx).symm⟩
 |_=>cases hx
theorem OU(hs:HS ρ h H)(T:Ty):(∀(x:XV) (z:T.den) (a:AV),toD h T x=some z->VA ρ h x a->rz ρ h H x a (Ty.enc T z))/\∀gs,T=.tup gs->DLs ρ h H gs:=by
 have wh:∀(T:Ty),(∀x,toD h T x=match(generalizing:=false) x with|.d T' x=>bC x|_=>none)->∀(x:XV) (z:T.den) (a:AV),toD h T x=some z->VA ρ h x a->rz ρ h H x a (Ty.enc T z):=by
  intro T hT x z a hz hv
  rw[hT]at hz
  cases x with
  |d T' y=>exact vJ hz hv
  |_=>cases hz
 refine Ty.rec (motive_1:=λT=>(∀(x:XV) (z:T.den) (a:AV),toD h T x=some z->VA ρ h x a->rz ρ h H x a (Ty.enc T z))/\∀gs,T=.tup gs->DLs ρ h H gs)
  (motive_2:=λfs=>DLs ρ h H fs) ?_ ?_ ?_ ?_ ?_ ?_ ?_ ?_ ?_ ?_ T
 .intro k;exact⟨wh (.int k) (λx=>by cases x<;>simp only[toD]),λgs q=>by cases q⟩
 .exact⟨wh .bool (λx=>by cases x<;>simp only[toD]),λgs q=>by cases q⟩
 .exact⟨wh .str (λx=>by cases x<;>simp only[toD]),λgs q=>by cases q⟩
 .intro e _
  refine⟨λx z a hz hv=>?_,λgs q=>by cases q⟩
  simp only[toD]at hz
  have hv:=J4 hv
  unfold rz
  rw[<- Uy x]
  show rz ρ h H (lst x) a _
  generalize lst x=x at hz hv
  cases x with
  |d T' y=>exact vJ hz hv
  |k v =>
   split at hz
   all_goals first|(cases ‹_=_›;done)|skip
   all_goals try (rename_i q;cases q)
   all_goals first
    |(cases hz;done)
    |(cases hz;have hv:a=.v (.slice none 0 0):=hv;subst hv;exact⟨_,rfl,Wp.nil _,rfl,by simp[bq,dX]⟩)
  |row id =>
   obtain⟨ty,T,fz,es,he,rfl⟩:=hv
   simp only[he]at hz
   obtain⟨q,rfl⟩:=dR hz
   cases q
   obtain⟨k1,k2⟩:=qC hs (off:=0) (len:=es.length) he
   refine⟨_,k1,?_,rfl,?_⟩
   .simpa using k2
   .simp[bq,dX];exact⟨_,_,_,_,he⟩
  |sub id off len =>
   obtain⟨ty,T,fz,es,he,rfl⟩:=hv
   simp only[he]at hz
   obtain⟨q,rfl⟩:=dR hz
   cases q
   obtain⟨k1,k2⟩:=qC hs (off:=off) (len:=len) he
   refine⟨_,k1,k2,rfl,?_⟩
   simp[bq,dX];exact⟨_,_,_,_,he⟩
  |_=>simp at hz
 .intro fs ih
  refine⟨λx z a hz hv=>?_,λgs q=>by cases q;exact ih⟩
  cases x with
  |d T' y=>simp only[toD]at hz;exact vJ hz hv
  |agg cs =>
   simp only[toD]at hz
   split at hz
   .rename_i z' hz'
    have hzz:z'=z:=Option.some.inj hz
    subst hzz
    obtain⟨as,rfl,hc⟩:=hv
    obtain⟨cs1,as1,as2,bs,rfl,rfl,h2,hk,hw,hrows,hval⟩:=ih cs as z' [] hc hz'
    have:=h2.fK
    subst this
    simp only[List.append_nil]
    refine⟨.agg bs,by simp[dN,hk],.agg _ _ hw.1 hw.2,hrows,hval⟩
   .cases hz
  |_=>simp[toD]at hz
 .intro f;exact⟨wh (.fnc f) (λx=>by cases x<;>simp only[toD]),λgs q=>by cases q⟩
 .intro e _
  refine⟨λx z a hz hv=>?_,λgs q=>by cases q⟩
  cases x with
  |d T' y =>
   simp only[toD]at hz
   split at hz
   .rename_i o ho;cases hz;exact vJ ho hv
   .split at hz
    .rename_i xs hxs
     cases hz
     exact(show rz ρ h H (.d T' y) a (Ty.enc (.list e) xs) from vJ hxs hv)
    .cases hz
  |k v =>
   obtain⟨rfl,rfl⟩:=OX hz
   have hv:a=.v (.slice none 0 0):=hv
   subst hv
   exact⟨_,rfl,Wp.refl _,rfl,by simp[bq,dX]⟩
  |row id =>
   obtain⟨ty,T,fz,es,he,rfl⟩:=hv
   simp only[toD,he]at hz
   split at hz
   .rename_i xs hxs
    cases hz
    obtain⟨q,rfl⟩:=dR hxs
    cases q
    obtain⟨k1,k2⟩:=qC hs (off:=0) (len:=es.length) he
    refine⟨_,k1,?_,rfl,?_⟩
    .show Wp _ (Ty.enc (.list e) es)
     simpa using k2
    .simp[bq,dX];exact⟨_,_,_,_,he⟩
   .cases hz
  |sub id off len =>
   obtain⟨ty,T,fz,es,he,rfl⟩:=hv
   simp only[toD,he]at hz
   split at hz
   .rename_i xs hxs
    cases hz
    obtain⟨q,rfl⟩:=dR hxs
    cases q
    obtain⟨k1,k2⟩:=qC hs (off:=off) (len:=len) he
    refine⟨_,k1,k2,rfl,?_⟩
    simp[bq,dX];exact⟨_,_,_,_,he⟩
   .cases hz
  |_=>simp[toD]at hz
 .intro ty sz
  refine⟨λx z a hz hv=>?_,λgs q=>by cases q⟩
  cases x with
  |d T' y=>simp only[toD]at hz;exact vJ hz hv
  |k v =>
   obtain⟨rfl,rfl⟩:=OW hz
   have hv:a=.v (.slice none 0 0):=hv
   subst hv
   exact⟨_,rfl,Wp.nil _,rfl,by simp[bq,dX]⟩
  |row id =>
   obtain⟨ty',T,fz,es,he,rfl⟩:=hv
   simp only[toD,he]at hz
   split at hz
   .rename_i hq
    simp only[Bool.and_eq_true]at hq
    have h2:=Nat.eq_of_beq_eq_true hq.2
    subst h2
    cases hz
    obtain⟨k1,k2⟩:=qC hs (off:=0) (len:=es.length) he
    refine⟨_,k1,?_,rfl,?_⟩
    .have k2':Wp _ (.list T.size (List.map (Ty.enc T) ((es.drop 0).take es.length))):=k2
     have e0:(es.drop 0).take es.length=es:=by rw[List.drop_zero,List.take_length]
     rw[e0]at k2'
     exact k2'
    .simp[bq,dX];exact⟨_,_,_,_,he⟩
   .cases hz
  |sub id off len =>
   obtain⟨ty',T,fz,es,he,rfl⟩:=hv
   simp only[toD,he]at hz
   split at hz
   .rename_i hq
    simp only[Bool.and_eq_true]at hq
    have h2:=Nat.eq_of_beq_eq_true hq.2
    subst h2
    cases hz
    obtain⟨k1,k2⟩:=qC hs (off:=off) (len:=len) he
    refine⟨_,k1,k2,rfl,?_⟩
    simp[bq,dX];exact⟨_,_,_,_,he⟩
   .cases hz
  |_=>simp[toD]at hz
 .intro cs as z r hc hz
  simp only[oH]at hz
  cases hz
  exact⟨[],[],as,[],rfl,rfl,hc,rfl,.nil,rfl,by simp⟩
 .intro t ts h1 h2 cs as z r hc hz
  by_cases ht:∃gs,t=.tup gs
  .obtain⟨gs,rfl⟩:=ht
   simp only[oH]at hz
   split at hz
   .rename_i x r1 hx
    split at hz
    .rename_i y r2 hy
     cases hz
     obtain⟨cs1,as1,as2,bs,rfl,rfl,q2,hk,hw,hrows,hval⟩:=h1.2 gs rfl cs as x r1 hc hx
     obtain⟨cs3,as3,as4,bs',rfl,rfl,q2',hk',hw',Jh,hval'⟩:=h2 _ _ y r q2 hy
     refine⟨cs1++cs3,as1++as3,as4,bs++bs',by simp,by simp,q2',Ny hk hk',?_,by simp[hrows,Jh],λid hid=>?_⟩
     .simp only[Ty.bM];exact hw.append hw'
     .simp only[List.flatMap_append,List.mem_append]at hid
      rcases hid with q|q
      .exact hval id q
      .exact hval' id q
    .cases hz
   .cases hz
  .rw[EI ht]at hz
   cases cs with
   |nil=>cases hz
   |cons c cr =>
    simp only at hz
    split at hz
    .rename_i x hx
     split at hz
     .rename_i y r2 hy
      cases hz
      obtain⟨a,as',rfl,hv,hc'⟩:=hc.dK
      obtain⟨b,kb,wb,rb,vb⟩:=h1.1 c x a hx (VA.of1 hv)
      obtain⟨cs3,as3,as4,bs',rfl,rfl,q2',hk',hw',Jh,hval'⟩:=h2 _ _ y r hc' hy
      have NP:t.dL=false:=by cases t<;>first|rfl|exact absurd ⟨_,rfl⟩ ht
      have hpb:Pl1 b:=by
       rcases iB (T:=t) (x:=x) with⟨q,_⟩|⟨_,q⟩
       .rw[NP]at q;cases q
       .exact q.of_wp wb
      have hna:∀us,a≠.agg us:=λus q=>by
       subst q
       simp only[dN,Option.map_eq_some_iff]at kb
       obtain⟨_,_,q⟩:=kb
       subst q
       rcases hpb with⟨_,q,_⟩|⟨_,_,q⟩<;>cases q
      have kb1:iM H a=some b:=by cases a<;>first|exact kb|exact absurd rfl (hna _)
      have rb1:jc a=aR a:=by cases a<;>first|rfl|exact absurd rfl (hna _)
      have rx1:dX c=bq c:=by cases c<;>first|rfl|exact hv.elim
      refine⟨c::cs3,a::as3,as4,b::bs',by simp,by simp,q2',by simp only[gu,kb1,hk'],?_,by simp[Jh,rb1,rb,rx1],λid hid=>?_⟩
      ·have UR:(Ty.enc t x).cells=[Ty.enc t x]:=by
        rcases iB (T:=t) (x:=x) with⟨q,_⟩|⟨_,q⟩
        .rw[NP]at q;cases q
        .exact q.cells
       show au Wp (b::bs') ((Ty.enc t x).cells++Ty.bM ts y)
       rw[UR]
       exact .cons wb hw'
      .simp only[List.flatMap_cons,List.mem_append]at hid
       rcases hid with q|q
       .exact vb id (rx1▸q)
       .exact hval' id q
     .cases hz
    .cases hz
theorem pY(hs:HS ρ h H){T:Ty}{x:XV}{z:T.den}{a:AV}(hz:toD h T x=some z)(hv:VA ρ h x a):rz ρ h H x a (Ty.enc T z):=(OU hs T).1 x z a hz hv
theorem OT(T:Ty):(∀(x:XV) (z:T.den) (a:AV),toD [] T x=some z->VA ρ h x a->Wp a (Ty.enc T z))/\∀gs,T=.tup gs->∀(cs:List XV) (as:List AV) (z:Ty.aD gs) (r:List XV),au (V1 ρ h) cs as->oH [] gs cs=some (z,r)->∃as1 as2,as=as1++as2/\au (V1 ρ h) r as2/\au Wp as1 (Ty.bM gs z):=by
 have dd:∀(T T':Ty) (y:T'.den) (z:T.den) (a:AV),bC y=some z->VA ρ h (.d T' y) a->Wp a (Ty.enc T z):=by
  intro T T' y z a hc hv
  obtain⟨rfl,rfl⟩:=dR hc
  exact hv
 have wh:∀(T:Ty),(∀x,toD [] T x=match(generalizing:=false) x with|.d T' x=>bC x|_=>none)->∀(x:XV) (z:T.den) (a:AV),toD [] T x=some z->VA ρ h x a->Wp a (Ty.enc T z):=by
  intro T hT x z a hz hv
  rw[hT]at hz
  cases x with
  |d T' y=>exact dd _ _ _ _ _ hz hv
  |_=>cases hz
 refine Ty.rec (motive_1:=λT=>(∀(x:XV) (z:T.den) (a:AV),toD [] T x=some z->VA ρ h x a->Wp a (Ty.enc T z))/\∀gs,T=.tup gs->∀(cs:List XV) (as:List AV) (z:Ty.aD gs) (r:List XV),au (V1 ρ h) cs as->oH [] gs cs=some (z,r)->∃as1 as2,as=as1++as2/\au (V1 ρ h) r as2/\au Wp as1 (Ty.bM gs z))
  (motive_2:=λgs=>∀(cs:List XV) (as:List AV) (z:Ty.aD gs) (r:List XV),au (V1 ρ h) cs as->oH [] gs cs=some (z,r)->∃as1 as2,as=as1++as2/\au (V1 ρ h) r as2/\au Wp as1 (Ty.bM gs z)) ?_ ?_ ?_ ?_ ?_ ?_ ?_ ?_ ?_ ?_ T
 .intro k;exact⟨wh (.int k) (λx=>by cases x<;>simp only[toD]),λgs q=>by cases q⟩
 .exact⟨wh .bool (λx=>by cases x<;>simp only[toD]),λgs q=>by cases q⟩
 .exact⟨wh .str (λx=>by cases x<;>simp only[toD]),λgs q=>by cases q⟩
 .intro e _
  refine⟨λx z a hz hv=>?_,λgs q=>by cases q⟩
  simp only[toD]at hz
  have hv:=J4 hv
  generalize lst x=x at hz hv
  cases x with
  |d T' y=>exact dd _ _ _ _ _ hz hv
  |k v =>
   split at hz
   all_goals first|(cases ‹_=_›;done)|skip
   all_goals try (rename_i q;cases q)
   all_goals first
    |(cases hz;done)
    |(cases hz;have hv:a=.v (.slice none 0 0):=hv;subst hv;exact Wp.nil _)
  |_=>simp at hz
 .intro fs ih
  refine⟨λx z a hz hv=>?_,λgs q=>by cases q;exact ih⟩
  cases x with
  |d T' y=>simp only[toD]at hz;exact dd _ _ _ _ _ hz hv
  |agg cs =>
   simp only[toD]at hz
   split at hz
   .rename_i z' hz'
    have hzz:z'=z:=Option.some.inj hz
    subst hzz
    obtain⟨as,rfl,hc⟩:=hv
    obtain⟨as1,as2,rfl,h2,hw⟩:=ih cs as z' [] hc hz'
    have:=h2.fK
    subst this
    rw[List.append_nil]
    exact .agg _ _ hw.1 hw.2
   .cases hz
  |_=>simp[toD]at hz
 .intro f;exact⟨wh (.fnc f) (λx=>by cases x<;>simp only[toD]),λgs q=>by cases q⟩
 .intro e _
  refine⟨λx z a hz hv=>?_,λgs q=>by cases q⟩
  cases x with
  |d T' y =>
   simp only[toD]at hz
   split at hz
   .rename_i o ho;cases hz;exact dd _ _ _ _ _ ho hv
   .split at hz
    .rename_i xs hxs
     cases hz
     exact(show Wp a (Ty.enc (.list e) xs) from dd _ _ _ _ _ hxs hv)
    .cases hz
  |k v =>
   obtain⟨rfl,rfl⟩:=OX hz
   have hv:a=.v (.slice none 0 0):=hv
   subst hv
   exact Wp.refl _
  |_=>simp[toD]at hz
 .intro ty sz
  refine⟨λx z a hz hv=>?_,λgs q=>by cases q⟩
  cases x with
  |d T' y=>simp only[toD]at hz;exact dd _ _ _ _ _ hz hv
  |k v =>
   obtain⟨rfl,rfl⟩:=OW hz
   have hv:a=.v (.slice none 0 0):=hv
   subst hv
   exact Wp.nil _
  |_=>simp[toD]at hz
 .intro cs as z r hc hz
  simp only[oH]at hz
  cases hz
  exact⟨[],as,rfl,hc,.nil⟩
 .intro t ts h1 h2 cs as z r hc hz
  by_cases ht:∃gs,t=.tup gs
  .obtain⟨gs,rfl⟩:=ht
   simp only[oH]at hz
   split at hz
   .rename_i x r1 hx
    split at hz
    .rename_i y r2 hy
     cases hz
     obtain⟨as1,as2,rfl,q2,hw⟩:=h1.2 gs rfl cs as x r1 hc hx
     obtain⟨as3,as4,rfl,q2',hw'⟩:=h2 _ _ y r q2 hy
     refine⟨as1++as3,as4,by simp,q2',?_⟩
     simp only[Ty.bM];exact hw.append hw'
    .cases hz
   .cases hz
  .rw[EI ht]at hz
   cases cs with
   |nil=>cases hz
   |cons c cr =>
    simp only at hz
    split at hz
    .rename_i x hx
     split at hz
     .rename_i y r2 hy
      cases hz
      obtain⟨a,as',rfl,hv,hc'⟩:=hc.dK
      have wb:=h1.1 c x a hx (VA.of1 hv)
      obtain⟨as3,as4,rfl,q2',hw'⟩:=h2 _ _ y r hc' hy
      have NP:t.dL=false:=by cases t<;>first|rfl|exact absurd ⟨_,rfl⟩ ht
      refine⟨a::as3,as4,by simp,q2',?_⟩
      have UR:(Ty.enc t x).cells=[Ty.enc t x]:=by
       rcases iB (T:=t) (x:=x) with⟨q,_⟩|⟨_,q⟩
       .rw[NP]at q;cases q
       .exact q.cells
      show au Wp (a::as3) ((Ty.enc t x).cells++Ty.bM ts y)
      rw[UR]
      exact .cons wb hw'
     .cases hz
    .cases hz
theorem fJ{T:Ty}{x:XV}{z:T.den}{a:AV}(hz:toD [] T x=some z)(hv:VA ρ h x a):Wp a (Ty.enc T z):=(OT T).1 x z a hz hv
end
section
variable{ρ:List Nat}{h:List XO}{H:List ah}{σ:St}{Gl:Nat->Option (List AV)}{rd:Opd->XV}{tt:Nat->Option Ty}
theorem dH{k:IntKind}{n:Int}{a:AV}(hv:VT ρ h (.d (.int k) n) a):a=.v (.int k n):=Wp.aH hv
theorem kg{b:Bool}{a:AV}(hv:VT ρ h (.d .bool b) a):a=.v (.bool b):=Wp.aH hv
theorem sW{s:ByteArray}{a:AV}(hv:VT ρ h (.d .str s) a):a=.v (.string s):=Wp.aH hv
theorem Zy{f:FuncId}{u:Unit}{a:AV}(hv:VT ρ h (.d (.fnc f) u) a):a=.v (.func (.func f) #[] #[]):=Wp.aH hv
theorem Af{v:Value}{a:AV}(hv:VT ρ h (.k v) a):a=.v v:=hv
theorem VT.jC{x:XV}{a:AV}(hv:VT ρ h x a)(hx:∀vs,x≠.tup vs):VA ρ h x a:=by
 cases x<;>first|exact hv|exact absurd rfl (hx _)
theorem Du{T:Ty}{x:T.den}{a:AV}(hw:Wp a (Ty.enc T x)):VT ρ h (.d T x) a:=hw
theorem QH{a b:Int}(h:iLe a b=true):a<=b:=of_decide_eq_true h
theorem Sl {k:IntKind} {a b:Int} {op:BinOp} {p:Bool} {v:XV} (hx:LU k a b op=some (p,v)) (hp:p=true):∃ q r,lT op (.int k a) (.int k b)=some (q,r)/\q/\VT ρ h v (.v r):=by
  subst hp
  cases op<;>simp only[LU,Option.some.injEq,Prod.mk.injEq,reduceCtorEq]at hx
  all_goals first
    |(exact hx.elim;done)
    | (obtain ⟨hp,rfl⟩:=hx
       refine⟨_,_,by simp only[lT,if_true];rfl,?_,Wp.refl _⟩
       first|trivial|(simp[iNe]at hp;exact hp))
theorem Sk {a b:ByteArray} {op:BinOp} {p:Bool} {v:XV} (hx:LP a b op=some (p,v)) (hp:p=true):∃ q r,lT op (.string a) (.string b)=some (q,r)/\q/\VT ρ h v (.v r):=by
  subst hp
  cases op<;>simp only[LP,Option.some.injEq,Prod.mk.injEq,reduceCtorEq]at hx
  all_goals first
    |(exact hx.elim;done)
    | (obtain ⟨hp,rfl⟩:=hx
       refine⟨_,_,by simp only[lT];rfl,?_,Wp.refl _⟩
       first|trivial|(exact of_decide_eq_true hp))
theorem WZ{op:BinOp}{x y v:XV}{p:Bool}{a b:AV}(hx:Sm op x y=some (p,v))(hp:p=true)(ha:VT ρ h x a)(hb:VT ρ h y b):∃va vb q r,a=.v va/\b=.v vb/\lT op va vb=some (q,r)/\q/\VT ρ h v (.v r):=by
 unfold Sm at hx
 split at hx
 .rename_i k m k' n
  have ea:=dH ha
  have eb:=dH hb
  split at hx
  .cases hx;exact⟨_,_,_,_,ea,eb,rfl,QH hp,Wp.refl _⟩
  .cases hx;exact⟨_,_,_,_,ea,eb,rfl,QH hp,Wp.refl _⟩
  .split at hx
   .rename_i hk
    subst hk
    obtain⟨q,r,h1,h2,h3⟩:=Sl (ρ:=ρ) (h:=h) hx hp
    exact⟨_,_,q,r,ea,eb,h1,h2,h3⟩
   .cases hx
 .have ea:=sW ha
  have eb:=sW hb
  obtain⟨q,r,h1,h2,h3⟩:=Sk (ρ:=ρ) (h:=h) hx hp
  exact⟨_,_,q,r,ea,eb,h1,h2,h3⟩
 .cases hx
theorem yT{x:XV}{n:Int}{a:AV}(hx:Dp x=some n)(ha:VT ρ h x a):asN a=some n:=by
 unfold Dp at hx
 split at hx
 .cases hx;rw[dH ha];rfl
 .cases hx
theorem yI{l u:Int}{n:Nat}(h:pI l u n=true):0<=l/\l<=u/\u<=n:=by
 simp only[pI,Bool.and_eq_true,decide_eq_true_eq]at h
 exact⟨h.1.1,h.1.2,h.2⟩
theorem lC{n:Nat}{lo hi:Option Opd}{p:Bool}{l u:Int}(hrd:∀o,VT ρ h (rd o) (σ.val Gl o))(hx:nA n (lo.map rd) (hi.map rd)=some (p,l,u))(hp:p=true):fB n (lo.map (σ.val Gl)) (hi.map (σ.val Gl))=some (0<=l/\l<=u/\u<=n,l,u)/\(0<=l/\l<=u/\u<=n):=by
 cases lo with
 |none =>
  cases hi with
  |none=>cases hx;exact⟨rfl,by omega⟩
  |some b =>
   simp only[nA,Option.map_none,Option.map_some]at hx
   split at hx
   .rename_i m hm
    cases hx
    exact⟨by simp only[fB,Option.map_none,Option.map_some,yT hm (hrd b)],yI hp⟩
   .cases hx
 |some a =>
  cases hi with
  |none =>
   simp only[nA,Option.map_none,Option.map_some]at hx
   split at hx
   .rename_i m hm
    cases hx
    exact⟨by simp only[fB,Option.map_none,Option.map_some,yT hm (hrd a)],yI hp⟩
   .cases hx
  |some b =>
   simp only[nA,Option.map_some]at hx
   split at hx
   .rename_i m m' hm hm'
    cases hx
    exact⟨by simp only[fB,Option.map_some,yT hm (hrd a),yT hm' (hrd b)],yI hp⟩
   .cases hx
theorem G6(v:Value):V1 ρ h (vx1 v) (.v v):=by
 cases v with
 |int k n=>exact Wp.refl _
 |bool b=>exact Wp.refl _
 |string s=>exact Wp.refl _
 |func fn a b =>
  cases fn with
  |func f =>
   simp only[vx1]
   split
   .rename_i h1 h2
    have e1:a=#[]:=by simpa using h1
    have e2:b=#[]:=by simpa using h2
    subst e1 e2
    exact Wp.refl _
   .rfl
  |_=>rfl
 |_=>rfl
theorem LZ{x:XV}{a:AV}(hv:V1 ρ h x a)(hx:okX x=true):st1 false a=true/\a.cells=[a]:=by
 cases x with
 |d T y =>
  rcases iB (x:=y) with⟨q,_⟩|⟨_,q⟩
  .simp[okX,q]at hx
  .exact⟨(q.of_wp hv).st false,(q.of_wp hv).cells⟩
 |k v=>have hv:a=.v v:=hv;subst hv;exact⟨hx,rfl⟩
 |row id=>obtain⟨_,_,_,_,_,rfl⟩:=hv;exact⟨rfl,rfl⟩
 |sub id o l=>obtain⟨_,_,_,_,_,rfl⟩:=hv;exact⟨rfl,rfl⟩
 |ptr id i o=>obtain⟨_,_,rfl⟩:=hv;exact⟨rfl,rfl⟩
 |mp id=>obtain⟨_,_,_,_,_,rfl⟩:=hv;exact⟨rfl,rfl⟩
 |_=>cases hx
theorem cells_ok{x:XV}{cs:List XV}{a:AV}(hx:uf x=some cs)(hv:VT ρ h x a):au (V1 ρ h) cs a.cells/\bJ false a=some a.cells:=by
 have one:∀x,okX x=true->V1 ρ h x a->cs=[x]->au (V1 ρ h) cs a.cells/\bJ false a=some a.cells:=by
  intro x ho hv hc
  obtain⟨s1,s2⟩:=LZ hv ho
  subst hc
  rw[s2]
  refine⟨.cons hv .nil,?_⟩
  cases a<;>first|(cases s1;done)|(simp only[bJ,s1,if_true];done)
 cases x with
 |d T y =>
  cases hx
  exact⟨CP hv,Bw hv false⟩
 |agg cs' =>
  simp only[uf]at hx
  split at hx
  .rename_i hall
   cases hx
   obtain⟨as,rfl,hc⟩:=hv
   refine⟨hc,?_⟩
   have:as.all (st1 false)=true:=List.all_eq_true.2 λa ha=>by
    obtain⟨i,hi⟩:=List.mem_iff_getElem?.1 ha
    obtain⟨x,hx,hv⟩:=hc.fU hi
    exact(LZ hv (List.all_eq_true.1 hall x (List.mem_of_getElem? hx))).1
   simp only[bJ,this,if_true,AV.cells]
  .cases hx
 |k v =>
  simp only[uf]at hx
  split at hx
  .rename_i ho;cases hx;exact one (.k v) ho hv rfl
  .cases hx
 |row id=>cases hx;exact one (.row id) rfl hv rfl
 |sub id o l=>cases hx;exact one (.sub id o l) rfl hv rfl
 |ptr id i o=>cases hx;exact one (.ptr id i o) rfl hv rfl
 |mp id=>cases hx;exact one (.mp id) rfl hv rfl
 |_=>cases hx
end
def aG(Gl:Nat->Option (List AV))(ρ:List Nat)(h:List XO)(σ:St)(rd:Opd->XV)(i:I)(v:XV)(kl:List Nat)(h':List XO):Prop :=
 ∃q a H' ρ' tch,step Gl σ i=some (q,a,H')/\q/\Upd ρ h σ.h ρ' (jV kl h') H' kl tch/\VT ρ' (jV kl h') v a/\∀ok:Nat->Bool,leaves ok rd i=true->∀id∈tch,ok id=true
section
variable{ρ:List Nat}{h:List XO}{H:List ah}{σ:St}{Gl:Nat->Option (List AV)}{rd:Opd->XV}{tt:Nat->Option Ty}
theorem aG.pure(hs:HS ρ h σ.h){i:I}{v:XV}{q:Prop}{a:AV}(h1:step Gl σ i=some (q,a,σ.h))(h2:q)(h3:VT ρ h v a):aG Gl ρ h σ rd i v [] h :=
 ⟨q,a,σ.h,ρ,[],h1,h2,Upd.same hs,h3,λ_ _ _ q=>by simp at q⟩
theorem Y5{off sz:Nat}{ag:Bool}{x v:XV}{a:AV}(hx:V4 off sz ag x=some v)(hv:VT ρ h x a):∃cs,a=.agg cs/\if ag=true then off+sz<=cs.length/\VT ρ h v (.agg ((cs.drop off).take sz)) else ∃c,cs[off]?=some c/\VT ρ h v c:=by
 unfold V4 at hx
 split at hx
 .rename_i fs y
  obtain⟨cs,rfl,hc⟩:=Wp.bB hv
  have hc:au Wp cs (Ty.enc (.tup fs) y).cells:=hc
  obtain⟨T',x',rfl,hq⟩:=Ew _ _ _ _ _ _ hx
  refine⟨cs,rfl,?_⟩
  cases ag with
  |true =>
   simp only[if_true]at hq ⊢
   refine⟨by rw[hc.1];exact hq.1,?_⟩
   have:=(hc.drop off).take sz
   show Wp _ _
   rw[hq.2]
   exact .agg _ _ this.1 this.2
  |false =>
   simp only[Bool.false_eq_true,if_false]at hq ⊢
   obtain⟨c,h1,h2⟩:=hc.fU hq
   exact⟨c,h1,h2⟩
 .rename_i cs'
  obtain⟨cs,rfl,hc⟩:=hv
  refine⟨cs,rfl,?_⟩
  cases ag with
  |true =>
   simp only[if_true]at hx ⊢
   split at hx
   .rename_i hl
    cases hx
    have:=Nat.le_of_ble_eq_true hl
    exact⟨by rw[<- hc.1];exact this,_,rfl,(hc.drop off).take sz⟩
   .cases hx
  |false =>
   simp only[Bool.false_eq_true,if_false]at hx ⊢
   obtain⟨c,h1,h2⟩:=hc.eD hx
   exact⟨c,h1,VT.of1 h2⟩
 .cases hx
theorem kI{n m:Int}(h:bnd n m=true):0<=n/\n<m:=by
 simpa[bnd]using h
theorem FX{T:Ty}{x:T.den}{o sz:Nat}{ag:Bool}{v:XV}{cs:List AV}(hx:atT T x o sz ag=some v)(hc:au Wp cs (Ty.enc T x).cells):if ag=true then o+sz<=cs.length/\VT ρ h v (.agg ((cs.drop o).take sz)) else ∃c,cs[o]?=some c/\VT ρ h v c:=by
 obtain⟨T',x',rfl,hq⟩:=Ew _ _ _ _ _ _ hx
 cases ag with
 |true =>
  simp only[if_true]at hq ⊢
  refine⟨by rw[hc.1];exact hq.1,?_⟩
  have:=(hc.drop o).take sz
  show Wp _ _
  rw[hq.2]
  exact .agg _ _ this.1 this.2
 |false =>
  simp only[Bool.false_eq_true,if_false]at hq ⊢
  obtain⟨c,h1,h2⟩:=hc.fU hq
  exact⟨c,h1,h2⟩
theorem pq{T:Ty}(es:List T.den){i:Nat}(hi:i<es.length)(u:AV):(es.map (Ty.enc T)).getD i u=Ty.enc T (es.getD i T.dflt):=by
 simp[List.getD,List.getElem?_eq_getElem hi]
theorem xU (hs:HS ρ h σ.h) {sz id ty off:Nat} {T:Ty} {fz:Bool} {es:List T.den} {x i:Opd} {k:IntKind} {n:Int} {len:Nat} (he:h[id]?=some (.row ty T fz es)) (hz:T.size=sz)
  (hx:σ.val Gl x=.row (ρ.getD id 0) es.length T.size off len) (hi:σ.val Gl i=.v (.int k n)) (hb:0<=n/\n<len):aG Gl ρ h σ rd (.jD sz x i) (.ptr id (off+n.toNat) 0) [] h:=by
 refine aG.pure hs (q:=0<=n/\n<len) (a:=.ptr (ρ.getD id 0) es.length (off+n.toNat) 0) ?_ hb ⟨_,he,rfl⟩
 simp only[step,hx,hi,hz,if_true]
theorem Pk{T:Ty}{es:List T.den}{O:List AV}{i o:Nat}{z:T.den}{U:Ty}{y:U.den}{a:AV}(hO:au Wp O (es.map (Ty.enc T)))(hi:i<es.length)(hw:Wp a (Ty.enc U y))(hz:xC y T (es.getD i T.dflt) o=some z):o+U.size<=T.size/\au Wp (O.set i (setCells (O.getD i .any) o a.cells)) ((es.set i z).map (Ty.enc T)):=by
 obtain⟨s1,s2,s3⟩:=Tf y T _ o z hz
 refine⟨s1,?_⟩
 rw[List.map_set]
 refine hO.set ?_ i
 have he:Wp (O.getD i .any) (Ty.enc T (es.getD i T.dflt)):=by
  have:=hO.getD (n:=i) (by simpa using hi) .any .any
  rw[pq es hi]at this;exact this
 have hc:=hw.cells
 have hlen:a.cells.length=U.size:=by rw[hc.1,bV]
 rcases iB (x:=z) with⟨ht,cs,hcs⟩|⟨ht,hp⟩
 .cases T with
  |tup fs =>
   obtain⟨us,hu,hus⟩:=Wp.bB (show Wp (O.getD i .any) (.agg (Ty.bM fs (es.getD i (Ty.dflt (.tup fs))))) from he)
   rw[hu]
   have s2:Ty.bM fs z=(Ty.bM fs (es.getD i (Ty.dflt (.tup fs)))).take o++(Ty.enc U y).cells++(Ty.bM fs (es.getD i (Ty.dflt (.tup fs)))).drop (o+U.size):=s2
   show Wp (.agg (us.take o++a.cells++us.drop (o+a.cells.length))) (.agg (Ty.bM fs z))
   rw[s2,hlen]
   have:=((hus.take o).append hc).append (hus.drop (o+U.size))
   exact .agg _ _ this.1 this.2
  |_=>cases ht
 .obtain⟨rfl,hu1⟩:=s3 ht
  have hna:∀us,O.getD i .any≠.agg us:=λus q=>by
   rw[q]at he
   rcases iB (x:=es.getD i T.dflt) with⟨q',_⟩|⟨_,q'⟩
   .rw[ht]at q';cases q'
   .rcases q'.of_wp he with⟨_,q',_⟩|⟨_,_,q'⟩<;>cases q'
  have hsc:setCells (O.getD i .any) 0 a.cells=a.cells.headD .any:=by
   cases hg:O.getD i .any<;>first|rfl|exact absurd hg (hna _)
  rw[hsc]
  have hz1:(Ty.enc T z).cells=[Ty.enc T z]:=hp.cells
  have ht1:T.size=1:=by rw[<- bV T z,hz1];rfl
  rw[hz1,List.take_zero,List.nil_append,List.drop_eq_nil_of_le (by rw[bV];omega),List.append_nil]at s2
  rw[<- s2]at hc
  obtain⟨c,r,e1,e2,e3⟩:=hc.cons_right
  rw[e1];exact e2
theorem He{T:Ty}{es:List T.den}{O:List AV}{i:Nat}{z:T.den}{a:AV}(hO:au Wp O (es.map (Ty.enc T)))(hi:i<es.length)(hw:Wp a (Ty.enc T z)):au Wp (O.set i (setCells (O.getD i .any) 0 a.cells)) ((es.set i z).map (Ty.enc T)):=by
 rw[List.map_set]
 refine hO.set ?_ i
 have he:Wp (O.getD i .any) (Ty.enc T (es.getD i T.dflt)):=by
  have:=hO.getD (n:=i) (by simpa using hi) .any .any
  rw[pq es hi]at this;exact this
 have hl1:(O.getD i .any).cells.length=T.size:=by rw[he.cells.1,bV]
 have hl2:a.cells.length=T.size:=by rw[hw.cells.1,bV]
 rcases iB (x:=z) with⟨ht,cs,hcs⟩|⟨ht,hp⟩
 .cases T with
  |tup fs =>
   obtain⟨us,hu,hus⟩:=Wp.bB (show Wp (O.getD i .any) (.agg (Ty.bM fs (es.getD i (Ty.dflt (.tup fs))))) from he)
   obtain⟨as,rfl,has⟩:=Wp.bB (show Wp a (.agg (Ty.bM fs z)) from hw)
   rw[hu]at hl1 ⊢
   simp only[AV.cells]at hl1 hl2
   have:setCells (.agg us) 0 (AV.agg as).cells=.agg as:=by
    simp only[setCells,AV.cells,List.take_zero,List.nil_append,Nat.zero_add,List.drop_eq_nil_of_le (show us.length<=as.length by omega),List.append_nil]
   rw[this];exact hw
  |_=>cases ht
 ·have hna:∀ us,O.getD i .any ≠ .agg us:=fun us q=>by
   rw[q]at he
   rcases iB (x:=es.getD i T.dflt) with⟨q',_⟩|⟨_,q'⟩
   .rw[ht]at q';cases q'
   .rcases q'.of_wp he with⟨_,q',_⟩|⟨_,_,q'⟩<;>cases q'
  have hsc:setCells (O.getD i .any) 0 a.cells=a.cells.headD .any:=by
   cases hg:O.getD i .any<;>first|rfl|exact absurd hg (hna _)
  rw[hsc,(hp.of_wp hw).cells];exact hw
theorem Vf{T:Ty}{v:Value}{ys:List T.den}(hx:Eo h T (.k v)=some ys):v=.slice none 0 0/\ys=[]:=by
 cases v with
 |slice ad n c =>
  cases ad with
  |some _=>cases hx
  |none =>
   cases n with
   |succ n=>cases hx
   |zero =>
    cases c with
    |succ c=>cases hx
    |zero=>exact⟨rfl,(Option.some.inj hx).symm⟩
 |_=>cases hx
theorem R8(hs:HS ρ h σ.h){T:Ty}{x:XV}{ys:List T.den}{a:AV}{sz:Nat}(hz:T.size=sz)(hx:Eo h T x=some ys)(hv:VT ρ h x a):∃as,dh σ.h sz a=some as/\au Wp as (ys.map (Ty.enc T)):=by
 subst hz
 cases x with
 |d T' y =>
  have hx:bC (b:=.list T) y=some ys:=hx
  obtain⟨q,rfl⟩:=dR hx
  cases q
  rcases Wp.dw hv with⟨rfl,hn⟩|⟨as,rfl,hc⟩
  ·exact ⟨[],rfl,by
    show au Wp [] (List.map (Ty.enc T) y)
    rw[hn];exact .nil⟩
  .exact⟨as,by simp[dh],hc⟩
 |k v =>
  obtain⟨rfl,rfl⟩:=Vf hx
  have hv:a=.v (.slice none 0 0):=hv
  subst hv
  exact⟨[],rfl,.nil⟩
 |row id =>
  obtain⟨ty,T',fz,es,he,rfl⟩:=hv
  have hx:bC (a:=.list T') (b:=.list T) es=some ys:=by rw[<- hx];show _=(match h[id]? with|some (.row _ T' _ es)=>bC (a:=.list T') (b:=.list T) es|_=>none);rw[he]
  obtain⟨q,rfl⟩:=dR hx
  cases q
  obtain⟨O,hO,o1,o2,o3,o4,o5⟩:=hs.hr _ _ he
  have hlen:O.es.length=es.length:=by have:=o5.1;simpa using this
  refine⟨(O.es.drop 0).take es.length,by simp only[dh,hO,hlen,o2,o3,and_self,if_true],?_⟩
  rw[List.drop_zero,List.take_of_length_le (by omega)]
  exact o5
 |sub id off len =>
  obtain⟨ty,T',fz,es,he,rfl⟩:=hv
  have hx:bC (a:=.list T') (b:=.list T) ((List.drop off es).take len)=some ys:=by rw[<- hx];show _=(match h[id]? with|some (.row _ T' _ es)=>bC (a:=.list T') (b:=.list T) ((List.drop off es).take len)|_=>none);rw[he]
  obtain⟨q,rfl⟩:=dR hx
  cases q
  obtain⟨O,hO,o1,o2,o3,o4,o5⟩:=hs.hr _ _ he
  have hlen:O.es.length=es.length:=by have:=o5.1;simpa using this
  refine⟨(O.es.drop off).take len,by simp only[dh,hO,hlen,o2,o3,and_self,if_true],?_⟩
  show au Wp _ (List.map (Ty.enc _) _)
  rw[List.map_take,List.map_drop]
  exact(o5.drop _).take _
 |_=>cases hx
theorem wQ(hs:HS ρ h σ.h){T:Ty}{x:XV}{ys:List T.den}{a:AV}{sz:Nat}(hz:T.size=sz)(hx:qY h T x=some ys)(hv:VT ρ h x a):∃as,dh σ.h sz a=some as/\au Wp as (ys.map (Ty.enc T)):=R8 hs hz hx (Cw hv)
theorem X8(hs:HS ρ h H){T:Ty}:∀{xs:List XV} {ys:List T.den} {as:List AV},uO h T xs=some ys->au (VT ρ h) xs as->∃bs,aX H as=some bs/\au Wp bs (ys.map (Ty.enc T))/\as.flatMap aR=(xs.flatMap bq).map (λid=>ρ.getD id 0)/\∀id∈xs.flatMap bq,isRow h id:=by
 intro xs
 induction xs with
 |nil =>
  intro ys as hx hv
  cases hx
  have:=hv.fK
  subst this
  exact⟨[],rfl,.nil,rfl,by simp⟩
 |cons x xs ih =>
  intro ys as hx hv
  simp only[uO]at hx
  split at hx
  .rename_i z l hz hl
   cases hx
   obtain⟨a,as',rfl,hv1,hv2⟩:=hv.dK
   have hnt:∀vs,x≠.tup vs:=λvs q=>by
    subst q
    cases T<;>simp[toD,lst]at hz
   obtain⟨b,k1,k2,k3,k4⟩:=pY hs hz (hv1.jC hnt)
   obtain⟨bs,i1,i2,i3,i4⟩:=ih hl hv2
   refine⟨b::bs,by simp only[aX,k1,i1],.cons k2 i2,by simp[k3,i3],λid hid=>?_⟩
   simp only[List.flatMap_cons,List.mem_append]at hid
   rcases hid with q|q
   .exact k4 id q
   .exact i4 id q
  .cases hx
theorem yc{xs:List Opd}(hrd:∀o,VT ρ h (rd o) (σ.val Gl o)):au (VT ρ h) (xs.map rd) (xs.map (σ.val Gl)) :=
 ⟨by simp,λi x a p q=>by
  rw[List.getElem?_map]at p q
  cases ho:xs[i]? with
  |none=>rw[ho]at p;cases p
  |some o=>rw[ho]at p q;cases p;cases q;exact hrd o⟩
theorem KN{T:Ty}{bs:List AV}{ys:List T.den}{sz:Nat}(hz:T.size=sz)(hc:au Wp bs (ys.map (Ty.enc T))):bs.all (λy=>y.cells.length==sz)=true:=by
 refine List.all_eq_true.2 λb hb=>?_
 obtain⟨i,hi⟩:=List.mem_iff_getElem?.1 hb
 obtain⟨e,he,hw⟩:=hc.eD hi
 rw[List.getElem?_map]at he
 cases hy:ys[i]? with
 |none=>rw[hy]at he;cases he
 |some y=>rw[hy]at he;cases he;rw[hw.cells.1,bV,hz];simp
end
section
variable{ρ:List Nat}{h:List XO}{H:List ah}{σ:St}{Gl:Nat->Option (List AV)}{rd:Opd->XV}{tt:Nat->Option Ty}
theorem vv{e:Ty}{xs:List e.den}{a:AV}(hv:VT ρ h (.d (.list e) xs) a):(a=.v (.slice none 0 0)/\xs=[])\/∃as,a=.list e.size as/\as.length=xs.length/\au Wp as (xs.map (Ty.enc e)):=by
 rcases Wp.dw hv with⟨ha,hn⟩|⟨as,ha,hc⟩
 .exact .inl ⟨ha,List.map_eq_nil_iff.1 hn⟩
 .exact .inr ⟨as,ha,by rw[hc.1,List.length_map],hc⟩
theorem Bz{ty sz:Nat}{xs:List AV}{a:AV}(hv:VT ρ h (.d (.rl ty sz) xs) a):(a=.v (.slice none 0 0)/\xs=[])\/∃as,a=.list sz as/\as.length=xs.length/\au Wp as xs:=by
 rcases Wp.dw hv with⟨ha,hn⟩|⟨as,ha,hc⟩
 .exact .inl ⟨ha,hn⟩
 .exact .inr ⟨as,ha,hc.1,hc⟩
abbrev bZ(Gl:Nat->Option (List AV))(ρ:List Nat)(h:List XO)(σ:St)(rd:Opd->XV)(tt:Nat->Option Ty)(i:I):Prop :=
 HS ρ h σ.h->(∀o,VT ρ h (rd o) (σ.val Gl o))->∀(p:Bool) (v:XV) (kl:Option Nat) (h':List XO),aY tt h rd i=some (p,v,kl,h')->p=true->aG Gl ρ h σ rd i v kl.toList h'
theorem Xi(x:Opd):bZ Gl ρ h σ rd tt (.len x):=by
 intro hs hrd p v kl h' hx hp
 simp only[aY]at hx
 have hv:=Cw (hrd x)
 split at hx
 .rename_i e xs hr
  rw[hr]at hv
  cases hx
  rcases vv hv with⟨ha,rfl⟩|⟨as,ha,hl,hc⟩
  .exact aG.pure hs (by simp only[step,ha]<;>rfl) trivial (Wp.refl _)
  .refine aG.pure hs (by simp only[step,ha]<;>rfl) trivial ?_
   rw[hl]
   exact Wp.refl _
 .rename_i ty sz xs hr
  rw[hr]at hv
  cases hx
  rcases Bz hv with⟨ha,rfl⟩|⟨as,ha,hl,hc⟩
  .exact aG.pure hs (by simp only[step,ha]<;>rfl) trivial (Wp.refl _)
  .refine aG.pure hs (by simp only[step,ha]<;>rfl) trivial ?_
   rw[hl]
   exact Wp.refl _
 .rename_i id hr
  rw[hr]at hv
  obtain⟨ty,T,fz,es,he,ha⟩:=hv
  rw[he]at hx
  cases hx
  exact aG.pure hs (by simp only[step,ha]<;>rfl) trivial (Wp.refl _)
 .rename_i id off len hr
  rw[hr]at hv
  obtain⟨ty,T,fz,es,he,ha⟩:=hv
  cases hx
  exact aG.pure hs (by simp only[step,ha]<;>rfl) trivial (Wp.refl _)
 .rename_i id hr
  rw[hr]at hv
  obtain⟨ty,cs,he,ha⟩:=hv
  rw[he]at hx
  cases hx
  exact aG.pure hs (by simp only[step,ha]<;>rfl) trivial (Wp.refl _)
 .rename_i hr
  rw[hr]at hv
  cases hx
  have ha:=Af hv
  exact aG.pure hs (by simp only[step,ha]<;>rfl) trivial (Wp.refl _)
 .cases hx
theorem Xf(x:Opd):bZ Gl ρ h σ rd tt (.mov x):=by
 intro hs hrd p v kl h' hx hp
 simp only[aY]at hx
 cases hx
 exact aG.pure hs rfl trivial (hrd x)
theorem SH(c a b:Opd):bZ Gl ρ h σ rd tt (.pick c a b):=by
 intro hs hrd p v kl h' hx hp
 simp only[aY]at hx
 split at hx
 .rename_i t T x T' y h1 h2 h3
  split at hx
  .rename_i y' hy
   cases hx
   have hc:=hrd c;have ha:=hrd a;have hb:=hrd b
   rw[h1]at hc;rw[h2]at ha;rw[h3]at hb
   have ec:=kg hc
   obtain⟨rfl,rfl⟩:=dR hy
   refine aG.pure hs (by simp only[step,ec]<;>rfl) trivial ?_
   cases t
   .exact hb
   .exact ha
  .cases hx
 .cases hx
theorem Xo(op:BinOp)(x y:Opd):bZ Gl ρ h σ rd tt (.bin op x y):=by
 intro hs hrd p v kl h' hx hp
 simp only[aY]at hx
 split at hx
 .rename_i p' v' hb
  cases hx
  obtain⟨va,vb,q,r,ea,eb,hq,hqq,hv⟩:=WZ hb hp (hrd x) (hrd y)
  exact aG.pure hs (by simp only[step,ea,eb,hq,Option.map_some]) hqq hv
 .cases hx
theorem Xp(neg:Bool)(x y:Opd):bZ Gl ρ h σ rd tt (.beq neg x y):=by
 intro hs hrd p v kl h' hx hp
 simp only[aY]at hx
 have hvx:=hrd x;have hvy:=hrd y
 split at hx
 .rename_i a b h1 h2
  rw[h1]at hvx;rw[h2]at hvy
  cases hx
  have ea:=kg hvx;have eb:=kg hvy
  refine aG.pure hs (by simp only[step,ea,eb]<;>rfl) trivial ?_
  cases neg<;>exact Wp.refl _
 .cases hx
theorem SI(neg:Bool)(x:Opd):bZ Gl ρ h σ rd tt (.qy neg x):=by
 intro hs hrd p v kl h' hx hp
 simp only[aY]at hx
 have hv:=hrd x
 split at hx
 .rename_i e xs hr
  rw[hr]at hv
  cases hx
  rcases vv hv with⟨ha,rfl⟩|⟨as,ha,hl,hc⟩
  .cases hp
  .refine aG.pure hs (by simp only[step,ha]<;>rfl) ?_ (Wp.refl _)
   intro q
   subst q
   have:xs=[]:=List.length_eq_zero_iff.1 hl.symm
   subst this
   cases hp
 .rename_i e o hr
  rw[hr]at hv
  cases hx
  cases o with
  |none =>
   have ha:=Wp.aH hv
   refine aG.pure hs (by simp only[step,ha]<;>rfl) trivial ?_
   cases neg<;>exact Wp.refl _
  |some xs =>
   rcases vv (show VT ρ h (.d (.list e) xs) _ from hv) with⟨ha,rfl⟩|⟨as,ha,hl,hc⟩
   .cases hp
   .refine aG.pure hs (by simp only[step,ha]<;>rfl) ?_ ?_
    .intro q
     subst q
     have:xs=[]:=List.length_eq_zero_iff.1 hl.symm
     subst this
     cases hp
    .cases neg<;>exact Wp.refl _
 .rename_i ty sz xs hr
  rw[hr]at hv
  cases hx
  rcases Bz hv with⟨ha,rfl⟩|⟨as,ha,hl,hc⟩
  .cases hp
  .refine aG.pure hs (by simp only[step,ha]<;>rfl) ?_ (Wp.refl _)
   intro q
   subst q
   have:xs=[]:=List.length_eq_zero_iff.1 hl.symm
   subst this
   cases hp
 .rename_i hr
  rw[hr]at hv
  cases hx
  have ha:=Af hv
  exact aG.pure hs (by simp only[step,ha]<;>rfl) trivial (Wp.refl _)
 .rename_i id hr
  rw[hr]at hv
  obtain⟨ty,T,fz,es,he,ha⟩:=hv
  rw[he]at hx
  cases hx
  refine aG.pure hs (by simp only[step,ha]<;>rfl) ?_ (Wp.refl _)
  cases es with
  |nil=>cases hp
  |cons=>simp
 .cases hx
theorem a2i{xs ys:List XV}{as bs:List AV}(hx:au (V1 ρ h) xs as)(hy:au (V1 ρ h) ys bs):∀(fs:List (Nat×Nat)) (b:Bool),H8 xs ys fs=some b->eqA as bs fs=some b:=by
 intro fs
 induction fs with
 |nil=>intro b hb;exact hb
 |cons f fs ih =>
  intro b hb
  obtain⟨i,c⟩:=f
  simp only[H8]at hb
  simp only[eqA]
  split at hb
  .rename_i h0;rw[if_pos h0];exact ih b hb
  .rename_i h0
   rw[if_neg h0]
   split at hb
   .rename_i u w hu hw
    cases hb
    rw[ih w hw]
    have gx:∀{xs:List XV} {as:List AV},au (V1 ρ h) xs as->∀i,V1 ρ h (xs.getD i .any) (as.getD i .any):=fun{xs as} hx i=>by
     rcases Nat.lt_or_ge i as.length with q|q
     .exact hx.getD q _ _
     .have:xs[i]?=none:=List.getElem?_eq_none (by rw[hx.1];exact q)
      simp[List.getD,this];trivial
    have h1:=gx hx i
    have h2:=gx hy i
    have key:eq1 c (as.getD i .any) (bs.getD i .any)=some u:=by
     unfold Zu at hu
     split at hu
     .rename_i k a k' b' e1 e2
      rw[e1]at h1;rw[e2]at h2
      rw[Wp.aH h1,Wp.aH h2]
      exact hu
     .rename_i a b' e1 e2
      rw[e1]at h1;rw[e2]at h2
      rw[Wp.aH h1,Wp.aH h2]
      exact hu
     .rename_i a b' e1 e2
      rw[e1]at h1;rw[e2]at h2
      rw[Wp.aH h1,Wp.aH h2]
      exact hu
     .cases hu
    rw[key]
   .cases hb
theorem Rp{x:XV}{cs:List XV}{a:AV}(hx:OB x=some cs)(hv:VT ρ h x a):∃as,a=.agg as/\au (V1 ρ h) cs as:=by
 unfold OB at hx
 split at hx
 .rename_i fs y
  cases hx
  obtain⟨as,rfl,_⟩:=Wp.bB hv
  exact⟨as,rfl,CP (T:=.tup fs) hv⟩
 .cases hx;exact hv
 .cases hx
theorem Xt(neg:Bool)(fs:List (Nat×Nat))(x y:Opd):bZ Gl ρ h σ rd tt (.aeq neg fs x y):=by
 intro hs hrd p v kl h' hx hp
 simp only[aY]at hx
 split at hx
 .rename_i xs ys h1 h2
  split at hx
  .rename_i b hb
   cases hx
   obtain⟨as,ea,c1⟩:=Rp h1 (hrd x)
   obtain⟨bs,eb,c2⟩:=Rp h2 (hrd y)
   have hq:=a2i c1 c2 fs b hb
   refine aG.pure hs (by simp only[step,ea,eb,hq,Option.map_some]<;>rfl) trivial ?_
   cases neg<;>exact Wp.refl _
  .cases hx
 .cases hx
theorem ZQ(op:UnOp)(x:Opd):bZ Gl ρ h σ rd tt (.un op x):=by
 intro hs hrd p v kl h' hx hp
 simp only[aY]at hx
 have hv:=hrd x
 split at hx
 .rename_i k n h1
  rw[h1]at hv
  cases hx
  exact aG.pure hs (by simp only[step,dH hv,unV,Option.map_some]<;>rfl) trivial (Wp.refl _)
 .rename_i b h1
  rw[h1]at hv
  cases hx
  exact aG.pure hs (by simp only[step,kg hv,unV,Option.map_some]<;>rfl) trivial (Wp.refl _)
 .cases hx
theorem SY(k:IntKind)(x:Opd):bZ Gl ρ h σ rd tt (.conv k x):=by
 intro hs hrd p v kl h' hx hp
 simp only[aY]at hx
 have hv:=hrd x
 split at hx
 .rename_i k' n h1
  rw[h1]at hv
  cases hx
  exact aG.pure hs (by simp only[step,dH hv]<;>rfl) trivial (Wp.refl _)
 .cases hx
theorem Xk(off sz:Nat)(ag:Bool)(x:Opd):bZ Gl ρ h σ rd tt (.fld off sz ag x):=by
 intro hs hrd p v kl h' hx hp
 simp only[aY]at hx
 split at hx
 .rename_i v' hf
  cases hx
  obtain⟨cs,ha,hq⟩:=Y5 hf (hrd x)
  cases ag with
  |true =>
   simp only[if_true]at hq
   exact aG.pure hs (by simp only[step,ha,hq.1,if_true]<;>rfl) trivial hq.2
  |false =>
   simp only[Bool.false_eq_true,if_false]at hq
   obtain⟨c,hc,hv⟩:=hq
   exact aG.pure hs (by simp only[step,ha,hc,Bool.false_eq_true,if_false,Option.map_some]<;>rfl) trivial hv
 .cases hx
theorem Xl(i:Nat)(x:Opd):bZ Gl ρ h σ rd tt (.ext i x):=by
 intro hs hrd p v kl h' hx hp
 simp only[aY]at hx
 have hv:=hrd x
 split at hx
 .rename_i vs h1
  rw[h1]at hv
  obtain⟨as,ha,hc⟩:=hv
  split at hx
  .rename_i w hw
   cases hx
   obtain⟨a,h2,h3⟩:=hc.eD hw
   exact aG.pure hs (by simp only[step,ha,h2,Option.map_some]<;>rfl) trivial (VT.ofA h3)
  .cases hx
 .cases hx
theorem P9(off:Nat)(x:Opd):bZ Gl ρ h σ rd tt (.nu off x):=by
 intro hs hrd p v kl h' hx hp
 simp only[aY]at hx
 have hv:=hrd x
 split at hx
 .rename_i id i o h1
  rw[h1]at hv
  obtain⟨ob,he,ha⟩:=hv
  cases hx
  exact aG.pure hs (by simp only[step,ha]<;>rfl) trivial ⟨ob,he,rfl⟩
 .rename_i T y o h1
  rw[h1]at hv
  obtain⟨cs,ha,hc⟩:=hv
  cases hx
  refine aG.pure hs (by simp only[step,ha]<;>rfl) trivial ⟨_,rfl,?_⟩
  have:=hc.drop off
  rw[List.drop_drop]at this
  exact this
 .cases hx
theorem Xe(x:Opd):bZ Gl ρ h σ rd tt (.nck x):=by
 intro hs hrd p v kl h' hx hp
 simp only[aY]at hx
 have hv:=hrd x
 split at hx
 .rename_i id i o h1
  rw[h1]at hv
  obtain⟨ob,he,ha⟩:=hv
  cases hx
  exact aG.pure hs (by simp only[step,ha]<;>rfl) trivial ⟨ob,he,rfl⟩
 .rename_i T y o h1
  rw[h1]at hv
  obtain⟨cs,ha,hc⟩:=hv
  cases hx
  exact aG.pure hs (by simp only[step,ha]<;>rfl) trivial ⟨_,rfl,hc⟩
 .cases hx
theorem beq_eq{a b:Nat}(h:Nat.beq a b=true):a=b:=Nat.eq_of_beq_eq_true h
theorem FY(hs:HS ρ h σ.h){e:Ty}{xs:List e.den}{k:IntKind}{n:Int}{x i:Opd}{sz:Nat}(hv:VT ρ h (.d (.list e) xs) (σ.val Gl x))(ei:σ.val Gl i=.v (.int k n))(hz:e.size=sz)(hb:bnd n (aj xs)=true):aG Gl ρ h σ rd (.jD sz x i) (.lp e (atI xs n e.dflt) 0) [] h:=by
 have hb:=kI hb
 rcases vv hv with⟨ha,rfl⟩|⟨as,ha,hl,hc⟩
 .simp[aj]at hb;omega
 .have hlt:n.toNat<xs.length:=by have:=hb.2;simp only[aj]at this;omega
  refine aG.pure hs (q:=0<=n/\n<as.length) (a:=.bO (as.getD n.toNat .any).cells) (by simp only[step,ha,ei,hz,if_true]) ⟨hb.1,by rw[hl];exact hb.2⟩ ⟨_,rfl,?_⟩
  rw[List.drop_zero]
  have:=hc.getD (n:=n.toNat) (by rw[List.length_map];exact hlt) .any .any
  rw[pq _ hlt]at this
  exact this.cells
theorem K9(hs:HS ρ h σ.h){ty sz':Nat}{T:Ty}{xs:List AV}{k:IntKind}{n:Int}{x i:Opd}{sz:Nat}(hv:VT ρ h (.d (.rl ty sz') xs) (σ.val Gl x))(ei:σ.val Gl i=.v (.int k n))(hz:sz'=sz)(hb:bnd n (aj xs)=true)(hd:okD T (atI xs n .any)=true):aG Gl ρ h σ rd (.jD sz x i) (.lp T (Er T (atI xs n .any)) 0) [] h:=by
 have hb:=kI hb
 rcases Bz hv with⟨ha,rfl⟩|⟨as,ha,hl,hc⟩
 .simp[aj]at hb;omega
 .have hlt:n.toNat<xs.length:=by have:=hb.2;simp only[aj]at this;omega
  refine aG.pure hs (q:=0<=n/\n<as.length) (a:=.bO (as.getD n.toNat .any).cells) (by simp only[step,ha,ei,hz,if_true]) ⟨hb.1,by rw[hl];exact hb.2⟩ ⟨_,rfl,?_⟩
  rw[List.drop_zero]
  exact((hc.getD (n:=n.toNat) hlt .any .any).trans (Ll hd)).cells
theorem P8(sz:Nat)(x i:Opd):bZ Gl ρ h σ rd tt (.jD sz x i):=by
 intro hs hrd p v kl h' hx hp
 simp only[aY]at hx
 have hv:=Cw (hrd x)
 have hi:=hrd i
 split at hx
 .rename_i e xs k n h1 h2
  rw[h1]at hv;rw[h2]at hi
  have ei:=dH hi
  split at hx
  .rename_i hz
   cases hx
   exact FY hs hv ei (beq_eq hz) hp
  .cases hx
 .rename_i ty sz' xs k n h1 h2
  rw[h1]at hv;rw[h2]at hi
  have ei:=dH hi
  split at hx
  .rename_i T hT
   split at hx
   .rename_i hz
    cases hx
    simp only[Bool.and_eq_true]at hz hp
    exact K9 hs hv ei (beq_eq hz.2) hp.1 hp.2
   .cases hx
  .cases hx
 .rename_i id k n h1 h2
  rw[h1]at hv;rw[h2]at hi
  have ei:=dH hi
  obtain⟨ty,T,fz,es,he,ha⟩:=hv
  rw[he]at hx
  simp only at hx
  split at hx
  .rename_i hz
   cases hx
   have:=xU (Gl:=Gl) (rd:=rd) hs he (beq_eq hz) ha ei (kI hp)
   rw[Nat.zero_add]at this;exact this
  .cases hx
 .rename_i id off len k n h1 h2
  rw[h1]at hv;rw[h2]at hi
  have ei:=dH hi
  obtain⟨ty,T,fz,es,he,ha⟩:=hv
  rw[he]at hx
  simp only at hx
  split at hx
  .rename_i hz
   cases hx
   exact xU (Gl:=Gl) (rd:=rd) hs he (beq_eq hz) ha ei (kI hp)
  .cases hx
 .rename_i id k n h1 h2
  rw[h1]at hv;rw[h2]at hi
  have ei:=dH hi
  obtain⟨ty,cs,he,ha⟩:=hv
  rw[he]at hx
  simp only at hx
  split at hx
  .rename_i hz
   have hz:=beq_eq hz
   subst hz
   cases hx
   have hb:=kI hp
   refine aG.pure hs (q:=(0:Int)<=(show Int from n)/\(show Int from n)<(cs.length:Int)) (by simp only[step,ha,ei,if_true]<;>rfl) hb ⟨.vec ty cs,he,?_⟩
   simp only[XO.len,Nat.zero_add]
  .cases hx
 .cases hx
theorem SV(sz:Nat)(ag:Bool)(x:Opd):bZ Gl ρ h σ rd tt (.load sz ag x):=by
 intro hs hrd p v kl h' hx hp
 simp only[aY]at hx
 have hv:=hrd x
 split at hx
 .rename_i T y o h1
  rw[h1]at hv
  obtain⟨cs,ha,hc⟩:=hv
  split at hx
  .rename_i w hw
   cases hx
   obtain⟨T',x',rfl,hq⟩:=Ew _ _ _ _ _ _ hw
   cases ag with
   |true =>
    simp only[if_true]at hq
    have hl:sz<=cs.length:=by rw[hc.1,List.length_drop];omega
    refine aG.pure hs (by simp only[step,ha,hl,if_true]<;>rfl) trivial ?_
    show Wp _ _
    rw[hq.2]
    have:=hc.take sz
    exact .agg _ _ this.1 this.2
   |false =>
    simp only[Bool.false_eq_true,if_false]at hq
    have:((Ty.enc T y).cells.drop o)[0]?=some (Ty.enc T' x'):=by rw[List.getElem?_drop,Nat.add_zero];exact hq
    obtain⟨c,h2,h3⟩:=hc.fU this
    have hh:cs.head?=some c:=by rw[List.head?_eq_getElem?];exact h2
    exact aG.pure hs (by simp only[step,ha,hh,Bool.false_eq_true,if_false,Option.map_some]<;>rfl) trivial h3
  .cases hx
 .rename_i id i o h1
  rw[h1]at hv
  obtain⟨ob,he,ha⟩:=hv
  rw[he]at hx
  obtain⟨O,hO,hR⟩:=hs.hr id ob he
  cases ob with
  |row ty T fz es =>
   simp only at hx
   split at hx
   .rename_i w hw
    cases hx
    obtain⟨o1,o2,o3,o4,o5⟩:=hR
    have hlen:O.es.length=es.length:=by have:=o5.1;simpa using this
    have hlt:i<es.length:=of_decide_eq_true hp
    have hcell:au Wp (O.es.getD i .any).cells (Ty.enc T (es.getD i T.dflt)).cells:=by
     have:=o5.getD (n:=i) (by rw[List.length_map];exact hlt) .any .any
     rw[pq _ hlt]at this
     exact this.cells
    have hq:=FX (ρ:=ρ) (h:=h) hw hcell
    have hsz:(O.es.getD i .any).cells.length=T.size:=by rw[hcell.1,bV]
    cases ag with
    |true =>
     simp only[if_true]at hq
     exact aG.pure hs (q:=o+sz<=O.sz/\i<es.length) (by simp only[step,ha,hO,XO.len,hlen,if_true]<;>rfl) ⟨by rw[o2];omega,hlt⟩ hq.2
    |false =>
     simp only[Bool.false_eq_true,if_false]at hq
     obtain⟨c,hc,hv⟩:=hq
     have hol:o<(O.es.getD i .any).cells.length:=(List.getElem?_eq_some_iff.1 hc).1
     refine aG.pure hs (q:=o<O.sz/\i<es.length) (by simp only[step,ha,hO,XO.len,hlen,if_true,Bool.false_eq_true,if_false]<;>rfl) ⟨by rw[o2];omega,hlt⟩ ?_
     have:(O.es.getD i .any).cells.getD o .any=c:=by simp only[List.getD]at hc ⊢;rw[hc];rfl
     rw[this];exact hv
   .cases hx
  |map ty K V es=>cases hx
  |vec ty cs =>
   obtain⟨o1,o2,o3,o4,hc⟩:=hR
   simp only at hx
   split at hx
   case isFalse=>cases hx
   rename_i hb
   simp only[Bool.and_eq_true,Bool.not_eq_true']at hb
   obtain⟨rfl,hb⟩:=hb
   have h0:=beq_eq hb
   subst h0
   split at hx
   case h_2=>cases hx
   rename_i w hw
   cases hx
   obtain⟨e,h2,h3,h4⟩:=hc.eD hw
   have hil:i<cs.length:=(List.getElem?_eq_some_iff.1 hw).1
   refine aG.pure hs (q:=0<O.sz/\i<cs.length) (by simp only[step,ha,hO,XO.len,hc.1,if_true,Bool.false_eq_true,if_false]<;>rfl) ⟨by omega,hil⟩ ?_
   have:(O.es.getD i .any).cells.getD 0 .any=e:=by simp only[List.getD,h2,Option.getD_some,h3];rfl
   rw[this];exact VT.of1 h4
  |box ty cs =>
   obtain⟨o1,o2,o3,o4,e,o5,hc⟩:=hR
   have hlen:O.es.length=1:=by rw[o5];rfl
   simp only at hx
   cases ag with
   |true =>
    simp only[if_true]at hx
    split at hx
    .rename_i hb
     cases hx
     simp only[Bool.and_eq_true]at hb
     have hi:=beq_eq hb.1
     have hl:=Nat.le_of_ble_eq_true hb.2
     subst hi
     refine aG.pure hs (q:=o+sz<=O.sz/\0<1) (by simp only[step,ha,hO,XO.len,hlen,if_true]<;>rfl) ⟨by rw[o2];exact hl,by omega⟩ ?_
     rw[o5]
     exact⟨_,rfl,(hc.drop o).take sz⟩
    .cases hx
   |false =>
    simp only[Bool.false_eq_true,if_false]at hx
    split at hx
    .rename_i hb
     have hi:=beq_eq hb
     subst hi
     split at hx
     .rename_i w hw
      cases hx
      obtain⟨c,h2,h3⟩:=hc.eD hw
      have hol:o<cs.length:=(List.getElem?_eq_some_iff.1 hw).1
      refine aG.pure hs (q:=o<O.sz/\0<1) (by simp only[step,ha,hO,XO.len,hlen,if_true,Bool.false_eq_true,if_false]<;>rfl) ⟨by rw[o2];exact hol,by omega⟩ ?_
      rw[o5]
      have:([e].getD 0 AV.any).cells.getD o .any=c:=by simp only[List.getD_cons_zero];simp only[List.getD,h2];rfl
      rw[this];exact VT.of1 h3
     .cases hx
    .cases hx
 .cases hx
end
end
end
end Abs
end Go.Proofs.YtnhgeocdffhkjaaGreatDoor
