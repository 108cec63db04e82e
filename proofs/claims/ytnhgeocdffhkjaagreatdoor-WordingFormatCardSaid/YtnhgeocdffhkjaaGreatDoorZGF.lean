/- Merged and trimmed by a program: EXD EXE EXF EXG EXH EXI EXJ EXK EXL EXM EXN AW. -/
import Derived.Test.YtnhgeocdffhkjaaGreatDoorZGE
import Derived.Test.YtnhgeocdffhkjaaGreatDoorProg
import Derived.Defers
import Derived.Recover
import Derived.KernelRfl
set_option linter.unusedVariables false
set_option linter.unusedSimpArgs false
set_option linter.defProp false
namespace Go.Proofs.YtnhgeocdffhkjaaGreatDoor
namespace Abs
noncomputable section
section
open Go.RowKit
section
variable{P:Program}{Gl:Nat->Option (List AV)}
def Jf(F:Addr->Option Value)(w:World)(res:AV)(e:Ending)(w':World):Prop :=
 ∃v F',e=.returned v/\(∀ad y,F ad=some y->F' ad=some y)/\(∀ad y,F' ad=some y->w'.cell? ad=some y)/\(∀ad y,F' ad=some y->F ad=some y\/w.heap.size<=ad.block)/\RP F' v res/\Below w.heap.size w w'
theorem Oc {fn:Func} {rs:List RV} (hr:pJ P fn.results.toList=some rs) {F F1:Addr->Option Value} {dA:List Ent} {w w1:World} {W0':W0} (hw0:W0'.w=w) (hF0:W0'.F=F) {τ:St} {a1:Act} (hI1:Inv Gl F1 dA w.heap.size W0' τ a1 w1) {l:List AV} (hl:um Gl τ rs=some l) {res:AV} (hk:yg τ.h (uV l)=some res) :
  ∃v,(Go.results fn a1.tmps).run P w1=.ok v w1/\Jf F w res (.returned v) w1:=by
 obtain⟨p',e1,hp⟩:=QJ rs l hl
 obtain⟨ys,hrun,hyl,hyR⟩:=yN hI1 fn.results.toList rs p' l hr e1 hp
 have zm:(fn.results.mapM (Abs.Dv a1.tmps)).run P w1=.ok ys.toArray w1:=by
  rw[nM]
  simp only[Sem.run_map,hrun,Result.andThen_ok]
 obtain⟨F2,hF2,hI2,hkp⟩:=hI1.r9 (List.range τ.h.length)
 have Pq:∀id,Kept F2 dA τ.h w1 id:=λid=>by
  intro ob e' g hob
  exact hkp id (bA.2 (aj.1 hob).1) ob e' g hob
 have fin:∀v,R F1 dA v (uV l)->RP F2 v res:=by
  intro v hR
  by_cases ha:∃vs,uV l=.tup vs
  .obtain⟨vs,ea⟩:=ha
   rw[ea]at hR hk
   have hk':(dY τ.h vs).map AV.tup=some res:=hk
   cases hq:dY τ.h vs with
   |none=>rw[hq]at hk';cases hk'
   |some ds =>
    rw[hq]at hk';cases hk'
    obtain⟨zs,rfl,z1,z2⟩:=hR.tF
    obtain⟨l1,l2⟩:=sS hI1 hF2 vs ds hq (λid _=>Pq id)
    refine .tup zs ds (by omega) λj x c p q=>?_
    have hj:j<vs.length:=by rw[l1];exact(aj.1 q).1
    exact(l2 j x vs[j] c (ah hj) q (z2 j x _ p (ah hj))).1
  ·have hk':jT τ.h (uV l)=some res:=by
    revert hk ha
    generalize uV l=a
    intro hk ha
    cases a<;>first|exact hk|exact absurd ⟨_,rfl⟩ ha
   exact(nO hI1 hF2 hR hk' (λid _=>Pq id)).1
 have done:∀v,R F1 dA v (uV l)->Jf F w res (.returned v) w1:=λv hR =>
  ⟨v,F2,rfl,by rw[<- hF0];exact hI2.ko,hI2.sub,λad y q=>by rw[<- hF0];exact hI2.ext ad y q,fin v hR,by rw[<- hw0];rw[hw0];have:=hI2.below;rw[hw0]at this;exact this⟩
 match l,hyl,hyR,done with
 |[x],hyl,hyR,done =>
  have hy1:ys.length=1:=by simpa using hyl
  obtain⟨y,rfl⟩:=pO.1 hy1
  refine⟨y,?_,done y (hyR 0 y x rfl rfl)⟩
  rw[mJ]
  simp only[Sem.run_bind,zm,Result.andThen_ok]
  rfl
 |[],hyl,hyR,done =>
  have hy0:ys=[]:=bW.1 hyl
  subst hy0
  refine⟨.tuple #[],?_,done _ (.tup _ _ rfl λj x c p q=>by simp at p)⟩
  rw[mJ]
  simp only[Sem.run_bind,zm,Result.andThen_ok]
  rfl
 |x::x'::l',hyl,hyR,done =>
  refine⟨.tuple ys.toArray,?_,done _ (.tup _ _ (by simp[hyl]) λj x c p q=>hyR j x c (by simpa using p) q)⟩
  rw[mJ]
  simp only[Sem.run_bind,zm,Result.andThen_ok]
  have hy1:¬ys.toArray.size=1:=λq=>by
   have:ys.length=1:=by simpa using q
   simp only[bf]at hyl
   omega
  rw[dif_neg hy1]
  rfl
theorem x9 {hl:List Nat} {ex:Nat->C->St->List Nat->Option Out} (hx:Ah P Gl hl ex) {N:Nat} {c:C} {σ τ:St} {U V:List Nat} (h:ex N c σ U=some (.nrm .normal τ V)) {x y:Code} (hc:cC P hl x=some c) {Q:Exit->Act->World->Prop} {F:Addr->Option Value} {own:List Ent} {B:Nat} {w0:W0} {act:Act} {w:World} (hI:Inv Gl F own B w0 σ act w)
  (hy:∀F own act w,Inv Gl F own B w0 τ act w->y.wp P Q act w):(x.seq y).wp P Q act w:=by
 refine wp_seq (wp_mono ((hx _ _ _ _ _ h).2 x hc F own B w0 act w hI) ?_)
 rintro e a w' ⟨rfl,_,F1,dA,τ',hI1,rfl⟩
 exact hy F1 dA a w' hI1
theorem Inv.more{F:Addr->Option Value}{own:List Ent}{B:Nat}{w0:W0}{σ:St}{act:Act}{w w':World}(h:Inv Gl F own B w0 σ act w)(hb:Below w.heap.size w w'):Inv Gl F own B w0 σ act w' :=
 h.call (F':=F) (λ_ _ q=>q) (λad y q=>by rw[World.cell?_of_block (w:=w) (hb.block _ (h.yY q))];exact h.sub _ _ q) (λ_ _ q=>.inl q) hb
end
section
variable{P:Program}{Gl:Nat->Option (List AV)}
theorem Xn{ops:Array Oper}{Q:Exit->Act->World->Prop}{i:Nat}{rest:List Nat}{a:Act}{w w':World}{o:Oper}{v:Value}(ho:ops[i]?=some o)(hg:o.guard=none)(hr:(execOp a.eval o).run P w=.ok (.value v) w')(h:wpOps P ops Q rest (a.put o.dst v) w'):wpOps P ops Q (i::rest) a w:=by
 simp only[wpOps,ho]
 rw[if_pos (by simp[Region.wanted,hg])]
 left
 unfold Oper.wp
 rw[hr];exact h
theorem a9n{ops:Array Oper}{Q:Exit->Act->World->Prop}{i:Nat}{rest:List Nat}{a:Act}{w w':World}{o:Oper}{v:Value}(ho:ops[i]?=some o)(hg:o.guard=none)(hr:(execOp a.eval o).run P w=.halt (.panic v) w')(h:Q (.panic [{ v,recovered:=false }]) a w'):wpOps P ops Q (i::rest) a w:=by
 simp only[wpOps,ho]
 rw[if_pos (by simp[Region.wanted,hg])]
 left
 unfold Oper.wp
 rw[hr];exact h
theorem a9o{ops:Array Oper}{Q:Exit->Act->World->Prop}{i:Nat}{rest:List Nat}{a:Act}{w w':World}{o:Oper}{d:Deferred}(ho:ops[i]?=some o)(hg:o.guard=none)(hr:(execOp a.eval o).run P w=.ok (.defer d) w')(h:wpOps P ops Q rest ({ a with defers:=d::a.defers }.put o.dst undef) w'):wpOps P ops Q (i::rest) a w:=by
 simp only[wpOps,ho]
 rw[if_pos (by simp[Region.wanted,hg])]
 left
 unfold Oper.wp
 rw[hr];exact h
theorem a1m{ops:Array Oper}{Q:Exit->Act->List Frame->World->Prop}{i:Nat}{rest:List Nat}{a:Act}{cs:List Frame}{w w':World}{o:Oper}{v:Value}(ho:ops[i]?=some o)(hg:o.guard=none)(hr:(execOp a.eval o).run P w=.ok (.value v) w')(h:wpOpsS P ops Q rest (a.put o.dst v) cs w'):wpOpsS P ops Q (i::rest) a cs w:=by
 simp only[wpOpsS,ho]
 rw[if_pos (by simp[Region.wanted,hg]),hr]
 exact h
theorem a1n{ops:Array Oper}{Q:Exit->Act->List Frame->World->Prop}{i:Nat}{rest:List Nat}{a:Act}{cs cs':List Frame}{w:World}{o:Oper}{v:Value}(ho:ops[i]?=some o)(hg:o.guard=none)(hr:(execOp a.eval o).run P w=.ok .recover w)(hc:recoverD cs=some (v,cs')\/(recoverD cs=none/\v=.nilIface/\cs'=cs))(h:wpOpsS P ops Q rest (a.put o.dst v) cs' w):wpOpsS P ops Q (i::rest) a cs w:=by
 simp only[wpOpsS,ho]
 rw[if_pos (by simp[Region.wanted,hg]),hr]
 rcases hc with hc|⟨hc,rfl,rfl⟩
 .simp only[hc];exact h
 .simp only[hc];exact h
theorem ER{ops:Array Oper}{Q:Exit->Act->List Frame->World->Prop}{cs:List Frame}(hno:∀a w,¬Q .outgrown a cs w):∀(l:List Nat) (a:Act) (w:World),wpOps P ops (λe a w=>Q e a cs w) l a w->wpOpsS P ops Q l a cs w
 |[],a,w,h=>h
 |i::rest,a,w,h=>by
  simp only[wpOps]at h
  simp only[wpOpsS]
  cases ho:ops[i]? with
  |none=>rw[ho]at h;exact ER hno rest a w h
  |some o =>
   rw[ho]at h
   simp only at h ⊢
   split at h
   .rename_i hw
    rw[if_pos hw]
    rcases h with h|⟨_,a0,w0,h0⟩
    .unfold Oper.wp at h
     generalize (execOp a.eval o).run P w=r at h
     have conv:∀(nx:Act->World->Prop) (nx':Act->World->Prop),(∀a w,nx a w->nx' a w)->o.upon P a nx (λe a w=>Q e a cs w) r->o.upon P a nx' (λe a w=>Q e a cs w) r:=by
      intro nx nx' hn hu
      unfold Oper.upon at hu ⊢
      split at hu
      .exact hn _ _ hu
      .exact hn _ _ hu
      .exact hn _ _ hu
      .refine Calls.mono hu ?_
       intro e w' he
       cases e with
       |returned v=>exact hn _ _ he
       |panicked c=>exact he
       |outgrown=>exact he
      .refine Rows.mono hu ?_
       intro v w' he
       exact hn _ _ he
      .exact hu
      .exact hu.elim
     have h2:=conv _ (λa w=>wpOpsS P ops Q rest a cs w) (λa w hh=>ER hno rest a w hh) h
     split
     .rename_i w'
      exact h2.elim
     .exact h2
    .exact absurd h0 (hno a0 w0)
   .rename_i hw
    rw[if_neg hw]
    exact ER hno rest _ w h
def Pk(P:Program)(ops:Array Oper)(k:Nat):List Ins:=(ops.toList.drop k).filterMap (jI P false ops)
theorem Lp{ops:Array Oper}{k m:Nat}(hall:((ops.toList.drop k).take m).all (λo=>(jI P false ops o).isSome)=true):∀j,j<m->k+j<ops.size->∃ins o,(Pk P ops k)[j]?=some ins/\ops[k+j]?=some o/\jI P false ops o=some ins:=by
 unfold Pk
 have key:∀(l:List Oper) (m:Nat),(l.take m).all (λo=>(jI P false ops o).isSome)=true->∀(j:Nat) (o:Oper),j<m->l[j]?=some o->∃ins,(l.filterMap (jI P false ops))[j]?=some ins/\jI P false ops o=some ins:=by
  intro l
  induction l with
  |nil=>intro m _ j o _ hj;simp at hj
  |cons x l ih =>
   intro m ha j o hm hj
   cases m with
   |zero=>omega
   |succ m =>
    simp only[List.take_succ_cons,lS,au]at ha
    obtain⟨i,hi⟩:=Option.isSome_iff_exists.1 ha.1
    rw[List.filterMap_cons_some hi]
    cases j with
    |zero=>cases hj;exact⟨i,rfl,hi⟩
    |succ j=>exact ih m ha.2 j o (by omega) (by simpa using hj)
 intro j hm hj
 have ho:ops[k+j]?=some ops[k+j]:=aF hj
 obtain⟨ins,h1,h2⟩:=key (ops.toList.drop k) m hall j ops[k+j] hm (by rw[fJ];simp)
 exact⟨ins,_,h1,ho,h2⟩
theorem TY {ops:Array Oper} {Q:Exit->Act->World->Prop} {rest:List Nat} {B:Nat} {w0:W0} {K:St->Prop} (hK:∀ a w,mh Gl B w0 K a w->wpOps P ops Q rest a w):∀ (l:List Ins) (k:Nat),(∀ j,j < l.length->∃ o ins,l[j]?=some ins/\ops[k + j]?=some o/\jI P false ops o=some ins) ->
  ∀(σ:St) (F:Addr->Option Value) (own:List Ent) (act:Act) (w:World),Bg P Gl false K l σ->Inv Gl F own B w0 σ act w->wpOps P ops Q (List.range' k l.length++rest) act w:=by
 intro l
 induction l with
 |nil=>intro k _ σ F own act w ha hI;exact hK act w ⟨F,own,σ,hI,ha⟩
 |cons ins l ih =>
  intro k hl σ F own act w ha hI
  obtain⟨o,ins',e1,e2,e3⟩:=hl 0 (by simp)
  simp at e1
  subst e1
  simp only[jW]at e2
  rw[bf,nV,Af,wpOps_cons]
  refine wpOp_mono ?_ (mH hI e3 ha Q e2)
  rintro a w1 ⟨F1,dA,σ1,hI1,hK1⟩
  exact ih (k+1) (λj hj=>by
   obtain⟨o',i',f1,f2,f3⟩:=hl (j+1) (by simp;omega)
   exact⟨o',i',by simpa using f1,by rw[<- f2];congr 1;omega,f3⟩) σ1 F1 dA a w1 hK1 hI1
end
set_option maxRecDepth 20000
@[reducible] def sq1:Code->Code
 |.seq a _=>a
 |c=>c
@[reducible] def sq2:Code->Code
 |.seq _ b=>b
 |c=>c
@[reducible] def rgO:Code->Array Oper
 |.region _ o _=>o
 |_=>#[]
structure VO (P:Program) (f:Nat) (fn:Func) (ops:Array Oper) (y:Code) (l:List Ins) (o0 o1:Oper) (tt:TypeId):Prop where
 fn9:P.funcs[f]?=some fn
 body:fn.body=some ((Code.region 0 ops false).seq y)
 res:fn.results=#[]
 nt:fn.ntmps=29
 sz:ops.size=8
 p0:ops[0]?=some o0
 g0:o0.guard=none
 d0:o0.dst=some 8
 q0:o0.op=.call { callee:=.builtin .recover,args:=#[],argTypes:=#[] }
 p1:ops[1]?=some o1
 g1:o1.guard=none
 d1:o1.dst=some 9
 q1:o1.op=.typeAssert (.tmp 8) 20 tt true
 all:((ops.toList.drop 2).take 6).all (λo=>(jI P false ops o).isSome)=true
 li:l=Pk P ops 2
 ll:l.length=6
def st9(az:List AV)(h:List ay)(a8 a9:AV):St:=St.put (St.put ⟨az++List.replicate (29-az.length) .any,h⟩ (some 8) a8) (some 9) a9
section
variable{P:Program}{Gl:Nat->Option (List AV)}
theorem d9 {f9 : Nat} {fn : Func} {ops : Array Oper} {y : Code} {l9 : List Ins} {o0 o1 : Oper} {tt : TypeId} (hr9 : VO P f9 fn ops y l9 o0 o1 tt) {hl : List Nat} {ex : Nat -> C -> St -> List Nat -> Option Out} (hx : Ah P Gl hl ex) {cf : Nat -> List AV -> List ay -> Option IR} {pf : Nat -> List AV -> Option AV} (hcf : uF P Gl cf) (hpf : wI P Gl pf)
    {h:List ay} {az:List AV} {u u':FrameMode} {v8:Value} {v9:Value} {a9:AV} (hl9:az.length=5)
    (hrec:∀(c₀:Frame) (cs:List Frame),c₀.mode=u->recoverD (c₀::cs)=some (v8,{ c₀ with mode:=u' }::cs)\/(recoverD (c₀::cs)=none/\v8=.nilIface/\({ c₀ with mode:=u' }::cs:List Frame)=c₀::cs))
    (hta:∀w,(Instr.typeAssert v8 20 tt true).run P w=.ok v9 w) (hR9:∀F,RP F v9 a9)
    {N:Nat} {τ:St} {V:List Nat} (h0:pV Gl cf pf false N l9 (st9 az h (.v v8) a9) []=some (.nrm .normal τ V))
    {cy:C} (hcy:cC P hl y=some cy) {e9:Exit} {τ':St} {V':List Nat} (h1:ex N cy τ V=some (.nrm e9 τ' V')) (he:rP e9=true)
    {F:Addr->Option Value} {own:List Ent} {B:Nat} {w0:W0} {t:List AV} {act:Act} {w:World} {xs:Array Value} (hI:Inv Gl F own B w0 ⟨t,h⟩ act w) (hxs:RL F own xs az) :
    CallsD P f9 xs u w λe u1 w'=>e=.returned (.tuple #[])/\u1=u'/\∃F' own',Inv Gl F' own' B w0 ⟨t,τ'.h⟩ act w':=by
  obtain⟨hfn,hb,b4v,hn,hsz,p0,g0,d0,q0,p1,g1,d1,q1,hall,hli,hll⟩:=hr9
  refine callsD_of_wpS hfn hb λc₀ cs hu=>?_
  rw[hn]
  apply wpS_seq
  apply wpS_region
  rw[hsz,show List.range 8=0::1::List.range' 2 6 from rfl]
  let fr':List (Nat×Value×AV):=(List.range t.length).map λi=>(h.length,act.tmps.getD i undef,t.getD i .any)
  have Gx:∀ q ∈ w0.fr ++ fr',q.1<=h.length:=fun q hq=>by
    rcases aH.1 hq with hq|hq
    .exact bD (w0.hfr q hq) hI.nl
    .obtain⟨i,_,rfl⟩:=bT.1 hq;exact bq _
  have hown:own.take h.length=own:=gq (by rw[hI.hl];exact bq _)
  have hI1:Inv Gl F own B ⟨w0.w,w0.F,h.length,w0.fr ++ fr',Gx,w0.pd,w0.pdn,[]⟩ ⟨az ++ List.replicate (29 - az.length) .any,h⟩ { tmps:=xs ++ Array.replicate (29 - xs.size) undef,defers:=[] } w:=by
    refine{ tl:=by simp[hxs.1],tr:=λi x a p q=>?_,defers:=rfl,sub:=hI.sub,hl:=hI.hl,objs:=hI.objs,inj:=hI.inj,below:=hI.below,base:=hI.base,gl:=hI.gl,gw:=hI.gw,room:=hI.room,ext:=hI.ext,ko:=hI.ko,nl:=bq _,fr:=λq hq=>?_,pd:=hI.pd }
    · simp only at p q
      rcases bK i az.length with hi|hi
      · rw [aL hi] at q
        rw[gU (by rw[hxs.1];exact hi)]at p
        exact hxs.2 i x a p q
      · rw [aO hi,jo] at q
        split at q
        .cases q;exact .pure (.any _)
        .cases q
    · rcases aH.1 hq with hq | hq
      .exact hI.fr q hq
      · obtain ⟨i,hi,rfl⟩:=bT.1 hq
        have hi':=bA.1 hi
        have hlt:i<act.tmps.size:=by rw[hI.tl];exact hi'
        rw[hown]
        exact hI.tr i _ _ (by simp[Array.getD,hlt]) (by simp[List.getD,ah hi'])
  refine a1n (cs':={ c₀ with mode:=u' }::cs) (v:=v8) p0 g0 (by unfold execOp;rw[q0];rfl) ?_ ?_
  · rcases hrec c₀ cs hu with q | ⟨q,q',q''⟩
    .exact .inl q
    .exact .inr ⟨q,q',q''⟩
  rw[d0]
  have hI2:=hI1.put (x:=v8) (a:=.v v8) (.pure (.v v8)) (some 8)
  have ev8:(Act.put { tmps:=xs ++ Array.replicate (29 - xs.size) undef,defers:=[] } (some 8) v8).eval (.tmp 8)=v8:=by
    have:=hI2.ev (.tmp 8)
    have e8:(St.put ⟨az ++ List.replicate (29 - az.length) .any,h⟩ (some 8) (.v v8)).val Gl (bF (.tmp 8))=.v v8:=by
      show((az++List.replicate (29-az.length) AV.any).set 8 (.v v8)).getD 8 .any=.v v8
      rw[bn,bg (by simp[hl9])]
      rfl
    rw[e8]at this
    exact this.dN
  refine a1m (v:=v9) (w':=w) p1 g1 ?_ ?_
  · unfold execOp
    rw[q1]
    simp only[ev8]
    have:=hta w
    simp only[Sem.run_bind,this,Result.andThen_ok]
    rfl
  rw[d1]
  have hI3:=hI2.put (x:=v9) (a:=a9) (.pure (hR9 F)) (some 9)
  refine ER ?_ _ _ _ ?_
  · intro a w' hq
    obtain⟨u0,q⟩:=hq
    cases q.1
  rw[show(6:Nat)=l9.length from hll.symm]
  refine KW (K:=λρ=>ρ=τ) (lm:=false) (d:=false) ?_ l9 2 (λj hj=>by rw[hli];exact Lp hall j (by rw[hsz]at hj;omega) hj) (by rw[hll,hsz]) _ F own _ _ ((Ed hcf hpf _ _ _ _ _ _ h0).2.1 _ rfl) hI3
  rintro a1 w1 ⟨F1,dA,τ1,hI4,rfl⟩
  refine wpS_of_wp (wp_mono ((hx _ _ _ _ _ h1).2 _ hcy F1 dA B _ a1 w1 hI4) ?_)
  rintro e a2 w2 ⟨rfl,_,F2,yQ,τ2,hI5,rfl⟩
  have hback:Inv Gl F2 yQ B w0 ⟨t,τ2.h⟩ act w2 :=
    { tl := hI.tl, tr := fun i x a p q => by
        have hi:i<t.length:=(aj.1 q).1
        have hlt:i<act.tmps.size:=by rw[hI.tl];exact hi
        have:=hI5.fr (h.length,act.tmps.getD i undef,t.getD i .any) (aH.2 (.inr (bT.2 ⟨i,bA.2 hi,rfl⟩)))
        have e1:act.tmps.getD i undef=x:=by simp[Array.getD,hlt];rw[aF hlt]at p;exact aJ p
        have e2:t.getD i .any=a:=by
          have q':t[i]?=some a:=q
          simp[List.getD,q']
        rw[e1,e2]at this
        exact this.mono (λ_ _ r=>r) (Le.JJ _ _),
      defers:=hI.defers,sub:=hI5.sub,hl:=hI5.hl,objs:=hI5.objs,inj:=hI5.inj,below:=hI5.below,base:=hI5.base,gl:=hI5.gl,gw:=hI.gw,room:=hI5.room,ext:=hI5.ext,ko:=hI5.ko,nl:=bD hI.nl hI5.nl,fr:=λq hq=>hI5.fr q (aH.2 (.inl hq)),pd:=hI5.pd }
  have hres:(Go.results fn a2.tmps).run P w2=.ok (.tuple #[]) w2:=by
    rw[mJ,b4v]
    simp
  have fin:a2.defers=[]/\∃ u1,({ c₀ with mode:=u' } :: cs:List Frame)={ c₀ with mode:=u1 } :: cs/\∃ v,(Go.results fn a2.tmps).run P w2=.ok v w2/\(Ending.returned v=.returned (.tuple #[])/\u1=u'/\∃ F' own',Inv Gl F' own' B w0 ⟨t,τ2.h⟩ act w2) :=
    ⟨hI5.defers,u',rfl,_,hres,rfl,rfl,F2,yQ,hback⟩
  cases e with
  |normal=>exact fin
  |ret=>exact fin
  |_=>cases he
end
section
variable{P:Program}{Gl:Nat->Option (List AV)}
structure Ql (P:Program) (f f9:Nat) (fn:Func) (x1 x2 x3:Code) (ops:Array Oper) (y:Code) (o0 o1:Oper):Prop where
 fn4:P.funcs[f]?=some fn
 body:fn.body=some (x1.seq (x2.seq (x3.seq ((Code.region 4 ops false).seq y))))
 nt:fn.ntmps=23
 res:fn.results=#[.cell 2 29,.cell 3 3,.cell 4 46]
 sz:ops.size=2
 p0:ops[0]?=some o0
 g0:o0.guard=none
 d0:o0.dst=some 18
 q0:o0.op=.makeFunc (.func f9) #[] #[.tmp 1,.tmp 2,.tmp 3,.tmp 4,.tmp 5]
 p1:ops[1]?=some o1
 g1:o1.guard=none
 d1:o1.dst=none
 q1:o1.op=.defer { callee:=.value (.tmp 18),args:=#[],argTypes:=#[] }
def o7(act:Act):Array Value:=#[act.tmps.getD 1 undef,act.tmps.getD 2 undef,act.tmps.getD 3 undef,act.tmps.getD 4 undef,act.tmps.getD 5 undef]
def Fz(σ:St):List AV:=[σ.t.getD 1 .any,σ.t.getD 2 .any,σ.t.getD 3 .any,σ.t.getD 4 .any,σ.t.getD 5 .any]
def zY(f9:Nat)(act:Act):Deferred:={ target:=.fn (.func f9) (o7 act),args:=#[] }
theorem a8Y{o:Oper}{f9:Nat}{act:Act}{w:World}(h:o.op=.makeFunc (.func f9) #[] #[.tmp 1,.tmp 2,.tmp 3,.tmp 4,.tmp 5]):(execOp act.eval o).run P w=.ok (.value (.func (.func f9) #[] (o7 act))) w:=by
 have hmf:∀(fn:Go.Fn) (first cap:Array Value) (w:World),(Instr.makeFunc fn first cap).run P w=.ok (.func fn first cap) w:=λ_ _ _ _=>rfl
 unfold execOp
 simp only[h]
 simp[hmf,o7,Act.eval]
theorem a8Z{o:Oper}{f9:Nat}{a act:Act}{w:World}(h:o.op=.defer { callee:=.value (.tmp 18),args:=#[],argTypes:=#[] })(he:a.eval (.tmp 18)=.func (.func f9) #[] (o7 act)):(execOp a.eval o).run P w=.ok (.defer (zY f9 act)) w:=by
 unfold execOp
 simp only[h]
 simp[resolve,he,Deferred.ofValue,zY]
theorem Xc{f f9:Nat}{fn:Func}{x1 x2 x3:Code}{ops:Array Oper}{y:Code}{o0 o1:Oper}(h4:Ql P f f9 fn x1 x2 x3 ops y o0 o1){act:Act}{w:World}{Q:Exit->Act->World->Prop}(hs:act.tmps.size=23)(hQ:Q .normal { tmps:=(act.put (some 18) (.func (.func f9) #[] (o7 act))).tmps,defers:=zY f9 act::act.defers } w):(Code.region 4 ops false).wp P Q act w:=by
 refine wp_region ?_
 rw[h4.sz,show List.range 2=[0,1] from rfl]
 refine Xn (v:=.func (.func f9) #[] (o7 act)) (w':=w) h4.p0 h4.g0 (a8Y h4.q0) ?_
 rw[h4.d0]
 have e18:(act.put (some 18) (.func (.func f9) #[] (o7 act))).eval (.tmp 18)=.func (.func f9) #[] (o7 act):=by
  simp[Act.put,Act.eval,hs]
 refine a9o (d:=zY f9 act) (w':=w) h4.p1 h4.g1 (a8Z h4.q1 e18) ?_
 rw[h4.d1]
 exact hQ
theorem Xd {F:Addr->Option Value} {own:List Ent} {B:Nat} {w0:W0} {σ:St} {act:Act} {w:World} (hI:Inv Gl F own B w0 σ act w) (ht:σ.t.length=23) (f9:Nat) :
  ∃W1:W0,W1.w=w0.w/\W1.F=w0.F/\W1.df=zY f9 act::act.defers/\Inv Gl F own B W1 (σ.put (some 18) .any) { tmps:=(act.put (some 18) (.func (.func f9) #[] (o7 act))).tmps,defers:=zY f9 act::act.defers } w/\
   ∀F' own' τ act' w',Inv Gl F' own' B W1 τ act' w'->RL F' own' (o7 act) (Fz σ):=by
 let prs:List (Nat×Value×AV):=[1,2,3,4,5].map λi=>(σ.h.length,act.tmps.getD i undef,σ.t.getD i .any)
 have Gx:∀q∈w0.fr++prs,q.1<=σ.h.length:=λq hq=>by
  rcases aH.1 hq with hq|hq
  .exact bD (w0.hfr q hq) hI.nl
  .obtain⟨i,_,rfl⟩:=bT.1 hq;exact bq _
 have hown:own.take σ.h.length=own:=gq (by rw[hI.hl];exact bq _)
 have hI1:=hI.put (x:=.func (.func f9) #[] (o7 act)) (a:=.any) (.pure (.any _)) (some 18)
 refine⟨⟨w0.w,w0.F,σ.h.length,w0.fr++prs,Gx,w0.pd,w0.pdn,zY f9 act::act.defers⟩,rfl,rfl,rfl,?_,?_⟩
 .refine{ tl:=hI1.tl,tr:=hI1.tr,defers:=rfl,sub:=hI1.sub,hl:=hI1.hl,objs:=hI1.objs,inj:=hI1.inj,below:=hI1.below,base:=hI1.base,gl:=hI1.gl,gw:=hI1.gw,room:=hI1.room,ext:=hI1.ext,ko:=hI1.ko,nl:=bq _,fr:=λq hq=>?_,pd:=hI1.pd }
  rcases aH.1 hq with hq|hq
  .exact hI1.fr q hq
  .obtain⟨i,hi,rfl⟩:=bT.1 hq
   rw[hown]
   exact hI.ev (.tmp i)
 .intro F' own' τ act' w' hI'
  have get:∀i∈[1,2,3,4,5],R F' own' (act.tmps.getD i undef) (σ.t.getD i .any):=λi hi =>
   (hI'.fr (σ.h.length,act.tmps.getD i undef,σ.t.getD i .any) (aH.2 (.inr (bT.2 ⟨i,hi,rfl⟩)))).mono (λ_ _ r=>r) (Le.JJ _ _)
  refine⟨rfl,λi x a p q=>?_⟩
  match i,p,q with
  |0,p,q=>cases p;cases q;exact get 1 (by simp)
  |1,p,q=>cases p;cases q;exact get 2 (by simp)
  |2,p,q=>cases p;cases q;exact get 3 (by simp)
  |3,p,q=>cases p;cases q;exact get 4 (by simp)
  |4,p,q=>cases p;cases q;exact get 5 (by simp)
  |n+5,p,q=>simp[Fz]at q
end
section
variable{P:Program}{Gl:Nat->Option (List AV)}
theorem LB {F:Addr->Option Value} {w:World} {xs:Array Value} {az:List AV} {n:Nat} (hF:∀ a x,F a=some x->w.cell? a=some x) (hgl:KG Gl F) (hgw:GlW Gl w.heap.size w) (hxs:RPL F xs az) :
  Inv Gl F [] w.heap.size ⟨w,F,0,[],(λq hq=>by simp at hq),[],List.Pairwise.nil,[]⟩ ⟨az++List.replicate (n-az.length) .any,[]⟩ { tmps:=xs++Array.replicate (n-xs.size) undef,defers:=[] } w:=by
 refine{ tl:=by simp[hxs.1],tr:=λi x a p q=>?_,defers:=rfl,sub:=hF,hl:=rfl,objs:=λid e o p=>by simp at p,inj:=λi j e e' g p=>by simp at p,below:=Below.refl _ _,base:=λid e g p=>by simp at p,gl:=hgl,gw:=hgw,room:=bq _,ext:=λ_ _ q=>.inl q,ko:=λ_ _ q=>q,nl:=dG _,fr:=(λq hq=>by simp at hq),pd:=λq hq=>by simp at hq }
 simp only at p q
 rcases bK i az.length with hi|hi
 .rw[aL hi]at q
  rw[gU (by rw[hxs.1];exact hi)]at p
  exact .pure (hxs.2 i x a p q)
 .rw[aO hi,jo]at q
  split at q
  .cases q;exact .pure (.any _)
  .cases q
theorem a1c {f f9:Nat} {fn fn9:Func} {x1 x2 x3 y y9:Code} {ops a1o:Array Oper} {o0 o1 o0' o1':Oper} {l9:List Ins} {tt:TypeId} (h4:Ql P f f9 fn x1 x2 x3 ops y o0 o1) (h9:VO P f9 fn9 a1o y9 l9 o0' o1' tt)
  (hinv:∀act (w:World),(invoke (.fn (.func f9) (o7 act)) #[]).run P w=.ok (.enter f9 (o7 act)) w)
  {hl:List Nat} {ex:Nat->C->St->List Nat->Option Out} (hx:Ah P Gl hl ex) {cf:Nat->List AV->List ay->Option IR} {pf:Nat->List AV->Option AV} (hcf:uF P Gl cf) (hpf:wI P Gl pf)
  {az:List AV} {c1 c2 c3 cB c9:C} (k1:cC P hl x1=some c1) (k2:cC P hl x2=some c2) (k3:cC P hl x3=some c3) (kB:cC P hl y=some cB) (k9:cC P hl y9=some c9) {rs:List RV} (kr:pJ P fn.results.toList=some rs)
  {τ1 τ2 τ3 τB τ9 τ9':St} {V1 V2 V3 VB V9 V9':List Nat} {N:Nat} {eB e9:Exit}
  (e1:ex N c1 ⟨az++List.replicate (23-az.length) .any,[]⟩ []=some (.nrm .normal τ1 V1)) (e2:ex N c2 τ1 V1=some (.nrm .normal τ2 V2)) (e3:ex N c3 τ2 V2=some (.nrm .normal τ3 V3)) (ht3:τ3.t.length=23)
  (eB1:ex N cB (τ3.put (some 18) .any) V3=some (.nrm eB τB VB)) (eB2:rP eB=true)
  {v9:Value} {a9:AV} (hta:∀w,(Instr.typeAssert .nilIface 20 tt true).run P w=.ok v9 w) (hR9:∀F,RP F v9 a9)
  (e91:pV Gl cf pf false N l9 (st9 (Fz τ3) τB.h (.v .nilIface) a9) []=some (.nrm .normal τ9 V9)) (e92:ex N c9 τ9 V9=some (.nrm e9 τ9' V9')) (e93:rP e9=true)
  {l:List AV} (er:um Gl ⟨τB.t,τ9'.h⟩ rs=some l) {res:AV} (ek:yg τ9'.h (uV l)=some res):Pure P Gl f az res:=by
 intro w F xs hF hgl hgw hxs
 refine calls_of_wp_defers h4.fn4 h4.body ?_
 rw[h4.nt]
 have hI:=LB (n:=23) hF hgl hgw hxs
 refine x9 hx e1 k1 hI λF1 dA a1 w1 hI1=>x9 hx e2 k2 hI1 λF2 yQ a2 w2 hI2=>x9 hx e3 k3 hI2 λF3 a9j a3 w3 hI3=>wp_seq ?_
 obtain⟨W1,hW1,hW2,hW3,hI4,hcap⟩:=Xd hI3 ht3 f9
 refine Xc h4 (by rw[hI3.tl,ht3]) ?_
 show y.wp P _ _ _
 refine wp_mono ((hx _ _ _ _ _ eB1).2 y kB F3 a9j _ W1 _ w3 hI4) ?_
 rintro e a5 w5 ⟨rfl,_,F5,b8W,τ5,hI5,rfl⟩
 have hd5:a5.defers=[zY f9 a3]:=by
  rw[hI5.defers,hW3,hI3.defers]
 have hleave:Leaves P fn a5.tmps (Jf F w res) a5.defers .returning w5:=by
  rw[hd5]
  refine leaves_cons (by simp) (hinv a3 w5) ?_
  refine(d9 h9 hx hcf hpf (u:=.returning) (u':=.returning) (v8:=.nilIface) (by rfl) (λc₀ cs hu=>.inr ⟨by simp[recoverD,hu],rfl,by cases c₀;simp_all⟩) hta hR9 e91 k9 e92 e93 hI5 (hcap _ _ _ _ _ hI5)).mono ?_
  rintro e' u' w6 ⟨rfl,rfl,F6,b7h,hI6⟩
  obtain⟨v,hv1,hv2⟩:=Oc kr hW1 hW2 hI6 er ek
  exact⟨v,hv1,hv2⟩
 cases e with
 |normal=>exact hleave
 |ret=>exact hleave
 |_=>cases eB2
theorem a9e {F:Addr->Option Value} {own:List Ent} {B:Nat} {w0:W0} {σ:St} {act:Act} {w:World} (hI:Inv Gl F own B w0 σ act w) {i id:Nat} (hi:σ.val Gl (.t i)=.ptr id 1 0 0) {ob:ay} (hob:σ.h[id]?=some ob) {a b:AV} (hes:ob.es=[a]) (hsz:ob.sz=1) (hc:a.cells=[a]) (hk:jT σ.h a=some b) (hc':b.cells=[b]) :
  ∃F3,(∀ad y,F ad=some y->F3 ad=some y)/\(∀ad y,F3 ad=some y->w.cell? ad=some y)/\RP F3 (act.tmps.getD i undef) (.fZ [b]):=by
 obtain⟨F1,hF1,hI1,hkp⟩:=hI.r9 (dJ a)
 have hp:=hI.ev (.tmp i)
 rw[show bF (.tmp i)=.t i from rfl,hi]at hp
 obtain⟨e,he,hO⟩:=hI.xE hob
 obtain⟨c1,c2,c3,c4,c5,c6,c7,c8⟩:=hO
 have hG:e.G=1:=by rw[c1,hes];rfl
 have hx:∃g,e.g=some g/\act.eval (.tmp i)=.pointer (some ⟨g,0,none⟩):=by
  generalize act.eval (.tmp i)=x at hp
  cases hp with
  |pure h=>cases h
  |ptr x id G i off e' he' hG' hs hx hz =>
   rw[he]at he';cases he'
   obtain⟨g,q1,q2⟩:=hx hG.symm
   exact⟨g,q1,by rw[q2];simp⟩
 obtain⟨g,hg,hpx⟩:=hx
 rw[hg]at c8
 obtain⟨cs,⟨fr,hcell,_⟩,hcs,hel,_⟩:=c8
 obtain⟨y,hy1,hy2,hy3⟩:=hel 0 0 a a (by rw[hes];rfl) (by rw[hc];rfl)
 have hyR:R F own y a:=by
  unfold RC at hy3
  split at hy3
  .exact .pure hy3
  .exact hy3
 obtain⟨hRP,_,_⟩:=nO hI hF1 hyR hk hkp
 have hcl:w.cell? ⟨g,0,none⟩=some y:=by
  have b8n:cs[0]?=some y:=by simpa using hy1
  simp[World.cell?,hcell,b8n]
 classical
 refine⟨λq=>if q=⟨g,0,none⟩ then some y else F1 q,λad z hz=>?_,λad z hz=>?_,?_⟩
 .show(if ad=(⟨g,0,none⟩:Addr) then some y else F1 ad)=some z
  by_cases hq:ad=⟨g,0,none⟩
  .rw[if_pos hq]
   have:=hI.sub _ _ hz
   rw[hq,hcl]at this
   exact this
  .rw[if_neg hq];exact hF1 _ _ hz
 .have hz:(if ad=(⟨g,0,none⟩:Addr) then some y else F1 ad)=some z:=hz
  by_cases hq:ad=⟨g,0,none⟩
  .rw[if_pos hq]at hz;cases hz;rw[hq];exact hcl
  .rw[if_neg hq]at hz;exact hI1.sub _ _ hz
 .have:act.tmps.getD i undef=.pointer (some ⟨g,0,none⟩):=hpx
  rw[this]
  have hmono:∀{x:Value} {c:AV},RP F1 x c->RP (λq=>if q=(⟨g,0,none⟩:Addr) then some y else F1 q) x c:=λh=>h.mono λad z hz=>by
   by_cases hq:ad=⟨g,0,none⟩
   .simp only[if_pos hq]
    have:=hI1.sub _ _ hz
    rw[hq,hcl]at this
    exact this
   .simp only[if_neg hq];exact hz
  refine .fZ _ [b] (λ_=>y) (λj c hj=>?_) (λj c hj=>?_)
  .cases j with
   |zero=>exact⟨by simp[Addr.add],hy2⟩
   |succ j=>simp at hj
  .cases j with
   |zero=>cases hj;exact hmono hRP
   |succ j=>simp at hj
end
section
variable{P:Program}{Gl:Nat->Option (List AV)}
def st5(p2 p3 p4:Value)(b:AV):St:=⟨((((List.replicate 23 .any).set 2 (.v p2)).set 3 (.v p3)).set 4 (.v p4)).set 5 (.fZ [b]),[]⟩
theorem U0 {f f9 f10:Nat} {fn fn9:Func} {x1 x2 x3 x5 yC y9:Code} {ops Gm a1o:Array Oper} {o0 o1 o6 o0' o1':Oper} {l9:List Ins} {tt:TypeId} (h4:Ql P f f9 fn x1 x2 x3 ops (x5.seq ((Code.region 6 Gm false).seq yC)) o0 o1) (h9:VO P f9 fn9 a1o y9 l9 o0' o1' tt)
  (hinv:∀act (w:World),(invoke (.fn (.func f9) (o7 act)) #[]).run P w=.ok (.enter f9 (o7 act)) w)
  {hl:List Nat} {ex:Nat->C->St->List Nat->Option Out} (hx:Ah P Gl hl ex) {cf:Nat->List AV->List ay->Option IR} {pf:Nat->List AV->Option AV} (hcf:uF P Gl cf) (hpf:wI P Gl pf)
  {az:List AV} {c1 c2 c3 c5 c9:C} (k1:cC P hl x1=some c1) (k2:cC P hl x2=some c2) (k3:cC P hl x3=some c3) (k5:cC P hl x5=some c5) (k9:cC P hl y9=some c9) {rs:List RV} (kr:pJ P fn.results.toList=some rs)
  {τ1 τ2 τ3 τ9 τ9':St} {τ5:Value->Value->Value->St} {V5:Value->Value->Value->List Nat} {V1 V2 V3 V9 V9':List Nat} {N:Nat} {e9:Exit}
  (e1:ex N c1 ⟨az++List.replicate (23-az.length) .any,[]⟩ []=some (.nrm .normal τ1 V1)) (e2:ex N c2 τ1 V1=some (.nrm .normal τ2 V2)) (e3:ex N c3 τ2 V2=some (.nrm .normal τ3 V3)) (ht3:τ3.t.length=23)
  {id:Nat} {ob:ay} {a b:AV} (hi:τ3.t.getD 5 .any=.ptr id 1 0 0) (hob:τ3.h[id]?=some ob) (hes:ob.es=[a]) (hsz:ob.sz=1) (hc:a.cells=[a]) (hk:jT τ3.h a=some b) (hc':b.cells=[b])
  (e5:∀p2 p3 p4,ex N c5 (st5 p2 p3 p4 b) []=some (.nrm .normal (τ5 p2 p3 p4) (V5 p2 p3 p4))) (t5:∀p2 p3 p4,(τ5 p2 p3 p4).t.getD 2 .any=.v p2/\(τ5 p2 p3 p4).t.getD 3 .any=.v p3/\(τ5 p2 p3 p4).t.getD 4 .any=.v p4)
  (hp6:Gm[0]?=some o6) (hz6:0<Gm.size) {d6:Option Nat} (hc6:jI P false Gm o6=some ⟨d6,none,.call (.k (.func (.func f10) #[] #[])) [.t 6]⟩) {v:Value} (e6:∀p2 p3 p4,cf f10 [(τ5 p2 p3 p4).t.getD 6 .any] (τ5 p2 p3 p4).h=some (.pan v))
  {v9:Value} {a9:AV} (hta:∀w,(Instr.typeAssert v 20 tt true).run P w=.ok v9 w) (hR9:∀F,RP F v9 a9)
  (e91:pV Gl cf pf false N l9 (st9 (Fz τ3) τ3.h (.v v) a9) []=some (.nrm .normal τ9 V9)) (e92:ex N c9 τ9 V9=some (.nrm e9 τ9' V9')) (e93:rP e9=true)
  {l:List AV} (er:um Gl ⟨τ3.t.set 18 .any,τ9'.h⟩ rs=some l) {res:AV} (ek:yg τ9'.h (uV l)=some res):Pure P Gl f az res:=by
 intro w F xs hF hgl hgw hxs
 refine calls_of_wp_defers h4.fn4 h4.body ?_
 rw[h4.nt]
 have hI:=LB (n:=23) hF hgl hgw hxs
 refine x9 hx e1 k1 hI λF1 dA a1 w1 hI1=>x9 hx e2 k2 hI1 λF2 yQ a2 w2 hI2=>x9 hx e3 k3 hI2 λF3 a9j a3 w3 hI3=>wp_seq ?_
 obtain⟨W1,hW1,hW2,hW3,hI4,hcap⟩:=Xd hI3 ht3 f9
 refine Xc h4 (by rw[hI3.tl,ht3]) ?_
 show(x5.seq ((Code.region 6 Gm false).seq yC)).wp P _ _ _
 generalize ea4:({ tmps:=(a3.put (some 18) (.func (.func f9) #[] (o7 a3))).tmps,defers:=zY f9 a3::a3.defers }:Act)=a4 at hI4 ⊢
 have hd4:a4.defers=[zY f9 a3]:=by rw[<- ea4,hI3.defers]
 have hs4:a4.tmps.size=23:=by rw[hI4.tl];simp[St.put,ht3]
 have hi4:(τ3.put (some 18) .any).val Gl (.t 5)=.ptr id 1 0 0:=by
  show(τ3.t.set 18 .any).getD 5 .any=_
  rw[bn,aP (by omega),<- bn];exact hi
 obtain⟨G,hG1,hG2,hG3⟩:=a9e hI4 hi4 hob hes hsz hc hk hc'
 have b8z:GlW Gl w3.heap.size w3:=λg cs q=>by
  obtain⟨q1,vs,ty,fr,q2,q3⟩:=hI4.gw g cs q
  have hb:=hI4.below.block g q1
  exact⟨jk q1 (bD hI4.room hI4.below.size),vs,ty,fr,by rw[hb];exact q2,q3⟩
 let W5:W0:=⟨w3,G,0,[],(λq hq=>by simp at hq),[],List.Pairwise.nil,a4.defers⟩
 have hI5:Inv Gl G [] w3.heap.size W5 (st5 (a4.tmps.getD 2 undef) (a4.tmps.getD 3 undef) (a4.tmps.getD 4 undef) b) a4 w3:=by
  refine{ tl:=by simp[st5,hs4],tr:=λi x c p q=>?_,defers:=rfl,sub:=hG2,hl:=rfl,objs:=λid e o p=>by simp at p,inj:=λi j e e' g p=>by simp at p,below:=Below.refl _ _,base:=λid e g p=>by simp at p,gl:=λg cs q=>(hI4.gl g cs q).mono hG1,gw:=b8z,room:=bq _,ext:=λ_ _ q=>.inl q,ko:=λ_ _ q=>q,nl:=dG _,fr:=(λq hq=>by simp[W5]at hq),pd:=λq hq=>by simp[W5]at hq }
  have hlt:i<23:=by rw[<- hs4];exact(eY.1 p).1
  have ex:a4.tmps.getD i undef=x:=by
   have:i<a4.tmps.size:=by omega
   simp[Array.getD,this];rw[aF this]at p;exact aJ p
  have eq:(st5 (a4.tmps.getD 2 undef) (a4.tmps.getD 3 undef) (a4.tmps.getD 4 undef) b).t.getD i .any=c:=by
   have q':(st5 (a4.tmps.getD 2 undef) (a4.tmps.getD 3 undef) (a4.tmps.getD 4 undef) b).t[i]?=some c:=q
   rw[bn,q'];rfl
  by_cases h2:i=2
  .subst h2;have:c=.v x:=by rw[<- eq,<- ex];rfl
   rw[this];exact .pure (.v x)
  by_cases h3:i=3
  .subst h3;have:c=.v x:=by rw[<- eq,<- ex];rfl
   rw[this];exact .pure (.v x)
  by_cases h4':i=4
  .subst h4';have:c=.v x:=by rw[<- eq,<- ex];rfl
   rw[this];exact .pure (.v x)
  by_cases h5:i=5
  .subst h5;have:c=.fZ [b]:=by rw[<- eq];rfl
   rw[this,<- ex];exact .pure hG3
  ·have:c=.any:=by
    rw[<- eq]
    show(((((List.replicate 23 AV.any).set 2 _).set 3 _).set 4 _).set 5 _).getD i .any=.any
    rw[bn,aP (by omega),aP (by omega),aP (by omega),aP (by omega),jo,if_pos hlt]
    rfl
   rw[this];exact .pure (.any _)
 have e5':=e5 (a4.tmps.getD 2 undef) (a4.tmps.getD 3 undef) (a4.tmps.getD 4 undef)
 have t5':=t5 (a4.tmps.getD 2 undef) (a4.tmps.getD 3 undef) (a4.tmps.getD 4 undef)
 have e6':=e6 (a4.tmps.getD 2 undef) (a4.tmps.getD 3 undef) (a4.tmps.getD 4 undef)
 generalize τ5 (a4.tmps.getD 2 undef) (a4.tmps.getD 3 undef) (a4.tmps.getD 4 undef)=σ6 at e5' t5' e6'
 refine x9 hx e5' k5 hI5 λF6 b7h a6 w6 hI6=>wp_seq (wp_region ?_)
 obtain⟨m,hm⟩:∃m,Gm.size=m+1:=⟨Gm.size-1,by omega⟩
 rw[hm,qR,nV,wpOps_cons]
 obtain⟨hcb,b8u⟩:=hcf _ _ _ _ e6'
 refine Kn hI6 hc6 hp6 (v:=v) ⟨rfl,_,_,f10,_,rfl,⟨rfl,rfl⟩,hcb,b8u⟩ (λw7 hD=>?_) _
 show Leaves P fn a6.tmps (Jf F w res) a6.defers (.panicking [{ v,recovered:=false }]) w7
 have hd6:a6.defers=[zY f9 a3]:=by rw[hI6.defers];exact hd4
 rw[hd6]
 have hI7:=hI4.more hD.2
 refine leaves_cons (by simp) (hinv a3 w7) ?_
 refine(d9 h9 hx hcf hpf (u:=.panicking [{ v,recovered:=false }]) (u':=.panicking [{ v,recovered:=true }]) (v8:=v) (by rfl) (λc₀ cs hu=>.inl (by simp[recoverD,hu])) hta hR9 e91 k9 e92 e93 hI7 (hcap _ _ _ _ _ hI7)).mono ?_
 rintro e' u' w8 ⟨rfl,rfl,F8,b8V,hI8⟩
 obtain⟨z,hz1,hz2⟩:=Oc kr hW1 hW2 hI8 er ek
 have same:Go.results fn a6.tmps=Go.results fn a4.tmps:=by
  have g:∀i p,σ6.t.getD i .any=.v p->a6.tmps.getD i undef=p:=λi p hq=>by
   have:=hI6.ev (.tmp i)
   rw[show σ6.val Gl (bF (.tmp i))=.v p from hq]at this
   exact this.dN
  rw[mJ,mJ,h4.res]
  have m2:=g 2 _ t5'.1
  have m3:=g 3 _ t5'.2.1
  have m4:=g 4 _ t5'.2.2
  simp only[List.mapM_toArray,tY,List.mapM_nil,Abs.Dv,m2,m3,m4]
 show Leaves P fn a6.tmps (Jf F w res) [] (settle (.panicking [{ v,recovered:=true }])) w8
 have hset:settle (.panicking [{ v,recovered:=true }])=.returning:=rfl
 rw[hset]
 exact⟨z,by rw[same];exact hz1,hz2⟩
end
set_option maxRecDepth 20000
def Cx:List Nat:=[221,47,81,82,83,84,123,124,125,126,127,128,129,130,94,160,161,162,163,145,191,201,202,203,204,205,206,216,217,218,219,225]
def g0C:List AV:=[.v (.int .i64 31),.v (.int .i64 28),.v (.int .i64 31),.v (.int .i64 30),.v (.int .i64 31),.v (.int .i64 30),.v (.int .i64 31),.v (.int .i64 31),.v (.int .i64 30),.v (.int .i64 31),.v (.int .i64 30),.v (.int .i64 31)]
def g1C:List AV:=[.v (.string ⟨#[]⟩),.v (.bool false),.v (.int .i64 0),.v (.int .i64 0),.v (.int .i64 0),.v (.string ⟨#[116,114,117,101]⟩),.v (.bool false),.v (.int .i64 0),.v (.int .i64 0),.v (.int .i64 0),.v (.string ⟨#[102,97,108,115,101]⟩),.v (.bool false),.v (.int .i64 0),.v (.int .i64 0),.v (.int .i64 0),.v (.string ⟨#[]⟩),.v (.bool true),.v (.int .i64 0),.v (.int .i64 0),.v (.int .i64 0),.v (.string ⟨#[105,110]⟩),.v (.bool true),.v (.int .i64 0),.v (.int .i64 0),.v (.int .i64 0),.v (.string ⟨#[102,114,111,109]⟩),.v (.bool true),.v (.int .i64 0),.v (.int .i64 0),.v (.int .i64 0),.v (.string ⟨#[110,111,116]⟩),.v (.bool false),.v (.int .i64 1),.v (.int .i64 1),.v (.int .i64 3),.v (.string ⟨#[97,110,100]⟩),.v (.bool false),.v (.int .i64 2),.v (.int .i64 300),.v (.int .i64 2),.v (.string ⟨#[111,114]⟩),.v (.bool false),.v (.int .i64 2),.v (.int .i64 300),.v (.int .i64 1)]
def GlD:Nat->Option (List AV):=λg=>match g with
 |1=>some g0C
 |0=>some g1C
 |_=>none
def Jw:Nat->Option FnE:=fnE Tryz.prog Cx
def FB:Code:=Tryz.f21.body.getD .skip
def a4l:Code:=Tryz.f46.body.getD .skip
def xp1:Code:=sq1 FB
def xp2:Code:=sq1 (sq2 FB)
def xp3:Code:=sq1 (sq2 (sq2 FB))
def o4:Array Oper:=rgO (sq1 (sq2 (sq2 (sq2 FB))))
def yB:Code:=sq2 (sq2 (sq2 (sq2 FB)))
def xp5:Code:=sq1 yB
def o6:Array Oper:=rgO (sq1 (sq2 yB))
def yC:Code:=sq2 (sq2 yB)
def o9:Array Oper:=rgO (sq1 a4l)
def y9:Code:=sq2 a4l
def l9:List Ins:=Pk Tryz.prog o9 2
theorem rec4:∃a b,Ql Tryz.prog 21 46 Tryz.f21 xp1 xp2 xp3 o4 yB a b:=⟨_,_,Tryz.func21,rfl,rfl,rfl,rfl,rfl,rfl,rfl,rfl,rfl,rfl,rfl,rfl⟩
theorem b2G:∃a b,Ql Tryz.prog 21 46 Tryz.f21 xp1 xp2 xp3 o4 (xp5.seq ((Code.region 6 o6 false).seq yC)) a b:=rec4
theorem rec9:∃a b,VO Tryz.prog 46 Tryz.f46 o9 y9 l9 a b 94:=⟨_,_,Tryz.func46,rfl,rfl,rfl,rfl,rfl,rfl,rfl,rfl,rfl,rfl,rfl,rfl,(by kernel_rfl),rfl,(by kernel_rfl)⟩
def cOf(x:Code):C:=(cC Tryz.prog Cx x).getD .skip
theorem k1:cC Tryz.prog Cx xp1=some (cOf xp1):=by kernel_rfl
theorem k2:cC Tryz.prog Cx xp2=some (cOf xp2):=by kernel_rfl
theorem k3:cC Tryz.prog Cx xp3=some (cOf xp3):=by kernel_rfl
theorem kyB:cC Tryz.prog Cx yB=some (cOf yB):=by kernel_rfl
theorem k5:cC Tryz.prog Cx xp5=some (cOf xp5):=by kernel_rfl
theorem k9:cC Tryz.prog Cx y9=some (cOf y9):=by kernel_rfl
def rs4:List RV:=(pJ Tryz.prog Tryz.f21.results.toList).getD []
theorem kr4:pJ Tryz.prog Tryz.f21.results.toList=some rs4:=by kernel_rfl
theorem hm:Tryz.prog.follows .mixedOrders=true:=by kernel_rfl
theorem b1c(act:Act)(w:World):(invoke (.fn (.func 46) (o7 act)) #[]).run Tryz.prog w=.ok (.enter 46 (o7 act)) w:=by
 have hb:Tryz.f46.body≠none:=by intro h;cases h
 have hn:¬Tryz.f46.name= "runtime.NumGoroutine":=by decide
 simp[invoke,callFunc,Tryz.func46,hb,hn]
theorem a8P(w:World):(Instr.typeAssert .nilIface 20 94 true).run Tryz.prog w=.ok (.tuple #[.agg #[.int .i64 0,.int .i64 0],.bool false]) w:=by kernel_rfl
theorem a4C(a b:Value)(w:World):(Instr.typeAssert (.iface 94 (.agg #[a,b])) 20 94 true).run Tryz.prog w=.ok (.tuple #[.agg #[a,b],.bool true]) w:=by kernel_rfl
theorem a4q(a b q:Value)(ha:a.oneCell'=true)(hb:b.oneCell'=true)(F:Addr->Option Value):RP F (.tuple #[.agg #[a,b],q]) (.tup [.agg [.v a,.v b],.v q]):=by
 refine .tup _ _ rfl λj x c p r=>?_
 match j,p,r with
 |0,p,r =>
  cases p;cases r
  refine .agg _ _ rfl (λj x p=>?_) λj x c p r=>?_
  .match j,p with
   |0,p=>cases p;exact ha
   |1,p=>cases p;exact hb
   |n+2,p=>simp at p
  .match j,p,r with
   |0,p,r=>cases p;cases r;exact .v _
   |1,p,r=>cases p;cases r;exact .v _
   |n+2,p,r=>simp at p
 |1,p,r=>cases p;cases r;exact .v _
 |n+2,p,r=>simp at p
set_option maxRecDepth 20000
def o21:Array Oper:=rgO (Tryz.f83.body.getD .skip)
def l21:List Ins:=(Pk Tryz.prog o21 0).take 6
theorem R8:l21.length=6:=by kernel_rfl
theorem a5O:((o21.toList.drop 0).take 6).all (λo=>(jI Tryz.prog false o21 o).isSome)=true:=by kernel_rfl
theorem Oy:o21.size=8:=rfl
theorem b21:Tryz.f83.body=some (.region 0 o21 false):=rfl
theorem b3W:∃o,o21[6]?=some o/\o.guard=none/\o.dst=some 10/\o.op=.makeInterface 94 (.tmp 9):=⟨_,rfl,rfl,rfl,rfl⟩
theorem b3V:∃o,o21[7]?=some o/\o.guard=none/\o.op=.panic (.tmp 10):=⟨_,rfl,rfl,rfl⟩
def noC:Nat->List AV->List ay->Option IR:=λ_ _ _=>none
def noP:Nat->List AV->Option AV:=λ_ _=>none
theorem b0G{P:Program}{Gl:Nat->Option (List AV)}:uF P Gl noC:=λf az h r q=>by cases q
theorem b0F{P:Program}{Gl:Nat->Option (List AV)}:wI P Gl noP:=λf az r q=>by cases q
def a1d(a:AV):FR:=match a with
 |.agg cs=>match cs with
  |[x,y]=>match x with
   |.v x=>match y with
    |.v y=>.pan (.iface 94 (.agg #[x,y]))
    |_=>.no
   |_=>.no
  |_=>.no
 |_=>.no
def IQ(az:List AV)(h:List ay):FR:=match Nat.ble az.length 11 with
 |true=>match pV GlD noC noP false 0 l21 ⟨az++List.replicate (11-az.length) .any,h⟩ []with
  |some (.nrm _ τ _)=>match Nat.ble 11 τ.t.length with
   |true=>a1d (τ.t.getD 9 .any)
   |false=>.no
  |_=>.no
 |false=>.no
theorem a5f{a:AV}{r:IR}(h:(a1d a).ir=some r):∃x y,a=.agg [.v x,.v y]/\r=.pan (.iface 94 (.agg #[x,y])):=by
 unfold a1d at h
 split at h
 .split at h
  .split at h
   .split at h
    .cases h;exact⟨_,_,rfl,rfl⟩
    .cases h
   .cases h
  .cases h
 .cases h
theorem a8X{o:Oper}{a:Act}{w:World}(h:o.op=.makeInterface 94 (.tmp 9)):(execOp a.eval o).run Tryz.prog w=.ok (.value (.iface 94 (a.eval (.tmp 9)))) w:=by
 unfold execOp
 simp only[h]
 kernel_rfl
theorem a8W{P:Program}{o:Oper}{a:Act}{w:World}{x:Value}(h:o.op=.panic (.tmp 10))(he:a.eval (.tmp 10)=.iface 94 x):(execOp a.eval o).run P w=.halt (.panic (.iface 94 x)) w:=by
 unfold execOp
 simp only[h,he]
 rfl
theorem a6e{az:List AV}{h:List ay}{r:IR}(hr:(IQ az h).ir=some r):callable Tryz.prog 83=true/\a2U Tryz.prog GlD 83 az h r:=by
 refine⟨by kernel_rfl,?_⟩
 unfold IQ at hr
 split at hr
 .split at hr
  .rename_i e τ V hx
   split at hr
   rotate_left
   .cases hr
   rename_i hlen
   obtain⟨x,y,ha,rfl⟩:=a5f hr
   show Ey Tryz.prog GlD 83 h az (.iface 94 (.agg #[x,y]))
   refine Ey.ofW Tryz.func83 b21 λF own B w0 act w hI=>?_
   refine wp_region ?_
   rw[Oy,show List.range 8=List.range' 0 l21.length++[6,7]by rw[R8];rfl]
   refine TY (K:=λρ=>ρ=τ) ?_ l21 0 (λj hj=>?_) _ F own act w ((Ed b0G b0F _ _ _ _ _ _ hx).2.1 _ rfl) hI
   .rintro a w1 ⟨F1,dA,τ',hI1,rfl⟩
    obtain⟨p6,h61,h62,h63,h64⟩:=b3W
    obtain⟨p7,h71,h72,h73⟩:=b3V
    have e9:a.eval (.tmp 9)=.agg #[x,y]:=by
     have:=hI1.ev (.tmp 9)
     rw[show τ'.val GlD (bF (.tmp 9))=.agg [.v x,.v y] from ha]at this
     obtain⟨zs,e1,e2,_,e3⟩:=this.ku
     rw[e1]
     have hz:zs.size=2:=e2
     have z0:zs[0]?=some x:=by
      have:zs[0]?=some (zs[0]'(by omega)):=aF (by omega)
      rw[this,(e3 0 _ _ this rfl).dN]
     have z1:zs[1]?=some y:=by
      have:zs[1]?=some (zs[1]'(by omega)):=aF (by omega)
      rw[this,(e3 1 _ _ this rfl).dN]
     congr 1
     apply AA (by rw[hz];rfl)
     intro i h1 h2
     match i,h1,h2 with
     |0,h1,h2=>rw[aF (by omega)]at z0;exact aJ z0
     |1,h1,h2=>rw[aF (by omega)]at z1;exact aJ z1
     |n+2,h1,h2=>omega
    refine Xn h61 h62 (a8X h64) ?_
    rw[h63]
    have hsz:10<a.tmps.size:=by
     rw[hI1.tl]
     exact aZ hlen
    have e10:(a.put (some 10) (.iface 94 (a.eval (.tmp 9)))).eval (.tmp 10)=.iface 94 (.agg #[x,y]):=by
     rw[e9]
     simp[Act.put,Act.eval,hsz]
    refine a9n h71 h72 (a8W h73 e10) ?_
    exact⟨rfl,by show a.defers=_;exact hI1.defers,λad y q=>hI1.sub _ _ (hI1.ko _ _ q),hI1.below⟩
   .have hj':j<6:=by rw[R8]at hj;exact hj
    obtain⟨ins,o,f1,f2,f3⟩:=Lp (P:=Tryz.prog) a5O j hj' (by rw[Oy];omega)
    exact⟨o,ins,by unfold l21;rw[bU,if_pos hj'];exact f1,f2,f3⟩
  .cases hr
 .cases hr
section
set_option maxRecDepth 20000
attribute [local irreducible] xp1 xp2 xp3 o4 yB xp5 o6 yC o9 y9 l9 cOf rs4
structure Tb where
 f:Nat
 key:Option ByteArray
 res:AV
def Ap(k:Option ByteArray)(az:List AV):Bool:=match k with
 |none=>match az with
  |[]=>true
  |_=>false
 |some s=>match az with
  |[a]=>match a with
   |.v v=>match v with
    |.string x=>zf x s
    |_=>false
   |_=>false
  |_=>false
def Ve(l:List Tb)(f:Nat):Bool:=List.rec false (λe _ ih=>Bool.rec ih true (Nat.beq e.f f)) l
def look(l:List Tb)(f:Nat)(az:List AV):Option AV:=List.rec none (λe _ ih=>Bool.rec ih (some e.res) (Nat.beq e.f f&&Ap e.key az)) l
def tbP(l:List Tb)(f:Nat):Option (List AV->Option AV):=Bool.rec none (some (look l f)) (Ve l f)
def hdT(l:List Tb):wN:=⟨λf=>Bool.rec none (some IQ) (Nat.beq f 83),tbP l⟩
def Ac(l:List Tb):Prop:=∀e∈l,callable Tryz.prog e.f=true/\∀az,Ap e.key az=true->Pure Tryz.prog GlD e.f az e.res
theorem look_ok{l:List Tb}(h:Ac l){f:Nat}{az:List AV}{res:AV}(hl:look l f az=some res):callable Tryz.prog f=true/\Pure Tryz.prog GlD f az res:=by
 induction l with
 |nil=>cases hl
 |cons e l ih =>
  have hl:(Bool.rec (look l f az) (some e.res) (Nat.beq e.f f&&Ap e.key az):Option AV)=some res:=hl
  cases hq:(Nat.beq e.f f&&Ap e.key az) with
  |false=>rw[hq]at hl;exact ih (λe' he=>h e' (gu _ he)) hl
  |true =>
   rw[hq]at hl
   cases hl
   rw[au]at hq
   have:=bM hq.1
   subst this
   obtain⟨h1,h2⟩:=h e (by simp)
   exact⟨h1,h2 az hq.2⟩
theorem IJ{l:List Tb}(h:Ac l):wM Tryz.prog GlD (hdT l).hand:=by
 intro cf pf _ _
 refine⟨λf g hg az hp r hr=>?_,λf g hg az res hr=>?_⟩
 .have hg:(match(Bool.rec none (some IQ) (Nat.beq f 83):Option (List AV->List ay->FR)) with|some g=>some λaz h=>(g az h).ir|none=>none)=some g:=hg
  cases hq:Nat.beq f 83 with
  |false=>rw[hq]at hg;cases hg
  |true =>
   rw[hq]at hg
   cases hg
   have:=bM hq
   subst this
   exact a6e hr
 .have hg:(Bool.rec none (some (look l f)) (Ve l f):Option (List AV->Option AV))=some g:=hg
  cases hq:Ve l f with
  |false=>rw[hq]at hg;cases hg
  |true=>rw[hq]at hg;cases hg;exact look_ok h hr
def kF:Nat:=1000000
def exT(l:List Tb):Nat->C->St->List Nat->Option Out:=exC GlD Jw (hdT l).hand kF
def fT(l:List Tb):EX:=hC ⟨GlD,Jw,hdT l⟩ kF
theorem IV{l:List Tb}(h:Ac l):Ah Tryz.prog GlD Cx (exT l):=Yz hm (IJ h) kF
theorem a3Z(l:List Tb):ExE (fT l) (exT l):=by
 unfold fT exT
 rw[a3X,a3Y]
 exact a4a kF
theorem X9{l:List Tb}(h:Ac l){f:Nat}{az:List AV}{res:AV}(hr:Gf Jw (fT l) f az=some res):Pure Tryz.prog GlD f az res:=b4F hm (IJ h) kF hr
def pre(l:List Tb)(s:ByteArray):FO:=AP (fT l 0 23 (cOf xp1) (Et [.v (.string s)] 0 .e) [] []) λT h U=>AP (fT l 0 23 (cOf xp2) T h U) λT h U=>fT l 0 23 (cOf xp3) T h U
theorem KQ{o:FO}{K:TT->List ay->List Nat->FO}{T:TT}{h:List ay}{U:List Nat}(hs:AP o K=.nrm .normal T h U):∃T1 h1 U1,o=.nrm .normal T1 h1 U1/\K T1 h1 U1=.nrm .normal T h U:=by
 unfold AP at hs
 split at hs
 .split at hs
  .exact⟨_,_,_,rfl,hs⟩
  .rename_i e hne
   cases hs
   exact absurd rfl hne
 .cases hs
 .cases hs
theorem Ec{l:List Tb}{N:Nat}{n:Nat}{c:C}{T:TT}{h:List ay}{U:List Nat}{e:Exit}{T':TT}{h':List ay}{U':List Nat}(hn:n<=65535)(hr:fT l N n c T h U=.nrm e T' h' U'):exT l N c ⟨slots n T,h⟩ U=some (.nrm e ⟨slots n T',h'⟩ U') :=
 a3Z l N n c T h U _ hn (by rw[hr];rfl)
theorem Od {l:List Tb} {s:ByteArray} {T:TT} {h:List ay} {U:List Nat} (hp:pre l s=.nrm .normal T h U):∃ τ1 τ2 V1 V2,
  exT l 0 (cOf xp1) ⟨[.v (.string s)]++List.replicate (23-[AV.v (.string s)].length) .any,[]⟩ []=some (.nrm .normal τ1 V1)/\exT l 0 (cOf xp2) τ1 V1=some (.nrm .normal τ2 V2)/\exT l 0 (cOf xp3) τ2 V2=some (.nrm .normal ⟨slots 23 T,h⟩ U):=by
 obtain⟨T1,h1,U1,a1,b1⟩:=KQ hp
 obtain⟨T2,h2,U2,a2,b2⟩:=KQ b1
 refine⟨⟨slots 23 T1,h1⟩,⟨slots 23 T2,h2⟩,U1,U2,?_,Ec (by omega) a2,Ec (by omega) b2⟩
 rw[<- arg_eq (by simp) (by omega)]
 exact Ec (by omega) a1
def cfT(l:List Tb):=cfA GlD Jw (hdT l).hand (exT l)
def pfT(l:List Tb):=pfA GlD Jw (hdT l).hand (exT l)
theorem YM{l:List Tb}(h:Ac l):uF Tryz.prog GlD (cfT l):=YO (IJ h) (IV h)
theorem Xf{l:List Tb}(h:Ac l):wI Tryz.prog GlD (pfT l):=Xg (IJ h) (IV h)
def Kg(l:List Tb)(az:List AV)(h:List ay)(a8 a9:AV):Option (List ay):=match pV GlD (cfT l) (pfT l) false 0 l9 (st9 az h a8 a9) []with
 |some (.nrm .normal τ V)=>match exT l 0 (cOf y9) τ V with
  |some (.nrm e τ' _)=>match rP e with
   |true=>some τ'.h
   |false=>none
  |_=>none
 |_=>none
theorem LA{l:List Tb}{az:List AV}{h h9:List ay}{a8 a9:AV}(hf:Kg l az h a8 a9=some h9):∃τ V e τ' V',pV GlD (cfT l) (pfT l) false 0 l9 (st9 az h a8 a9) []=some (.nrm .normal τ V)/\exT l 0 (cOf y9) τ V=some (.nrm e τ' V')/\rP e=true/\τ'.h=h9:=by
 unfold Kg at hf
 split at hf
 .split at hf
  .split at hf
   .rename_i he;cases hf;exact⟨_,_,_,_,_,by assumption,by assumption,he,rfl⟩
   .cases hf
  .cases hf
 .cases hf
def b3Y:AV:=.tup [.agg [.v (.int .i64 0),.v (.int .i64 0)],.v (.bool false)]
attribute [local irreducible] exT fT cfT pfT Kg pre
def okP(l:List Tb)(s:ByteArray):Option AV:=match pre l s with
 |.nrm .normal T h U=>match fT l 0 23 (cOf yB) (kN .any (way 18) T) h U with
  |.nrm e T' h' _=>match rP e with
   |true=>match Kg l (Fz ⟨slots 23 T,h⟩) h' (.v .nilIface) b3Y with
    |some h9=>match um GlD ⟨slots 23 T',h9⟩ rs4 with
     |some q=>yg h9 (uV q)
     |none=>none
    |none=>none
   |false=>none
  |_=>none
 |_=>none
theorem a1C{l:List Tb}(hl:Ac l){s:ByteArray}{res:AV}(h:okP l s=some res):Pure Tryz.prog GlD 21 [.v (.string s)] res:=by
 unfold okP at h
 split at h
 .rename_i T hh U hp
  split at h
  .rename_i e T' h' U' hB
   split at h
   .rename_i he
    split at h
    .rename_i h9 hf
     split at h
     .rename_i q hq
      obtain⟨τ1,τ2,V1,V2,a1,a2,a3⟩:=Od hp
      obtain⟨τ9,V9,e9,τ9',V9',b1,b2,b3,b4⟩:=LA hf
      obtain⟨o0,o1,h4⟩:=rec4
      obtain⟨o0',o1',h9'⟩:=rec9
      refine a1c (VB:=U') (τ3:=⟨slots 23 T,hh⟩) (τB:=⟨slots 23 T',h'⟩) (τ9':=τ9') h4 h9' b1c (IV hl) (YM hl) (Xf hl) k1 k2 k3 kyB k9 kr4 a1 a2 a3 (by simp[slots]) ?_ he a8P (a4q _ _ _ rfl rfl) b1 b2 b3 (by rw[b4];exact hq) (by rw[b4];exact h)
      .show exT l 0 (cOf yB) ⟨(slots 23 T).set 18 .any,hh⟩ U=_
       rw[<- rZ (by omega) (by omega)]
       exact Ec (by omega) hB
     .cases h
    .cases h
   .cases h
  .cases h
 .cases h
end
section
set_option maxRecDepth 20000
attribute [local irreducible] xp1 xp2 xp3 o4 yB xp5 o6 yC o9 y9 l9 cOf rs4
theorem b7s:∃o d,o6[0]?=some o/\0<o6.size/\jI Tryz.prog false o6 o=some ⟨d,none,.call (.k (.func (.func 47) #[] #[])) [.t 6]⟩:=by
 unfold o6 yB FB
 exact⟨_,some 21,rfl,(by show 0<2;omega),(by kernel_rfl)⟩
def a1q(a:AV):Bool:=match a with
 |.agg _=>false
 |_=>true
theorem QT{a:AV}(h:a1q a=true):a.cells=[a]:=by
 cases a<;>first|rfl|cases h
def T5(p2 p3 p4:Value)(b:AV):TT:=kN (.fZ [b]) (way 5) (kN (.v p4) (way 4) (kN (.v p3) (way 3) (kN (.v p2) (way 2) .e)))
theorem b44(p2 p3 p4:Value)(b:AV):(⟨slots 23 (T5 p2 p3 p4 b),[]⟩:St)=st5 p2 p3 p4 b:=by
 unfold T5 st5
 rw[rZ (by omega) (by omega),rZ (by omega) (by omega),rZ (by omega) (by omega),rZ (by omega) (by omega),QB]
def NH(T:TT)(h:List ay):Option (Nat×ay×AV×AV):=match(slots 23 T).getD 5 .any with
 |.ptr id G i o=>match(Nat.beq G 1&&Nat.beq i 0&&Nat.beq o 0) with
  |true=>match h[id]? with
   |some ob=>match ob.es with
    |[a]=>match jT h a with
     |some b=>match(Nat.beq ob.sz 1&&a1q a&&a1q b) with
      |true=>some (id,ob,a,b)
      |false=>none
     |none=>none
    |_=>none
   |none=>none
  |false=>none
 |_=>none
theorem Ws{T:TT}{h:List ay}{q:Nat×ay×AV×AV}(ht:NH T h=some q):(slots 23 T).getD 5 .any=.ptr q.1 1 0 0/\h[q.1]?=some q.2.1/\q.2.1.es=[q.2.2.1]/\q.2.1.sz=1/\q.2.2.1.cells=[q.2.2.1]/\jT h q.2.2.1=some q.2.2.2/\q.2.2.2.cells=[q.2.2.2]:=by
 unfold NH at ht
 split at ht
 .rename_i id G i o hs
  split at ht
  .rename_i hb
   split at ht
   .rename_i ob hob
    split at ht
    .rename_i a hes
     split at ht
     .rename_i b hk
      split at ht
      .rename_i hc
       cases ht
       simp only[au]at hb hc
       have e1:=bM hb.1.1
       have e2:=bM hb.1.2
       have e3:=bM hb.2
       subst e1 e2 e3
       exact⟨hs,hob,hes,bM hc.1.1,QT hc.1.2,hk,QT hc.2⟩
      .cases ht
     .cases ht
    .cases ht
   .cases ht
  .cases ht
 .cases ht
def cf3(l:List Tb):CF:=cfF Jw (hdT l) (fT l)
theorem b1K(l:List Tb):CfE (cf3 l) (cfT l):=YN (a3Z l)
def b1H(l:List Tb)(s:ByteArray)(p2 p3 p4:Value):Option (AV×AV×AV×Value):=match pre l s with
 |.nrm .normal T h U=>match NH T h with
  |some q=>match fT l 0 23 (cOf xp5) (T5 p2 p3 p4 q.2.2.2) [] []with
   |.nrm .normal T6 h6 _=>match cf3 l 47 [(slots 23 T6).getD 6 .any] h6 with
    |.pan v=>some ((slots 23 T6).getD 2 .any,(slots 23 T6).getD 3 .any,(slots 23 T6).getD 4 .any,v)
    |_=>none
   |_=>none
  |none=>none
 |_=>none
def b1G(l:List Tb)(s:ByteArray)(a b:Value):Option AV:=match pre l s with
 |.nrm .normal T h U=>match Kg l (Fz ⟨slots 23 T,h⟩) h (.v (.iface 94 (.agg #[a,b]))) (.tup [.agg [.v a,.v b],.v (.bool true)]) with
  |some h9=>match um GlD ⟨(slots 23 T).set 18 .any,h9⟩ rs4 with
   |some q=>yg h9 (uV q)
   |none=>none
  |none=>none
 |_=>none
attribute [local irreducible] exT fT cfT pfT Kg pre cf3 NH
def foT:FO->TT
 |.nrm _ T _ _=>T
 |_=>.e
def foH:FO->List ay
 |.nrm _ _ h _=>h
 |_=>[]
def foU:FO->List Nat
 |.nrm _ _ _ U=>U
 |_=>[]
theorem YE{l:List Tb}(hl:Ac l){s:ByteArray}{a b:Value}(ha:a.oneCell'=true)(hb:b.oneCell'=true)(hC:∀p2 p3 p4,b1H l s p2 p3 p4=some (.v p2,.v p3,.v p4,.iface 94 (.agg #[a,b]))){res:AV}(hR:b1G l s a b=some res):Pure Tryz.prog GlD 21 [.v (.string s)] res:=by
 unfold b1G at hR
 split at hR
 .rename_i T hh U hp
  split at hR
  .rename_i h9 hf
   split at hR
   .rename_i q hq
    obtain⟨τ1,τ2,V1,V2,a1,a2,a3⟩:=Od hp
    obtain⟨τ9,V9,e9,τ9',V9',b1,b2,b3,b4⟩:=LA hf
    obtain⟨o0,o1,h4⟩:=b2G
    obtain⟨o0',o1',h9'⟩:=rec9
    obtain⟨ob6,d6,i1,i2,i3⟩:=b7s
    unfold b1H at hC
    simp only[hp]at hC
    cases ht:NH T hh with
    |none=>have:=hC undef undef undef;rw[ht]at this;cases this
    |some t =>
     simp only[ht]at hC
     obtain⟨t1,t2,t3,t4,t5,t6,t7⟩:=Ws ht
     let F:=λp2 p3 p4=>fT l 0 23 (cOf xp5) (T5 p2 p3 p4 t.2.2.2) [] []
     have key:∀p2 p3 p4,F p2 p3 p4=.nrm .normal (foT (F p2 p3 p4)) (foH (F p2 p3 p4)) (foU (F p2 p3 p4))/\cf3 l 47 [(slots 23 (foT (F p2 p3 p4))).getD 6 .any] (foH (F p2 p3 p4))=.pan (.iface 94 (.agg #[a,b]))/\(slots 23 (foT (F p2 p3 p4))).getD 2 .any=.v p2/\(slots 23 (foT (F p2 p3 p4))).getD 3 .any=.v p3/\(slots 23 (foT (F p2 p3 p4))).getD 4 .any=.v p4:=by
      intro p2 p3 p4
      have:=hC p2 p3 p4
      show fT l 0 23 (cOf xp5) (T5 p2 p3 p4 t.2.2.2) [] []=_/\_
      split at this
      .rename_i T6 h6 U6 hF
       have eF:F p2 p3 p4=.nrm .normal T6 h6 U6:=hF
       split at this
       .rename_i v hv
        simp only[dM,mZ]at this
        obtain⟨u1,u2,u3,u4⟩:=this
        rw[eF,hF]
        refine⟨rfl,?_,u1,u2,u3⟩
        rw[<- u4];exact hv
       .cases this
      .cases this
     refine U0 (τ3:=⟨slots 23 T,hh⟩) (τ9':=τ9') (id:=t.1) (ob:=t.2.1) (a:=t.2.2.1) (b:=t.2.2.2) (τ5:=λp2 p3 p4=>⟨slots 23 (foT (F p2 p3 p4)),foH (F p2 p3 p4)⟩) (V5:=λp2 p3 p4=>foU (F p2 p3 p4)) (v:=.iface 94 (.agg #[a,b])) h4 h9' b1c (IV hl) (YM hl) (Xf hl) k1 k2 k3 k5 k9 kr4 a1 a2 a3 (by simp[slots]) t1 t2 t3 t4 t5 t6 t7 ?_ ?_ i1 i2 i3 ?_ (a4C a b) (a4q a b (.bool true) ha hb) b1 b2 b3 (by rw[b4];exact hq) (by rw[b4];exact hR)
     .intro p2 p3 p4
      rw[<- b44]
      exact Ec (by omega) (key p2 p3 p4).1
     .intro p2 p3 p4
      exact(key p2 p3 p4).2.2
     .intro p2 p3 p4
      exact b1K l _ _ _ _ (by rw[(key p2 p3 p4).2.1];rfl)
   .cases hR
  .cases hR
 .cases hR
end
set_option maxRecDepth 20000
theorem a0W{a b:ByteArray}(h:zf a b=true):a=b:=by
 unfold zf at h
 rw[En]at h
 have:=eq_of_beq h
 exact ByteArray.ext (Array.ext' this)
theorem b7u{s:ByteArray}{az:List AV}(h:Ap (some s) az=true):az=[.v (.string s)]:=by
 unfold Ap at h
 simp only at h
 split at h
 .split at h
  .split at h
   .rw[a0W h]
   .cases h
  .cases h
 .cases h
theorem tbS{f:Nat}{s:ByteArray}{res:AV}(hc:callable Tryz.prog f=true)(h:Pure Tryz.prog GlD f [.v (.string s)] res):callable Tryz.prog (Tb.f ⟨f,some s,res⟩)=true/\∀az,Ap (Tb.key ⟨f,some s,res⟩) az=true->Pure Tryz.prog GlD (Tb.f ⟨f,some s,res⟩) az (Tb.res ⟨f,some s,res⟩) :=
 ⟨hc,λaz q=>by rw[b7u q];exact h⟩
theorem tb0:Ac []:=λe h=>by cases h
theorem tbC{e:Tb}{l:List Tb}(h:callable Tryz.prog e.f=true/\∀az,Ap e.key az=true->Pure Tryz.prog GlD e.f az e.res)(hl:Ac l):Ac (e::l):=λe' h'=>by
 rcases bE.1 h' with rfl|h'
 .exact h
 .exact hl e' h'
theorem cb8:callable Tryz.prog 45=true:=by kernel_rfl
theorem cb4:callable Tryz.prog 21=true:=by kernel_rfl
theorem cb6:callable Tryz.prog 7=true:=by kernel_rfl
def txA:ByteArray:=⟨#[99,111,118,101,114,32,97,108,108,58,32,116,114,117,101,59,32,101,120,99,108,117,100,101,32,119,97,114,58,32,112,101,114,105,108,32,105,110,32,40,119,97,114,41,32,117,110,108,101,115,115,32,40,109,101,100,105,99,58,32,114,111,108,101,32,105,110,32,40,109,101,100,105,99,41,41,59,32,101,110,100,111,114,115,101,32,64,50,48,51,49,45,48,49,45,48,49,32,116,111,32,64,50,48,51,50,45,48,49,45,48,49,58,32,114,101,109,111,118,101,32,119,97,114,59,32,101,110,100,59]⟩
def tkA:AV:=(.tup [(.list 4 [(.agg [(.v (.int .i64 1)),(.v (.string ⟨#[99,111,118,101,114]⟩)),(.v (.int .i64 0)),(.v (.int .i64 0))]),(.agg [(.v (.int .i64 1)),(.v (.string ⟨#[97,108,108]⟩)),(.v (.int .i64 0)),(.v (.int .i64 6))]),(.agg [(.v (.int .i64 4)),(.v (.string ⟨#[58]⟩)),(.v (.int .i64 0)),(.v (.int .i64 9))]),(.agg [(.v (.int .i64 1)),(.v (.string ⟨#[116,114,117,101]⟩)),(.v (.int .i64 0)),(.v (.int .i64 11))]),(.agg [(.v (.int .i64 4)),(.v (.string ⟨#[59]⟩)),(.v (.int .i64 0)),(.v (.int .i64 15))]),(.agg [(.v (.int .i64 1)),(.v (.string ⟨#[101,120,99,108,117,100,101]⟩)),(.v (.int .i64 0)),(.v (.int .i64 17))]),(.agg [(.v (.int .i64 1)),(.v (.string ⟨#[119,97,114]⟩)),(.v (.int .i64 0)),(.v (.int .i64 25))]),(.agg [(.v (.int .i64 4)),(.v (.string ⟨#[58]⟩)),(.v (.int .i64 0)),(.v (.int .i64 28))]),(.agg [(.v (.int .i64 1)),(.v (.string ⟨#[112,101,114,105,108]⟩)),(.v (.int .i64 0)),(.v (.int .i64 30))]),(.agg [(.v (.int .i64 1)),(.v (.string ⟨#[105,110]⟩)),(.v (.int .i64 0)),(.v (.int .i64 36))]),(.agg [(.v (.int .i64 4)),(.v (.string ⟨#[40]⟩)),(.v (.int .i64 0)),(.v (.int .i64 39))]),(.agg [(.v (.int .i64 1)),(.v (.string ⟨#[119,97,114]⟩)),(.v (.int .i64 0)),(.v (.int .i64 40))]),(.agg [(.v (.int .i64 4)),(.v (.string ⟨#[41]⟩)),(.v (.int .i64 0)),(.v (.int .i64 43))]),(.agg [(.v (.int .i64 1)),(.v (.string ⟨#[117,110,108,101,115,115]⟩)),(.v (.int .i64 0)),(.v (.int .i64 45))]),(.agg [(.v (.int .i64 4)),(.v (.string ⟨#[40]⟩)),(.v (.int .i64 0)),(.v (.int .i64 52))]),(.agg [(.v (.int .i64 1)),(.v (.string ⟨#[109,101,100,105,99]⟩)),(.v (.int .i64 0)),(.v (.int .i64 53))]),(.agg [(.v (.int .i64 4)),(.v (.string ⟨#[58]⟩)),(.v (.int .i64 0)),(.v (.int .i64 58))]),(.agg [(.v (.int .i64 1)),(.v (.string ⟨#[114,111,108,101]⟩)),(.v (.int .i64 0)),(.v (.int .i64 60))]),(.agg [(.v (.int .i64 1)),(.v (.string ⟨#[105,110]⟩)),(.v (.int .i64 0)),(.v (.int .i64 65))]),(.agg [(.v (.int .i64 4)),(.v (.string ⟨#[40]⟩)),(.v (.int .i64 0)),(.v (.int .i64 68))]),(.agg [(.v (.int .i64 1)),(.v (.string ⟨#[109,101,100,105,99]⟩)),(.v (.int .i64 0)),(.v (.int .i64 69))]),(.agg [(.v (.int .i64 4)),(.v (.string ⟨#[41]⟩)),(.v (.int .i64 0)),(.v (.int .i64 74))]),(.agg [(.v (.int .i64 4)),(.v (.string ⟨#[41]⟩)),(.v (.int .i64 0)),(.v (.int .i64 75))]),(.agg [(.v (.int .i64 4)),(.v (.string ⟨#[59]⟩)),(.v (.int .i64 0)),(.v (.int .i64 76))]),(.agg [(.v (.int .i64 1)),(.v (.string ⟨#[101,110,100,111,114,115,101]⟩)),(.v (.int .i64 0)),(.v (.int .i64 78))]),(.agg [(.v (.int .i64 3)),(.v (.string ⟨#[]⟩)),(.v (.int .i64 271752)),(.v (.int .i64 86))]),(.agg [(.v (.int .i64 1)),(.v (.string ⟨#[116,111]⟩)),(.v (.int .i64 0)),(.v (.int .i64 98))]),(.agg [(.v (.int .i64 3)),(.v (.string ⟨#[]⟩)),(.v (.int .i64 280512)),(.v (.int .i64 101))]),(.agg [(.v (.int .i64 4)),(.v (.string ⟨#[58]⟩)),(.v (.int .i64 0)),(.v (.int .i64 112))]),(.agg [(.v (.int .i64 1)),(.v (.string ⟨#[114,101,109,111,118,101]⟩)),(.v (.int .i64 0)),(.v (.int .i64 114))]),(.agg [(.v (.int .i64 1)),(.v (.string ⟨#[119,97,114]⟩)),(.v (.int .i64 0)),(.v (.int .i64 121))]),(.agg [(.v (.int .i64 4)),(.v (.string ⟨#[59]⟩)),(.v (.int .i64 0)),(.v (.int .i64 124))]),(.agg [(.v (.int .i64 1)),(.v (.string ⟨#[101,110,100]⟩)),(.v (.int .i64 0)),(.v (.int .i64 126))]),(.agg [(.v (.int .i64 4)),(.v (.string ⟨#[59]⟩)),(.v (.int .i64 0)),(.v (.int .i64 129))])]),(.v (.int .i64 0)),(.v (.int .i64 0))])
def rsA:AV:=(.tup [(.agg [(.list 10 [(.agg [(.v (.int .i64 2)),(.v (.string ⟨#[97,108,108]⟩)),(.v (.int .i64 1)),(.v (.string ⟨#[]⟩)),(.v (.slice none 0 0)),(.v (.int .i64 0)),(.v (.int .i64 0)),(.v (.slice none 0 0)),(.v (.slice none 0 0)),(.v (.int .i64 0))]),(.agg [(.v (.int .i64 3)),(.v (.string ⟨#[119,97,114]⟩)),(.v (.int .i64 4)),(.v (.string ⟨#[112,101,114,105,108]⟩)),(.list 1 [(.v (.string ⟨#[119,97,114]⟩))]),(.v (.int .i64 0)),(.v (.int .i64 0)),(.v (.slice none 0 0)),(.list 8 [(.agg [(.v (.string ⟨#[109,101,100,105,99]⟩)),(.v (.int .i64 4)),(.v (.string ⟨#[114,111,108,101]⟩)),(.list 1 [(.v (.string ⟨#[109,101,100,105,99]⟩))]),(.v (.int .i64 0)),(.v (.int .i64 0)),(.v (.slice none 0 0)),(.v (.slice none 0 0))])]),(.v (.int .i64 0))])]),(.list 4 [(.agg [(.v (.int .i64 271752)),(.v (.int .i64 280512)),(.list 1 [(.v (.string ⟨#[119,97,114]⟩))]),(.v (.slice none 0 0))])])]),(.v (.int .i64 0)),(.v (.int .i64 0))])
def txB:ByteArray:=⟨#[99,111,118,101,114,32,97,108,108,58,32,116,114,117,101]⟩
def rsB:AV:=(.tup [(.agg [(.v (.slice none 0 0)),(.v (.slice none 0 0))]),(.v (.int .i64 15)),(.v (.int .i64 5))])
theorem b2B:Pure Tryz.prog GlD 45 [.v (.string txA)] tkA:=X9 tb0 (by kernel_rfl)
theorem a9i:Pure Tryz.prog GlD 21 [.v (.string txA)] rsA:=a1C (tbC (tbS cb8 b2B) tb0) (by kernel_rfl)
theorem a9h:Pure Tryz.prog GlD 21 [.v (.string txB)] rsB:=YE (a:=.int .i64 4) (b:=.int .i64 5) tb0 rfl rfl (λp2 p3 p4=>by kernel_rfl) (by kernel_rfl)
theorem b1V:Pure Tryz.prog GlD 7 [] (.v (.bool true)):=X9 (tbC (tbS cb4 a9i) (tbC (tbS cb4 a9h) tb0)) (by kernel_rfl)
end
def m7:Option (Bool×Unit):=some (true,())
def i7:PI:=⟨7,[],[.bool],λ_=>m7⟩
theorem b1U{G:Nat->Option (List AV)}(h0:G 1=some g0C)(h1:G 0=some g1C):POk Tryz.prog G i7:=by
 have hG:∀g cs,GlD g=some cs->G g=some cs:=λg cs h=>by
  match g,h with
  |1,h=>cases h;exact h0
  |0,h=>cases h;exact h1
  |n+2,h=>cases h
 refine⟨cb6,λx y h=>?_⟩
 cases h
 intro w F xs hF hg hw hx
 exact b1V w F xs hF (λg cs q=>hg g cs (hG g cs q)) (λg cs q=>hw g cs (hG g cs q)) hx
end
end Abs
end Go.Proofs.YtnhgeocdffhkjaaGreatDoor
