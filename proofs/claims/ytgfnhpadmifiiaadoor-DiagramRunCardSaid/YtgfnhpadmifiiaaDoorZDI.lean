/- Merged and trimmed by a program: D21 D22 D23 D24 D25 D26 D27 D28 D29 D30 D32. -/
import Derived.Test.YtgfnhpadmifiiaaDoorZDH
set_option linter.unusedVariables false
set_option linter.unusedSimpArgs false
set_option linter.defProp false
namespace Go.Proofs.YtgfnhpadmifiiaaDoor
namespace Abs
noncomputable section
def FOk(dm:List DS3)(fs:List Int):Prop:=fs.length=dm.length/\∀i,i<dm.length->(dm.getD i zS).1<=fs.getD i 0/\fs.getD i 0<=(dm.getD i zS).2.1
def Red(dm:List DS3)(ns:List DS1):Prop:=iU dm ns/\∀i,i<ns.length->∀k,k<i->ns.getD k zN≠ns.getD i zN
theorem FOk.set{dm:List DS3}{fs:List Int}(h:FOk dm fs){i:Nat}(hi:i<dm.length){v:Int}(h1:(dm.getD i zS).1<=v)(h2:v<=(dm.getD i zS).2.1):FOk dm (fs.set i v):=by
 refine⟨by rw[bT];exact h.1,λj hj=>?_⟩
 rw[vD fs i j _ _ (by rw[h.1];exact hi)]
 split
 .rename_i e;subst e;exact⟨h1,h2⟩
 .exact h.2 j hj
theorem FOk.low{dm:List DS3}(hd:iJ dm):FOk dm (dm.map λd=>d.1):=by
 refine⟨by simp,λi hi=>?_⟩
 have e:(dm.map λd=>d.1).getD i 0=(dm.getD i zS).1:=by rw[getD_eq _ _ _ (by simpa using hi),kZ,getD_eq _ _ _ hi]
 have:=hd.at hi
 omega
theorem Xf(cs:List Int)(c:Int)(h:c∉cs):brK cs c=brK cs (c-1):=by
 induction cs with
 |nil=>rfl
 |cons a cs ih =>
  simp only[bU,not_or]at h
  simp only[brK]
  rw[ih h.2]
  by_cases q:a<=c
  .rw[ak q,ak (by omega)]
  .rw[au q,au (by omega)]
theorem CV{cs:List Int}(h:cs.Pairwise (·<·)){k:Nat}(hk:k<cs.length):brK cs (cs.getD k 0)=k+1/\brK cs (cs.getD k 0-1)=k:=by
 have hp:=je.1 h
 have e:=getD_eq cs k 0 hk
 constructor
 .refine Ac _ _ _ (by omega) (λj hj=>?_) ?_
  .rw[getD_eq cs j 0 (by omega),e]
   rcases aS j k with q|q
   .exact Al (hp j k (by omega) hk q)
   .obtain rfl:j=k:=by omega
    exact nY _
  .rcases aS (k+1) cs.length with q|q
   .right;rw[getD_eq cs (k+1) 0 q,e];exact hp k (k+1) hk q (by omega)
   .left;omega
 .refine Ac _ _ _ (by omega) (λj hj=>?_) (.inr (by omega))
  rw[getD_eq cs j 0 (by omega),e]
  have:=hp j k (by omega) hk hj
  omega
theorem PZ:∀{a b:List Int},a.Pairwise (·<·)->b.Pairwise (·<·)->(∀x,x∈a↔x∈b)->a=b:=by
 intro a
 induction a with
 |nil =>
  intro b _ _ h
  cases b with
  |nil=>rfl
  |cons y b=>exact absurd ((h y).2 (by simp)) (by simp)
 |cons x a ih =>
  intro b ha hb h
  cases b with
  |nil=>exact absurd ((h x).1 (by simp)) (by simp)
  |cons y b =>
   have ha':=jI.1 ha
   have hb':=jI.1 hb
   have hxy:x=y:=by
    rcases bU.1 ((h x).1 (by simp)) with q|q
    .exact q
    .rcases bU.1 ((h y).2 (by simp)) with r|r
     .exact r.symm
     .have:=ha'.1 y r;have:=hb'.1 x q;omega
   subst hxy
   rw[ih ha'.2 hb'.2 λz=>⟨λhz=>?_,λhz=>?_⟩]
   .rcases bU.1 ((h z).1 (by simp[hz])) with r|r
    .have:=ha'.1 z hz;omega
    .exact r
   .rcases bU.1 ((h z).2 (by simp[hz])) with r|r
    .have:=hb'.1 z hz;omega
    .exact r
section
variable{dm:List DS3}
theorem wM{ns:List DS1}(hd:iJ dm)(hs:iU dm ns){r:Int}(h0:0<=r)(hr:r<(ns.length:Int))(fs:List Int):vlF ns 9 r fs=vlF ns 9 ((kids ns r.toNat).getD (brK (ns.getD r.toNat zN).2.1 (fs.getD (ns.getD r.toNat zN).1.toNat 0)) 0) fs:=by
 have hrt:r.toNat<ns.length:=by omega
 rw[oK ns 8 h0]
 have hk2:=wG hs hrt (fs.getD (ns.getD r.toNat zN).1.toNat 0)
 have hrk:=BO hd hs hrt hk2
 have:=(nM hd hs).2 r.toNat hrt
 exact PS hd hs 8 8 9 _ _ (by omega) (by omega) (by omega) (ny hs hrt hk2).2
theorem AU{ns:List DS1}(hd:iJ dm)(hs:iU dm ns)(i:Nat)(v:Int)(fs:List Int):∀(f:Nat) (r:Int),r<(ns.length:Int)->i<lvl dm ns r->vlF ns f r (fs.set i v)=vlF ns f r fs:=by
 intro f
 induction f with
 |zero=>intro r _ _;rfl
 |succ f ih =>
  intro r hr hl
  rcases fu r 0 with q|q
  .rw[jF _ _ q,jF _ _ q]
  have hrt:r.toNat<ns.length:=by omega
  unfold lvl at hl
  rw[au (by omega)]at hl
  rw[oK _ _ q,oK _ _ q]
  have e:(fs.set i v).getD (ns.getD r.toNat zN).1.toNat 0=fs.getD (ns.getD r.toNat zN).1.toNat 0:=by
   rw[aM,aD (by omega),<- aM]
  rw[e]
  have hk:=wG hs hrt (fs.getD (ns.getD r.toNat zN).1.toNat 0)
  have:=qG hd hs hrt hk
  exact ih _ (ny hs hrt hk).2 (by omega)
def qD(dm:List DS3)(ns ns':List DS1)(r r':Int):Prop:=r<(ns.length:Int)/\r'<(ns'.length:Int)/\∀fs,FOk dm fs->vlF ns 9 r fs=vlF ns' 9 r' fs
theorem qD.symm{ns ns':List DS1}{r r':Int}(h:qD dm ns ns' r r'):qD dm ns' ns r' r:=⟨h.2.1,h.1,λfs q=>(h.2.2 fs q).symm⟩
theorem qD.trans{ns ns' a3R:List DS1}{r r' r'':Int}(h:qD dm ns ns' r r')(k:qD dm ns' a3R r' r''):qD dm ns a3R r r'':=⟨h.1,k.2.1,λfs q=>(h.2.2 fs q).trans (k.2.2 fs q)⟩
def AZ(dm:List DS3)(ns:List DS1)(i:Nat):Prop:=∀r r',i<=lvl dm ns r->i<=lvl dm ns r'->qD dm ns ns r r'->r=r'
theorem MS {ns:List DS1} (hd:iJ dm) (hs:iU dm ns) {r:Int} (h0:0<=r) (hr:r < (ns.length:Int)) (hI:AZ dm ns ((ns.getD r.toNat zN).1.toNat + 1)) {k:Nat} (hk:k < (ns.getD r.toNat zN).2.1.length) :
  ∃fs,FOk dm fs/\FOk dm (fs.set (ns.getD r.toNat zN).1.toNat ((ns.getD r.toNat zN).2.1.getD k 0))/\FOk dm (fs.set (ns.getD r.toNat zN).1.toNat ((ns.getD r.toNat zN).2.1.getD k 0-1))/\vlF ns 9 r (fs.set (ns.getD r.toNat zN).1.toNat ((ns.getD r.toNat zN).2.1.getD k 0))≠vlF ns 9 r (fs.set (ns.getD r.toNat zN).1.toNat ((ns.getD r.toNat zN).2.1.getD k 0-1)):=by
 have hrt:r.toNat<ns.length:=by omega
 have hsr:=hs _ hrt
 have hkl:(kids ns r.toNat).length=(ns.getD r.toNat zN).2.1.length+1:=hsr.2.2.2.1
 have h1:=qG hd hs hrt (k:=k) (by omega)
 have h2:=qG hd hs hrt (k:=k+1) (by omega)
 have hne:(kids ns r.toNat).getD (k+1) 0≠(kids ns r.toNat).getD k 0:=by
  have:=(hsr.2.2.2.2.2 (k+1) (by show k+1<(kids ns r.toNat).length;omega)).2.1 (by omega)
  exact this
 have hx:¬qD dm ns ns ((kids ns r.toNat).getD (k+1) 0) ((kids ns r.toNat).getD k 0):=λq=>hne (hI _ _ h2 h1 q)
 have r1:=ny hs hrt (k:=k) (by omega)
 have r2:=ny hs hrt (k:=k+1) (by omega)
 have hx2:¬∀fs,FOk dm fs->vlF ns 9 ((kids ns r.toNat).getD (k+1) 0) fs=vlF ns 9 ((kids ns r.toNat).getD k 0) fs:=λq=>hx ⟨r2.2,r1.2,q⟩
 obtain⟨fs,hfs⟩:=Classical.not_forall.1 hx2
 obtain⟨hf,hv⟩:=Classical.not_imp.1 hfs
 obtain⟨c1,c2,_⟩:=hsr.2.2.2.2.1 k hk
 have ha:(ns.getD r.toNat zN).1.toNat<dm.length:=by have:=hsr.1;have:=hsr.2.1;omega
 refine⟨fs,hf,hf.set ha (by omega) c2,hf.set ha (by omega) (by omega),?_⟩
 rw[wM hd hs h0 hr,wM hd hs h0 hr]
 have e1:∀v,(fs.set (ns.getD r.toNat zN).1.toNat v).getD (ns.getD r.toNat zN).1.toNat 0=v:=λv=>by
  rw[vD _ _ _ _ _ (by rw[hf.1];exact ha),ak rfl]
 have hso:=sP hsr
 rw[e1,e1,(CV hso hk).1,(CV hso hk).2,AU hd hs _ _ _ _ _ r2.2 (by omega),AU hd hs _ _ _ _ _ r1.2 (by omega)]
 exact hv
theorem Oi {ns ns':List DS1} (hd:iJ dm) (hs:iU dm ns) (hs':iU dm ns') {i:Nat} (hI:AZ dm ns (i + 1)) (hI':AZ dm ns' (i + 1)) {r r':Int} (hl:i<=lvl dm ns r) (hl':i<=lvl dm ns' r') (h:qD dm ns ns' r r') :
  (r<0/\r'=r)\/(0<=r/\0<=r'/\(ns.getD r.toNat zN).1=(ns'.getD r'.toNat zN).1/\(ns.getD r.toNat zN).2.1=(ns'.getD r'.toNat zN).2.1/\(kids ns r.toNat).length=(kids ns' r'.toNat).length/\∀k,k<(kids ns r.toNat).length->qD dm ns ns' ((kids ns r.toNat).getD k 0) ((kids ns' r'.toNat).getD k 0)):=by
 have mI:∀{ns:List DS1} {a b:Nat},AZ dm ns a->a<=b->AZ dm ns b:=λq hab r r' h1 h2 h3=>q r r' (by omega) (by omega) h3
 have key:∀{ns ns':List DS1} {r r':Int},iU dm ns->iU dm ns'->AZ dm ns (i+1)->i<=lvl dm ns r->qD dm ns ns' r r'->0<=r->lvl dm ns' r'<=lvl dm ns r:=by
  intro ns ns' r r' hs hs' hI hl h h0
  have hrt:r.toNat<ns.length:=by have:=h.1;omega
  have e:lvl dm ns r=(ns.getD r.toNat zN).1.toNat:=by unfold lvl;rw[au (by omega)]
  rcases aS (lvl dm ns r) (lvl dm ns' r') with q|q
  .exfalso
   obtain⟨fs,f1,f2,f3,f4⟩:=MS hd hs h0 h.1 (mI hI (by omega)) (k:=0) (hs _ hrt).2.2.1
   refine f4 ?_
   rw[h.2.2 _ f2,h.2.2 _ f3,AU hd hs' _ _ _ _ _ h.2.1 (by omega),AU hd hs' _ _ _ _ _ h.2.1 (by omega)]
  .exact q
 have Ua:∀{ns ns':List DS1} {r r':Int},iU dm ns->iU dm ns'->AZ dm ns (i+1)->i<=lvl dm ns r->qD dm ns ns' r r'->0<=r->0<=r'->(ns.getD r.toNat zN).1=(ns'.getD r'.toNat zN).1->∀c∈(ns.getD r.toNat zN).2.1,c∈(ns'.getD r'.toNat zN).2.1:=by
  intro ns ns' r r' hs hs' hI hl h h0 h0' ha c hc
  have hrt:r.toNat<ns.length:=by have:=h.1;omega
  have wH:r'.toNat<ns'.length:=by have:=h.2.1;omega
  have e:lvl dm ns r=(ns.getD r.toNat zN).1.toNat:=by unfold lvl;rw[au (by omega)]
  refine kT λhn=>?_
  obtain⟨k,hk,rfl⟩:=iI hc
  obtain⟨fs,f1,f2,f3,f4⟩:=MS hd hs h0 h.1 (mI hI (by omega)) hk
  rw[<- getD_eq _ _ 0 hk]at hn
  refine f4 ?_
  have hal:(ns.getD r.toNat zN).1.toNat<dm.length:=by have:=(hs _ hrt).1;have:=(hs _ hrt).2.1;omega
  have e1:∀v,(fs.set (ns.getD r.toNat zN).1.toNat v).getD (ns.getD r.toNat zN).1.toNat 0=v:=λv=>by
   rw[vD _ _ _ _ _ (by rw[f1.1];exact hal),ak rfl]
  rw[h.2.2 _ f2,h.2.2 _ f3,wM hd hs' h0' h.2.1,wM hd hs' h0' h.2.1,<- ha,e1,e1,Xf _ _ hn]
  have hk':=wG hs' wH ((ns.getD r.toNat zN).2.1.getD k 0-1)
  have hlk:=qG hd hs' wH hk'
  rw[<- ha]at hlk
  have hrf:=(ny hs' wH hk').2
  rw[AU hd hs' _ _ _ _ _ hrf (by omega),AU hd hs' _ _ _ _ _ hrf (by omega)]
 rcases fu r 0 with q|q
 .rcases fu r' 0 with q'|q'
  .left
   refine⟨q,?_⟩
   have:=h.2.2 _ (FOk.low hd)
   rw[jF _ _ q,jF _ _ q']at this
   omega
  .exfalso
   have:=key hs' hs hI' hl' h.symm q'
   have e:lvl dm ns r=dm.length:=by unfold lvl;rw[ak q]
   have e':lvl dm ns' r'=(ns'.getD r'.toNat zN).1.toNat:=by unfold lvl;rw[au (by omega)]
   have:=hs' r'.toNat (by have:=h.2.1;omega)
   have:=this.1
   have:=(hs' r'.toNat (by have:=h.2.1;omega)).2.1
   omega
 .have k1:=key hs hs' hI hl h q
  have hrt:r.toNat<ns.length:=by have:=h.1;omega
  have e:lvl dm ns r=(ns.getD r.toNat zN).1.toNat:=by unfold lvl;rw[au (by omega)]
  have a1:=(hs _ hrt).1
  have a2:=(hs _ hrt).2.1
  rcases fu r' 0 with q'|q'
  .exfalso
   have e':lvl dm ns' r'=dm.length:=by unfold lvl;rw[ak q']
   omega
  .right
   have k2:=key hs' hs hI' hl' h.symm q'
   have e':lvl dm ns' r'=(ns'.getD r'.toNat zN).1.toNat:=by unfold lvl;rw[au (by omega)]
   have wH:r'.toNat<ns'.length:=by have:=h.2.1;omega
   have b1:=(hs' _ wH).1
   have b2:=(hs' _ wH).2.1
   have ha:(ns.getD r.toNat zN).1=(ns'.getD r'.toNat zN).1:=by omega
   have hcs:(ns.getD r.toNat zN).2.1=(ns'.getD r'.toNat zN).2.1:=PZ (sP (hs _ hrt)) (sP (hs' _ wH)) λx=>⟨Ua hs hs' hI hl h q q' ha x,Ua hs' hs hI' hl' h.symm q' q ha.symm x⟩
   have hkl:(kids ns r.toNat).length=(ns.getD r.toNat zN).2.1.length+1:=(hs _ hrt).2.2.2.1
   have hkl':(kids ns' r'.toNat).length=(ns'.getD r'.toNat zN).2.1.length+1:=(hs' _ wH).2.2.2.1
   refine⟨q,q',ha,hcs,by rw[hkl,hkl',hcs],λk hk=>?_⟩
   have hk':k<(kids ns' r'.toNat).length:=by rw[hkl',<- hcs,<- hkl];exact hk
   refine⟨(ny hs hrt hk).2,(ny hs' wH hk').2,λfs hf=>?_⟩
   have hal:(ns.getD r.toNat zN).1.toNat<dm.length:=by omega
   obtain⟨v,v1,v2,v3⟩:∃v,(dm.getD (ns.getD r.toNat zN).1.toNat zS).1<=v/\v<=(dm.getD (ns.getD r.toNat zN).1.toNat zS).2.1/\brK (ns.getD r.toNat zN).2.1 v=k:=by
    cases k with
    |zero =>
     have hb:=hd.at hal
     have c0:=(hs _ hrt).2.2.2.2.1 0 (hs _ hrt).2.2.1
     exact⟨_,nY _,hb.1,Ac _ _ 0 (by omega) (λj hj=>by omega) (.inr c0.1)⟩
    |succ k =>
     have ck:=(hs _ hrt).2.2.2.2.1 k (by omega)
     exact⟨_,Al ck.1,ck.2.1,(CV (sP (hs _ hrt)) (by omega)).1⟩
   have e1:(fs.set (ns.getD r.toNat zN).1.toNat v).getD (ns.getD r.toNat zN).1.toNat 0=v:=by
    rw[vD _ _ _ _ _ (by rw[hf.1];exact hal),ak rfl]
   have hv:=h.2.2 _ (hf.set hal v1 v2)
   rw[wM hd hs q h.1,wM hd hs' q' h.2.1,<- ha,<- hcs,e1,v3]at hv
   have l1:=qG hd hs hrt hk
   have l2:=qG hd hs' wH hk'
   rw[AU hd hs _ _ _ _ _ (ny hs hrt hk).2 (by omega),AU hd hs' _ _ _ _ _ (ny hs' wH hk').2 (by omega)]at hv
   exact hv
theorem QI{ns:List DS1}(hd:iJ dm)(hR:Red dm ns):∀(n i:Nat),dm.length<=i+n->AZ dm ns i:=by
 obtain⟨hs,hdi⟩:=hR
 intro n
 induction n with
 |zero =>
  intro i hi r r' hl hl' h
  have neg:∀r,r<(ns.length:Int)->i<=lvl dm ns r->r<0:=λr hr hl=>by
   rcases fu r 0 with q|q
   .exact q
   .unfold lvl at hl
    rw[au (by omega)]at hl
    have:=(hs r.toNat (by omega)).1
    have:=(hs r.toNat (by omega)).2.1
    omega
  have h1:=neg r h.1 hl
  have h2:=neg r' h.2.1 hl'
  have:=h.2.2 _ (FOk.low hd)
  rw[jF _ _ h1,jF _ _ h2]at this
  omega
 |succ n ih =>
  intro i hi r r' hl hl' h
  have hI:=ih (i+1) (by omega)
  rcases Oi hd hs hs hI hI hl hl' h with⟨q1,q2⟩|⟨q,q',a1,a2,a3,a4⟩
  .exact q2.symm
  .have hrt:r.toNat<ns.length:=by have:=h.1;omega
   have wH:r'.toNat<ns.length:=by have:=h.2.1;omega
   have e:lvl dm ns r=(ns.getD r.toNat zN).1.toNat:=by unfold lvl;rw[au (by omega)]
   have e':lvl dm ns r'=(ns.getD r'.toNat zN).1.toNat:=by unfold lvl;rw[au (by omega)]
   have hk:kids ns r.toNat=kids ns r'.toNat:=by
    apply jq a3
    intro k h1 h2
    have l1:=qG hd hs hrt h1
    have l2:=qG hd hs wH h2
    have:=hI _ _ (by omega) (by omega) (a4 k h1)
    rwa [getD_eq _ _ _ h1,getD_eq _ _ _ h2]at this
   have e5:ns.getD r.toNat zN=ns.getD r'.toNat zN:=sG a1 (sG a2 (sG hk rfl))
   rcases oV r.toNat r'.toNat with z|z|z
   .exact absurd e5 (hdi _ wH _ z)
   .omega
   .exact absurd e5.symm (hdi _ hrt _ z)
theorem Red.inj{ns:List DS1}(hd:iJ dm)(hR:Red dm ns){r r':Int}(h:qD dm ns ns r r'):r=r':=QI hd hR dm.length 0 (by omega) r r' (by omega) (by omega) h
theorem Red.step {ns ns':List DS1} (hd:iJ dm) (hR:Red dm ns) (hR':Red dm ns') {r r':Int} (h:qD dm ns ns' r r') :
  (r<0/\r'=r)\/(0<=r/\0<=r'/\(ns.getD r.toNat zN).1=(ns'.getD r'.toNat zN).1/\(ns.getD r.toNat zN).2.1=(ns'.getD r'.toNat zN).2.1/\(kids ns r.toNat).length=(kids ns' r'.toNat).length/\∀k,k<(kids ns r.toNat).length->qD dm ns ns' ((kids ns r.toNat).getD k 0) ((kids ns' r'.toNat).getD k 0)) :=
 Oi hd hR.1 hR'.1 (i:=0) (QI hd hR dm.length 1 (by omega)) (QI hd hR' dm.length 1 (by omega)) (by omega) (by omega) h
def PwS(dm:List DS3)(ns ns':List DS1)(O O':List Nat):Prop:=O.length=O'.length/\∀j,j<O.length->qD dm ns ns' ((O.getD j 0:Nat):Int) ((O'.getD j 0:Nat):Int)
theorem PwS.snoc{ns ns':List DS1}{O O':List Nat}(h:PwS dm ns ns' O O'){a b:Nat}(q:qD dm ns ns' (a:Int) (b:Int)):PwS dm ns ns' (O++[a]) (O'++[b]):=by
 refine⟨by simp[h.1],λj hj=>?_⟩
 rw[aB,aU]at hj
 rcases aS j O.length with z|z
 .rw[jd _ _ _ z,jd _ _ _ (by have:=h.1;omega)];exact h.2 j z
 .obtain rfl:j=O.length:=by omega
  rw[om,h.1,om];exact q
theorem PwS.symm{ns ns':List DS1}{O O':List Nat}(h:PwS dm ns ns' O O'):PwS dm ns' ns O' O:=⟨h.1.symm,λj hj=>(h.2 j (by rw[h.1];exact hj)).symm⟩
theorem PwS.mem{ns ns':List DS1}(hd:iJ dm)(hR':Red dm ns'){O O':List Nat}(h:PwS dm ns ns' O O'){a b:Nat}(q:qD dm ns ns' (a:Int) (b:Int))(hm:a∈O):b∈O':=by
 obtain⟨j,hj,rfl⟩:=iI hm
 have h1:=h.2 j hj
 rw[getD_eq _ _ _ hj]at h1
 have:=hR'.inj hd (q.symm.trans h1)
 have hj':j<O'.length:=by rw[<- h.1];exact hj
 rw[getD_eq _ _ _ hj']at this
 have:b=O'[j]:=by omega
 rw[this];exact aV hj'
theorem PwS.idx{ns ns':List DS1}(hd:iJ dm)(hR':Red dm ns'){O O':List Nat}(hO:O.Nodup)(hO':O'.Nodup)(h:PwS dm ns ns' O O'){a b:Nat}(q:qD dm ns ns' (a:Int) (b:Int))(hm:a∈O):O.idxOf a=O'.idxOf b:=by
 obtain⟨j,hj,rfl⟩:=iI hm
 have h1:=h.2 j hj
 rw[getD_eq _ _ _ hj]at h1
 have:=hR'.inj hd (q.symm.trans h1)
 have hj':j<O'.length:=by rw[<- h.1];exact hj
 rw[getD_eq _ _ _ hj']at this
 have:b=O'[j]:=by omega
 rw[this,hO.idxOf_getElem,hO'.idxOf_getElem]
theorem a0S{ns:List DS1}{O:List Nat}(hs:iU dm ns)(hO:∀r∈O,r<ns.length)(hcl:∀r∈O,∀k∈kids ns r,0<=k->k.toNat∈O)(hd:iJ dm)(fs:List Int):∀(f:Nat) (c:Int),rkI (rkA ns) c<=f->(0<=c->c.toNat∈O)->vlF (o8 ns O) f (eF O c) fs=vlF ns f c fs:=by
 intro f
 induction f with
 |zero =>
  intro c hr hc
  have q:c<0:=by unfold rkI at hr;split at hr;assumption;omega
  have:eF O c=c:=by unfold eF;rw[ak q]
  rw[this];rfl
 |succ f ih =>
  intro c hr hc
  rcases fu c 0 with q|q
  .have:eF O c=c:=by unfold eF;rw[ak q]
   rw[this,jF _ _ q,jF _ _ q]
  unfold rkI at hr
  rw[au (by omega)]at hr
  have hm:=hc q
  have e:(eF O c).toNat=O.idxOf c.toNat:=by unfold eF;rw[au (by omega)];rfl
  have h0:0<=eF O c:=by unfold eF;rw[au (by omega)];omega
  rw[oK _ _ h0,oK _ _ q,e,Eh ns O hm]
  have ek:kids (o8 ns O) (O.idxOf c.toNat)=(kids ns c.toNat).map (eF O):=by unfold kids;rw[Eh ns O hm];rfl
  have hkl:=wG hs (hO _ hm) (fs.getD (ns.getD c.toNat zN).1.toNat 0)
  rw[ek]
  show vlF (o8 ns O) f (((kids ns c.toNat).map (eF O)).getD (brK (ns.getD c.toNat zN).2.1 (fs.getD (ns.getD c.toNat zN).1.toNat 0)) 0) fs=_
  rw[getD_eq _ _ _ (by rw[bR];exact hkl),kZ,getD_eq _ _ _ hkl]
  have hrk:=BO hd hs (hO _ hm) hkl
  rw[getD_eq _ _ _ hkl]at hrk
  exact ih _ (by omega) (λz=>hcl _ hm _ (aV hkl) z)
end
def cmpL:Int->List Int->List Int->List Int×List Int
 |x,c::cs,n::ns=>if n=x then cmpL x cs ns else(c::(cmpL n cs ns).1,n::(cmpL n cs ns).2)
 |_,_,_=>([],[])
theorem cmp_eq(x c:Int)(cs ns:List Int):cmpL x (c::cs) (x::ns)=cmpL x cs ns:=by simp[cmpL]
theorem yu{x n:Int}(h:n≠x)(c:Int)(cs ns:List Int):cmpL x (c::cs) (n::ns)=(c::(cmpL n cs ns).1,n::(cmpL n cs ns).2):=by simp only[cmpL];rw[au h]
theorem uw(x:Int)(ns:List Int):cmpL x [] ns=([],[]):=by cases ns<;>rfl
theorem OP:∀(cs ns:List Int) (x:Int),(cmpL x cs ns).2.length=(cmpL x cs ns).1.length:=by
 intro cs
 induction cs with
 |nil=>intro ns x;rw[uw]
 |cons c cs ih =>
  intro ns x
  cases ns with
  |nil=>rfl
  |cons n ns =>
   by_cases h:n=x
   .subst h;rw[cmp_eq];exact ih ns n
   .rw[yu h];simp[ih ns n]
theorem Iz:∀(cs ns:List Int) (x:Int),(cmpL x cs ns).1.Sublist cs/\(cmpL x cs ns).2.Sublist ns:=by
 intro cs
 induction cs with
 |nil=>intro ns x;rw[uw];exact⟨List.Sublist.slnil,Ag _⟩
 |cons c cs ih =>
  intro ns x
  cases ns with
  |nil=>exact⟨Ag _,Ag _⟩
  |cons n ns =>
   by_cases h:n=x
   .subst h;rw[cmp_eq];exact⟨(ih ns n).1.cons _,(ih ns n).2.cons _⟩
   .rw[yu h];exact⟨(ih ns n).1.cons_cons _,(ih ns n).2.cons_cons _⟩
theorem OQ:∀(cs ns:List Int) (x:Int) (j:Nat),j<(cmpL x cs ns).2.length->(x::(cmpL x cs ns).2).getD (j+1) 0≠(x::(cmpL x cs ns).2).getD j 0:=by
 intro cs
 induction cs with
 |nil=>intro ns x j h;rw[uw]at h;cases h
 |cons c cs ih =>
  intro ns x j h
  cases ns with
  |nil=>cases h
  |cons n ns =>
   by_cases q:n=x
   .subst q;rw[cmp_eq]at h ⊢;exact ih ns n j h
   .rw[yu q]at h ⊢
    cases j with
    |zero=>simpa using q
    |succ j=>exact ih ns n j (by simpa using h)
theorem EM{cs:List Int}{v:Int}(h:∀c∈cs,v<c):brK cs v=0:=by
 cases cs with
 |nil=>rfl
 |cons c cs=>simp only[brK];rw[au (by have:=h c (by simp);omega)]
theorem a1U:∀(cs ns:List Int) (x v:Int),cs.Pairwise (·<·)->ns.length=cs.length->(x::(cmpL x cs ns).2).getD (brK (cmpL x cs ns).1 v) 0=(x::ns).getD (brK cs v) 0:=by
 intro cs
 induction cs with
 |nil=>intro ns x v _ hl;rw[uw];rfl
 |cons c cs ih =>
  intro ns x v hp hl
  cases ns with
  |nil=>cases hl
  |cons n ns =>
   have hp':=jI.1 hp
   have hl':ns.length=cs.length:=by simpa using hl
   have i:=ih ns n v hp'.2 hl'
   by_cases hv:c<=v
   .have e:brK (c::cs) v=brK cs v+1:=by simp only[brK];rw[ak hv]
    rw[e]
    by_cases q:n=x
    .subst q;rw[cmp_eq,i];simp
    .rw[yu q]
     have e2:brK (c::(cmpL n cs ns).1) v=brK (cmpL n cs ns).1 v+1:=by simp only[brK];rw[ak hv]
     show(x::n::(cmpL n cs ns).2).getD (brK (c::(cmpL n cs ns).1) v) 0=_
     rw[e2,nO,nO];exact i
   ·have all:∀ y ∈ c :: cs,v < y:=fun y hy=>by
     rcases bU.1 hy with rfl|hy
     .omega
     .have:=hp'.1 y hy;omega
    rw[EM all,EM λy hy=>all y ((Iz (c::cs) (n::ns) x).1.mem hy)]
    rfl
theorem a1V:∀(cs ns:List Int) (x:Int),ns.length=cs.length->∀y∈ns,y∈x::(cmpL x cs ns).2:=by
 intro cs
 induction cs with
 |nil=>intro ns x hl y hy;rw[eu hl]at hy;cases hy
 |cons c cs ih =>
  intro ns x hl y hy
  cases ns with
  |nil=>cases hy
  |cons n ns =>
   have hl':ns.length=cs.length:=by simpa using hl
   by_cases q:n=x
   .subst q
    rw[cmp_eq]
    rcases bU.1 hy with rfl|hy
    .simp
    .exact ih ns n hl' y hy
   .rw[yu q]
    refine jJ _ ?_
    rcases bU.1 hy with rfl|hy
    .simp
    .exact ih ns n hl' y hy
theorem Xb:∀(cs ns:List Int) (x c n:Int),ns.length=cs.length->cmpL x (cs++[c]) (ns++[n])=if n=(x::(cmpL x cs ns).2).getD (cmpL x cs ns).2.length 0 then cmpL x cs ns else((cmpL x cs ns).1++[c],(cmpL x cs ns).2++[n]):=by
 intro cs
 induction cs with
 |nil =>
  intro ns x c n hl
  rw[eu hl]
  simp only[uw,fP,cZ,lK]
  by_cases q:n=x
  .subst q;rw[cmp_eq,ak rfl,uw]
  .rw[yu q,au q,uw]
 |cons c0 cs ih =>
  intro ns x c n hl
  cases ns with
  |nil=>cases hl
  |cons n0 ns =>
   have hl':ns.length=cs.length:=by simpa using hl
   rw[mq,mq]
   by_cases q:n0=x
   .subst q;simp only[cmp_eq];exact ih ns n0 c n hl'
   .rw[yu q,yu q,ih ns n0 c n hl']
    show _=if n=(n0::(cmpL n0 cs ns).2).getD (cmpL n0 cs ns).2.length 0 then _ else _
    by_cases z:n=(n0::(cmpL n0 cs ns).2).getD (cmpL n0 cs ns).2.length 0
    .rw[ak z,ak z]
    .rw[au z,au z];rfl
def K7(ns:List DS1)(a x:Int)(c n:List Int):Int×List DS1 :=
 if c=[] then(x,ns) else if(a,c,x::n,())∈ns then((ns.idxOf (a,c,x::n,()):Nat),ns) else((ns.length:Int),ns++[(a,c,x::n,())])
def qL(ns:List DS1)(a:Int)(cs nx:List Int):Int×List DS1:=K7 ns a (nx.headD 0) (cmpL (nx.headD 0) cs nx.tail).1 (cmpL (nx.headD 0) cs nx.tail).2
theorem Mc(ns t:List DS1){x:Nat}(h:x<ns.length):kids (ns++t) x=kids ns x:=by unfold kids;rw[jd _ _ _ h]
def rF(lo hi:Int)(cs:List Int):Prop:=cs.Pairwise (·<·)/\∀c∈cs,lo<c/\c<=hi
theorem rF.sub{lo hi:Int}{cs ds:List Int}(h:rF lo hi cs)(q:ds.Sublist cs):rF lo hi ds:=⟨h.1.sublist q,λc hc=>h.2 c (q.mem hc)⟩
theorem rF.at{lo hi:Int}{cs:List Int}(h:rF lo hi cs)(k:Nat)(hk:k<cs.length):lo<cs.getD k 0/\cs.getD k 0<=hi/\(0<k->cs.getD (k-1) 0<cs.getD k 0):=by
 rw[getD_eq _ _ _ hk]
 have:=h.2 _ (aV hk)
 refine⟨this.1,this.2,λq=>?_⟩
 rw[getD_eq _ _ _ (by omega)]
 exact je.1 h.1 _ _ (by omega) hk (by omega)
theorem Tg {dm:List DS3} {lo:Int} (hd:iJ dm) (hlo:-256<=lo) {i:Nat} (hi:i < dm.length) {cs nx:List Int} {ns:List DS1} (hc:rF (dm.getD i zS).1 (dm.getD i zS).2.1 cs) (hl:nx.length=cs.length + 1) (hnx:∀ c ∈ nx,Rf ns lo (i + 1) c) (hN:pK dm lo ns) (hlo0:lo<=0) :
  ∃t,(qL ns (i:Int) cs nx).2=ns++t/\pK dm lo (ns++t)/\Rf (ns++t) lo i (qL ns (i:Int) cs nx).1/\t.length<=1/\(cs=[]->t=[])/\
   (∀fs,vlF (ns++t) 9 (qL ns (i:Int) cs nx).1 fs=vlF (ns++t) 9 (nx.getD (brK cs (fs.getD i 0)) 0) fs)/\(∀j,ns.length<=j->j<(ns++t).length->(qL ns (i:Int) cs nx).1=(j:Int))/\(∀y∈t,∀c∈y.2.2.1,c<(ns.length:Int)):=by
 obtain⟨x,nx,rfl⟩:∃x t,nx=x::t:=by
  cases nx with
  |nil=>simp at hl
  |cons x t=>exact⟨x,t,rfl⟩
 have hl':nx.length=cs.length:=by simpa using hl
 have hv:=λv=>a1U cs nx x v hc.1 hl'
 have hm:=a1V cs nx x hl'
 have hln:=OP cs nx x
 have hsub:=Iz cs nx x
 have WR:=OQ cs nx x
 unfold qL
 simp only[List.headD_cons,List.tail_cons]
 have hcn:cs=[]->(cmpL x cs nx).1=[]:=λe=>by rw[e,uw]
 generalize cmpL x cs nx=p at *
 obtain⟨c,n⟩:=p
 dsimp only at *
 unfold K7
 by_cases hcz:c=[]
 .subst hcz
  rw[ak rfl]
  have hn:n=[]:=eu (by simpa using hln)
  subst hn
  have hxr:=hnx x (by simp)
  refine⟨[],by simp,by simpa using hN,by simpa using hxr.weak (by omega),by simp,λ_=>rfl,λfs=>?_,λj h1 h2=>(by simp at h2;omega),λy hy=>(by cases hy)⟩
  rw[<- hv];rfl
 rw[au hcz]
 have hci:¬cs=[]:=λe=>hcz (hcn e)
 have hnd:∀c'∈x::n,Rf ns lo (i+1) c':=λc' h=>by
  rcases bU.1 h with rfl|h
  .exact hnx _ (by simp)
  .exact hnx _ (jJ _ (hsub.2.mem h))
 have val:∀(t:List DS1) (r:Nat),iU dm (ns++t)->r<(ns++t).length->(ns++t).getD r zN=((i:Int),c,x::n,())->∀fs,vlF (ns++t) 9 (r:Int) fs=vlF (ns++t) 9 ((x::nx).getD (brK cs (fs.getD i 0)) 0) fs:=λt r hs hr e fs=>by
  rw[wM hd hs (by omega) (by omega),bH]
  have ek:kids (ns++t) r=x::n:=by unfold kids;rw[e]
  rw[ek,e]
  show vlF (ns++t) 9 ((x::n).getD (brK c (fs.getD (i:Int).toNat 0)) 0) fs=_
  rw[bH,hv]
 by_cases hin:((i:Int),c,x::n,())∈ns
 .rw[ak hin]
  have hid:=iT hin
  have eg:ns.getD (ns.idxOf ((i:Int),c,x::n,())) zN=((i:Int),c,x::n,()):=by rw[getD_eq _ _ _ hid,oz]
  generalize ns.idxOf ((i:Int),c,x::n,())=k at hid eg
  refine⟨[],by simp,by simpa using hN,?_,by simp,λ_=>rfl,λfs=>?_,λj h1 h2=>(by simp at h2;omega),λy hy=>(by cases hy)⟩
  .rw[bS]
   refine⟨by show lo<=(k:Int);omega,by show(k:Int)<_;omega,λ_=>?_⟩
   show(i:Int)<=(ns.getD (k:Int).toNat zN).1
   rw[bH,eg];exact nY _
  .exact val [] k (by simpa using hN.1) (by simpa using hid) (by simpa using eg) fs
 .rw[au hin]
  have hnew:∀k,k<ns.length->ns.getD k zN≠((i:Int),c,x::n,()):=λk hk e=>hin (by rw[<- e,getD_eq _ _ _ hk];exact aV hk)
  have hcp:0<c.length:=List.length_pos_iff.2 hcz
  have hso:mZ dm (ns++[((i:Int),c,x::n,())]) ((i:Int),c,x::n,()):=by
   refine⟨by show(0:Int)<=i;omega,by show(i:Int)<_;omega,hcp,by show(x::n).length=_;rw[bF,hln],λk hk=>?_,λk hk=>?_⟩
   .show(dm.getD (i:Int).toNat zS).1<_/\_<=(dm.getD (i:Int).toNat zS).2.1/\_
    rw[bH]
    exact(hc.sub hsub.1).at k hk
   .have hk':k<(x::n).length:=hk
    have hmk:=hnd ((x::n).getD k 0) (by rw[getD_eq _ _ _ hk'];exact aV hk')
    refine⟨⟨by show -256<=(x::n).getD k 0;have:=hmk.1;omega,(hmk.app _).2.1⟩,λq=>?_,λq=>?_⟩
    .obtain⟨j,rfl⟩:∃j,k=j+1:=⟨k-1,by omega⟩
     exact WR j (by simpa using hk')
    .have:=(hmk.app [((i:Int),c,x::n,())]).2.2 q
     show(i:Int)<((ns++[((i:Int),c,x::n,())]).getD ((x::n).getD k 0).toNat zN).1
     omega
  have hN2:=hN.snoc hso (λy hy=>(hnd y hy).1) hnew
  have eg:=om ns ((i:Int),c,x::n,()) zN
  have ek:kids (ns++[((i:Int),c,x::n,())]) ns.length=x::n:=by unfold kids;rw[eg]
  have hlt:ns.length<(ns++[((i:Int),c,x::n,())]).length:=by simp
  refine⟨[((i:Int),c,x::n,())],rfl,hN2,?_,by simp,λe=>absurd e hci,λfs=>?_,λj h1 h2=>(by simp at h2;omega),λy hy c' hc'=>(by obtain rfl:=bI.1 hy;exact(hnd c' hc').2.1)⟩
  .refine⟨by show lo<=(ns.length:Int);omega,by show(ns.length:Int)<_;omega,λ_=>?_⟩
   show(i:Int)<=((ns++[((i:Int),c,x::n,())]).getD (ns.length:Int).toNat zN).1
   rw[bH,eg];exact nY _
  .exact val _ ns.length hN2.1 hlt eg fs
theorem Ea{dm:List DS3}{ns:List DS1}(hs:iU dm ns)(t:List DS1)(fs:List Int):∀(f:Nat) (r:Int),r<(ns.length:Int)->vlF (ns++t) f r fs=vlF ns f r fs:=by
 intro f
 induction f with
 |zero=>intro r _;rfl
 |succ f ih =>
  intro r hr
  rcases fu r 0 with q|q
  .rw[jF _ _ q,jF _ _ q]
  have hrt:r.toNat<ns.length:=by omega
  rw[oK _ _ q,oK _ _ q,Mc _ _ hrt,jd _ _ _ hrt]
  exact ih _ (ny hs hrt (wG hs hrt _)).2
def wP(dm:List DS3)(pre:List Int):Prop:=pre.length<=dm.length/\∀i,i<pre.length->(dm.getD i zS).1<=pre.getD i 0/\pre.getD i 0<=(dm.getD i zS).2.1
theorem wP.nil(dm:List DS3):wP dm []:=⟨by simp,λi hi=>by cases hi⟩
theorem wP.snoc{dm:List DS3}{pre:List Int}(h:wP dm pre)(hl:pre.length<dm.length){v:Int}(h1:(dm.getD pre.length zS).1<=v)(h2:v<=(dm.getD pre.length zS).2.1):wP dm (pre++[v]):=by
 refine⟨by simp;omega,λi hi=>?_⟩
 rw[aB,aU]at hi
 rcases aS i pre.length with q|q
 .rw[jd _ _ _ q];exact h.2 i q
 .obtain rfl:i=pre.length:=by omega
  rw[om];exact⟨h1,h2⟩
theorem Jz(fs:List Int)(i j:Nat):(fs.drop i).getD j 0=fs.getD (i+j) 0:=by
 rw[aM,dV,<- aM]
theorem Fj{pre fs:List Int}{j:Nat}:(pre++fs.drop pre.length).getD j 0=if j<pre.length then pre.getD j 0 else fs.getD j 0:=by
 split
 .rename_i h;rw[jd _ _ _ h]
 .rename_i h
  rw[aM,aL (by omega),dV,<- aM,show pre.length+(j-pre.length)=j by omega]
theorem wP.fill{dm:List DS3}{pre:List Int}(h:wP dm pre){fs:List Int}(hf:FOk dm fs):FOk dm (pre++fs.drop pre.length):=by
 refine⟨by rw[aB,bX,hf.1];have:=h.1;omega,λi hi=>?_⟩
 rw[Fj]
 split
 .rename_i q;exact h.2 i q
 .exact hf.2 i hi
section
variable{dm:List DS3}
theorem Pb{ns:List DS1}(hd:iJ dm)(hs:iU dm ns){fs fs':List Int}:∀(f:Nat) (r:Int),r<(ns.length:Int)->(∀j,lvl dm ns r<=j->fs.getD j 0=fs'.getD j 0)->vlF ns f r fs=vlF ns f r fs':=by
 intro f
 induction f with
 |zero=>intro r _ _;rfl
 |succ f ih =>
  intro r hr h
  rcases fu r 0 with q|q
  .rw[jF _ _ q,jF _ _ q]
  have hrt:r.toNat<ns.length:=by omega
  have e:lvl dm ns r=(ns.getD r.toNat zN).1.toNat:=by unfold lvl;rw[au (by omega)]
  rw[oK _ _ q,oK _ _ q,h (ns.getD r.toNat zN).1.toNat (by omega)]
  have hk:=wG hs hrt (fs'.getD (ns.getD r.toNat zN).1.toNat 0)
  have:=qG hd hs hrt hk
  exact ih _ (ny hs hrt hk).2 λj hj=>h j (by omega)
theorem follow{ns:List DS1}(hd:iJ dm)(hs:iU dm ns){pre:List Int}(hp:wP dm pre):∀(m:Nat) (r:Int),jE ns.length r->rkI (rkA ns) r<=m->∃r',jE ns.length r'/\pre.length<=lvl dm ns r'/\∀fs,vlF ns 9 r' fs=vlF ns 9 r (pre++fs.drop pre.length):=by
 intro m
 induction m with
 |zero =>
  intro r hr hm
  have q:r<0:=by unfold rkI at hm;split at hm;assumption;omega
  refine⟨r,hr,by unfold lvl;rw[ak q];exact hp.1,λfs=>by rw[jF _ _ q,jF _ _ q]⟩
 |succ m ih =>
  intro r hr hm
  by_cases hl:pre.length<=lvl dm ns r
  .refine⟨r,hr,hl,λfs=>Pb hd hs _ _ hr.2 λj hj=>?_⟩
   rw[Fj,au (by omega)]
  ·have q:0<=r:=by
    rcases fu r 0 with q|q
    .exfalso;apply hl;unfold lvl;rw[ak q];exact hp.1
    .exact q
   have hrt:r.toNat<ns.length:=by have:=hr.2;omega
   have e:lvl dm ns r=(ns.getD r.toNat zN).1.toNat:=by unfold lvl;rw[au (by omega)]
   have hk:=wG hs hrt (pre.getD (ns.getD r.toNat zN).1.toNat 0)
   have hrk:=BO hd hs hrt hk
   unfold rkI at hm
   rw[au (by omega)]at hm
   obtain⟨r',h1,h2,h3⟩:=ih _ (ny hs hrt hk) (by omega)
   refine⟨r',h1,h2,λfs=>?_⟩
   rw[h3,wM hd hs q hr.2 (pre++fs.drop pre.length),Fj,ak (by omega)]
def FR(dm:List DS3)(F:List Int->Int)(ns:List DS1)(r:Int):Prop:=∃pre,wP dm pre/\∀fs,FOk dm fs->vlF ns 9 r fs=F (pre++fs.drop pre.length)
theorem FR.app{F:List Int->Int}{ns:List DS1}(hs:iU dm ns){r:Int}(hr:r<(ns.length:Int))(h:FR dm F ns r)(t:List DS1):FR dm F (ns++t) r:=by
 obtain⟨pre,h1,h2⟩:=h
 exact⟨pre,h1,λfs hf=>by rw[Ea hs t fs 9 r hr];exact h2 fs hf⟩
theorem Cn{ns:List DS1}(hd:iJ dm)(hs:iU dm ns){root:Int}(hr:root<(ns.length:Int)):rkI (rkA ns) root<=8:=by
 unfold rkI
 split
 .omega
 .exact(nM hd hs).2 _ (by omega)
theorem size_le{F:List Int->Int}{ts ns:List DS1}(hd:iJ dm)(hT:Red dm ts)(hN:Red dm ns){root:Int}(hroot:jE ns.length root)(hv:∀fs,FOk dm fs->vlF ns 9 root fs=F fs)(hS:∀j,j<ts.length->FR dm F ts (j:Int)):ts.length<=ns.length:=by
 have key:∀j:Nat,∃k:Nat,j<ts.length->k<ns.length/\qD dm ts ns (j:Int) (k:Int):=λj=>by
  rcases aS j ts.length with q|q
  .obtain⟨pre,p1,p2⟩:=hS j q
   obtain⟨r',a1,a2,a3⟩:=follow hd hN.1 p1 8 root hroot (Cn hd hN.1 hroot.2)
   have hE:qD dm ts ns (j:Int) r':=⟨by omega,a1.2,λfs hf=>by rw[p2 fs hf,a3 fs,hv _ (p1.fill hf)]⟩
   rcases hT.step hd hN hE with⟨z,_⟩|⟨_,z,_⟩
   .omega
   .have h2:=a1.2
    exact⟨r'.toNat,λ_=>⟨by omega,by rw[show((r'.toNat:Nat):Int)=r' by omega];exact hE⟩⟩
  .exact⟨0,λz=>by omega⟩
 obtain⟨φ,hφ⟩:=Classical.axiomOfChoice key
 have hnd:((List.range ts.length).map φ).Nodup:=by
  refine List.pairwise_map.2 ?_
  refine List.Pairwise.imp_of_mem ?_ (List.nodup_range (n:=ts.length))
  intro a b ha hb hne e
  have ha:=bK.1 ha
  have hb:=bK.1 hb
  have h1:=(hφ a ha).2
  have h2:=(hφ b hb).2
  have e:φ a=φ b:=e
  rw[e]at h1
  have:=hT.inj hd (h1.trans h2.symm)
  exact hne (by omega)
 have:=Jg ns.length _ hnd λx hx=>by
  obtain⟨j,hj,rfl⟩:=dU.1 hx
  exact(hφ j (bK.1 hj)).1
 rwa [bR,oW]at this
end
theorem TT{x:DS1}:∀(ns:List DS1) (j:Nat),j<ns.length->ns.getD j zN=x->(∀j',j'<j->ns.getD j' zN≠x)->ns.idxOf x=j/\x∈ns:=by
 intro ns
 induction ns with
 |nil=>intro j h;cases h
 |cons y ns ih =>
  intro j hj he hf
  cases j with
  |zero =>
   have he:y=x:=he
   subst he
   exact⟨by simp,by simp⟩
  |succ j =>
   have h0:y≠x:=hf 0 (by omega)
   obtain⟨a,b⟩:=ih j (by simpa using hj) (by simpa using he) (λj' hj'=>by have:=hf (j'+1) (by omega);simpa using this)
   refine⟨?_,jJ _ b⟩
   rw[List.idxOf_cons,a]
   have:(y==x)=false:=by simpa using h0
   rw[this];rfl
theorem WC{x:DS1}{ns:List DS1}(h:∀j,j<ns.length->ns.getD j zN≠x):x∉ns:=λhm=>by
 obtain⟨j,hj,e⟩:=iI hm
 exact h j hj (by rw[getD_eq _ _ _ hj];exact e)
def ixS(ns:List DS1):List DS7:=(List.range ns.length).map λj=>(vH (ns.getD j zN),(j:Int),())
theorem Wz(ns:List DS1)(x:DS1):ixS (ns++[x])=ixS ns++[(vH x,(ns.length:Int),())]:=by
 unfold ixS
 rw[aB,aU,ni,dS,List.map_singleton,om]
 congr 1
 refine kN λj hj=>?_
 rw[jd _ _ _ (bK.1 hj)]
theorem Ws(k:DS1)(ns:List DS1):∀(m j:Nat),j+m=ns.length->(∀j',j'<j->ns.getD j' zN≠k)->nH sEq (vH k) ((List.range' j m).map λj=>(vH (ns.getD j zN),(j:Int),()))=if k∈ns then some (ns.idxOf k:Int) else none:=by
 intro m
 induction m with
 |zero =>
  intro j hj hf
  rw[au (WC λi hi=>hf i (by omega))];rfl
 |succ m ih =>
  intro j hj hf
  rw[qb,dw]
  simp only[nH]
  cases q:sEq (vH k) (vH (ns.getD j zN)) with
  |true =>
   rw[Gb]at q
   obtain⟨a,b⟩:=TT ns j (by omega) (Fx q).symm hf
   rw[ak b,a];rfl
  |false =>
   rw[Gc]at q
   exact ih (j+1) (by omega) λj' hj'=>by
    rcases aS j' j with r|r
    .exact hf j' r
    .obtain rfl:j'=j:=by omega
     exact λe=>q (by rw[e])
theorem a1t(k:DS1)(ns:List DS1):nH sEq (vH k) (ixS ns)=if k∈ns then some (ns.idxOf k:Int) else none:=by
 unfold ixS
 rw[sH]
 exact Ws k ns ns.length 0 (by omega) λj hj=>by omega
theorem a1s(k:DS1)(ns:List DS1)(h:k∉ns):qx sEq (vH k) (ns.length:Int) (ixS ns)=ixS (ns++[k]):=by
 rw[Wz]
 refine LV _ _ _ λe he=>?_
 unfold ixS at he
 obtain⟨j,hj,rfl⟩:=dU.1 he
 rw[Gc]
 intro q
 refine h ?_
 rw[Fx q,getD_eq _ _ _ (bK.1 hj)]
 exact aV _
theorem Ti {dm:List DS3} {lo:Int} (hd:iJ dm) (hlo:-256<=lo) (hlo0:lo<=0) {i:Nat} (hi:i < dm.length) {x:Int} {cs nx:List Int} {ns:List DS1} (hc:rF (dm.getD i zS).1 (dm.getD i zS).2.1 cs) (hl:nx.length=cs.length) (hnx:∀ c ∈ x :: nx,Rf ns lo (i + 1) c) (hN:pK dm lo ns) (hn:ns.length<=1000) (hcl:cs.length<=2000000001) (a b:List DS1) (op:Int) (me:List DS6) :
  Er (i:Int) a b op cs (x::nx) me ns (ixS ns)=some ((qL ns (i:Int) cs (x::nx)).1,a,b,op,cs,x::nx,me,(qL ns (i:Int) cs (x::nx)).2,ixS (qL ns (i:Int) cs (x::nx)).2,()):=by
 obtain⟨t,s1,s2,s3,s4,s5,s6,s7,_⟩:=Tg hd hlo hi hc (by simpa using hl) hnx hN hlo0
 refine T.eq ?_
 unfold Er
 have hX:=aY (x::nx)
 have hC:=aY cs
 have hXl:(x::nx).length=nx.length+1:=rfl
 have e0:(List.replicate (Int.toNat 1) 0:List Int)=[0]:=rfl
 have e2:List.take (Int.toNat (((List.length (x::nx):Nat):Int)-1)) (List.drop (Int.toNat 1) (x::nx))=nx:=by
  show List.take _ nx=nx
  rw[gM (by omega)]
 have e3:Int.toNat (((List.length (x::nx):Nat):Int)-1)=nx.length:=by omega
 rw[e2,e3,hX,hC,e0]
 refine T.grd (by rw[iM,iM,gD,gD,iD];omega) (T.grd (by rw[iM,iM,gD,gD,iD];omega) (T.grd (by rw[bE];omega) (T.grd (by rw[fM];simp) (T.grd (by rw[bE,aY];simp) (T.grd (by rw[fM];simp) (T.grd (by rw[iO];omega) ?_))))))
 refine T.loop (λq=>∃k:Nat,k<=nx.length/\q=((i:Int),nx,(nx.length:Int),(k:Int),a,b,op,cs,x::nx,me,ns,ixS ns,(cmpL x (cs.take k) (nx.take k)).1,x::(cmpL x (cs.take k) (nx.take k)).2,())) (λq=>nx.length-q.2.2.2.1.toNat) ⟨0,by omega,by rw[mG,mG,uw];rfl⟩ ?_
 rintro _ ⟨k,hk,rfl⟩
 dsimp only
 have hln:=OP (cs.take k) (nx.take k) x
 have hsb:=Iz (cs.take k) (nx.take k) x
 have hle:=hsb.1.length_le
 rw[bL]at hle
 have hsn:∀h:k<nx.length,cmpL x (cs.take (k+1)) (nx.take (k+1))=if nx[k]=(x::(cmpL x (cs.take k) (nx.take k)).2).getD (cmpL x (cs.take k) (nx.take k)).2.length 0 then cmpL x (cs.take k) (nx.take k) else((cmpL x (cs.take k) (nx.take k)).1++[cs[k]'(by omega)],(cmpL x (cs.take k) (nx.take k)).2++[nx[k]]):=λh=>by
  rw[cK h,cK (show k<cs.length by omega),Xb _ _ _ _ _ (by simp;omega)]
 have hfin:k=nx.length->cmpL x (cs.take k) (nx.take k)=cmpL x cs nx:=λh=>by rw[h,eY,hl,eY]
 have WR:=OQ (cs.take k) (nx.take k) x
 generalize cmpL x (cs.take k) (nx.take k)=p at *
 obtain⟨c,n⟩:=p
 dsimp only at *
 have hNn:=aY (x::n)
 have hNl:(x::n).length=n.length+1:=rfl
 have hNx:=aY nx
 rw[hNx]
 refine T.cnd (λhc1=>?_) (λhc1=>?_)<;>simp only[bD,bg]at hc1
 .have hkl:k<nx.length:=by omega
  have en1:gP .i64 (aG (x::n)) 1=(n.length:Int):=by rw[hNn,fE (by omega) (by omega)];omega
  have h1:=hsn hkl
  rw[en1,hNn,hC,dW]
  simp only[bH]
  rw[getD_eq nx k 0 hkl,getD_eq cs k 0 (by omega)]
  refine T.grd (by rw[bE];omega) (T.grd (by rw[bE];omega) (T.grd (by rw[fM];omega) (T.cnd (λhc2=>?_) (λhc2=>?_))))<;>simp only[gJ,gX]at hc2
  .rw[au hc2]at h1
   refine T.grd (by rw[bE];omega) (T.grd (by rw[fM];omega) (T.grd (by rw[eO,aU];omega) (T.grd (by rw[eO,aU];omega) ?_)))
   refine T.go ⟨k+1,by omega,?_⟩ (by dsimp only;rw[bB (by omega) (by omega)];omega)
   rw[h1,bB (by omega) (by omega)];rfl
  .rw[ak hc2]at h1
   refine T.go ⟨k+1,by omega,?_⟩ (by dsimp only;rw[bB (by omega) (by omega)];omega)
   rw[h1,bB (by omega) (by omega)];rfl
 .obtain rfl:k=nx.length:=by omega
  have hf:=hfin rfl
  have hS:qL ns (i:Int) cs (x::nx)=K7 ns (i:Int) x c n:=by unfold qL;rw[List.headD_cons,List.tail_cons,<- hf]
  rw[hS]at s1 s3 ⊢
  unfold K7 at s1 s3 ⊢
  rw[hNn]
  have hCc:=aY c
  rw[hCc]
  refine T.pX (T.cnd (λhc2=>?_) (λhc2=>?_))<;>simp only[dF,dP]at hc2
  .have hcz:c=[]:=eu (by omega)
   rw[ak hcz]
   exact T.grd (by rw[bE];omega) (T.grd (by rw[fM];simp) (T.ret rfl))
  have hcz:c≠[]:=λe=>by subst e;simp at hc2
  rw[au hcz]
  have hNs:=aY ns
  rw[eY]at hsb
  rw[show List.take nx.length cs=cs by rw[hl,eY]]at hsb
  have hmem:∀y∈x::n,Rf ns lo (i+1) y:=λy hy=>by
   rcases bU.1 hy with rfl|hy
   .exact hnx _ (by simp)
   .exact hnx _ (jJ _ (hsb.2.mem hy))
  have hso:mZ dm ns ((i:Int),c,x::n,()):=by
   refine⟨by show(0:Int)<=i;omega,by show(i:Int)<_;omega,by show 0<c.length;omega,by show(x::n).length=_;rw[bF,hln],λk hk=>?_,λk hk=>?_⟩
   .show(dm.getD (i:Int).toNat zS).1<_/\_<=(dm.getD (i:Int).toNat zS).2.1/\_
    rw[bH]
    exact(hc.sub hsb.1).at k hk
   .have hk':k<(x::n).length:=hk
    have hmk:=hmem ((x::n).getD k 0) (by rw[getD_eq _ _ _ hk'];exact aV hk')
    refine⟨⟨by show -256<=(x::n).getD k 0;have:=hmk.1;omega,hmk.2.1⟩,λq=>?_,λq=>?_⟩
    .obtain⟨j,rfl⟩:∃j,k=j+1:=⟨k-1,by omega⟩
     exact WR j (by simpa using hk')
    .have:=hmk.2.2 q
     show(i:Int)<(ns.getD ((x::n).getD k 0).toNat zN).1
     omega
  have hkey:=YB hd hn hso
  refine T.dz hkey ?_
  dsimp only
  have hmF:=a1t ((i:Int),c,x::n,()) ns
  unfold yK pE
  rw[hmF]
  by_cases hin:((i:Int),c,x::n,())∈ns
  .rw[ak hin,ak hin]
   exact T.cf rfl (T.ret rfl)
  .rw[au hin,au hin]
   refine T.ct rfl (T.grd (by rw[eO,aU];omega) (T.ret ?_))
   rw[hNs,a1s _ _ hin]
def XA(dm:List DS3)(F:List Int->Int)(ns:List DS1)(pre:List Int)(r:Int):Prop:=∀fs,FOk dm fs->vlF ns 9 r fs=F (pre++fs.drop pre.length)
theorem XA.app{dm:List DS3}{F:List Int->Int}{ns:List DS1}{pre:List Int}{r:Int}(h:XA dm F ns pre r)(hs:iU dm ns)(hr:r<(ns.length:Int))(t:List DS1):XA dm F (ns++t) pre r:=λfs hf=>by rw[Ea hs t fs 9 r hr];exact h fs hf
def opS(op x y:Int):Int:=if op=1 then min x y else if op=2 then max x y else if op=3 then(if x=y then 0 else 1) else if x=0 then y else x
theorem a9z(x y op:Int):m37 x y op=some (opS op x y,()):=by
 refine T.eq ?_
 unfold m37 opS
 refine T.cnd (λh=>?_) (λh=>?_)<;>simp only[dF,dP]at h
 .rw[ak h];exact T.ret rfl
 rw[au h]
 refine T.cnd (λh=>?_) (λh=>?_)<;>simp only[dF,dP]at h
 .rw[ak h];exact T.ret rfl
 rw[au h]
 refine T.cnd (λh=>?_) (λh=>?_)<;>simp only[dF,dP]at h
 .rw[ak h]
  refine T.cnd (λh=>?_) (λh=>?_)<;>simp only[dF,dP]at h
  .rw[ak h];exact T.ret rfl
  .rw[au h];exact T.ret rfl
 rw[au h]
 refine T.cnd (λh=>?_) (λh=>?_)<;>simp only[dF,dP]at h
 .rw[ak h];exact T.ret rfl
 .rw[au h];exact T.ret rfl
theorem a3j(x y op:Int):m84 x y op=some (opS op x y,()):=by
 refine T.eq ?_
 unfold m84 opS
 refine T.cnd (λh=>?_) (λh=>?_)<;>simp only[dF,dP]at h
 .rw[ak h];exact T.ret rfl
 rw[au h]
 refine T.cnd (λh=>?_) (λh=>?_)<;>simp only[dF,dP]at h
 .rw[ak h];exact T.ret rfl
 rw[au h]
 refine T.cnd (λh=>?_) (λh=>?_)<;>simp only[dF,dP]at h
 .rw[ak h]
  refine T.cnd (λh=>?_) (λh=>?_)<;>simp only[gJ,gX]at h
  .rw[au h];exact T.ret rfl
  .rw[ak h];exact T.ret rfl
 rw[au h]
 refine T.cnd (λh=>?_) (λh=>?_)<;>simp only[dF,dP]at h
 .rw[ak h];exact T.ret rfl
 .rw[au h];exact T.ret rfl
theorem SN{op x y:Int}(h1:0<=x/\x<=255)(h2:0<=y/\y<=255):0<=opS op x y/\opS op x y<=255:=by
 unfold opS
 split
 .omega
 .split
  .omega
  .split
   .split<;>omega
   .split<;>omega
theorem Ab:∀(cs:List Int) (v:Int),brK cs v<cs.length->v<cs.getD (brK cs v) 0:=by
 intro cs
 induction cs with
 |nil=>intro v h;cases h
 |cons c cs ih =>
  intro v h
  simp only[brK]at h ⊢
  split at h
  .rename_i q
   rw[ak q,nO]
   exact ih v (by simpa using h)
  .rename_i q
   rw[au q,lK];omega
section
variable{dm:List DS3}
theorem Lu(pre rest:List Int)(w:Int)(j:Nat):(pre++w::rest).getD j 0=if j<pre.length then pre.getD j 0 else if j=pre.length then w else rest.getD (j-pre.length-1) 0:=by
 split
 .rename_i h;rw[jd _ _ _ h]
 .rename_i h
  rw[aM,aL (by omega)]
  split
  .rename_i e;subst e;simp
  .rename_i e
   obtain⟨k,hk⟩:∃k,j-pre.length=k+1:=⟨j-pre.length-1,by omega⟩
   rw[hk,lC,<- aM,jg]
def opF(op:Int)(na nb:List DS1)(ra rb:Int)(fs:List Int):Int:=opS op (vlF na 9 ra fs) (vlF nb 9 rb fs)
end
theorem JD{cs:List Int}(h:cs.Pairwise (·<·)){v:Int}{k:Nat}(hk:k<cs.length)(hv:cs.getD k 0<=v):k+1<=brK cs v:=by
 rcases aS (brK cs v) (k+1) with q|q
 .exfalso
  have h1:=Ab cs v (by omega)
  have hp:=je.1 h
  rw[getD_eq _ _ _ (by omega)]at h1
  rw[getD_eq _ _ _ hk]at hv
  rcases aS (brK cs v) k with r|r
  .have:=hp _ _ (by omega) hk r;omega
  .have e:brK cs v=k:=by omega
   simp only[e]at h1;omega
 .exact q
theorem Rs{cs:List Int}{c v:Int}(h:brK cs v<cs.length):brK (cs++[c]) v=brK cs v:=by
 induction cs with
 |nil=>cases h
 |cons x cs ih =>
  simp only[mq,brK]at h ⊢
  split
  .rename_i q
   rw[ak q]at h
   rw[ih (by simpa using h)]
  .rfl
theorem DV{cs:List Int}{c v:Int}(h:brK cs v=cs.length):brK (cs++[c]) v=if c<=v then cs.length+1 else cs.length:=by
 induction cs with
 |nil=>simp only[fP,brK];split<;>rfl
 |cons x cs ih =>
  simp only[mq,brK]at h ⊢
  by_cases q:x<=v
  .rw[ak q]at h ⊢
   rw[ih (by simpa using h)]
   split<;>simp
  .rw[au q]at h;simp at h
structure Mrg (lo hi:Int) (aC bC cuts:List Int) (i j:Nat) (X:Nat->Nat->Nat->Prop):Prop where
 ij:i<=aC.length/\j<=bC.length
 cut:rF lo hi cuts
 up:∀c∈cuts,(i<aC.length->c<aC.getD i 0)/\(j<bC.length->c<bC.getD j 0)
 wit:∃v,lo<=v/\v<=hi/\brK aC v=i/\brK bC v=j
 hit:∀v,i<=brK aC v->j<=brK bC v->brK cuts v=cuts.length
 sem:∀v,¬(i<=brK aC v/\j<=brK bC v)->brK cuts v<cuts.length/\X (brK cuts v) (brK aC v) (brK bC v)
theorem Mrg.init{lo hi:Int}{aC bC:List Int}{X:Nat->Nat->Nat->Prop}(hb:lo<=hi)(ha:rF lo hi aC)(hb':rF lo hi bC):Mrg lo hi aC bC [] 0 0 X :=
 ⟨⟨pR _,pR _⟩,⟨List.Pairwise.nil,λc hc=>by cases hc⟩,λc hc=>(by cases hc),⟨lo,nY _,hb,EM λc hc=>(ha.2 c hc).1,EM λc hc=>(hb'.2 c hc).1⟩,λv _ _=>rfl,λv h=>absurd ⟨pR _,pR _⟩ h⟩
theorem N7{lo hi:Int}{cs:List Int}(hc:rF lo hi cs){v0 c:Int}{i:Nat}(h0:brK cs v0=i)(hlt:v0<c)(hle:i<cs.length->c<=cs.getD i 0):brK cs c=if i<cs.length/\cs.getD i 0=c then i+1 else i:=by
 have hp:=je.1 hc.1
 have low:∀k,k<i->cs.getD k 0<=c:=λk hk=>by
  have:=N8 cs v0 k (by omega)
  omega
 have hil:i<=cs.length:=by rw[<- h0];exact uT cs v0
 split
 .rename_i h
  refine Ac _ _ _ (by omega) (λk hk=>?_) ?_
  .rcases aS k i with q|q
   .exact low k q
   .obtain rfl:k=i:=by omega
    omega
  .rcases aS (i+1) cs.length with q|q
   .right
    have:=hp i (i+1) h.1 q (by omega)
    rw[getD_eq _ _ _ q]
    have h2:=h.2
    rw[getD_eq _ _ _ h.1]at h2
    omega
   .left;omega
 .rename_i h
  refine Ac _ _ _ hil low ?_
  rcases aS i cs.length with q|q
  .right
   have:=hle q
   have:¬cs.getD i 0=c:=λe=>h ⟨q,e⟩
   omega
  .left;omega
theorem Mrg.step {lo hi:Int} {aC bC cuts:List Int} {i j:Nat} {X X':Nat->Nat->Nat->Prop} (h:Mrg lo hi aC bC cuts i j X) (ha:rF lo hi aC) (hb:rF lo hi bC) {c:Int} (h1:i < aC.length->c<=aC.getD i 0) (h2:j < bC.length->c<=bC.getD j 0) (h3:(i < aC.length/\aC.getD i 0=c)\/(j < bC.length/\bC.getD j 0=c)) {i' j':Nat} (hI:i'=if i < aC.length/\aC.getD i 0=c then i + 1 else i) (hJ:j'=if j < bC.length/\bC.getD j 0=c then j + 1 else j)
  (hX:∀k a b,k<cuts.length->X k a b->X' k a b) (hX2:X' cuts.length i j):Mrg lo hi aC bC (cuts++[c]) i' j' X':=by
 obtain⟨⟨q1,q2⟩,hcut,hup,⟨v0,w1,w2,w3,w4⟩,hhit,Mh⟩:=h
 have hcr:lo<c/\c<=hi:=by
  rcases h3 with⟨r1,r2⟩|⟨r1,r2⟩
  .have:=ha.2 _ (aV r1);rw[<- getD_eq _ _ 0 r1]at this;omega
  .have:=hb.2 _ (aV r1);rw[<- getD_eq _ _ 0 r1]at this;omega
 have hv0:v0<c:=by
  rcases h3 with⟨r1,r2⟩|⟨r1,r2⟩
  .have:=Ab aC v0 (by omega);rw[w3]at this;omega
  .have:=Ab bC v0 (by omega);rw[w4]at this;omega
 have ea:=N7 ha w3 hv0 h1
 have eb:=N7 hb w4 hv0 h2
 rw[<- hI]at ea
 rw[<- hJ]at eb
 have hi1:i<=i'/\i'<=i+1:=by rw[hI];split<;>omega
 have hj1:j<=j'/\j'<=j+1:=by rw[hJ];split<;>omega
 have hlt:∀x∈cuts,x<c:=λx hx=>by
  rcases h3 with⟨r1,r2⟩|⟨r1,r2⟩
  .have:=(hup x hx).1 r1;omega
  .have:=(hup x hx).2 r1;omega
 have pass:∀v,i<=brK aC v->j<=brK bC v->((i'<=brK aC v/\j'<=brK bC v)↔c<=v):=λv r1 r2=>by
  constructor
  .rintro⟨s1,s2⟩
   rcases h3 with⟨t1,t2⟩|⟨t1,t2⟩
   .rw[hI,ak ⟨t1,t2⟩]at s1
    have:=N8 aC v i (by omega);omega
   .rw[hJ,ak ⟨t1,t2⟩]at s2
    have:=N8 bC v j (by omega);omega
  .intro hc
   refine⟨?_,?_⟩
   .rw[hI];split
    .rename_i t
     exact JD ha.1 t.1 (by omega)
    .exact r1
   .rw[hJ];split
    .rename_i t
     exact JD hb.1 t.1 (by omega)
    .exact r2
 refine⟨⟨by rw[<- ea];exact uT _ _,by rw[<- eb];exact uT _ _⟩,⟨?_,λx hx=>?_⟩,λx hx=>?_,⟨c,by omega,hcr.2,ea,eb⟩,λv r1 r2=>?_,λv hn=>?_⟩
 .rw[wR]
  exact⟨hcut.1,by simp,λx hx y hy=>by obtain rfl:=bI.1 hy;exact hlt x hx⟩
 .rcases aX.1 hx with r|r
  .exact hcut.2 x r
  .obtain rfl:=bI.1 r;exact hcr
 ·have hxc:x<=c:=by
   rcases aX.1 hx with r|r
   .exact Al (hlt x r)
   .obtain rfl:=bI.1 r;exact nY _
  refine⟨λr=>?_,λr=>?_⟩
  .have:=Ab aC c (by omega);rw[ea]at this;omega
  .have:=Ab bC c (by omega);rw[eb]at this;omega
 .have hc:c<=v:=(pass v (by omega) (by omega)).1 ⟨r1,r2⟩
  rw[DV (hhit v (by omega) (by omega)),ak hc];simp
 .by_cases ho:i<=brK aC v/\j<=brK bC v
  .have hvc:¬c<=v:=λr=>hn ((pass v ho.1 ho.2).2 r)
   have ha2:brK aC v=i:=by
    have:brK aC v<=i:=by
     rcases aS i aC.length with r|r
     .exact Uj aC v i r (by have:=h1 r;omega)
     .have:=uT aC v;omega
    omega
   have hb2:brK bC v=j:=by
    have:brK bC v<=j:=by
     rcases aS j bC.length with r|r
     .exact Uj bC v j r (by have:=h2 r;omega)
     .have:=uT bC v;omega
    omega
   rw[DV (hhit v ho.1 ho.2),au hvc,ha2,hb2]
   exact⟨by simp,hX2⟩
  .obtain⟨s1,s2⟩:=Mh v ho
   rw[Rs s1]
   exact⟨by simp;omega,hX _ _ _ s1 s2⟩
theorem Mrg.last{lo hi:Int}{aC bC cuts:List Int}{X:Nat->Nat->Nat->Prop}(h:Mrg lo hi aC bC cuts aC.length bC.length X)(hX:X cuts.length aC.length bC.length)(v:Int):brK cuts v<=cuts.length/\X (brK cuts v) (brK aC v) (brK bC v):=by
 by_cases ho:aC.length<=brK aC v/\bC.length<=brK bC v
 .have e1:brK aC v=aC.length:=by have:=uT aC v;omega
  have e2:brK bC v=bC.length:=by have:=uT bC v;omega
  rw[h.hit v ho.1 ho.2,e1,e2];exact⟨bM _,hX⟩
 .obtain⟨s1,s2⟩:=h.sem v ho
  exact⟨Nat.le_of_lt s1,s2⟩
theorem rF.len{lo hi:Int}{cs:List Int}(h:rF lo hi cs)(h1:-1000000000<=lo)(h2:hi<=1000000000):cs.length<=2000000000:=by
 rcases eT cs.length with q|q
 .omega
 .have:=La (cs:=cs) (lo:=lo) (hi:=hi) (λk hk=>h.at k hk) (cs.length-1) (by omega)
  have h3:=(h.at (cs.length-1) (by omega)).2.1
  omega
section
variable{dm:List DS3}
def Br(dm:List DS3)(ns:List DS1)(p:Int)(m:Nat)(C N:List Int):Prop :=
 rF (dm.getD m zS).1 (dm.getD m zS).2.1 C/\N.length=C.length+1/\(∀k,k<N.length->jE ns.length (N.getD k 0)/\m+1<=lvl dm ns (N.getD k 0))/\∀fs,vlF ns 9 p fs=vlF ns 9 (N.getD (brK C (fs.getD m 0)) 0) fs
theorem Br.node{ns:List DS1}(hd:iJ dm)(hs:iU dm ns){p:Int}(h0:0<=p)(hp:p<(ns.length:Int)):Br dm ns p (ns.getD p.toNat zN).1.toNat (ns.getD p.toNat zN).2.1 (kids ns p.toNat):=by
 have hpt:p.toNat<ns.length:=by omega
 have hsr:=hs _ hpt
 refine⟨⟨sP hsr,λc hc=>?_⟩,hsr.2.2.2.1,λk hk=>⟨ny hs hpt hk,qG hd hs hpt hk⟩,λfs=>wM hd hs h0 hp fs⟩
 obtain⟨k,hk,rfl⟩:=iI hc
 have:=hsr.2.2.2.2.1 k hk
 rw[getD_eq _ _ _ hk]at this
 exact⟨this.1,this.2.1⟩
theorem Br.none{ns:List DS1}{p:Int}(hp:jE ns.length p){m:Nat}(hm:m+1<=lvl dm ns p):Br dm ns p m [] [p] :=
 ⟨⟨List.Pairwise.nil,λc hc=>by cases hc⟩,rfl,λk hk=>by
  have:k=0:=by simp at hk;omega
  subst this;exact⟨hp,hm⟩,λfs=>rfl⟩
def vC(dm:List DS3)(na nb:List DS1)(ra rb p q:Int)(m:Nat):Prop:=∃pre,wP dm pre/\pre.length<=m/\∀fs,FOk dm fs->vlF na 9 p fs=vlF na 9 ra (pre++fs.drop pre.length)/\vlF nb 9 q fs=vlF nb 9 rb (pre++fs.drop pre.length)
theorem vC.step{na nb:List DS1}(hd:iJ dm)(hs:iU dm na)(hs':iU dm nb){ra rb p q:Int}{m:Nat}(hm:m<dm.length)(h:vC dm na nb ra rb p q m){aC aN bC bN:List Int}(ha:Br dm na p m aC aN)(hb:Br dm nb q m bC bN){v:Int}(h1:(dm.getD m zS).1<=v)(h2:v<=(dm.getD m zS).2.1):vC dm na nb ra rb (aN.getD (brK aC v) 0) (bN.getD (brK bC v) 0) (m+1):=by
 obtain⟨pre,p1,p2,p3⟩:=h
 have hlo:=FOk.low hd
 have hll:((dm.map λd=>d.1).take m).length=m:=by rw[bL,hlo.1];omega
 have hpl:(pre++((dm.map λd=>d.1).take m).drop pre.length++[v]).length=m+1:=by
  rw[aB,aB,bX,hll,aU];omega
 have hat:∀j,j<m->(pre++((dm.map λd=>d.1).take m).drop pre.length).getD j 0=if j<pre.length then pre.getD j 0 else(dm.map λd=>d.1).getD j 0:=λj hj=>by
  split
  .rename_i r;rw[jd _ _ _ r]
  .rename_i r
   rw[aM,aL (by omega),dV,bJ,ak (by omega),<- aM,show pre.length+(j-pre.length)=j by omega]
 have hml:(pre++((dm.map λd=>d.1).take m).drop pre.length).length=m:=by rw[aB,bX,hll];omega
 refine⟨pre++((dm.map λd=>d.1).take m).drop pre.length++[v],⟨by omega,λj hj=>?_⟩,by omega,λfs hf=>?_⟩
 .rw[hpl]at hj
  rcases aS j m with r|r
  .rw[jd _ _ _ (by omega),hat j r]
   split
   .rename_i z;exact p1.2 j z
   .exact hlo.2 j (by omega)
  .obtain rfl:j=m:=by omega
   have:(pre++((dm.map λd=>d.1).take j).drop pre.length++[v]).getD j 0=v:=by
    have:=om (pre++((dm.map λd=>d.1).take j).drop pre.length) v 0
    rwa [hml]at this
   rw[this];exact⟨h1,h2⟩
 ·have hf':FOk dm ((dm.map fun d=>d.1).take m ++ v :: fs.drop (m + 1)):=by
   refine⟨by rw[aB,hll,bF,bX,hf.1];omega,λj hj=>?_⟩
   rw[Lu,hll]
   split
   .rename_i r
    have:((dm.map λd=>d.1).take m).getD j 0=(dm.map λd=>d.1).getD j 0:=by
     rw[aM,bJ,ak r,<- aM]
    rw[this];exact hlo.2 j hj
   .split
    .rename_i r;subst r;exact⟨h1,h2⟩
    .rename_i r1 r2
     rw[Jz,show m+1+(j-m-1)=j by omega];exact hf.2 j hj
  have e1:((dm.map λd=>d.1).take m++v::fs.drop (m+1)).getD m 0=v:=by rw[Lu,hll,au (by omega),ak rfl]
  have e2:pre++((dm.map λd=>d.1).take m++v::fs.drop (m+1)).drop pre.length=pre++((dm.map λd=>d.1).take m).drop pre.length++[v]++fs.drop (m+1):=by
   rw[rC (by omega)]
   simp
  have ag:∀j,m+1<=j->((dm.map λd=>d.1).take m++v::fs.drop (m+1)).getD j 0=fs.getD j 0:=λj hj=>by
   rw[Lu,hll,au (by omega),au (by omega),Jz,show m+1+(j-m-1)=j by omega]
  have side:∀{ns:List DS1} {p:Int} {C N:List Int},iU dm ns->Br dm ns p m C N->vlF ns 9 (N.getD (brK C v) 0) fs=vlF ns 9 p ((dm.map λd=>d.1).take m++v::fs.drop (m+1)):=fun{ns p C N} hs hB=>by
   obtain⟨b1,b2,b3,b4⟩:=hB
   have hk:brK C v<N.length:=by have:=uT C v;omega
   obtain⟨c1,c2⟩:=b3 _ hk
   rw[b4,e1]
   exact(Pb hd hs 9 _ c1.2 λj hj=>ag j (by omega)).symm
  rw[hpl,side hs ha,side hs' hb,<- e2]
  exact p3 _ hf'
end
theorem a4Q{a b:DS3}:eqT tS3 a b=true↔a=b:=by
 obtain⟨x,y,⟨⟩⟩:=a
 obtain⟨z,w,⟨⟩⟩:=b
 show(iEq x z&&(iEq y w&&true))=true↔_
 rw[j3,ay,dF,dF]
 constructor
 .rintro⟨rfl,rfl⟩;rfl
 .intro h;injection h with h1 h2;injection h2 with h2 _;exact⟨h1,h2⟩
theorem TA{β:Type}(k k':DS3)(v:β):∀es:List (DS3×β×Unit),nH (eqT tS3) k (qx (eqT tS3) k' v es)=if k=k' then some v else nH (eqT tS3) k es:=by
 have dec:∀a b:DS3,eqT tS3 a b=decide (a=b):=λa b=>by
  rw[wU,a4Q,dI]
 intro es
 induction es with
 |nil =>
  simp only[qx,nH,dec]
  by_cases h:k=k'
  .subst h;simp
  .simp[h]
 |cons e es ih =>
  simp only[qx,dec]
  by_cases h:k'=e.1
  .subst h
   simp only[decide_true,AO,nH,dec]
   by_cases h2:k=e.1
   .simp[h2]
   .simp[h2]
  .simp only[h,decide_false,cond_false,nH,dec,ih]
   by_cases h2:k=e.1
   .have h3:k≠k':=λz=>h (z▸h2)
    simp[h2]
    intro z;exact absurd z (λz=>h z.symm)
   .simp[h2]
def nT(dm:List DS3)(na nb:List DS1)(op:Int)(ns:List DS1)(r p q:Int):Prop:=∀fs,FOk dm fs->vlF ns 9 r fs=opS op (vlF na 9 p fs) (vlF nb 9 q fs)
def Xy(ns:List DS1):Prop:=∀i,i<ns.length->∀c∈kids ns i,c<(i:Int)
def wN(dm:List DS3)(na nb:List DS1)(ra rb op:Int)(me:List DS6)(ns:List DS1):Prop :=
 pK dm (-256) ns/\(∀p q r,nH (eqT tS3) (p,q,()) me=some r->Rf ns (-256) (min (lvl dm na p) (lvl dm nb q)) r/\nT dm na nb op ns r p q)/\(∀j:Nat,j<ns.length->FR dm (opF op na nb ra rb) ns (j:Int))/\Xy ns
section
variable{dm:List DS3}{na nb:List DS1}{ra rb op:Int}
theorem nT.app{ns:List DS1}{r p q:Int}(h:nT dm na nb op ns r p q)(hs:iU dm ns)(hr:r<(ns.length:Int))(t:List DS1):nT dm na nb op (ns++t) r p q:=λfs hf=>by rw[Ea hs t fs 9 r hr];exact h fs hf
theorem wN.node (hd:iJ dm) (hA:iU dm na) (hB:iU dm nb) {me:List DS6} {ns:List DS1} (h:wN dm na nb ra rb op me ns) (hn:ns.length<=1000) {p q:Int} {m:Nat} (hm:m < dm.length) (hml:min (lvl dm na p) (lvl dm nb q)=m) (hP:vC dm na nb ra rb p q m) {aC aN bC bN cuts nx:List Int} (ha:Br dm na p m aC aN) (hb:Br dm nb q m bC bN)
  (hl:nx.length=cuts.length+1) (hnx:∀c∈nx,Rf ns (-256) (m+1) c) (hM:Mrg (dm.getD m zS).1 (dm.getD m zS).2.1 aC bC cuts aC.length bC.length (λk a b=>nT dm na nb op ns (nx.getD k 0) (aN.getD a 0) (bN.getD b 0))) (hL:nT dm na nb op ns (nx.getD cuts.length 0) (aN.getD aC.length 0) (bN.getD bC.length 0)) :
  ∃t,(qL ns (m:Int) cuts nx).2=ns++t/\wN dm na nb ra rb op (qx (eqT tS3) (p,q,()) (qL ns (m:Int) cuts nx).1 me) (ns++t)/\(ns++t).length<=1001/\Rf (ns++t) (-256) m (qL ns (m:Int) cuts nx).1/\nT dm na nb op (ns++t) (qL ns (m:Int) cuts nx).1 p q:=by
 obtain⟨hN,hme,hsb,htp⟩:=h
 obtain⟨t,s1,s2,s3,s4,s5,s6,s7,s8⟩:=Tg hd (by omega) hm hM.cut hl hnx hN (by omega)
 have Mh:nT dm na nb op (ns++t) (qL ns (m:Int) cuts nx).1 p q:=λfs hf=>by
  obtain⟨k1,k2⟩:=hM.last hL (fs.getD m 0)
  rw[s6 fs]
  have hmem:nx.getD (brK cuts (fs.getD m 0)) 0∈nx:=by rw[getD_eq _ _ _ (by omega)];exact aV _
  rw[Ea hN.1 t fs 9 _ (hnx _ hmem).2.1,k2 fs hf,<- ha.2.2.2 fs,<- hb.2.2.2 fs]
 obtain⟨pre,p1,p2,p3⟩:=hP
 have hsub:FR dm (opF op na nb ra rb) (ns++t) (qL ns (m:Int) cuts nx).1:=⟨pre,p1,λfs hf=>by
  rw[Mh fs hf,(p3 fs hf).1,(p3 fs hf).2];rfl⟩
 refine⟨t,s1,⟨s2,λp' q' r' he=>?_,λj hj=>?_,λj hj c hc=>?_⟩,by rw[aB];omega,s3,Mh⟩
 .have he2:=(TA (p',q',()) (p,q,()) (qL ns (m:Int) cuts nx).1 me).symm.trans he
  by_cases e:((p',q',()):DS3)=(p,q,())
  .rw[ak e]at he2
   injection e with e1 e2
   injection e2 with e2 _
   subst e1 e2
   rw[<- aI he2,hml]
   exact⟨s3,Mh⟩
  .rw[au e]at he2
   obtain⟨z1,z2⟩:=hme p' q' r' he2
   exact⟨z1.app t,z2.app hN.1 z1.2.1 t⟩
 .rcases aS j ns.length with r|r
  .exact(hsb j r).app hN.1 (by omega) t
  .rw[<- s7 j r hj];exact hsub
 .rcases aS j ns.length with r|r
  .rw[Mc _ _ r]at hc;exact htp j r c hc
  ·have hm:(ns ++ t).getD j zN ∈ t:=by
    rw[aM,aL r,ah (by rw[aB]at hj;omega)]
    exact aV _
   have:=s8 _ hm c hc
   omega
end
theorem a1n(x:DS3×(List DS1)×(List DS1)×Int×(List DS6)×(List DS1)×(List DS7)×Unit):Mo λs=>Ig s x.1 x.2.1 x.2.2.1 x.2.2.2.1 x.2.2.2.2.1 x.2.2.2.2.2.1 x.2.2.2.2.2.2.1:=by
 unfold Ig;(repeat' (first|exact Mo.const _|exact Mo.self _|apply Mo.bind|apply Mo.cond|apply Mo.map|apply Mo.join|apply Mo.loop|(intro _)))
theorem GY(l:List DS1){r:Int}(h:r<0):m85 l r=some ((6,[],[r],()),()):=T.eq (by unfold m85;exact T.ct (by rw[bD];exact h) (T.ret rfl))
theorem GV(l:List DS1){r:Int}(h:0<=r)(hr:r<(l.length:Int)):m85 l r=some (((l.getD r.toNat zN).1,(l.getD r.toNat zN).2.1,kids l r.toNat,()),()):=T.eq (by unfold m85;exact T.cf (by rw[bg];exact h) (T.grd (by rw[bE,aY];exact⟨h,hr⟩) (T.ret rfl)))
theorem EI{xs:List Int}{n:Nat}(h:xs.length=n+1):xs.headD 0::xs.tail=xs:=by
 cases xs with
 |nil=>cases h
 |cons x xs=>rfl
section
variable{dm:List DS3}{na nb:List DS1}{ra rb op:Int}
set_option maxHeartbeats 2000000 in
theorem a3g (hd:iJ dm) (hA:iU dm na) (hB:iU dm nb) (p q:Int) (me:List DS6) (ns:List DS1) (hp:jE na.length p) (hq:jE nb.length q) (hP:vC dm na nb ra rb p q (min (lvl dm na p) (lvl dm nb q))) (hS:wN dm na nb ra rb op me ns) (hn:ns.length<=1000) :
  T (m66 (p,q,()) na nb op me ns (ixS ns)) (λy=>∃r me' t,y=(r,na,nb,op,me',ns++t,ixS (ns++t),())/\wN dm na nb ra rb op me' (ns++t)/\(ns++t).length<=1001/\((ns++t).length<=1000->Rf (ns++t) (-256) (min (lvl dm na p) (lvl dm nb q)) r/\nT dm na nb op (ns++t) r p q)):=by
 unfold m66
 refine EB (ι:=Int×Int×List DS6×List DS1) a1n (λg=>((g.1,g.2.1,()),na,nb,op,g.2.2.1,g.2.2.2,ixS g.2.2.2,())) (λg=>jE na.length g.1/\jE nb.length g.2.1/\vC dm na nb ra rb g.1 g.2.1 (min (lvl dm na g.1) (lvl dm nb g.2.1))/\wN dm na nb ra rb op g.2.2.1 g.2.2.2/\g.2.2.2.length<=1000)
  (λg y=>∃r me' t,y=(r,na,nb,op,me',g.2.2.2++t,ixS (g.2.2.2++t),())/\wN dm na nb ra rb op me' (g.2.2.2++t)/\(g.2.2.2++t).length<=1001/\((g.2.2.2++t).length<=1000->Rf (g.2.2.2++t) (-256) (min (lvl dm na g.1) (lvl dm nb g.2.1)) r/\nT dm na nb op (g.2.2.2++t) r g.1 g.2.1)) (λg=>dm.length-min (lvl dm na g.1) (lvl dm nb g.2.1)) ?_ (p,q,me,ns) ⟨hp,hq,hP,hS,hn⟩
 clear hp hq hP hS hn
 rintro⟨p,q,me,ns⟩ ⟨hp,hq,hP,hS,hn⟩ s ih
 dsimp only at hp hq hP hS hn ih ⊢
 unfold Ig
 dsimp only
 obtain⟨hN,hme,hsb,htp⟩:=id hS
 have p1:=hp.1
 have p2:=hp.2
 have q1:=hq.1
 have q2:=hq.2
 refine T.cnd (λhc=>?_) (λhc=>?_)<;>simp only[dN,dQ,bD,bg]at hc
 ·have F6:∀ r:Int,-256<=r->r < 0->m72 r=some (-1 - r,()):=fun r h1 h2=>by
   show some (gP .i64 (-1) r,())=_
   rw[fE (by omega) (by omega)]
  have hbd:=SN (op:=op) (x:=-1-p) (y:=-1-q) (by omega) (by omega)
  refine T.dz (F6 p p1 hc.1) (T.dz (F6 q q1 hc.2) ?_)
  dsimp only
  refine T.dz (a3j _ _ _) ?_
  dsimp only
  refine T.dz (v:=(-1-opS op (-1-p) (-1-q),())) (by show some (gP .i64 (-1) _,())=_;rw[fE (by omega) (by omega)]) ?_
  dsimp only
  refine T.ret ⟨-1-opS op (-1-p) (-1-q),me,[],?_,by simpa using hS,by simp;omega,λ_=>⟨⟨by omega,by omega,λz=>by omega⟩,λfs hf=>by rw[jF _ _ (by omega),jF _ _ hc.1,jF _ _ hc.2];omega⟩⟩
  rw[bS]
 refine T.cnd (λhc1=>?_) (λhc1=>?_)
 ·obtain ⟨r,hr⟩:∃ r,nH (eqT tS3) (p,q,()) me=some r:=by
   unfold yK at hc1
   exact Option.isSome_iff_exists.1 hc1
  obtain⟨z1,z2⟩:=hme p q r hr
  have eG:pE (eqT tS3) (p,q,()) me 0=r:=by unfold pE;rw[hr];rfl
  have z1':Rf ns (-256) (min (lvl dm na p) (lvl dm nb q)) (pE (eqT tS3) (p,q,()) me 0):=by rw[eG];exact z1
  have z2':nT dm na nb op ns (pE (eqT tS3) (p,q,()) me 0) p q:=by rw[eG];exact z2
  exact T.ret ⟨_,me,[],by rw[bS],by simpa using hS,by simp;omega,λ_=>⟨by rw[bS];exact z1',by rw[bS];exact z2'⟩⟩
 have hmd:min (lvl dm na p) (lvl dm nb q)<dm.length:=by
  have side:∀{ns:List DS1} {r:Int},iU dm ns->0<=r->r<(ns.length:Int)->lvl dm ns r<dm.length:=fun{ns r} hs h0 hr=>by
   unfold lvl
   rw[au (by omega)]
   have:=(hs r.toNat (by omega)).1
   have:=(hs r.toNat (by omega)).2.1
   omega
  rcases hc with z|z
  .have:=side hA z p2;omega
  .have:=side hB z q2;omega
 generalize hmv:min (lvl dm na p) (lvl dm nb q)=m at *
 have hd2:=hd.2.1
 have hbr:∀{ns:List DS1} {r:Int},iU dm ns->jE ns.length r->∃A C N,m85 ns r=some ((A,C,N,()),())/\((r<0/\A=6/\lvl dm ns r=dm.length)\/(0<=r/\A=(lvl dm ns r:Int)/\lvl dm ns r<dm.length/\Br dm ns r (lvl dm ns r) C N)):=fun{ns r} hs hr=>by
  rcases fu r 0 with z|z
  .exact⟨_,_,_,GY ns z,.inl ⟨z,rfl,by unfold lvl;rw[ak z]⟩⟩
  .have hrt:r.toNat<ns.length:=by have:=hr.2;omega
   have h1:=(hs _ hrt).1
   have h2:=(hs _ hrt).2.1
   have e:lvl dm ns r=(ns.getD r.toNat zN).1.toNat:=by unfold lvl;rw[au (by omega)]
   have hB:=Br.node hd hs z hr.2
   rw[<- e]at hB
   exact⟨_,_,_,GV ns z hr.2,.inr ⟨z,by omega,by omega,hB⟩⟩
 obtain⟨A1,C1,N1,e1,h1⟩:=hbr hA hp
 obtain⟨A2,C2,N2,e2,h2⟩:=hbr hB hq
 refine T.dz e1 (T.dz e2 ?_)
 dsimp only
 refine T.join (λs=>∃(aA bA:Int) (aC aN bC bN:List Int),aA=(m:Int)/\Br dm na p m aC aN/\Br dm nb q m bC bN/\s=(na,nb,op,me,ns,ixS (ns),[(p,q,())],aA,aC,aN,bA,bC,bN,())) ?_ ?_
 .refine T.cnd (λhc2=>?_) (λhc2=>?_)<;>simp only[bD,bg]at hc2
  .rcases h1 with⟨z1,z2,z3⟩|⟨z1,z2,z3,z4⟩
   .exfalso
    rcases h2 with⟨y1,y2,y3⟩|⟨y1,y2,y3,y4⟩<;>omega
   ·have hm1:lvl dm na p=m:=by
     rcases h2 with⟨y1,y2,y3⟩|⟨y1,y2,y3,y4⟩<;>omega
    have hm2:m+1<=lvl dm nb q:=by
     rcases h2 with⟨y1,y2,y3⟩|⟨y1,y2,y3,y4⟩<;>omega
    rw[hm1]at z4
    exact T.jgo ⟨_,_,_,_,_,_,by omega,z4,Br.none hq hm2,rfl⟩
  refine T.cnd (λhc3=>?_) (λhc3=>?_)<;>simp only[bD,bg]at hc3
  .rcases h2 with⟨z1,z2,z3⟩|⟨z1,z2,z3,z4⟩
   .exfalso
    rcases h1 with⟨y1,y2,y3⟩|⟨y1,y2,y3,y4⟩<;>omega
   ·have hm1:lvl dm nb q=m:=by
     rcases h1 with⟨y1,y2,y3⟩|⟨y1,y2,y3,y4⟩<;>omega
    have hm2:m+1<=lvl dm na p:=by
     rcases h1 with⟨y1,y2,y3⟩|⟨y1,y2,y3,y4⟩<;>omega
    rw[hm1]at z4
    exact T.jgo ⟨_,_,_,_,_,_,by omega,Br.none hp hm2,z4,rfl⟩
  .rcases h1 with⟨z1,z2,z3⟩|⟨z1,z2,z3,z4⟩
   .exfalso
    rcases h2 with⟨y1,y2,y3⟩|⟨y1,y2,y3,y4⟩<;>omega
   .rcases h2 with⟨y1,y2,y3⟩|⟨y1,y2,y3,y4⟩
    .exfalso;omega
    .have hm1:lvl dm na p=m:=by omega
     have hm2:lvl dm nb q=m:=by omega
     rw[hm1]at z4
     rw[hm2]at y4
     exact T.jgo ⟨_,_,_,_,_,_,by omega,z4,y4,rfl⟩
 rintro _ ⟨aA,bA,aC,aN,bC,bN,rfl,ha,hb,rfl⟩
 clear h1 h2 e1 e2 hbr
 dsimp only
 have hdm:=hd.at hmd
 have hAl:=aY aC
 have hBl:=aY bC
 have WU:=aY aN
 have WT:=aY bN
 have hac:=ha.1.len hdm.2.1 hdm.2.2
 have hbc:=hb.1.len hdm.2.1 hdm.2.2
 have ha2:=ha.2.1
 have hb2:=hb.2.1
 refine T.loop (λs=>∃(i j:Nat) (me:List DS6) (t:List DS1) (cuts nx:List Int),wN dm na nb ra rb op me (ns++t)/\(ns++t).length<=1000/\nx.length=cuts.length/\(∀c∈nx,Rf (ns++t) (-256) (m+1) c)/\Mrg (dm.getD m zS).1 (dm.getD m zS).2.1 aC bC cuts i j (λk a b=>nT dm na nb op (ns++t) (nx.getD k 0) (aN.getD a 0) (bN.getD b 0))/\s=((i:Int),(j:Int),na,nb,op,me,ns++t,ixS (ns++t),[(p,q,())],(m:Int),aC,aN,bA,bC,bN,cuts,nx,())) (λs=>(aC.length-s.1.toNat)+(bC.length-s.2.1.toNat)) ⟨0,0,me,[],[],[],by rw[bS];exact hS,by rw[bS];exact hn,rfl,λc hc=>(by cases hc),Mrg.init hdm.1 ha.1 hb.1,by rw[bS];rfl⟩ ?_
 rintro _ ⟨i,j,me,t,cuts,nx,hS,hn,hnl,hnx,hM,rfl⟩
 dsimp only
 have hi:=hM.ij.1
 have hj:=hM.ij.2
 have hcl:=hM.cut.len hdm.2.1 hdm.2.2
 rw[hAl,hBl,WU,WT,dW,dW,dW,dW]
 obtain⟨v,v1,v2,v3,v4⟩:=hM.wit
 have hPP:=vC.step hd hA hB hmd hP ha hb v1 v2
 rw[v3,v4]at hPP
 obtain⟨c1,c2⟩:=ha.2.2.1 i (by omega)
 obtain⟨d1,d2⟩:=hb.2.2.1 j (by omega)
 have hll:=M5 hd hA c1.2
 have WS:vC dm na nb ra rb (aN.getD i 0) (bN.getD j 0) (min (lvl dm na (aN.getD i 0)) (lvl dm nb (bN.getD j 0))):=by
  obtain⟨pre,w1,w2,w3⟩:=hPP
  exact⟨pre,w1,by omega,w3⟩
 refine T.grd (by rw[bE];omega) (T.grd (by rw[bE];omega) (T.call (ih (aN.getD i 0,bN.getD j 0,me,ns++t) ⟨c1,d1,WS,hS,hn⟩ (by dsimp only;omega)) ?_))
 rintro _ ⟨r,me',t2,rfl,hS2,hl2,hr2⟩
 dsimp only at hS2 hl2 hr2 ⊢
 rw[bq]at hS2 hl2 hr2 ⊢
 have hNl:=aY (ns++(t++t2))
 refine T.grd (by rw[eO,aU];omega) (T.dz (show Az _ _ _ _ _ _=some _ from rfl) ?_)
 dsimp only
 rw[hNl]
 refine T.cnd (λhc3=>?_) (λhc3=>?_)<;>simp only[bD,bg]at hc3
 .refine T.dz (show m40 0=some _ from rfl) (T.out ⟨_,me',t++t2,rfl,hS2,hl2,λz=>by omega⟩)
 obtain⟨hrf,hrs⟩:=hr2 (by omega)
 have hrf:Rf (ns++(t++t2)) (-256) (m+1) r:=hrf.weak (by omega)
 have hnx2:∀c∈nx++[r],Rf (ns++(t++t2)) (-256) (m+1) c:=λc hc=>by
  rcases aX.1 hc with z|z
  .have:=(hnx c z).app t2
   rwa [bq]at this
  .obtain rfl:=bI.1 z;exact hrf
 have hX:∀k a b,k<cuts.length->nT dm na nb op (ns++t) (nx.getD k 0) (aN.getD a 0) (bN.getD b 0)->nT dm na nb op (ns++(t++t2)) ((nx++[r]).getD k 0) (aN.getD a 0) (bN.getD b 0):=λk a b hk h=>by
  rw[jd _ _ _ (by omega)]
  have hmem:nx.getD k 0∈nx:=by rw[getD_eq _ _ _ (by omega)];exact aV _
  have:=h.app hS.1.1 (hnx _ hmem).2.1 t2
  rwa [bq]at this
 have hX2:nT dm na nb op (ns++(t++t2)) ((nx++[r]).getD cuts.length 0) (aN.getD i 0) (bN.getD j 0):=by
  rw[<- hnl,om];exact hrs
 have zY:(nx++[r]).length=cuts.length+1:=by simp;omega
 refine T.cnd (λhc4=>?_) (λhc4=>?_)<;>simp only[dN,dQ,dF,dP]at hc4
 .obtain rfl:i=aC.length:=by omega
  obtain rfl:j=bC.length:=by omega
  have hM2:Mrg (dm.getD m zS).1 (dm.getD m zS).2.1 aC bC cuts aC.length bC.length (λk a b=>nT dm na nb op (ns++(t++t2)) ((nx++[r]).getD k 0) (aN.getD a 0) (bN.getD b 0)):=⟨hM.ij,hM.cut,hM.up,hM.wit,hM.hit,λw hw=>⟨(hM.sem w hw).1,hX _ _ _ (hM.sem w hw).1 (hM.sem w hw).2⟩⟩
  obtain⟨t3,s1,s2,s3,s4,s5⟩:=hS2.node hd hA hB (by omega) hmd hmv hP ha hb zY hnx2 hM2 hX2
  have zl:=Ti (lo:=-256) hd (by omega) (by omega) hmd (x:=(nx++[r]).headD 0) (cs:=cuts) (nx:=(nx++[r]).tail) (ns:=ns++(t++t2)) hM.cut (by rw[List.length_tail,zY];omega) (by rw[EI zY];exact hnx2) hS2.1 (by omega) (by omega) na nb op me'
  rw[EI zY]at zl
  refine T.pX (T.dz zl ?_)
  dsimp only
  refine T.grd (by rw[iM,iM];exact⟨jS _,jS _,rfl⟩) (T.grd (by rw[fM];simp) (T.ret ?_))
  rw[s1]at *
  rw[bq]at s2 s3 s4 s5 ⊢
  exact⟨_,_,t++t2++t3,rfl,s2,s3,λ_=>⟨s4,s5⟩⟩
 have ei:bZ .i64 (i:Int) 1=((i+1:Nat):Int):=by rw[bB (by omega) (by omega)];omega
 have ej:bZ .i64 (j:Int) 1=((j+1:Nat):Int):=by rw[bB (by omega) (by omega)];omega
 rw[ei,ej]
 have go:∀ (c:Int) (i' j':Nat),(i < aC.length->c<=aC.getD i 0)->(j < bC.length->c<=bC.getD j 0)->((i < aC.length/\aC.getD i 0=c)\/(j < bC.length/\bC.getD j 0=c))->(i'=if i < aC.length/\aC.getD i 0=c then i + 1 else i)->(j'=if j < bC.length/\bC.getD j 0=c then j + 1 else j) ->
   ∀Q,T (some (Sum.inl (β:=Int×(List DS1)×(List DS1)×Int×(List DS6)×(List DS1)×(List DS7)×Unit) ((i':Int),(j':Int),na,nb,op,me',ns++(t++t2),ixS (ns++(t++t2)),[(p,q,())],(m:Int),aC,aN,bA,bC,bN,cuts++[c],nx++[r],()))) (LQ (λs=>∃(i j:Nat) (me:List DS6) (t:List DS1) (cuts nx:List Int),wN dm na nb ra rb op me (ns++t)/\(ns++t).length<=1000/\nx.length=cuts.length/\(∀c∈nx,Rf (ns++t) (-256) (m+1) c)/\Mrg (dm.getD m zS).1 (dm.getD m zS).2.1 aC bC cuts i j (λk a b=>nT dm na nb op (ns++t) (nx.getD k 0) (aN.getD a 0) (bN.getD b 0))/\s=((i:Int),(j:Int),na,nb,op,me,ns++t,ixS (ns++t),[(p,q,())],(m:Int),aC,aN,bA,bC,bN,cuts,nx,())) (λs=>(aC.length-s.1.toNat)+(bC.length-s.2.1.toNat)) ((aC.length-(i:Int).toNat)+(bC.length-(j:Int).toNat)) Q):=λc i' j' h1 h2 h3 hI hJ Q=>by
  have hst:=hM.step ha.1 hb.1 h1 h2 h3 hI hJ (X':=λk a b=>nT dm na nb op (ns++(t++t2)) ((nx++[r]).getD k 0) (aN.getD a 0) (bN.getD b 0)) hX hX2
  have hij:=hst.ij
  refine T.go ⟨i',j',me',t++t2,cuts++[c],nx++[r],hS2,by omega,by rw[zY];simp,hnx2,hst,rfl⟩ ?_
  dsimp only
  rw[bH,bH,bH,bH]
  clear hst hX hX2
  split at hI<;>split at hJ<;>omega
 refine T.cnd (λhc5=>?_) (λhc5=>?_)<;>simp only[dF,dP]at hc5
 .refine T.grd (by rw[bE];omega) (T.grd (by rw[eO,aU];omega) (T.grd (by rw[fG,bE,dO,fC,bg];omega) ?_))
  refine T.cnd (λw1=>?_) (λw1=>?_)<;>simp only[dN,dQ,bD,bg,dF,dP,bG,eB,eP]at w1
  .refine T.grd (by rw[fG,bE,dO,fC,bg];omega) (T.cnd (λw2=>?_) (λw2=>?_))<;>simp only[dN,dQ,bD,bg,dF,dP,bG,eB,eP]at w2
   .exact go (aC.getD i 0) (i+1) (j+1) (λ_=>by omega) (λ_=>by omega) (by omega) (by split<;>omega) (by split<;>omega) _
   .exact go (aC.getD i 0) (i+1) (j) (λ_=>by omega) (λ_=>by omega) (by omega) (by split<;>omega) (by split<;>omega) _
  .refine T.grd (by rw[fG,bE,dO,fC,bg];omega) (T.cnd (λw2=>?_) (λw2=>?_))<;>simp only[dN,dQ,bD,bg,dF,dP,bG,eB,eP]at w2
   .exact go (aC.getD i 0) (i) (j+1) (λ_=>by omega) (λ_=>by omega) (by omega) (by split<;>omega) (by split<;>omega) _
   .exfalso;omega
 refine T.grd (by rw[fG,bE,dO,fC,bg];omega) (T.grd (by rw[fG,bE,dO,fC,bg];omega) (T.cnd (λhc6=>?_) (λhc6=>?_)))<;>simp only[dN,dQ,bD,bg,gD,gF]at hc6
 .refine T.grd (by rw[bE];omega) (T.grd (by rw[eO,aU];omega) (T.grd (by rw[fG,bE,dO,fC,bg];omega) ?_))
  refine T.cnd (λw1=>?_) (λw1=>?_)<;>simp only[dN,dQ,bD,bg,dF,dP,bG,eB,eP]at w1
  .refine T.grd (by rw[fG,bE,dO,fC,bg];omega) (T.cnd (λw2=>?_) (λw2=>?_))<;>simp only[dN,dQ,bD,bg,dF,dP,bG,eB,eP]at w2
   .exact go (aC.getD i 0) (i+1) (j+1) (λ_=>by omega) (λ_=>by omega) (by omega) (by split<;>omega) (by split<;>omega) _
   .exact go (aC.getD i 0) (i+1) (j) (λ_=>by omega) (λ_=>by omega) (by omega) (by split<;>omega) (by split<;>omega) _
  .refine T.grd (by rw[fG,bE,dO,fC,bg];omega) (T.cnd (λw2=>?_) (λw2=>?_))<;>simp only[dN,dQ,bD,bg,dF,dP,bG,eB,eP]at w2
   .exact go (aC.getD i 0) (i) (j+1) (λ_=>by omega) (λ_=>by omega) (by omega) (by split<;>omega) (by split<;>omega) _
   .exfalso;omega
 .refine T.grd (by rw[bE];omega) (T.grd (by rw[eO,aU];omega) (T.grd (by rw[fG,bE,dO,fC,bg];omega) ?_))
  refine T.cnd (λw1=>?_) (λw1=>?_)<;>simp only[dN,dQ,bD,bg,dF,dP,bG,eB,eP]at w1
  .refine T.grd (by rw[fG,bE,dO,fC,bg];omega) (T.cnd (λw2=>?_) (λw2=>?_))<;>simp only[dN,dQ,bD,bg,dF,dP,bG,eB,eP]at w2
   .exact go (bC.getD j 0) (i+1) (j+1) (λ_=>by omega) (λ_=>by omega) (by omega) (by split<;>omega) (by split<;>omega) _
   .exact go (bC.getD j 0) (i+1) (j) (λ_=>by omega) (λ_=>by omega) (by omega) (by split<;>omega) (by split<;>omega) _
  .refine T.grd (by rw[fG,bE,dO,fC,bg];omega) (T.cnd (λw2=>?_) (λw2=>?_))<;>simp only[dN,dQ,bD,bg,dF,dP,bG,eB,eP]at w2
   .exact go (bC.getD j 0) (i) (j+1) (λ_=>by omega) (λ_=>by omega) (by omega) (by split<;>omega) (by split<;>omega) _
   .exfalso;omega
set_option maxHeartbeats 2000000 in
theorem a3h (hd:iJ dm) (hA:iU dm na) (hB:iU dm nb) (p q:Int) (hp:jE na.length p) (hq:jE nb.length q) (hP:vC dm na nb ra rb p q (min (lvl dm na p) (lvl dm nb q))) (me:List DS6) (ns:List DS1) (h0:ns=[]) (hS:wN dm na nb ra rb op me ns) :
  T (Es (p,q,()) na nb op me (ixS ns)) (λy=>∃r me' t,y=(r,na,nb,op,me',ixS (ns++t),ns++t,())/\wN dm na nb ra rb op me' (ns++t)/\(ns++t).length<=1001/\((ns++t).length<=1000->Rf (ns++t) (-256) (min (lvl dm na p) (lvl dm nb q)) r/\nT dm na nb op (ns++t) r p q)):=by
 have hn:ns.length<=1000:=by rw[h0];simp
 unfold Es
 dsimp only
 obtain⟨hN,hme,hsb,htp⟩:=id hS
 have p1:=hp.1
 have p2:=hp.2
 have q1:=hq.1
 have q2:=hq.2
 refine T.cnd (λhc=>?_) (λhc=>?_)<;>simp only[dN,dQ,bD,bg]at hc
 ·have F6:∀ r:Int,-256<=r->r < 0->m72 r=some (-1 - r,()):=fun r h1 h2=>by
   show some (gP .i64 (-1) r,())=_
   rw[fE (by omega) (by omega)]
  have hbd:=SN (op:=op) (x:=-1-p) (y:=-1-q) (by omega) (by omega)
  refine T.dz (F6 p p1 hc.1) (T.dz (F6 q q1 hc.2) ?_)
  dsimp only
  refine T.dz (a3j _ _ _) ?_
  dsimp only
  refine T.dz (v:=(-1-opS op (-1-p) (-1-q),())) (by show some (gP .i64 (-1) _,())=_;rw[fE (by omega) (by omega)]) ?_
  dsimp only
  refine T.ret ⟨-1-opS op (-1-p) (-1-q),me,[],?_,by simpa using hS,by simp;omega,λ_=>⟨⟨by omega,by omega,λz=>by omega⟩,λfs hf=>by rw[jF _ _ (by omega),jF _ _ hc.1,jF _ _ hc.2];omega⟩⟩
  rw[bS,h0]
 refine T.cnd (λhc1=>?_) (λhc1=>?_)
 ·obtain ⟨r,hr⟩:∃ r,nH (eqT tS3) (p,q,()) me=some r:=by
   unfold yK at hc1
   exact Option.isSome_iff_exists.1 hc1
  obtain⟨z1,z2⟩:=hme p q r hr
  have eG:pE (eqT tS3) (p,q,()) me 0=r:=by unfold pE;rw[hr];rfl
  have z1':Rf ns (-256) (min (lvl dm na p) (lvl dm nb q)) (pE (eqT tS3) (p,q,()) me 0):=by rw[eG];exact z1
  have z2':nT dm na nb op ns (pE (eqT tS3) (p,q,()) me 0) p q:=by rw[eG];exact z2
  exact T.ret ⟨_,me,[],by rw[bS,h0],by simpa using hS,by simp;omega,λ_=>⟨by rw[bS];exact z1',by rw[bS];exact z2'⟩⟩
 have hmd:min (lvl dm na p) (lvl dm nb q)<dm.length:=by
  have side:∀{ns:List DS1} {r:Int},iU dm ns->0<=r->r<(ns.length:Int)->lvl dm ns r<dm.length:=fun{ns r} hs h0 hr=>by
   unfold lvl
   rw[au (by omega)]
   have:=(hs r.toNat (by omega)).1
   have:=(hs r.toNat (by omega)).2.1
   omega
  rcases hc with z|z
  .have:=side hA z p2;omega
  .have:=side hB z q2;omega
 generalize hmv:min (lvl dm na p) (lvl dm nb q)=m at *
 have hd2:=hd.2.1
 have hbr:∀{ns:List DS1} {r:Int},iU dm ns->jE ns.length r->∃A C N,m85 ns r=some ((A,C,N,()),())/\((r<0/\A=6/\lvl dm ns r=dm.length)\/(0<=r/\A=(lvl dm ns r:Int)/\lvl dm ns r<dm.length/\Br dm ns r (lvl dm ns r) C N)):=fun{ns r} hs hr=>by
  rcases fu r 0 with z|z
  .exact⟨_,_,_,GY ns z,.inl ⟨z,rfl,by unfold lvl;rw[ak z]⟩⟩
  .have hrt:r.toNat<ns.length:=by have:=hr.2;omega
   have h1:=(hs _ hrt).1
   have h2:=(hs _ hrt).2.1
   have e:lvl dm ns r=(ns.getD r.toNat zN).1.toNat:=by unfold lvl;rw[au (by omega)]
   have hB:=Br.node hd hs z hr.2
   rw[<- e]at hB
   exact⟨_,_,_,GV ns z hr.2,.inr ⟨z,by omega,by omega,hB⟩⟩
 obtain⟨A1,C1,N1,e1,h1⟩:=hbr hA hp
 obtain⟨A2,C2,N2,e2,h2⟩:=hbr hB hq
 refine T.dz e1 (T.dz e2 ?_)
 dsimp only
 refine T.join (λs=>∃(aA bA:Int) (aC aN bC bN:List Int),aA=(m:Int)/\Br dm na p m aC aN/\Br dm nb q m bC bN/\s=(na,nb,op,me,ixS (ns),[(p,q,())],aA,aC,aN,bA,bC,bN,())) ?_ ?_
 .refine T.cnd (λhc2=>?_) (λhc2=>?_)<;>simp only[bD,bg]at hc2
  .rcases h1 with⟨z1,z2,z3⟩|⟨z1,z2,z3,z4⟩
   .exfalso
    rcases h2 with⟨y1,y2,y3⟩|⟨y1,y2,y3,y4⟩<;>omega
   ·have hm1:lvl dm na p=m:=by
     rcases h2 with⟨y1,y2,y3⟩|⟨y1,y2,y3,y4⟩<;>omega
    have hm2:m+1<=lvl dm nb q:=by
     rcases h2 with⟨y1,y2,y3⟩|⟨y1,y2,y3,y4⟩<;>omega
    rw[hm1]at z4
    exact T.jgo ⟨_,_,_,_,_,_,by omega,z4,Br.none hq hm2,rfl⟩
  refine T.cnd (λhc3=>?_) (λhc3=>?_)<;>simp only[bD,bg]at hc3
  .rcases h2 with⟨z1,z2,z3⟩|⟨z1,z2,z3,z4⟩
   .exfalso
    rcases h1 with⟨y1,y2,y3⟩|⟨y1,y2,y3,y4⟩<;>omega
   ·have hm1:lvl dm nb q=m:=by
     rcases h1 with⟨y1,y2,y3⟩|⟨y1,y2,y3,y4⟩<;>omega
    have hm2:m+1<=lvl dm na p:=by
     rcases h1 with⟨y1,y2,y3⟩|⟨y1,y2,y3,y4⟩<;>omega
    rw[hm1]at z4
    exact T.jgo ⟨_,_,_,_,_,_,by omega,Br.none hp hm2,z4,rfl⟩
  .rcases h1 with⟨z1,z2,z3⟩|⟨z1,z2,z3,z4⟩
   .exfalso
    rcases h2 with⟨y1,y2,y3⟩|⟨y1,y2,y3,y4⟩<;>omega
   .rcases h2 with⟨y1,y2,y3⟩|⟨y1,y2,y3,y4⟩
    .exfalso;omega
    .have hm1:lvl dm na p=m:=by omega
     have hm2:lvl dm nb q=m:=by omega
     rw[hm1]at z4
     rw[hm2]at y4
     exact T.jgo ⟨_,_,_,_,_,_,by omega,z4,y4,rfl⟩
 rintro _ ⟨aA,bA,aC,aN,bC,bN,rfl,ha,hb,rfl⟩
 clear h1 h2 e1 e2 hbr
 dsimp only
 have hdm:=hd.at hmd
 have hAl:=aY aC
 have hBl:=aY bC
 have WU:=aY aN
 have WT:=aY bN
 have hac:=ha.1.len hdm.2.1 hdm.2.2
 have hbc:=hb.1.len hdm.2.1 hdm.2.2
 have ha2:=ha.2.1
 have hb2:=hb.2.1
 refine T.loop (λs=>∃(i j:Nat) (me:List DS6) (t:List DS1) (cuts nx:List Int),wN dm na nb ra rb op me (ns++t)/\(ns++t).length<=1000/\nx.length=cuts.length/\(∀c∈nx,Rf (ns++t) (-256) (m+1) c)/\Mrg (dm.getD m zS).1 (dm.getD m zS).2.1 aC bC cuts i j (λk a b=>nT dm na nb op (ns++t) (nx.getD k 0) (aN.getD a 0) (bN.getD b 0))/\s=((i:Int),(j:Int),na,nb,op,me,ixS (ns++t),[(p,q,())],(m:Int),aC,aN,bA,bC,bN,cuts,nx,ns++t,())) (λs=>(aC.length-s.1.toNat)+(bC.length-s.2.1.toNat)) ⟨0,0,me,[],[],[],by rw[bS];exact hS,by rw[bS];exact hn,rfl,λc hc=>(by cases hc),Mrg.init hdm.1 ha.1 hb.1,by rw[bS,h0];rfl⟩ ?_
 rintro _ ⟨i,j,me,t,cuts,nx,hS,hn,hnl,hnx,hM,rfl⟩
 dsimp only
 have hi:=hM.ij.1
 have hj:=hM.ij.2
 have hcl:=hM.cut.len hdm.2.1 hdm.2.2
 rw[hAl,hBl,WU,WT,dW,dW,dW,dW]
 obtain⟨v,v1,v2,v3,v4⟩:=hM.wit
 have hPP:=vC.step hd hA hB hmd hP ha hb v1 v2
 rw[v3,v4]at hPP
 obtain⟨c1,c2⟩:=ha.2.2.1 i (by omega)
 obtain⟨d1,d2⟩:=hb.2.2.1 j (by omega)
 have hll:=M5 hd hA c1.2
 have WS:vC dm na nb ra rb (aN.getD i 0) (bN.getD j 0) (min (lvl dm na (aN.getD i 0)) (lvl dm nb (bN.getD j 0))):=by
  obtain⟨pre,w1,w2,w3⟩:=hPP
  exact⟨pre,w1,by omega,w3⟩
 refine T.grd (by rw[bE];omega) (T.grd (by rw[bE];omega) (T.call (a3g hd hA hB (aN.getD i 0) (bN.getD j 0) me (ns++t) c1 d1 WS hS hn) ?_))
 rintro _ ⟨r,me',t2,rfl,hS2,hl2,hr2⟩
 dsimp only
 rw[bq]at hS2 hl2 hr2 ⊢
 have hNl:=aY (ns++(t++t2))
 refine T.grd (by rw[eO,aU];omega) (T.dz (show Az _ _ _ _ _ _=some _ from rfl) ?_)
 dsimp only
 rw[hNl]
 refine T.cnd (λhc3=>?_) (λhc3=>?_)<;>simp only[bD,bg]at hc3
 .refine T.dz (show m40 0=some _ from rfl) (T.out ⟨_,me',t++t2,rfl,hS2,hl2,λz=>by omega⟩)
 obtain⟨hrf,hrs⟩:=hr2 (by omega)
 have hrf:Rf (ns++(t++t2)) (-256) (m+1) r:=hrf.weak (by omega)
 have hnx2:∀c∈nx++[r],Rf (ns++(t++t2)) (-256) (m+1) c:=λc hc=>by
  rcases aX.1 hc with z|z
  .have:=(hnx c z).app t2
   rwa [bq]at this
  .obtain rfl:=bI.1 z;exact hrf
 have hX:∀k a b,k<cuts.length->nT dm na nb op (ns++t) (nx.getD k 0) (aN.getD a 0) (bN.getD b 0)->nT dm na nb op (ns++(t++t2)) ((nx++[r]).getD k 0) (aN.getD a 0) (bN.getD b 0):=λk a b hk h=>by
  rw[jd _ _ _ (by omega)]
  have hmem:nx.getD k 0∈nx:=by rw[getD_eq _ _ _ (by omega)];exact aV _
  have:=h.app hS.1.1 (hnx _ hmem).2.1 t2
  rwa [bq]at this
 have hX2:nT dm na nb op (ns++(t++t2)) ((nx++[r]).getD cuts.length 0) (aN.getD i 0) (bN.getD j 0):=by
  rw[<- hnl,om];exact hrs
 have zY:(nx++[r]).length=cuts.length+1:=by simp;omega
 refine T.cnd (λhc4=>?_) (λhc4=>?_)<;>simp only[dN,dQ,dF,dP]at hc4
 .obtain rfl:i=aC.length:=by omega
  obtain rfl:j=bC.length:=by omega
  have hM2:Mrg (dm.getD m zS).1 (dm.getD m zS).2.1 aC bC cuts aC.length bC.length (λk a b=>nT dm na nb op (ns++(t++t2)) ((nx++[r]).getD k 0) (aN.getD a 0) (bN.getD b 0)):=⟨hM.ij,hM.cut,hM.up,hM.wit,hM.hit,λw hw=>⟨(hM.sem w hw).1,hX _ _ _ (hM.sem w hw).1 (hM.sem w hw).2⟩⟩
  obtain⟨t3,s1,s2,s3,s4,s5⟩:=hS2.node hd hA hB (by omega) hmd hmv hP ha hb zY hnx2 hM2 hX2
  have zl:=Ti (lo:=-256) hd (by omega) (by omega) hmd (x:=(nx++[r]).headD 0) (cs:=cuts) (nx:=(nx++[r]).tail) (ns:=ns++(t++t2)) hM.cut (by rw[List.length_tail,zY];omega) (by rw[EI zY];exact hnx2) hS2.1 (by omega) (by omega) na nb op me'
  rw[EI zY]at zl
  refine T.pX (T.dz zl ?_)
  dsimp only
  refine T.grd (by rw[iM,iM];exact⟨jS _,jS _,rfl⟩) (T.grd (by rw[fM];simp) (T.ret ?_))
  rw[s1]at *
  rw[bq]at s2 s3 s4 s5 ⊢
  exact⟨_,_,t++t2++t3,rfl,s2,s3,λ_=>⟨s4,s5⟩⟩
 have ei:bZ .i64 (i:Int) 1=((i+1:Nat):Int):=by rw[bB (by omega) (by omega)];omega
 have ej:bZ .i64 (j:Int) 1=((j+1:Nat):Int):=by rw[bB (by omega) (by omega)];omega
 rw[ei,ej]
 have go:∀ (c:Int) (i' j':Nat),(i < aC.length->c<=aC.getD i 0)->(j < bC.length->c<=bC.getD j 0)->((i < aC.length/\aC.getD i 0=c)\/(j < bC.length/\bC.getD j 0=c))->(i'=if i < aC.length/\aC.getD i 0=c then i + 1 else i)->(j'=if j < bC.length/\bC.getD j 0=c then j + 1 else j) ->
   ∀Q,T (some (Sum.inl (β:=Int×(List DS1)×(List DS1)×Int×(List DS6)×(List DS7)×(List DS1)×Unit) ((i':Int),(j':Int),na,nb,op,me',ixS (ns++(t++t2)),[(p,q,())],(m:Int),aC,aN,bA,bC,bN,cuts++[c],nx++[r],ns++(t++t2),()))) (LQ (λs=>∃(i j:Nat) (me:List DS6) (t:List DS1) (cuts nx:List Int),wN dm na nb ra rb op me (ns++t)/\(ns++t).length<=1000/\nx.length=cuts.length/\(∀c∈nx,Rf (ns++t) (-256) (m+1) c)/\Mrg (dm.getD m zS).1 (dm.getD m zS).2.1 aC bC cuts i j (λk a b=>nT dm na nb op (ns++t) (nx.getD k 0) (aN.getD a 0) (bN.getD b 0))/\s=((i:Int),(j:Int),na,nb,op,me,ixS (ns++t),[(p,q,())],(m:Int),aC,aN,bA,bC,bN,cuts,nx,ns++t,())) (λs=>(aC.length-s.1.toNat)+(bC.length-s.2.1.toNat)) ((aC.length-(i:Int).toNat)+(bC.length-(j:Int).toNat)) Q):=λc i' j' h1 h2 h3 hI hJ Q=>by
  have hst:=hM.step ha.1 hb.1 h1 h2 h3 hI hJ (X':=λk a b=>nT dm na nb op (ns++(t++t2)) ((nx++[r]).getD k 0) (aN.getD a 0) (bN.getD b 0)) hX hX2
  have hij:=hst.ij
  refine T.go ⟨i',j',me',t++t2,cuts++[c],nx++[r],hS2,by omega,by rw[zY];simp,hnx2,hst,rfl⟩ ?_
  dsimp only
  rw[bH,bH,bH,bH]
  clear hst hX hX2
  split at hI<;>split at hJ<;>omega
 refine T.cnd (λhc5=>?_) (λhc5=>?_)<;>simp only[dF,dP]at hc5
 .refine T.grd (by rw[bE];omega) (T.grd (by rw[eO,aU];omega) (T.grd (by rw[fG,bE,dO,fC,bg];omega) ?_))
  refine T.cnd (λw1=>?_) (λw1=>?_)<;>simp only[dN,dQ,bD,bg,dF,dP,bG,eB,eP]at w1
  .refine T.grd (by rw[fG,bE,dO,fC,bg];omega) (T.cnd (λw2=>?_) (λw2=>?_))<;>simp only[dN,dQ,bD,bg,dF,dP,bG,eB,eP]at w2
   .exact go (aC.getD i 0) (i+1) (j+1) (λ_=>by omega) (λ_=>by omega) (by omega) (by split<;>omega) (by split<;>omega) _
   .exact go (aC.getD i 0) (i+1) (j) (λ_=>by omega) (λ_=>by omega) (by omega) (by split<;>omega) (by split<;>omega) _
  .refine T.grd (by rw[fG,bE,dO,fC,bg];omega) (T.cnd (λw2=>?_) (λw2=>?_))<;>simp only[dN,dQ,bD,bg,dF,dP,bG,eB,eP]at w2
   .exact go (aC.getD i 0) (i) (j+1) (λ_=>by omega) (λ_=>by omega) (by omega) (by split<;>omega) (by split<;>omega) _
   .exfalso;omega
 refine T.grd (by rw[fG,bE,dO,fC,bg];omega) (T.grd (by rw[fG,bE,dO,fC,bg];omega) (T.cnd (λhc6=>?_) (λhc6=>?_)))<;>simp only[dN,dQ,bD,bg,gD,gF]at hc6
 .refine T.grd (by rw[bE];omega) (T.grd (by rw[eO,aU];omega) (T.grd (by rw[fG,bE,dO,fC,bg];omega) ?_))
  refine T.cnd (λw1=>?_) (λw1=>?_)<;>simp only[dN,dQ,bD,bg,dF,dP,bG,eB,eP]at w1
  .refine T.grd (by rw[fG,bE,dO,fC,bg];omega) (T.cnd (λw2=>?_) (λw2=>?_))<;>simp only[dN,dQ,bD,bg,dF,dP,bG,eB,eP]at w2
   .exact go (aC.getD i 0) (i+1) (j+1) (λ_=>by omega) (λ_=>by omega) (by omega) (by split<;>omega) (by split<;>omega) _
   .exact go (aC.getD i 0) (i+1) (j) (λ_=>by omega) (λ_=>by omega) (by omega) (by split<;>omega) (by split<;>omega) _
  .refine T.grd (by rw[fG,bE,dO,fC,bg];omega) (T.cnd (λw2=>?_) (λw2=>?_))<;>simp only[dN,dQ,bD,bg,dF,dP,bG,eB,eP]at w2
   .exact go (aC.getD i 0) (i) (j+1) (λ_=>by omega) (λ_=>by omega) (by omega) (by split<;>omega) (by split<;>omega) _
   .exfalso;omega
 .refine T.grd (by rw[bE];omega) (T.grd (by rw[eO,aU];omega) (T.grd (by rw[fG,bE,dO,fC,bg];omega) ?_))
  refine T.cnd (λw1=>?_) (λw1=>?_)<;>simp only[dN,dQ,bD,bg,dF,dP,bG,eB,eP]at w1
  .refine T.grd (by rw[fG,bE,dO,fC,bg];omega) (T.cnd (λw2=>?_) (λw2=>?_))<;>simp only[dN,dQ,bD,bg,dF,dP,bG,eB,eP]at w2
   .exact go (bC.getD j 0) (i+1) (j+1) (λ_=>by omega) (λ_=>by omega) (by omega) (by split<;>omega) (by split<;>omega) _
   .exact go (bC.getD j 0) (i+1) (j) (λ_=>by omega) (λ_=>by omega) (by omega) (by split<;>omega) (by split<;>omega) _
  .refine T.grd (by rw[fG,bE,dO,fC,bg];omega) (T.cnd (λw2=>?_) (λw2=>?_))<;>simp only[dN,dQ,bD,bg,dF,dP,bG,eB,eP]at w2
   .exact go (bC.getD j 0) (i) (j+1) (λ_=>by omega) (λ_=>by omega) (by omega) (by split<;>omega) (by split<;>omega) _
   .exfalso;omega
end
theorem W9{dm:List DS3}{ns:List DS1}(hd:iJ dm)(hs:iU dm ns)(ht:Xy ns){r:Int}(hr:r<(ns.length:Int)):dL ns ns.length [] r=dL ns 8 [] r:=by
 obtain⟨hR8,_⟩:=nM hd hs
 have hRi:rT ns id:=λi hi=>⟨(hR8 i hi).1,λc hc=>⟨((hR8 i hi).2 c hc).1,λh0=>by
  have:=ht i hi c hc
  show c.toNat<i
  omega⟩⟩
 have h1:=Bl hRi ns.length ns.length (ns.length+8) r [] (by unfold rkI;split;omega;show r.toNat+1<=_;omega) (by omega) (by omega) hr
 have h2:=Bl hR8 8 8 (ns.length+8) r [] (Cn hd hs hr) (by omega) (by omega) hr
 rw[h1,h2]
theorem a4U{dm:List DS3}{ns:List DS1}(hd:iJ dm)(hN:pK dm (-256) ns)(ht:Xy ns)(hn:ns.length<=1000){r:Int}(hr:Rf ns (-256) 0 r):a0b ns r:=by
 have h1:=hr.1
 refine⟨by omega,by omega,hr.2.1,λi hi c hc=>⟨?_,ht i hi c hc⟩,λx hx=>?_⟩
 .have:=hN.2.2 (ns.getD i zN) (by rw[getD_eq _ _ _ hi];exact aV hi) c hc
  omega
 .obtain⟨i,hi,rfl⟩:=iI hx
  have hs:=hN.1 i hi
  have hl:=hs.len hd
  rw[getD_eq _ _ _ hi]at hs hl
  have h3:=hs.2.2.1
  have h4:=hs.2.2.2.1
  exact⟨⟨λe=>(by rw[e]at h3;cases h3),by omega⟩,λe=>(by rw[e]at h4;simp at h4),by omega⟩
theorem a4Z (l:List DS0) (hv:jM l=0) (na nb:List DS1) (ra rb op:Int) (hzA:SzN na) (hzB:SzN nb) :
  T (m33 (l,()) (na,ra,()) (nb,rb,()) op) (λy=>(¬(VD (doms l) na ra/\VD (doms l) nb rb)->y=(([],0,()),21,()))/\(VD (doms l) na ra->VD (doms l) nb rb->(¬(1<=op/\op<=4)->y=(([],0,()),11,()))/\
   (1<=op/\op<=4->∃ts,Red (doms l) ts/\(∀j:Nat,j<ts.length->FR (doms l) (opF op na nb ra rb) ts (j:Int))/\((1000<ts.length/\y=(([],0,()),4,()))\/(ts.length<=1000/\∃rt,pK (doms l) (-256) ts/\Rf ts (-256) 0 rt/\(∀fs,FOk (doms l) fs->vlF ts 9 rt fs=opF op na nb ra rb fs)/\y=((o8 ts (dL ts 8 [] rt),eF (dL ts 8 [] rt) rt,()),0,())))))):=by
 have hd:=rR hv
 unfold m33
 refine T.dz (Eb _) ?_
 dsimp only
 rw[hv]
 refine T.cf (by rfl) (T.call (DN l na ra hzA) ?_)
 rintro⟨b1,⟨⟩⟩ h1
 dsimp only at h1 ⊢
 refine T.cnd (λhc=>?_) (λhc=>?_)
 .rw[dO]at hc
  have hn:¬VD (doms l) na ra:=λz=>by rw[h1.2 ⟨hv,z⟩]at hc;cases hc
  exact T.ret ⟨λ_=>rfl,λz=>absurd z hn⟩
 rw[gW]at hc
 have hA:=(h1.1 hc).2
 refine T.call (DN l nb rb hzB) ?_
 rintro⟨b2,⟨⟩⟩ h2
 dsimp only at h2 ⊢
 refine T.cnd (λhc=>?_) (λhc=>?_)
 .rw[dO]at hc
  have hn:¬VD (doms l) nb rb:=λz=>by rw[h2.2 ⟨hv,z⟩]at hc;cases hc
  exact T.ret ⟨λ_=>rfl,λ_ z=>absurd z hn⟩
 rw[gW]at hc
 have hB:=(h2.1 hc).2
 refine T.cnd (λhc=>?_) (λhc=>?_)<;>simp only[eX,fq,bD,bg]at hc
 .exact T.ret ⟨λz=>absurd ⟨hA,hB⟩ z,λ_ _=>⟨λ_=>rfl,λz=>by omega⟩⟩
 have hS0:wN (doms l) na nb ra rb op [] []:=⟨pK.nil _ _,λp q r h=>(by cases h),λj hj=>(by cases hj),λi hi=>(by cases hi)⟩
 have hP0:vC (doms l) na nb ra rb ra rb (min (lvl (doms l) na ra) (lvl (doms l) nb rb)):=⟨[],wP.nil _,pR _,λfs hf=>⟨by simp,by simp⟩⟩
 refine T.call (show T (Es (ra,rb,()) na nb op [] []) _ from a3h hd hA.FN hB.FN ra rb hA.2.1 hB.2.1 hP0 [] [] rfl hS0) ?_
 rintro _ ⟨r,me',t,rfl,hS,hl,hr⟩
 simp only[fP]at hS hl hr ⊢
 refine T.dz (show Az _ _ _ _ _ _=some _ from rfl) ?_
 dsimp only
 have hT:=aY t
 rw[hT]
 have a4o:Red (doms l) t:=⟨hS.1.1,hS.1.2.1⟩
 refine T.cnd (λhc2=>?_) (λhc2=>?_)<;>simp only[bD,bg]at hc2
 .exact T.ret ⟨λz=>absurd ⟨hA,hB⟩ z,λ_ _=>⟨λz=>by omega,λ_=>⟨t,a4o,hS.2.2.1,.inl ⟨by omega,rfl⟩⟩⟩⟩
 obtain⟨hr1,hr2⟩:=hr (by omega)
 have hr0:Rf t (-256) 0 r:=hr1.weak (pR _)
 have hDO:=a4U hd hS.1 hS.2.2.2 (by omega) hr0
 refine T.dz (v:=((o8 t (dL t t.length [] r),eF (dL t t.length [] r) r,()),na,nb,op,me',t,ixS t,())) (by unfold LW;rw[ak hDO]) (T.ret ?_)
 dsimp only
 rw[W9 hd hS.1.1 hS.2.2.2 hr0.2.1]
 exact⟨λz=>absurd ⟨hA,hB⟩ z,λ_ _=>⟨λz=>by omega,λ_=>⟨t,a4o,hS.2.2.1,.inr ⟨by omega,r,hS.1,hr0,hr2,rfl⟩⟩⟩⟩
theorem a0r:SzN ([]:List DS1):=⟨by simp,λx hx=>(by cases hx)⟩
theorem a5N{dm:List DS3}{ns:List DS1}(hd:iJ dm)(hs:iU dm ns){root:Int}(hr:root<(ns.length:Int))(fs:List Int):vlF (o8 ns (dL ns 8 [] root)) 9 (eF (dL ns 8 [] root) root) fs=vlF ns 9 root fs:=by
 obtain⟨hR,_⟩:=nM hd hs
 have h0:ko ns.length []:=⟨lu,λx hx=>by cases hx⟩
 have h8:=Cn hd hs hr
 obtain⟨hc,hl⟩:=Bn hR 8 8 root [] h8 (bM _) hr h0
 exact a0S hs (rP hR 8 root [] hr h0).1.2 (λr q=>hl r q (λz=>by cases z)) hd fs 9 root (by omega) hc
def a8C(dm:List DS3)(F:List Int->Int)(y:DS2×Int×Unit):Prop :=
 (y=(([],0,()),4,())/\∀ns r,Red dm ns->jE ns.length r->(∀fs,FOk dm fs->vlF ns 9 r fs=F fs)->1000<ns.length)\/∃ns r,y=((ns,r,()),0,())/\VD dm ns r/\∀fs,FOk dm fs->vlF ns 9 r fs=F fs
theorem a4Y(l:List DS0)(hv:jM l=0){na nb:List DS1}{ra rb op:Int}(hA:VD (doms l) na ra)(hB:VD (doms l) nb rb)(hop:1<=op/\op<=4):T (m33 (l,()) (na,ra,()) (nb,rb,()) op) (a8C (doms l) (opF op na nb ra rb)):=by
 have hd:=rR hv
 refine(a4Z l hv na nb ra rb op (hA.sz hd).2 (hB.sz hd).2).mono λy hy=>?_
 obtain⟨ts,t1,t2,t3⟩:=(hy.2 hA hB).2 hop
 rcases t3 with⟨c1,rfl⟩|⟨c1,r,c2,c3,c4,rfl⟩
 .refine .inl ⟨rfl,λns r hN hr hv=>?_⟩
  have:=size_le hd t1 hN hr hv t2
  omega
 .exact .inr ⟨_,_,rfl,(SA hd c2 (by omega) (by omega) c3.2.1 c3.1 c1).1,λfs hf=>by rw[a5N hd c2.1 c3.2.1];exact c4 fs hf⟩
theorem a0o(s:DS5)(f:List Int)(hf:f.length<=9223372036854775807):m69 s f=some (qJ s.1 f,()):=by
 obtain⟨l,⟨⟩⟩:=s
 refine T.eq ?_
 unfold m69 qJ
 have hL:=aY l
 have hLf:=aY f
 refine T.dz (Eb _) ?_
 dsimp only
 refine T.cnd (λhc=>T.ret ?_) (λhc=>?_)<;>simp only[eX,fq,gJ,gX]at hc
 .congr 1;symm
  rcases hc with q|q
  .rw[iK q];rfl
  .rw[iK (show ¬f.length=l.length by omega),Bool.and_false];rfl
 have h0:jM l=0:=hc.1
 have hfl:f.length=l.length:=by omega
 obtain⟨v1,v2,v3⟩:=val_ok h0
 rw[fH h0,fH hfl,j3,sN]
 refine T.loop (λq=>∃i:Nat,i<=l.length/\(List.range i).all (inD l f)=true/\q=(f,aG f,(i:Int),l,())) (λq=>l.length-q.2.2.1.toNat) ⟨0,by omega,rfl,rfl⟩ ?_
 rintro _ ⟨i,hi,hg,rfl⟩
 dsimp only
 refine T.cnd (λhc1=>?_) (λhc1=>?_)<;>simp only[bD,bg]at hc1
 .have hlt:i<l.length:=by omega
  refine T.grd (by rw[bE];omega) (T.grd (by rw[bE];omega) ?_)
  rw[wL l i _ hlt]
  refine T.dz (YO (v3 _ (aV hlt)).2) ?_
  have ed:inD l f i=decide ((jP l[i]).1<=atI f (i:Int) 0/\atI f (i:Int) 0<=(jP l[i]).2):=by unfold inD;rw[getD_eq l i _ hlt,dW]
  dsimp only
  refine T.cnd (λhc2=>T.out ?_) (λhc2=>T.go ⟨i+1,by omega,?_,?_⟩ ?_)<;>simp only[eX,fq,bD,bg]at hc2
  .rw[JG l.length i _ hlt (by rw[ed,gG];omega)]
  .rw[ni,tJ,hg]
   have:inD l f i=true:=by rw[ed,dI];omega
   simp[this]
  .rw[bB (by omega) (by omega)];rfl
  .dsimp only;rw[bB (by omega) (by omega)];omega
 .obtain rfl:i=l.length:=by omega
  exact T.out (by rw[hg])
theorem a0n(s:DS5)(f:List Int)(hf:f.length<=9223372036854775807):m36 s f=some (qJ s.1 f,()):=by
 obtain⟨l,⟨⟩⟩:=s
 refine T.eq ?_
 unfold m36 qJ
 have hL:=aY l
 have hLf:=aY f
 refine T.dz (PU _) ?_
 dsimp only
 refine T.cnd (λhc=>T.ret ?_) (λhc=>?_)<;>simp only[eX,fq,gJ,gX]at hc
 .congr 1;symm
  rcases hc with q|q
  .rw[iK q];rfl
  .rw[iK (show ¬f.length=l.length by omega),Bool.and_false];rfl
 have h0:jM l=0:=hc.1
 have hfl:f.length=l.length:=by omega
 obtain⟨v1,v2,v3⟩:=val_ok h0
 rw[fH h0,fH hfl,j3,sN]
 refine T.loop (λq=>∃i:Nat,i<=l.length/\(List.range i).all (inD l f)=true/\q=(f,(i:Int),l,())) (λq=>l.length-q.2.1.toNat) ⟨0,by omega,rfl,rfl⟩ ?_
 rintro _ ⟨i,hi,hg,rfl⟩
 dsimp only
 refine T.cnd (λhc1=>?_) (λhc1=>?_)<;>simp only[bD,bg]at hc1
 .have hlt:i<l.length:=by omega
  refine T.dz (GQ l i hlt h0) ?_
  have ed:inD l f i=decide ((jP l[i]).1<=atI f (i:Int) 0/\atI f (i:Int) 0<=(jP l[i]).2):=by unfold inD;rw[getD_eq l i _ hlt,dW]
  have hb:bnd (i:Int) (aG f)=true:=by rw[bE];omega
  dsimp only
  refine T.grd hb (T.grd (by rw[hb];rfl) ?_)
  refine T.cnd (λhc2=>T.out ?_) (λhc2=>T.go ⟨i+1,by omega,?_,?_⟩ ?_)<;>simp only[eX,fq,bD,bg]at hc2
  .rw[JG l.length i _ hlt (by rw[ed,gG];omega)]
  .rw[ni,tJ,hg]
   have:inD l f i=true:=by rw[ed,dI];omega
   simp[this]
  .rw[bB (by omega) (by omega)];rfl
  .dsimp only;rw[bB (by omega) (by omega)];omega
 .obtain rfl:i=l.length:=by omega
  exact T.out (by rw[hg])
theorem J2{l:List DS0}(hv:jM l=0)(f:List Int):qJ l f=true↔FOk (doms l) f:=by
 unfold qJ FOk
 rw[ru,fH hv,sN,ay,dI,aR]
 have key:∀i,i<l.length->(inD l f i=true↔((doms l).getD i zS).1<=f.getD i 0/\f.getD i 0<=((doms l).getD i zS).2.1):=λi hi=>by
  unfold inD
  rw[xO l i hi,getD_eq l i _ hi,dI]
 exact⟨λh=>⟨h.1,λi hi=>(key i hi).1 (h.2 i (bK.2 hi))⟩,λh=>⟨h.1,λi hi=>(key i (bK.1 hi)).2 (h.2 i (bK.1 hi))⟩⟩
section
variable{dm:List DS3}{ns:List DS1}
theorem a5K(hd:iJ dm)(hs:iU dm ns){fs:List Int}(hf:fs.length=dm.length):∀(n:Nat) (r:Int),jE ns.length r->rkI (rkA ns) r<=n->sV ns fs n r:=by
 intro n
 induction n with
 |zero =>
  intro r h1 h2
  exact⟨h1.1,by unfold rkI at h2;split at h2;assumption;omega⟩
 |succ n ih =>
  intro r h1 h2
  refine⟨h1.1,λh0=>?_⟩
  have hi:r.toNat<ns.length:=by have:=h1.2;omega
  have hS:=hs r.toNat hi
  obtain⟨s1,s2,s3,s4,s5,s6⟩:=hS
  have hl:=(hs r.toNat hi).len hd
  have hkl:=wG hs hi (fs.getD (ns.getD r.toNat zN).1.toNat 0)
  unfold rkI at h2
  rw[au (by omega)]at h2
  refine⟨h1.2,⟨s1,by rw[hf];exact s2,sP (hs r.toNat hi),by omega,s4⟩,ih _ (ny hs hi hkl) (by have:=BO hd hs hi hkl;unfold nextR;omega)⟩
theorem a5J{fs:List Int}:∀(n m:Nat) (r:Int),sV ns fs n r->sV ns fs m r->vlF ns n r fs=vlF ns m r fs:=by
 intro n
 induction n with
 |zero=>intro m r h1 h2;rw[zL h1.2,zL h1.2]
 |succ n ih =>
  intro m r h1 h2
  rcases fu r 0 with q|q
  .rw[zL q,zL q]
  .obtain⟨k,rfl,_,_,h3⟩:=h2.step q
   rw[F4 q,F4 q]
   exact ih k _ (h1.2 q).2.2 h3
end
theorem Qg(l:List DS0)(hv:jM l=0)(ns:List DS1)(root:Int)(f:List Int)(hz:SzN ns)(hf:f.length<=9223372036854775807):T (m35 (l,()) (ns,root,()) f) (λy=>(¬VD (doms l) ns root->y=(0,21,()))/\(VD (doms l) ns root->(qJ l f=false->y=(0,16,()))/\(qJ l f=true->y=(vlF ns 9 root f,0,())))):=by
 unfold m35 Gq
 refine T.dz (Eb _) ?_
 rw[hv]
 show T ((m31 (l,()) (ns,root,())).bind _) _
 refine T.call (DN l ns root hz) ?_
 rintro⟨b,⟨⟩⟩ hb
 dsimp only at hb ⊢
 cases b with
 |false =>
  have hn:¬VD (doms l) ns root:=λq=>by have:=hb.2 ⟨hv,q⟩;cases this
  exact T.ret ⟨λ_=>rfl,λq=>absurd q hn⟩
 |true =>
  have hV:=(hb.1 rfl).2
  show T ((m69 (l,()) f).bind _) _
  refine T.dz (a0o _ _ hf) ?_
  dsimp only
  cases q:qJ l f with
  |false=>exact T.ret ⟨λz=>absurd hV z,λ_=>⟨λ_=>rfl,λz=>by cases z⟩⟩
  |true =>
   have hF:=(J2 hv f).1 q
   have hP:=a5K (rR hv) hV.FN hF.1 9 root hV.2.1 (dh (Cn (rR hv) hV.FN hV.2.1.2) (by omega))
   have h:∃n,sV ns f n root:=⟨9,hP⟩
   rw[au (by simp),zH h]
   refine T.ret (show _/\(_->(_->_)/\(_->_)) from⟨λz=>absurd hV z,λ_=>⟨λz=>(by cases z),λ_=>?_⟩⟩)
   rw[a5J _ 9 root (rU h) hP]
theorem a1w(k:Int)(L1 L2:List Int)(op:Int)(x:DS2)(f:List Int)(hk:I64 k)(h1:oC L1 0)(h2:oC L2 0)(hop:I64 op)(hx:SzN x.1)(hf:f.length<=9223372036854775807):m10 k L1 L2 op x f=some (true,()):=by
 obtain⟨xn,xr,⟨⟩⟩:=x
 dsimp only at hx
 refine T.eq ?_
 unfold m10
 refine T.cnd (λ_=>IG rfl) (λ_=>?_)
 obtain⟨j,hj,e⟩:=a5H k hk
 have hv:=a0L j hj
 refine T.dz e ?_
 dsimp only
 generalize sch j=l at hv
 have hd:=rR hv
 refine T.dz (show m19 L1=some (L1,0,()) from rfl) (T.call (TF l hv 4 (by omega) (by omega) h1) ?_)
 rintro⟨na,ra,K,a,⟨⟩⟩ ⟨hA,_,_,hK⟩
 dsimp only at hA hK ⊢
 refine T.call (TF l hv 4 (by omega) (by omega) hK) ?_
 rintro⟨nb,rb,K',a',⟨⟩⟩ ⟨hB,_,_,_⟩
 dsimp only at hB ⊢
 refine T.call (KG op 4 hop (by omega) (by omega)) ?_
 rintro⟨o,⟨⟩⟩ ⟨o1,o2⟩
 dsimp only at o1 o2 ⊢
 rw[bB (by omega) (by omega)]
 refine T.call (a4Y l hv hA hB (op:=1+o) (by omega)) ?_
 rintro⟨⟨nc,rc,⟨⟩⟩,ec,⟨⟩⟩ hC
 refine T.dz (show m19 L2=some (L2,0,()) from rfl) (T.call (OG l hv h2) ?_)
 rintro⟨K2,a2,y,⟨⟩⟩ ⟨_,hy⟩
 dsimp only at hy hC ⊢
 have hF:=(J2 hv y).1 hy
 have hl:=hF.1
 have hl6:=hd.2.1
 have ok:∀{n:List DS1} {r:Int},VD (doms l) n r->m35 (l,()) (n,r,()) y=some (vlF n 9 r y,0,()):=fun{n r} h=>by
  obtain⟨v,e1,_,e2⟩:=Qg l hv n r y (h.sz hd).2 (by omega)
  rw[e1,(e2 h).2 hy]
 refine T.dz (ok hA) (T.dz (ok hB) ?_)
 have zx:SzN nc:=by
  rcases hC with⟨w,_⟩|⟨n,r,w,V,_⟩<;>cases w
  .exact a0r
  .exact(V.sz hd).2
 refine T.call (Qg l hv nc rc y zx (by omega)) ?_
 rintro⟨vc,gc,⟨⟩⟩ hR
 dsimp only at hR ⊢
 rcases hC with⟨w,_⟩|⟨n,r,w,V,F⟩<;>cases w
 .exact T.ct (by rfl) (T.ct (by rfl) (IG rfl))
 cases(hR.2 V).2 hy
 refine T.cf (by rfl) (T.call (Qg l hv xn xr f hx hf) ?_)
 rintro⟨vx,gx,⟨⟩⟩ hX
 dsimp only at hX ⊢
 refine T.join (λs=>s=(1+o,vlF na 9 ra y,0,vlF nb 9 rb y,0,vlF nc 9 rc y,0,gx,gx,na,ra,y,())) (T.call (a4T l xn xr hx) λb hb=>?_) ?_
 .refine T.cnd (λhc=>?_) (λhc=>?_)
  .rw[dO]at hc
   have hn:¬VD (doms l) xn xr:=λq=>by rw[hb.2 ⟨hv,q⟩]at hc;cases hc
   cases hX.1 hn
   exact T.jgo rfl
  .rw[gW]at hc
   have hV:=(hb.1 hc).2
   refine T.dz (a0n _ f hf) ?_
   dsimp only
   refine T.cnd (λhc=>?_) (λhc=>?_)
   .rw[dO]at hc
    cases(hX.2 hV).1 hc
    exact T.jgo rfl
   .rw[gW]at hc
    cases(hX.2 hV).2 hc
    exact T.jgo rfl
 .rintro _ rfl
  dsimp only
  refine T.ct (by rfl) (T.dz (a5B hd hA.FN ra hA.2.1 hA.1 y hF.1) (T.ct (by rw[dF]) (T.dz (a9z _ _ _) (T.ct ?_ (IG rfl)))))
  rw[dN,dF,dF]
  exact⟨F y hF,rfl⟩
end
end Abs
end Go.Proofs.YtgfnhpadmifiiaaDoor
